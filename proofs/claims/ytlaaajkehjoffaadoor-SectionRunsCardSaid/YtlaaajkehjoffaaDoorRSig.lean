/- The reference's CheckSignal. -/
import Derived.Test.YtlaaajkehjoffaaDoorSame
namespace Go.Proofs.YtlaaajkehjoffaaDoor
open Go.RowKit Go.Shelf
set_option maxRecDepth 100000

/-- What came ahead of place k is a value. -/
def valsOk (xs : List Int) (k : Nat) : Prop := ∀ y ∈ xs.take k, vErr y = 0
theorem valsOk_succ {xs : List Int} {k : Nat} {x : Int} (h : valsOk xs k) (hk : xs[k]? = some x) (hx : (vErr x != 0) = false) : valsOk xs (k + 1) := by
  intro y hy
  rw [List.take_add_one, hk] at hy
  simp only [Option.toList_some, List.mem_append, List.mem_singleton] at hy
  rcases hy with hy | rfl
  · exact h y hy
  · simpa using hx
theorem vals_bad {xs : List Int} {k : Nat} {x : Int} (hl : xs.length ≤ 4096) (hk : xs[k]? = some x) (hx : (vErr x != 0) = true) : vErr x = sigErr xs := by
  have h3 : vErr x = 3 := by rcases vErr_two x with h | h <;> simp_all
  have hb := vErr_three h3
  have : xs.all vB = false := by
    rw [List.all_eq_false]
    exact ⟨x, List.mem_of_getElem? hk, by simp [vB, hb]⟩
  rw [h3]; unfold sigErr; rw [if_neg (by omega), this]; rfl
theorem vals_end {xs : List Int} {k : Nat} (hl : xs.length ≤ 4096) (hk : xs.length ≤ k) (h : valsOk xs k) : sigErr xs = 0 := by
  refine sigErr_of hl fun x hx => ?_
  have := vErr_zero (h x (by rw [List.take_of_length_le hk]; exact hx))
  exact inB_iff.1 this

theorem rCheckSignal_any (A : Option Addr) (n c B : Nat) (xs : List Int) (w : World) (h : Reads w B 1 A n (ints xs)) (hn : n ≤ 1000000000000) :
    Calls Tryd.prog 22 #[.slice A n c] w fun r w' => r = .returned (.int .i64 (sigErr xs)) ∧ w = w' := by
  have hl := reads_len h
  by_cases hm : n ≤ 4096
  · have HL := hide hl; clear hl
    go_enter Tryd.func22, Tryd.ntmps22
    go_wp2
    go_loop [3] (fun i => ∃ k : Nat, k ≤ n ∧ i = .int .i64 k ∧ valsOk xs k) (fun i => n - (intOf i).toNat)
    case atStart => exact ⟨0, by omega, rfl, by intro y hy; simp at hy⟩
    case round =>
      obtain ⟨k, hk, rfl, hz⟩ := hrel
      by_cases hlt : k < n
      · obtain ⟨ad, x, rfl, _, hx, hc⟩ := reads_at h hlt
        have HX := hide hx; clear hx
        go_wp2_with (go_at_call 49; refine (checkInput_any _ _).mono ?_; rintro e w' ⟨rfl, rfl⟩)
        · go_ret
          exact ⟨by simp; exact vals_bad (by have := HL.out; omega) HX.out ‹_›, rfl⟩
        · go_round
          case rel => exact ⟨k + 1, by omega, by go_num, valsOk_succ hz HX.out ‹_›⟩
          case measure => simp [intOf]; omega
      · go_wp2
        go_ret
        exact ⟨by simp; exact (vals_end (by have := HL.out; omega) (by rw [HL.out]; omega) hz).symm, rfl⟩
  · have he : sigErr xs = 5 := by unfold sigErr; rw [if_pos (by omega)]
    have HE := hide he; clear he hl
    go_enter Tryd.func22, Tryd.ntmps22
    go_wp2
    go_ret
    exact ⟨by simp [HE.out], rfl⟩
end Go.Proofs.YtlaaajkehjoffaaDoor
