/- Lossless, of the program. -/
import Derived.Test.YtnndaipnfniciaaGreatDoorBaseO
namespace Go.Proofs.YtnndaipnfniciaaGreatDoor
open Go.RowKit Go.Shelf
set_option maxRecDepth 100000

/-- No element has a resistance. -/
def lossB (l : List El) : Bool := l.all fun x => decide (x.a = 0)
theorem lossB_iff {l : List El} : lossB l = true ↔ ∀ x ∈ l, x.a = 0 := by simp [lossB]
theorem loss1_any (x : El) (w : World) :
    Calls Tryz.prog 124 #[.agg #[.string x.kind, .int .i64 x.a, .int .i64 x.b]] w fun e w' => e = .returned (.bool (x.a != 0)) ∧ Below w.heap.size w w' := by
  go_enter Tryz.func124, Tryz.ntmps124
  go_wp2
  go_ret
  exact ⟨rfl, (by repeat (first | exact Below.refl _ _ | exact Below.refl _ _ | refine Below.drew ?_ | refine below_drewN ?_ _ | refine below_set ?_ (by omega) _ | refine below_new ?_ (by omega) _))⟩
set_option maxHeartbeats 1000000 in
theorem indexFunc_any (A : Option Addr) (n c : Nat) (l : List El) (w : World) (h : Reads w w.heap.size 3 A n (els l)) (hn : n ≤ 1000000000000) :
    Calls Tryz.prog 153 #[.slice A n c, .func (.func 124) #[] #[]] w fun e w' => ∃ r : Int, e = .returned (.int .i64 r) ∧ decide (0 ≤ r) = !lossB l ∧ Below w.heap.size w w' := by
  have HL := hide (els_reads_len h)
  go_enter Tryz.func153, Tryz.ntmps153
  go_wp2_with fail
  go_loopw [8] (fun i wr => ∃ k : Nat, k ≤ n ∧ i = .int .i64 k ∧ (∀ x ∈ l.take k, x.a = 0) ∧ Below w.heap.size w wr) (fun i _ => n - (intOf i).toNat)
  case atStart => exact ⟨0, by omega, rfl, by simp, Below.refl _ _⟩
  case round =>
    obtain ⟨k, hk, rfl, hz, hb⟩ := hrel
    have HZ := hide hz; clear hz
    by_cases hlt : k < n
    · obtain ⟨ad, x, rfl, hadb, hxk, hcx⟩ := els_hit (h.below hb) hlt hb.size
      obtain ⟨q0, q1, q2⟩ := hcx wr (Below.refl _ _)
      have HX := hide hxk
      clear hxk hcx
      go_wp2_with fail
      refine (loss1_any x _).mono ?_
      rintro e w2 ⟨rfl, hb2⟩
      have hbw2 := below_next hb hb2
      clear q0 q1 q2
      by_cases h0 : x.a = 0
      · have t0 : (x.a != 0) = false := by simpa using h0
        have H0 := hide h0; clear h0
        go_wp2_with fail
        go_roundw
        case rel =>
          refine ⟨k + 1, by omega, by go_num, fun y hy => ?_, hbw2⟩
          rw [List.take_add_one, HX.out] at hy
          simp at hy
          rcases hy with hy | rfl
          · exact HZ.out y hy
          · exact H0.out
        case measure => simp [intOf]; omega
      · have t0 : (x.a != 0) = true := by simpa using h0
        have hl : lossB l = false := Bool.eq_false_iff.2 fun e => h0 (lossB_iff.1 e x (List.mem_of_getElem? HX.out))
        have HLB := hide hl
        clear h0 hl
        go_wp2_with fail
        go_ret
        exact ⟨(k : Int), rfl, by rw [HLB.out]; simp, hbw2⟩
    · have hl : lossB l = true := lossB_iff.2 (by
        have := HZ.out
        rwa [List.take_of_length_le (by rw [HL.out]; omega)] at this)
      have HLB := hide hl
      clear hl
      go_wp2_with fail
      go_ret
      exact ⟨-1, rfl, by rw [HLB.out]; rfl, hb⟩
theorem containsFunc_any (A : Option Addr) (n c : Nat) (l : List El) (w : World) (h : Reads w w.heap.size 3 A n (els l)) (hn : n ≤ 1000000000000) :
    Calls Tryz.prog 123 #[.slice A n c, .func (.func 124) #[] #[]] w fun e w' => e = .returned (.bool (!lossB l)) ∧ Below w.heap.size w w' := by
  go_enter Tryz.func123, Tryz.ntmps123
  go_wp2_with fail
  refine (indexFunc_any A n c l _ h hn).mono ?_
  rintro e w2 ⟨r, rfl, hr, hb⟩
  have HR := hide hr
  clear hr
  go_wp2_with fail
  all_goals (go_ret; exact ⟨by rw [← HR.out]; simp [*], hb⟩)
set_option maxHeartbeats 1000000 in
theorem Lossless_ok (A : Option Addr) (n c : Nat) (l : List El) (w : World) (h0 : ladErr l = 0) (h : Reads w w.heap.size 3 A n (els l)) (hn : n ≤ 1000000000000) :
    Calls Tryz.prog 52 #[.slice A n c] w fun e w' => e = .returned (.tuple #[.bool (lossB l), .int .i64 0]) ∧ Below w.heap.size w w' := by
  go_enter Tryz.func52, Tryz.ntmps52
  go_wp2_with fail
  refine (checkLadder_any A n c l _ h hn).mono ?_
  rintro e w2 ⟨rfl, hb2⟩
  rw [h0]
  go_wp2_with fail
  refine (containsFunc_any A n c l _ (carry h hb2) hn).mono ?_
  rintro e w3 ⟨rfl, hb3⟩
  go_wp2_with fail
  refine bodyPost_ret (v := .tuple #[.bool (lossB l), .int .i64 0]) (by simp [results, Tryz.results52, go_sem]) rfl ?_
  exact ⟨rfl, below_next hb2 hb3⟩
end Go.Proofs.YtnndaipnfniciaaGreatDoor
