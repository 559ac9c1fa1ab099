/- The contract of Impulse. -/
import Derived.Test.YtpcmflfinlkeiaaGreatDoorBaseB
import Derived.Test.YtpcmflfinlkeiaaGreatDoorBaseC
import Derived.Deep.OwnRows
namespace Go.Proofs.YtpcmflfinlkeiaaGreatDoor
open Go.RowKit Go.Shelf
set_option maxRecDepth 100000

/-- The error of Impulse, and its signal. -/
def impErr (s : Sec) (a n : Int) : Int := fnz [s.err, vErr a, rng n 0 4096]
def pulse (a : Int) : Nat → List Int
  | 0 => []
  | n + 1 => a :: List.replicate n 0
theorem pulse_len (a : Int) (n : Nat) : (pulse a n).length = n := by cases n <;> simp [pulse]

theorem made_eq (n : Nat) : madeCells #[.int .i64 0] n = (ints (List.replicate n 0)).toArray := by
  apply Array.ext_getElem?
  intro i
  by_cases h : i < n <;> simp [madeCells, ints, h, Nat.mod_one]

theorem pulse_set {a : Int} {n : Nat} (h : 1 ≤ n) : (ints (List.replicate n 0)).toArray.setIfInBounds 0 (.int .i64 a) = (ints (pulse a n)).toArray := by
  cases n with
  | zero => omega
  | succ k => simp [ints, pulse, List.replicate_succ]
theorem rep0 {n : Nat} (h : 1 ≤ n) : (ints (List.replicate n 0)).toArray[0]? = some (.int .i64 0) := by
  cases n with
  | zero => omega
  | succ k => simp [ints, List.replicate_succ]
theorem pulse_bd {a : Int} (h : -32767 ≤ a ∧ a ≤ 32767) (n : Nat) : ∀ x ∈ pulse a n, -32767 ≤ x ∧ x ≤ 32767 := by
  cases n with
  | zero => simp [pulse]
  | succ k => intro x hx; simp [pulse] at hx; omega

theorem Impulse_bad (s : Sec) (a n : Int) (w : World) (he : (impErr s a n != 0) = true) :
    Calls Tryz.prog 25 #[.agg #[.int .i64 s.b0, .int .i64 s.b1, .int .i64 s.b2, .int .i64 s.a1, .int .i64 s.a2, .int .i64 s.sh], .int .i64 a, .int .i64 n] w fun e w' => e = .returned (.tuple #[.slice none 0 0, .int .i64 (impErr s a n)]) ∧ Below w.heap.size w w' := by
  have HE := hide he; clear he
  go_enter Tryz.func25, Tryz.ntmps25
  go_wp2_with fail
  obtain ⟨w1, e1, hb1, hz1, k0⟩ := box1 w #[.int .i64 s.b0, .int .i64 s.b1, .int .i64 s.b2, .int .i64 s.a1, .int .i64 s.a2, .int .i64 s.sh] 53
  rw [← e1]; clear e1
  refine (checkSection_any s _).mono ?_
  rintro e w2 ⟨rfl, hb2⟩
  have hb3 := below_step hb1 hb2 hb1.size
  have ht : (fnz [s.err, vErr a, rng n 0 4096] != 0) = true := HE.out
  clear k0 hb1
  go_wp2_with (first | (go_at_call 65; refine (within_any _ _ _ _).mono ?_; rintro e w' ⟨rfl, rfl⟩) | (go_at_call 64; refine (checkValue_any _ _).mono ?_; rintro e W' ⟨rfl, rfl⟩) | (go_at_call 38; (first | (with_reducible (refine (first_any _ _ _ _ _ _ (reads3 _ _ _ _ _) (by omega)).mono ?_)) | (with_reducible (refine (first_any _ _ _ _ _ _ (Reads.drew (reads3 _ _ _ _ _)) (by omega)).mono ?_))); rintro e W' ⟨rfl, rfl⟩))
  go_ret2
  exact ⟨rfl, (by repeat (first | exact hb3 | exact Below.refl _ _ | refine Below.drew ?_ | refine below_drewN ?_ _ | refine below_set ?_ (by omega) _ | refine below_new ?_ (by omega) _))⟩

set_option maxHeartbeats 1000000 in
theorem Impulse_ok (s : Sec) (a : Int) (n : Nat) (w : World) (he : impErr s a n = 0) :
    Calls Tryz.prog 25 #[.agg #[.int .i64 s.b0, .int .i64 s.b1, .int .i64 s.b2, .int .i64 s.a1, .int .i64 s.a2, .int .i64 s.sh], .int .i64 a, .int .i64 (n : Int)] w fun e w' => ∃ v, e = .returned (.tuple #[v, .int .i64 0]) ∧ w'.ownsRow w.heap.size 3 1 v n (ints (s.outs St.zero (pulse a n))) ∧ Below w.heap.size w w' := by
  obtain ⟨a1, a2, a3⟩ := fnz3_zero he
  have hs := Sec.err_ok a1
  have ha := inB_iff.1 (vErr_zero a2)
  have hn : n ≤ 4096 := by
    rw [rng_eq] at a3
    split at a3
    · have := inB_iff.1 (by assumption); omega
    · omega
  clear a1 a2 a3
  have HE := hide he; clear he
  have hn' : (0 : Int) ≤ (n : Int) := by omega
  have hcase : n = 0 ∨ n = 1 ∨ 2 ≤ n := by omega
  have hmk := run_make_row' (P := Tryz.prog) 23 3 (.int .i64 0) 8 Tryz.underlying23 info_int rfl .i64 .i64 n (by omega) (by omega)
  go_enter Tryz.func25, Tryz.ntmps25
  go_wp2_with fail
  obtain ⟨w1, e1, hb1, hz1, k0⟩ := box1 w #[.int .i64 s.b0, .int .i64 s.b1, .int .i64 s.b2, .int .i64 s.a1, .int .i64 s.a2, .int .i64 s.sh] 53
  rw [← e1]; clear e1
  refine (checkSection_any s _).mono ?_
  rintro e w2 ⟨rfl, hb2⟩
  have hb3 := below_step hb1 hb2 hb1.size
  have ht : (fnz [s.err, vErr a, rng n 0 4096] != 0) = false := by rw [show fnz [s.err, vErr a, rng n 0 4096] = 0 from HE.out]; rfl
  have k0' := k0.below hb2 (by omega)
  clear k0 hb1
  go_wp2_with (first | (go_at_call 65; refine (within_any _ _ _ _).mono ?_; rintro e w' ⟨rfl, rfl⟩) | (go_at_call 64; refine (checkValue_any _ _).mono ?_; rintro e W' ⟨rfl, rfl⟩) | (go_at_call 38; (first | (with_reducible (refine (first_any _ _ _ _ _ _ (reads3 _ _ _ _ _) (by omega)).mono ?_)) | (with_reducible (refine (first_any _ _ _ _ _ _ (Reads.drew (reads3 _ _ _ _ _)) (by omega)).mono ?_))); rintro e W' ⟨rfl, rfl⟩))
  all_goals (
    obtain ⟨w4, e4, hb4, hz4, k4⟩ := box1 w2 #[.int .i64 s.err, .int .i64 (vErr a), .int .i64 (rng n 0 4096)] 25
    have hs4 : w4.heap.size = w2.heap.size + 1 := by rw [e4]; simp
    rw [← e4]; clear e4 k4
    have hb5 := below_step hb3 hb4 hb3.size
    have k0'' := k0'.below hb4 k0'.lt
    obtain ⟨w5, e5, hb6, hz5, k5⟩ := box1 w4 (madeCells #[.int .i64 0] n) 3
    rw [← e5]; clear e5
    rw [hs4] at k5
    clear hs4 hmk
    rw [made_eq] at k5
    have hb7 := below_step hb5 hb6 hb5.size
    have k0w := k0''.below hb6 k0''.lt
    have hz3 := hb3.size
    go_loopw [10, 31] (fun v i wr => Below w.heap.size w wr ∧ w2.heap.size + 2 ≤ wr.heap.size ∧ Blk wr w.heap.size 53 #[.int .i64 s.b0, .int .i64 s.b1, .int .i64 s.b2, .int .i64 s.a1, .int .i64 s.a2, .int .i64 s.sh] ∧ ((i = .int .i64 0 ∧ Blk wr (w2.heap.size + 1) 3 (ints (List.replicate n 0)).toArray) ∨ (i = .int .i64 1 ∧ 1 ≤ n ∧ Blk wr (w2.heap.size + 1) 3 (ints (pulse a n)).toArray))) (fun _ i _ => 1 - (intOf i).toNat))
  case atStart => exact ⟨hb7, by omega, k0w, .inl ⟨rfl, k5⟩⟩
  case atStart => exact ⟨hb7, by omega, k0w, .inl ⟨rfl, k5⟩⟩
  case round =>
    obtain ⟨hb, hz, hk, ⟨rfl, hG⟩ | ⟨rfl, h1n, hG⟩⟩ := hrel
    · have c0 : wr.cell? ⟨w2.heap.size + 1, 0, none⟩ = some (.int .i64 0) := (hG.cell 0).trans (rep0 (by omega))
      have f0 := hG.frozen 0
      have l0 := hG.lt
      go_wp2
      exact ⟨⟨below_set hb (by omega) _, by simp [World.setCell]; omega, hk.far (by simp; omega) _, .inr ⟨rfl, by omega, by have := hG.set_ 0 (.int .i64 a); rwa [pulse_set (by omega)] at this⟩⟩, by simp [intOf]⟩
    · have c0 := hk.cell
      have l0 := hG.lt
      have hr : Reads wr wr.heap.size 1 (some ⟨w2.heap.size + 1, 0, none⟩) n (ints (pulse a n)) := by
        have := reads_block (n := n) (xs := pulse a n) hG (by rw [pulse_len]; omega) hG.lt
        rwa [List.take_of_length_le (by rw [pulse_len]; omega)] at this
      go_wp2_with (go_at_call 66; refine (from_any s St.zero _ n _ (pulse a n) _ hs zero_ok (pulse_bd ha n) (by omega) hr).mono ?_; rintro e w6 ⟨v, rfl, ho, hb8⟩)
      go_ret2
      exact ⟨v, rfl, row_below (ho.weaken hb.size) ((Below.refl _ _).alloc (Nat.le_refl _) _), (below_step hb hb8 hb.size).alloc (Nat.le_trans hb.size hb8.size) _⟩
  case round =>
    obtain ⟨hb, hz, hk, ⟨rfl, hG⟩ | ⟨rfl, h1n, hG⟩⟩ := hrel
    · by_cases hn0 : n = 0
      · subst hn0
        have c0 := hk.cell
        have l0 := hG.lt
        have hr : Reads wr wr.heap.size 1 (some ⟨w2.heap.size + 1, 0, none⟩) 0 (ints (pulse a 0)) := ⟨by simp [ints, pulse], fun h => absurd h (by omega)⟩
        go_wp2_with (go_at_call 66; refine (from_any s St.zero _ 0 _ (pulse a 0) _ hs zero_ok (pulse_bd ha 0) (by omega) hr).mono ?_; rintro e w6 ⟨v, rfl, ho, hb8⟩)
        go_ret2
        exact ⟨v, rfl, row_below (ho.weaken hb.size) ((Below.refl _ _).alloc (Nat.le_refl _) _), (below_step hb hb8 hb.size).alloc (Nat.le_trans hb.size hb8.size) _⟩
      obtain rfl : n = 1 := by omega
      have c0 : wr.cell? ⟨w2.heap.size + 1, 0, none⟩ = some (.int .i64 0) := (hG.cell 0).trans (rep0 (by omega))
      have f0 := hG.frozen 0
      have l0 := hG.lt
      go_wp2
      exact ⟨⟨below_set hb (by omega) _, by simp [World.setCell]; omega, hk.far (by simp; omega) _, .inr ⟨rfl, by omega, by have := hG.set_ 0 (.int .i64 a); rwa [pulse_set (by omega)] at this⟩⟩, by simp [intOf]⟩
    · obtain rfl : n = 1 := by omega
      have c0 := hk.cell
      have l0 := hG.lt
      have hr : Reads wr wr.heap.size 1 (some ⟨w2.heap.size + 1, 0, none⟩) 1 (ints (pulse a 1)) := by
        have := reads_block (n := 1) (xs := pulse a 1) hG (by rw [pulse_len]; omega) hG.lt
        rwa [List.take_of_length_le (by rw [pulse_len]; omega)] at this
      go_wp2_with (go_at_call 66; refine (from_any s St.zero _ 1 _ (pulse a 1) _ hs zero_ok (pulse_bd ha 1) (by omega) hr).mono ?_; rintro e w6 ⟨v, rfl, ho, hb8⟩)
      go_ret2
      exact ⟨v, rfl, row_below (ho.weaken hb.size) ((Below.refl _ _).alloc (Nat.le_refl _) _), (below_step hb hb8 hb.size).alloc (Nat.le_trans hb.size hb8.size) _⟩
end Go.Proofs.YtpcmflfinlkeiaaGreatDoor
