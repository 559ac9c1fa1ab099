/- The contract of Undo ahead of its loop. -/
import Derived.Test.YtlaaajkehjoffaaDoorUndo
import Derived.Test.YtlaaajkehjoffaaDoorBaseC
namespace Go.Proofs.YtlaaajkehjoffaaDoor
open Go.RowKit Go.Shelf
set_option maxRecDepth 100000

theorem Undo_bad1 (s : Sec) (A : Option Addr) (m c : Nat) (w : World) (ht : (s.err != 0) = true) :
    Calls Tryd.prog 42 #[.agg #[.int .i64 s.b0, .int .i64 s.b1, .int .i64 s.b2, .int .i64 s.a1, .int .i64 s.a2, .int .i64 s.sh], .slice A m c] w fun e w' => e = .returned (.tuple #[.slice none 0 0, .int .i64 s.err]) ∧ Below w.heap.size w w' := by
  go_enter Tryd.func42, Tryd.ntmps42
  go_wp2_with fail
  obtain ⟨w1, e1, hb1, hz1, k0⟩ := box1 w #[.int .i64 s.b0, .int .i64 s.b1, .int .i64 s.b2, .int .i64 s.a1, .int .i64 s.a2, .int .i64 s.sh] 32
  rw [← e1]; clear e1
  refine (checkSection_any s _).mono ?_
  rintro e w2 ⟨rfl, hb2⟩
  have hb3 := below_step hb1 hb2 hb1.size
  clear k0 hb1
  go_wp2
  go_ret2
  exact ⟨rfl, hb3⟩


set_option maxHeartbeats 2000000 in
theorem Undo_bad2_keep (s : Sec) (A : Option Addr) (m c : Nat) (xs : List Int) (w : World) (hs0 : s.err = 0) (hkb : s.keepB = true) (he : (undoErr s xs != 0) = true) (hm : m ≤ 1000000000000) (hR : Reads w w.heap.size 1 A m (ints xs)) :
    Calls Tryd.prog 42 #[.agg #[.int .i64 s.b0, .int .i64 s.b1, .int .i64 s.b2, .int .i64 s.a1, .int .i64 s.a2, .int .i64 s.sh], .slice A m c] w fun e w' => e = .returned (.tuple #[.slice none 0 0, .int .i64 (undoErr s xs)]) ∧ Below w.heap.size w w' := by
  have hs := Sec.err_ok hs0
  have ht : (s.err != 0) = false := by rw [hs0]; rfl
  have hne := neqK s _ hkb
  have ht3 : fnz [if true = true then 0 else 25, sigErr xs] = undoErr s xs := by unfold undoErr; rw [hs0, hkb]; simp [fnz]
  have ht2 : (fnz [if true = true then 0 else 25, sigErr xs] != 0) = true := by rw [ht3]; exact he
  have H3 := hide ht3; clear ht3
  simp only [Bool.not_true, if_true] at hne ht2 H3
  clear he hs0 hkb
  go_enter Tryd.func42, Tryd.ntmps42
  go_wp2_with fail
  obtain ⟨w1, e1, hb1, hz1, k0⟩ := box1 w #[.int .i64 s.b0, .int .i64 s.b1, .int .i64 s.b2, .int .i64 s.a1, .int .i64 s.a2, .int .i64 s.sh] 32
  rw [← e1]; clear e1
  refine (checkSection_any s _).mono ?_
  rintro e w2 ⟨rfl, hb2⟩
  have hb3 := below_step hb1 hb2 hb1.size
  have k0' := k0.below hb2 (by omega)
  have c0 := k0'.cell
  have l0 := k0'.lt
  clear k0 hb1
  go_wp2_with fail
  obtain ⟨w3, e3, hb4, hz4, k3⟩ := box1 w2 #[.int .i64 s.b0, .int .i64 s.b1, .int .i64 s.b2, .int .i64 s.a1, .int .i64 s.a2, .int .i64 s.sh] 32
  rw [← e3]; clear e3
  refine (unit_any s _ hs).mono ?_
  rintro e w4 ⟨rfl, hb5⟩
  have hb6 := below_step (below_step hb3 hb4 hb3.size) hb5 (Nat.le_trans hb3.size hb4.size)
  have k0w := (k0'.below hb4 k0'.lt).below hb5 (by omega)
  have k3w := k3.below hb5 (by omega)
  have c3 := k3w.cell
  have f3 := k3w.frozen
  clear c0 k0' k3
  go_wp2_with fail
  refine fin034 k3w (fun w5 hb7 k5 => ?_)
  clear c3 f3
  have hb8 : Below w.heap.size w w5 := below_step hb6 hb7 hb3.size
  have k0x := k0w.below hb7 l0
  have c0 : ∀ i W, Below w5.heap.size w5 W → W.cell? ⟨w.heap.size, i, none⟩ = (#[.int .i64 s.b0, .int .i64 s.b1, .int .i64 s.b2, .int .i64 s.a1, .int .i64 s.a2, .int .i64 s.sh] : Array Value)[i]? := fun i W h => (k0x.below h k0x.lt).cell i
  have c1 : ∀ i W, Below w5.heap.size w5 W → W.cell? ⟨w2.heap.size, i, none⟩ = (#[.int .i64 s.unit, .int .i64 s.b1, .int .i64 s.b2, .int .i64 0, .int .i64 0, .int .i64 s.sh] : Array Value)[i]? := fun i W h => (k5.below h k5.lt).cell i
  have r0 : ∀ W, Below w5.heap.size w5 W → Reads W W.heap.size 1 A m (ints xs) := fun W h => ((hR.below hb8).below (h.mono hb8.size)).more (Nat.le_trans hb8.size h.size)
  have R0 := hide r0; clear r0
  go_region_held3 (fun W => Below w5.heap.size w5 W) (first | exact (Below.refl _ _).drew | (with_reducible assumption) | exact below_new ‹Below w5.heap.size w5 _› (Nat.le_refl _) _ | (refine below_set (below_set (below_set (below_set (by assumption) (by omega) _) (by omega) _) (by omega) _) (by omega) _)) (first | (go_at_call 79; refine (numbers6 _ _ _ _ _ _ _).mono ?_; rintro e W' ⟨rfl, hbW⟩; have hS := below_step ‹Below w5.heap.size w5 _› hbW (Below.size ‹Below w5.heap.size w5 _›)) | (go_at_call 84; refine (when_any _ _ _).mono ?_; rintro e W' ⟨rfl, rfl⟩) | (go_at_call 65; refine (checkSignal_any _ _ _ _ _ (R0.out _ ‹Below w5.heap.size w5 _›) hm).mono ?_; rintro e W' ⟨rfl, hbW⟩; have hS := below_step ‹Below w5.heap.size w5 _› hbW (Below.size ‹Below w5.heap.size w5 _›)) | (go_at_call 64; (first | (with_reducible (refine (first_any _ _ _ _ _ _ (reads2 _ _ _ _) (by omega)).mono ?_)) | (with_reducible (refine (first_any _ _ _ _ _ _ (Reads.drew (reads2 _ _ _ _)) (by omega)).mono ?_))); rintro e W' ⟨rfl, rfl⟩))
  have hB : Below w5.heap.size w5 _ := ‹Below w5.heap.size w5 _›
  generalize World.alloc _ _ = w6 at hB ⊢
  have hb9 : Below w.heap.size w w6 := below_step hb8 hB hb8.size
  clear c0 c1 k0x k5 hne R0 hR
  go_wp2
  go_ret2
  exact ⟨by simp [H3.out], hb9⟩
set_option maxHeartbeats 2000000 in
theorem Undo_bad2_lose (s : Sec) (A : Option Addr) (m c : Nat) (xs : List Int) (w : World) (hs0 : s.err = 0) (hkb : s.keepB = false) (he : (undoErr s xs != 0) = true) (hm : m ≤ 1000000000000) (hR : Reads w w.heap.size 1 A m (ints xs)) :
    Calls Tryd.prog 42 #[.agg #[.int .i64 s.b0, .int .i64 s.b1, .int .i64 s.b2, .int .i64 s.a1, .int .i64 s.a2, .int .i64 s.sh], .slice A m c] w fun e w' => e = .returned (.tuple #[.slice none 0 0, .int .i64 (undoErr s xs)]) ∧ Below w.heap.size w w' := by
  have hs := Sec.err_ok hs0
  have ht : (s.err != 0) = false := by rw [hs0]; rfl
  have hne := neqK s _ hkb
  have ht3 : fnz [if false = true then 0 else 25, sigErr xs] = undoErr s xs := by unfold undoErr; rw [hs0, hkb]; simp [fnz]
  have ht2 : (fnz [if false = true then 0 else 25, sigErr xs] != 0) = true := by rw [ht3]; exact he
  have H3 := hide ht3; clear ht3
  simp only [Bool.not_false, Bool.false_eq_true, if_false] at hne ht2 H3
  clear he hs0 hkb
  go_enter Tryd.func42, Tryd.ntmps42
  go_wp2_with fail
  obtain ⟨w1, e1, hb1, hz1, k0⟩ := box1 w #[.int .i64 s.b0, .int .i64 s.b1, .int .i64 s.b2, .int .i64 s.a1, .int .i64 s.a2, .int .i64 s.sh] 32
  rw [← e1]; clear e1
  refine (checkSection_any s _).mono ?_
  rintro e w2 ⟨rfl, hb2⟩
  have hb3 := below_step hb1 hb2 hb1.size
  have k0' := k0.below hb2 (by omega)
  have c0 := k0'.cell
  have l0 := k0'.lt
  clear k0 hb1
  go_wp2_with fail
  obtain ⟨w3, e3, hb4, hz4, k3⟩ := box1 w2 #[.int .i64 s.b0, .int .i64 s.b1, .int .i64 s.b2, .int .i64 s.a1, .int .i64 s.a2, .int .i64 s.sh] 32
  rw [← e3]; clear e3
  refine (unit_any s _ hs).mono ?_
  rintro e w4 ⟨rfl, hb5⟩
  have hb6 := below_step (below_step hb3 hb4 hb3.size) hb5 (Nat.le_trans hb3.size hb4.size)
  have k0w := (k0'.below hb4 k0'.lt).below hb5 (by omega)
  have k3w := k3.below hb5 (by omega)
  have c3 := k3w.cell
  have f3 := k3w.frozen
  clear c0 k0' k3
  go_wp2_with fail
  refine fin034 k3w (fun w5 hb7 k5 => ?_)
  clear c3 f3
  have hb8 : Below w.heap.size w w5 := below_step hb6 hb7 hb3.size
  have k0x := k0w.below hb7 l0
  have c0 : ∀ i W, Below w5.heap.size w5 W → W.cell? ⟨w.heap.size, i, none⟩ = (#[.int .i64 s.b0, .int .i64 s.b1, .int .i64 s.b2, .int .i64 s.a1, .int .i64 s.a2, .int .i64 s.sh] : Array Value)[i]? := fun i W h => (k0x.below h k0x.lt).cell i
  have c1 : ∀ i W, Below w5.heap.size w5 W → W.cell? ⟨w2.heap.size, i, none⟩ = (#[.int .i64 s.unit, .int .i64 s.b1, .int .i64 s.b2, .int .i64 0, .int .i64 0, .int .i64 s.sh] : Array Value)[i]? := fun i W h => (k5.below h k5.lt).cell i
  have r0 : ∀ W, Below w5.heap.size w5 W → Reads W W.heap.size 1 A m (ints xs) := fun W h => ((hR.below hb8).below (h.mono hb8.size)).more (Nat.le_trans hb8.size h.size)
  have R0 := hide r0; clear r0
  go_region_held3 (fun W => Below w5.heap.size w5 W) (first | exact (Below.refl _ _).drew | (with_reducible assumption) | exact below_new ‹Below w5.heap.size w5 _› (Nat.le_refl _) _ | (refine below_set (below_set (below_set (below_set (by assumption) (by omega) _) (by omega) _) (by omega) _) (by omega) _)) (first | (go_at_call 79; refine (numbers6 _ _ _ _ _ _ _).mono ?_; rintro e W' ⟨rfl, hbW⟩; have hS := below_step ‹Below w5.heap.size w5 _› hbW (Below.size ‹Below w5.heap.size w5 _›)) | (go_at_call 84; refine (when_any _ _ _).mono ?_; rintro e W' ⟨rfl, rfl⟩) | (go_at_call 65; refine (checkSignal_any _ _ _ _ _ (R0.out _ ‹Below w5.heap.size w5 _›) hm).mono ?_; rintro e W' ⟨rfl, hbW⟩; have hS := below_step ‹Below w5.heap.size w5 _› hbW (Below.size ‹Below w5.heap.size w5 _›)) | (go_at_call 64; (first | (with_reducible (refine (first_any _ _ _ _ _ _ (reads2 _ _ _ _) (by omega)).mono ?_)) | (with_reducible (refine (first_any _ _ _ _ _ _ (Reads.drew (reads2 _ _ _ _)) (by omega)).mono ?_))); rintro e W' ⟨rfl, rfl⟩))
  have hB : Below w5.heap.size w5 _ := ‹Below w5.heap.size w5 _›
  generalize World.alloc _ _ = w6 at hB ⊢
  have hb9 : Below w.heap.size w w6 := below_step hb8 hB hb8.size
  clear c0 c1 k0x k5 hne R0 hR
  go_wp2
  go_ret2
  exact ⟨by simp [H3.out], hb9⟩

end Go.Proofs.YtlaaajkehjoffaaDoor
