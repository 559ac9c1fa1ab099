/- The fixed example of the laws on ladders and convolutions. -/
import Derived.Test.YthlnmoecmicofaaDoorNPol2
import Derived.Test.YthlnmoecmicofaaDoorNConv2
import Derived.Test.YthlnmoecmicofaaDoorNSpi
namespace Go.Proofs.YthlnmoecmicofaaDoor
open Go.RowKit Go.Shelf
set_option maxRecDepth 100000
theorem same_true (A : Option Addr) (n c : Nat) (xs : List Int) (A' : Option Addr) (m c' : Nat) (w : World) (h : Reads w w.heap.size 1 A n (ints xs)) (h' : Reads w w.heap.size 1 A' m (ints xs)) (hn : n ≤ 1000000000000) (hm : m ≤ 1000000000000) :
    Calls Tryd.prog 25 #[.slice A n c, .slice A' m c'] w fun r w' => r = .returned (.bool true) ∧ Below w.heap.size w w' :=
  (sameInts_any A n c _ xs A' m c' _ xs w h h' (Nat.le_refl _) (Nat.le_refl _) hn hm).mono fun _ _ h => by simpa using h
theorem els_newR (w : World) (l : List El) (t : TypeId) (n : Nat) (hn : n = l.length) : Reads (w.alloc (.cells (els l).toArray t)) (w.alloc (.cells (els l).toArray t)).heap.size 3 (some ⟨w.heap.size, 0, none⟩) n (els l) := by
  refine ⟨by rw [els_len]; omega, fun _ => ⟨_, rfl, by simp, fun j u hu => ?_⟩⟩
  have : (⟨w.heap.size, 0, none⟩ : Addr).add j = ⟨w.heap.size, j, none⟩ := by unfold Addr.add; split <;> simp_all
  rw [this]
  exact cells_new _ _ _ j u hu
def lTee : List El := [⟨kSeries, 0, 1⟩, ⟨kShunt, 0, 1⟩, ⟨kSeries, 0, 1⟩]
theorem tee_ok : ladErr lTee = 0 := by decide +kernel
theorem tee_a : (pch .id lTee).a = [1, 0, 1] := by decide +kernel
theorem tee_b : (pch .id lTee).b = [0, 2, 0, 1] := by decide +kernel
theorem tee_c : (pch .id lTee).c = [0, 1] := by decide +kernel
theorem tee_d : (pch .id lTee).d = [1, 0, 1] := by decide +kernel
theorem tee_v : pdv [1] lTee = [1] := by decide +kernel
theorem tee_cv : cvl [0, 1] [0, 1] = [0, 0, 1] := by decide +kernel
theorem tee_cvl : cvLen [0, 1] [0, 1] = 3 := by decide +kernel
theorem tee_pol (A : Option Addr) (c : Nat) (w : World) (hC : Con w) (hR : Reads w w.heap.size 3 A 3 (els lTee)) :
    Calls Tryd.prog 23 #[.slice A 3 c] w fun e w' => ∃ A0 c0 A1 c1 A2 c2 A3 c3 A4 c4, e = .returned (.tuple #[.agg #[.slice A0 3 c0, .slice A1 4 c1, .slice A2 2 c2, .slice A3 3 c3], .slice A4 1 c4, .int .i64 0]) ∧
      Reads w' w'.heap.size 1 A0 3 (ints [1, 0, 1]) ∧ Reads w' w'.heap.size 1 A1 4 (ints [0, 2, 0, 1]) ∧ Reads w' w'.heap.size 1 A2 2 (ints [0, 1]) ∧ Reads w' w'.heap.size 1 A3 3 (ints [1, 0, 1]) ∧ Reads w' w'.heap.size 1 A4 1 (ints [1]) ∧ Below w.heap.size w w' := by
  refine (Polynomials_ok A 3 c lTee w hC tee_ok hR (by omega)).mono fun e w' h => ?_
  obtain ⟨s0, s1, s2, s3, sd, rfl, ⟨ok, hv⟩, hd, hb⟩ := h
  obtain ⟨A0, c0, rfl, r0⟩ := hv.a.sl
  obtain ⟨A1, c1, rfl, r1⟩ := hv.b.sl
  obtain ⟨A2, c2, rfl, r2⟩ := hv.c.sl
  obtain ⟨A3, c3, rfl, r3⟩ := hv.d.sl
  obtain ⟨A4, c4, rfl, r4⟩ := hd
  clear hv
  rw [tee_a] at r0 ⊢
  rw [tee_b] at r1 ⊢
  rw [tee_c] at r2 ⊢
  rw [tee_d] at r3 ⊢
  rw [tee_v] at r4 ⊢
  exact ⟨A0, c0, A1, c1, A2, c2, A3, c3, A4, c4, rfl, r0, r1, r2, r3, r4, hb⟩
theorem tee_conv (A c A' c') (w : World) (h : Reads w w.heap.size 1 A 2 (ints [0, 1])) (h' : Reads w w.heap.size 1 A' 2 (ints [0, 1])) :
    Calls Tryd.prog 38 #[.slice A 2 c, .slice A' 2 c'] w fun e w' => ∃ A c, e = .returned (.tuple #[.slice A 3 c, .int .i64 0]) ∧ Reads w' w'.heap.size 1 A 3 (ints [0, 0, 1]) ∧ Below w.heap.size w w' := by
  have := Convolve_ok A 2 c [0, 1] A' 2 c' [0, 1] w h h' ⟨by decide +kernel, by decide +kernel, by decide +kernel, by decide +kernel, by decide +kernel⟩
  rw [tee_cv, tee_cvl] at this
  exact this
set_option maxHeartbeats 2000000 in
theorem tee_any (w : World) (hC : Con w) :
    Calls Tryd.prog 21 #[] w fun e w' => e = .returned (.bool true) ∧ Below w.heap.size w w' := by
  go_enter Tryd.func21, Tryd.ntmps21
  go_wp2_with fail
  obtain ⟨w1, e1, hb1, hz1, k1⟩ := box1 w #[.string { data := #[115, 101, 114, 105, 101, 115] }, .int .i64 0, .int .i64 1, .string { data := #[115, 104, 117, 110, 116] }, .int .i64 0, .int .i64 1, .string { data := #[115, 101, 114, 105, 101, 115] }, .int .i64 0, .int .i64 1] 62
  have hr1 : Reads w1 w1.heap.size 3 (some ⟨w.heap.size, 0, none⟩) 3 (els lTee) := by rw [e1]; exact els_newR w lTee 62 3 rfl
  rw [← e1]
  clear e1 k1
  refine (tee_pol _ _ _ (hC.carry hb1) hr1).mono ?_
  rintro e w2 ⟨A0, c0, A1, c1, A2, c2, A3, c3, A4, c4, rfl, r0, r1, r2, r3, r4, hb2⟩
  clear hr1
  go_upto_region 2 with (fail)
  obtain ⟨w3, e3, hb3, hz3, kM⟩ := box1 w2 #[.slice A0 3 c0, .slice A1 4 c1, .slice A2 2 c2, .slice A3 3 c3] 56
  rw [← e3]; clear e3
  go_wp2_with fail
  obtain ⟨w4, e4, hb4, hz4, q0, q1⟩ := box2 w3 #[.int .i64 0, .int .i64 1] #[.int .i64 0, .int .i64 1] 3 3
  rw [← e4]; clear e4
  refine (tee_conv _ _ _ _ _ (blkR (xs := [0, 1]) q0 rfl) (blkR (xs := [0, 1]) q1 rfl)).mono ?_
  rintro e w5 ⟨A5, c5, rfl, r5, hb5⟩
  have hb25 : Below w2.heap.size w2 w5 := (by repeat (first | with_reducible assumption | exact Below.refl _ _ | refine below_next (by with_reducible assumption) ?_))
  have cM := (carryK (w' := w5) kM (by repeat (first | with_reducible assumption | exact Below.refl _ _ | refine below_next (by with_reducible assumption) ?_))).cell
  go_wp2_with fail
  obtain ⟨w6, ew6, hbw6, _, kw6⟩ := box1 w5 #[.int .i64 1, .int .i64 0, .int .i64 1] 3
  rw [← ew6]; clear ew6 cM
  refine (same_true _ _ _ [1, 0, 1] _ _ _ _ (carry r0 (by repeat (first | with_reducible assumption | exact Below.refl _ _ | refine below_next (by with_reducible assumption) ?_))) (blkR (xs := [1, 0, 1]) kw6 rfl) (by decide) (by decide)).mono ?_
  rintro e w7 ⟨rfl, hbw7⟩
  clear kw6
  have cM := (carryK (w' := w7) kM (by repeat (first | with_reducible assumption | exact Below.refl _ _ | refine below_next (by with_reducible assumption) ?_))).cell
  go_wp2_with fail
  obtain ⟨w8, ew8, hbw8, _, kw8⟩ := box1 w7 #[.int .i64 0, .int .i64 2, .int .i64 0, .int .i64 1] 3
  rw [← ew8]; clear ew8 cM
  refine (same_true _ _ _ [0, 2, 0, 1] _ _ _ _ (carry r1 (by repeat (first | with_reducible assumption | exact Below.refl _ _ | refine below_next (by with_reducible assumption) ?_))) (blkR (xs := [0, 2, 0, 1]) kw8 rfl) (by decide) (by decide)).mono ?_
  rintro e w9 ⟨rfl, hbw9⟩
  clear kw8
  have cM := (carryK (w' := w9) kM (by repeat (first | with_reducible assumption | exact Below.refl _ _ | refine below_next (by with_reducible assumption) ?_))).cell
  go_wp2_with fail
  obtain ⟨w10, ew10, hbw10, _, kw10⟩ := box1 w9 #[.int .i64 0, .int .i64 1] 3
  rw [← ew10]; clear ew10 cM
  refine (same_true _ _ _ [0, 1] _ _ _ _ (carry r2 (by repeat (first | with_reducible assumption | exact Below.refl _ _ | refine below_next (by with_reducible assumption) ?_))) (blkR (xs := [0, 1]) kw10 rfl) (by decide) (by decide)).mono ?_
  rintro e w11 ⟨rfl, hbw11⟩
  clear kw10
  have cM := (carryK (w' := w11) kM (by repeat (first | with_reducible assumption | exact Below.refl _ _ | refine below_next (by with_reducible assumption) ?_))).cell
  go_wp2_with fail
  obtain ⟨w12, ew12, hbw12, _, kw12⟩ := box1 w11 #[.int .i64 1, .int .i64 0, .int .i64 1] 3
  rw [← ew12]; clear ew12 cM
  refine (same_true _ _ _ [1, 0, 1] _ _ _ _ (carry r3 (by repeat (first | with_reducible assumption | exact Below.refl _ _ | refine below_next (by with_reducible assumption) ?_))) (blkR (xs := [1, 0, 1]) kw12 rfl) (by decide) (by decide)).mono ?_
  rintro e w13 ⟨rfl, hbw13⟩
  clear kw12
  have cM := (carryK (w' := w13) kM (by repeat (first | with_reducible assumption | exact Below.refl _ _ | refine below_next (by with_reducible assumption) ?_))).cell
  go_wp2_with fail
  obtain ⟨w14, ew14, hbw14, _, kw14⟩ := box1 w13 #[.int .i64 1] 3
  rw [← ew14]; clear ew14 cM
  refine (same_true _ _ _ [1] _ _ _ _ (carry r4 (by repeat (first | with_reducible assumption | exact Below.refl _ _ | refine below_next (by with_reducible assumption) ?_))) (blkR (xs := [1]) kw14 rfl) (by decide) (by decide)).mono ?_
  rintro e w15 ⟨rfl, hbw15⟩
  clear kw14
  have cM := (carryK (w' := w15) kM (by repeat (first | with_reducible assumption | exact Below.refl _ _ | refine below_next (by with_reducible assumption) ?_))).cell
  go_wp2_with fail
  obtain ⟨w16, ew16, hbw16, _, kw16⟩ := box1 w15 #[.int .i64 0, .int .i64 0, .int .i64 1] 3
  rw [← ew16]; clear ew16 cM
  refine (same_true _ _ _ [0, 0, 1] _ _ _ _ (carry r5 (by repeat (first | with_reducible assumption | exact Below.refl _ _ | refine below_next (by with_reducible assumption) ?_))) (blkR (xs := [0, 0, 1]) kw16 rfl) (by decide) (by decide)).mono ?_
  rintro e w17 ⟨rfl, hbw17⟩
  clear kw16
  go_wp2_with fail
  go_ret
  exact ⟨rfl, (by repeat (first | with_reducible assumption | exact Below.refl _ _ | refine below_next (by with_reducible assumption) ?_))⟩
end Go.Proofs.YthlnmoecmicofaaDoor
