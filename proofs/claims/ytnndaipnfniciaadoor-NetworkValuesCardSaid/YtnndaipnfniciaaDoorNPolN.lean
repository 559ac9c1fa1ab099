/- Polynomials of the program, once more. -/
import Derived.Test.YtnndaipnfniciaaDoorNPol2
namespace Go.Proofs.YtnndaipnfniciaaDoor
open Go.RowKit Go.Shelf
set_option maxRecDepth 100000
set_option maxHeartbeats 1000000 in
theorem Polynomials_bad (A : Option Addr) (n c : Nat) (l : List El) (w : World) (h0 : ¬ ladErr l = 0) (h : Reads w w.heap.size 3 A n (els l)) (hn : n ≤ 1000000000000) :
    Calls Tryd.prog 7 #[.slice A n c] w fun e w' => e = .returned (.tuple #[.agg #[.slice none 0 0, .slice none 0 0, .slice none 0 0, .slice none 0 0], .slice none 0 0, .int .i64 (ladErr l)]) ∧ Below w.heap.size w w' := by
  have t0 : (ladErr l != 0) = true := by simpa using h0
  clear h0
  go_enter Tryd.func7, Tryd.ntmps7
  go_upto_region 2 with (fail)
  obtain ⟨w1, e1, hb1, hz1, k0, k1⟩ := box2 w #[.slice none 0 0, .slice none 0 0, .slice none 0 0, .slice none 0 0] #[.slice none 0 0, .slice none 0 0, .slice none 0 0, .slice none 0 0] 26 26
  rw [← e1]; clear e1
  go_wp2_with fail
  refine (checkLadder_any A n c l _ (carry h hb1) hn).mono ?_
  rintro e w2 ⟨rfl, hb2⟩
  have kR := carryK k0 hb2
  obtain ⟨X, eX, kX, _, _, hBX, _⟩ := set4 w2 w.heap.size 26 _ _ _ _ (.slice none 0 0) (.slice none 0 0) (.slice none 0 0) (.slice none 0 0) kR
  have hbX : Below w.heap.size w X := below_step (below_next hb1 hb2) (hBX w.heap.size (Nat.le_refl _)) (Nat.le_refl _)
  have c0 := kR.cell
  have c1 := (carryK k1 hb2).cell
  have f0 := kR.frozen
  clear hBX
  go_wp2_with fail
  rw [← eX]
  clear eX c0 c1 f0
  have cX := kX.cell
  refine bodyPost_ret (v := .tuple #[.agg #[.slice none 0 0, .slice none 0 0, .slice none 0 0, .slice none 0 0], .slice none 0 0, .int .i64 (ladErr l)]) (by simp [results, Tryd.results7, go_sem, cX]) rfl ?_
  exact ⟨rfl, hbX⟩
theorem polN_ok (A : Option Addr) (n c : Nat) (l : List El) (w : World) (hC : Con w) (h0 : ladErr l = 0) (h : Reads w w.heap.size 3 A n (els l)) (hn : n ≤ 1000000000000) :
    Calls Tryd.prog 7 #[.slice A n c] w fun e w' => ∃ A0 c0 A1 c1 A2 c2 A3 c3 A4 c4, e = .returned (.tuple #[.agg #[.slice A0 (pch .id l).a.length c0, .slice A1 (pch .id l).b.length c1, .slice A2 (pch .id l).c.length c2, .slice A3 (pch .id l).d.length c3], .slice A4 (pdv [1] l).length c4, .int .i64 0]) ∧
      Reads w' w'.heap.size 1 A0 (pch .id l).a.length (ints (pch .id l).a) ∧ Reads w' w'.heap.size 1 A1 (pch .id l).b.length (ints (pch .id l).b) ∧ Reads w' w'.heap.size 1 A2 (pch .id l).c.length (ints (pch .id l).c) ∧ Reads w' w'.heap.size 1 A3 (pch .id l).d.length (ints (pch .id l).d) ∧ Reads w' w'.heap.size 1 A4 (pdv [1] l).length (ints (pdv [1] l)) ∧ Below w.heap.size w w' := by
  refine (Polynomials_ok A n c l w hC h0 h hn).mono fun e w' h => ?_
  obtain ⟨s0, s1, s2, s3, sd, rfl, ⟨ok, hv⟩, hd, hb⟩ := h
  obtain ⟨A0, c0, rfl, r0⟩ := hv.a.sl
  obtain ⟨A1, c1, rfl, r1⟩ := hv.b.sl
  obtain ⟨A2, c2, rfl, r2⟩ := hv.c.sl
  obtain ⟨A3, c3, rfl, r3⟩ := hv.d.sl
  obtain ⟨A4, c4, rfl, r4⟩ := hd
  exact ⟨A0, c0, A1, c1, A2, c2, A3, c3, A4, c4, rfl, r0, r1, r2, r3, r4, hb⟩
end Go.Proofs.YtnndaipnfniciaaDoor
