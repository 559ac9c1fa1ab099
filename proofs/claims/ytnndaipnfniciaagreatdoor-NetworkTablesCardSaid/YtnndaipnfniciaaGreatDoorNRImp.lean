/- The reference's Input, Shorted, Transfer, Level, Power, Lossless. -/
import Derived.Test.YtnndaipnfniciaaGreatDoorBaseR
import Derived.Test.YtnndaipnfniciaaGreatDoorBaseW
import Derived.Test.YtnndaipnfniciaaGreatDoorNBey
namespace Go.Proofs.YtnndaipnfniciaaGreatDoor
open Go.RowKit Go.Shelf
set_option maxRecDepth 100000
set_option maxHeartbeats 1000000 in
theorem rQuotient_any (a b : G) (w : World) :
    Calls Tryz.prog 125 #[.agg #[.int .i64 a.re, .int .i64 a.im], .agg #[.int .i64 b.re, .int .i64 b.im]] w fun e w' => e = .returned (.tuple #[.agg #[.int .i64 (quo a b).n.re, .int .i64 (quo a b).n.im, .int .i64 (quo a b).d.re, .int .i64 (quo a b).d.im], .int .i64 (quoE b)]) ∧ Below w.heap.size w w' := by
  by_cases hb : b = .zero
  · have qz : ∀ W, (binOp .eql 23 (.agg #[.int .i64 b.re, .int .i64 b.im]) (.agg #[.int .i64 G.zero.re, .int .i64 G.zero.im])).run Tryz.prog W = .ok (.bool true) W := fun W => by rw [eqG, decide_eq_true hb]
    have H1 := hide (show quo a b = .zero from if_pos hb)
    have H2 := hide (show quoE b = 17 from if_pos hb)
    clear hb
    go_enter Tryz.func125, Tryz.ntmps125
    go_upto_region 1 with (fail)
    obtain ⟨w1, e1, hb1, hz1, k0, k1, k2⟩ := box3 w #[.int .i64 a.re, .int .i64 a.im] #[.int .i64 b.re, .int .i64 b.im] #[.int .i64 0, .int .i64 0, .int .i64 0, .int .i64 0] 23 23 25
    rw [← e1]; clear e1
    have c1 := over_blk k1 k1.lt
    refine wp_region_over w1.heap.size (by kernel_rfl) (by kernel_rfl) ?_; (repeat (first | go_big_quiet_step ((go_at_call 92; with_reducible exact over_call (Nat.le_refl _) (rZero_any _))) | quiet_step ((go_at_call 92; with_reducible exact over_call (Nat.le_refl _) (rZero_any _))))); refine wpQuiet_nil ?_; rintro W ⟨x, rfl⟩
    have hbY := over_below w1.heap.size w1 x
    generalize over w1.heap.size w1 x = Y at hbY ⊢
    clear c1 qz
    have kR := carryK k2 hbY
    have c0 := (carryK k0 hbY).cell
    have c1 := (carryK k1 hbY).cell
    have c2 := kR.cell
    have f2 := kR.frozen
    go_wp2_with fail
    with_reducible refine fin4 (B := w.heap.size) (v := w) 25 (below_next hb1 hbY) (by omega) kR (fun X hX kX => ?_)
    have cX := kX.cell
    clear c0 c1 c2 f2
    refine bodyPost_ret (v := .tuple #[.agg #[.int .i64 Pr.zero.n.re, .int .i64 Pr.zero.n.im, .int .i64 Pr.zero.d.re, .int .i64 Pr.zero.d.im], .int .i64 17]) (by simp [results, Tryz.results125, go_sem, cX, Pr.zero, G.zero]) rfl ?_
    exact ⟨by rw [H1.out, H2.out], hX⟩
  · have qz : ∀ W, (binOp .eql 23 (.agg #[.int .i64 b.re, .int .i64 b.im]) (.agg #[.int .i64 G.zero.re, .int .i64 G.zero.im])).run Tryz.prog W = .ok (.bool false) W := fun W => by rw [eqG, decide_eq_false hb]
    have H1 := hide (show quo a b = ⟨a, b⟩ from if_neg hb)
    have H2 := hide (show quoE b = 0 from if_neg hb)
    clear hb
    go_enter Tryz.func125, Tryz.ntmps125
    go_upto_region 1 with (fail)
    obtain ⟨w1, e1, hb1, hz1, k0, k1, k2⟩ := box3 w #[.int .i64 a.re, .int .i64 a.im] #[.int .i64 b.re, .int .i64 b.im] #[.int .i64 0, .int .i64 0, .int .i64 0, .int .i64 0] 23 23 25
    rw [← e1]; clear e1
    have c1 := over_blk k1 k1.lt
    refine wp_region_over w1.heap.size (by kernel_rfl) (by kernel_rfl) ?_; (repeat (first | go_big_quiet_step ((go_at_call 92; with_reducible exact over_call (Nat.le_refl _) (rZero_any _))) | quiet_step ((go_at_call 92; with_reducible exact over_call (Nat.le_refl _) (rZero_any _))))); refine wpQuiet_nil ?_; rintro W ⟨x, rfl⟩
    have hbY := over_below w1.heap.size w1 x
    generalize over w1.heap.size w1 x = Y at hbY ⊢
    clear c1 qz
    have kR := carryK k2 hbY
    have c0 := (carryK k0 hbY).cell
    have c1 := (carryK k1 hbY).cell
    have c2 := kR.cell
    have f2 := kR.frozen
    go_wp2_with fail
    with_reducible refine fin4 (B := w.heap.size) (v := w) 25 (below_next hb1 hbY) (by omega) kR (fun X hX kX => ?_)
    have cX := kX.cell
    clear c0 c1 c2 f2
    refine bodyPost_ret (v := .tuple #[.agg #[.int .i64 (⟨a, b⟩ : Pr).n.re, .int .i64 (⟨a, b⟩ : Pr).n.im, .int .i64 (⟨a, b⟩ : Pr).d.re, .int .i64 (⟨a, b⟩ : Pr).d.im], .int .i64 0]) (by simp [results, Tryz.results125, go_sem, cX, G.zero]) rfl ?_
    exact ⟨by rw [H1.out, H2.out], hX⟩
set_option maxHeartbeats 1000000 in
theorem rInput_ok (l : List El) (f : Int) (A : Option Addr) (n c : Nat) (w : World) (hl : LadOk l) (h1 : 1 ≤ f) (h8 : f ≤ 8) (h : Reads w w.heap.size 3 A n (els l)) :
    Calls Tryz.prog 53 #[.slice A n c, .int .i64 f] w fun e w' => e = .returned (.tuple #[.agg #[.int .i64 (quo (chn f .id l).a (chn f .id l).c).n.re, .int .i64 (quo (chn f .id l).a (chn f .id l).c).n.im, .int .i64 (quo (chn f .id l).a (chn f .id l).c).d.re, .int .i64 (quo (chn f .id l).a (chn f .id l).c).d.im], .int .i64 (quoE (chn f .id l).c)]) ∧ Below w.heap.size w w' := by
  have HCH : Hid (∀ w, Reads w w.heap.size 3 A n (els l) → Calls Tryz.prog 41 #[.slice A n c, .int .i64 f] w fun e w' => e = .returned (.agg #[.int .i64 (chn f .id l).a.re, .int .i64 (chn f .id l).a.im, .int .i64 (chn f .id l).b.re, .int .i64 (chn f .id l).b.im, .int .i64 (chn f .id l).c.re, .int .i64 (chn f .id l).c.im, .int .i64 (chn f .id l).d.re, .int .i64 (chn f .id l).d.im]) ∧ Below w.heap.size w w') := fun w hR => rChain_ok l f A n c w hl h1 h8 hR
  obtain ⟨M, hM⟩ : ∃ M, chn f .id l = M := ⟨_, rfl⟩
  rw [hM] at HCH ⊢
  clear hM hl h1 h8
  go_enter Tryz.func53, Tryz.ntmps53
  go_wp2_with fail
  obtain ⟨w1, e1, hb1, hz1, k0⟩ := box1 w #[.int .i64 0, .int .i64 0, .int .i64 0, .int .i64 0] 25
  rw [← e1]; clear e1
  refine (HCH.out _ (carry h (by repeat (first | with_reducible assumption | exact Below.refl _ _ | refine below_next (by with_reducible assumption) ?_)))).mono ?_
  rintro e w2 ⟨rfl, hb2⟩
  go_upto_region 2 with (fail)
  obtain ⟨w3, e3, hb3, hz3, k3⟩ := box1 w2 #[.int .i64 M.a.re, .int .i64 M.a.im, .int .i64 M.b.re, .int .i64 M.b.im, .int .i64 M.c.re, .int .i64 M.c.im, .int .i64 M.d.re, .int .i64 M.d.im] 78
  rw [← e3]; clear e3
  have c3 := k3.cell
  go_wp2_with fail
  refine (rQuotient_any M.a M.c _).mono ?_
  rintro e w4 ⟨rfl, hb4⟩
  clear c3
  have kR := carryK (w' := w4) k0 (by repeat (first | with_reducible assumption | exact Below.refl _ _ | refine below_next (by with_reducible assumption) ?_))
  have c5 := kR.cell
  have f5 := kR.frozen
  go_wp2_with fail
  with_reducible refine fin4 (B := w.heap.size) (v := w) 25 (by repeat (first | with_reducible assumption | exact Below.refl _ _ | refine below_next (by with_reducible assumption) ?_)) (Nat.le_refl _) kR (fun X hX kX => ?_)
  have cX := kX.cell
  clear c5 f5
  refine bodyPost_ret (v := .tuple #[.agg #[.int .i64 (quo M.a M.c).n.re, .int .i64 (quo M.a M.c).n.im, .int .i64 (quo M.a M.c).d.re, .int .i64 (quo M.a M.c).d.im], .int .i64 (quoE M.c)]) (by simp [results, Tryz.results53, go_sem, cX]) rfl ?_
  exact ⟨rfl, hX⟩
set_option maxHeartbeats 1000000 in
theorem rShorted_ok (l : List El) (f : Int) (A : Option Addr) (n c : Nat) (w : World) (hl : LadOk l) (h1 : 1 ≤ f) (h8 : f ≤ 8) (h : Reads w w.heap.size 3 A n (els l)) :
    Calls Tryz.prog 54 #[.slice A n c, .int .i64 f] w fun e w' => e = .returned (.tuple #[.agg #[.int .i64 (quo (chn f .id l).b (chn f .id l).d).n.re, .int .i64 (quo (chn f .id l).b (chn f .id l).d).n.im, .int .i64 (quo (chn f .id l).b (chn f .id l).d).d.re, .int .i64 (quo (chn f .id l).b (chn f .id l).d).d.im], .int .i64 (quoE (chn f .id l).d)]) ∧ Below w.heap.size w w' := by
  have HCH : Hid (∀ w, Reads w w.heap.size 3 A n (els l) → Calls Tryz.prog 41 #[.slice A n c, .int .i64 f] w fun e w' => e = .returned (.agg #[.int .i64 (chn f .id l).a.re, .int .i64 (chn f .id l).a.im, .int .i64 (chn f .id l).b.re, .int .i64 (chn f .id l).b.im, .int .i64 (chn f .id l).c.re, .int .i64 (chn f .id l).c.im, .int .i64 (chn f .id l).d.re, .int .i64 (chn f .id l).d.im]) ∧ Below w.heap.size w w') := fun w hR => rChain_ok l f A n c w hl h1 h8 hR
  obtain ⟨M, hM⟩ : ∃ M, chn f .id l = M := ⟨_, rfl⟩
  rw [hM] at HCH ⊢
  clear hM hl h1 h8
  go_enter Tryz.func54, Tryz.ntmps54
  go_wp2_with fail
  obtain ⟨w1, e1, hb1, hz1, k0⟩ := box1 w #[.int .i64 0, .int .i64 0, .int .i64 0, .int .i64 0] 25
  rw [← e1]; clear e1
  refine (HCH.out _ (carry h (by repeat (first | with_reducible assumption | exact Below.refl _ _ | refine below_next (by with_reducible assumption) ?_)))).mono ?_
  rintro e w2 ⟨rfl, hb2⟩
  go_upto_region 2 with (fail)
  obtain ⟨w3, e3, hb3, hz3, k3⟩ := box1 w2 #[.int .i64 M.a.re, .int .i64 M.a.im, .int .i64 M.b.re, .int .i64 M.b.im, .int .i64 M.c.re, .int .i64 M.c.im, .int .i64 M.d.re, .int .i64 M.d.im] 78
  rw [← e3]; clear e3
  have c3 := k3.cell
  go_wp2_with fail
  refine (rQuotient_any M.b M.d _).mono ?_
  rintro e w4 ⟨rfl, hb4⟩
  clear c3
  have kR := carryK (w' := w4) k0 (by repeat (first | with_reducible assumption | exact Below.refl _ _ | refine below_next (by with_reducible assumption) ?_))
  have c5 := kR.cell
  have f5 := kR.frozen
  go_wp2_with fail
  with_reducible refine fin4 (B := w.heap.size) (v := w) 25 (by repeat (first | with_reducible assumption | exact Below.refl _ _ | refine below_next (by with_reducible assumption) ?_)) (Nat.le_refl _) kR (fun X hX kX => ?_)
  have cX := kX.cell
  clear c5 f5
  refine bodyPost_ret (v := .tuple #[.agg #[.int .i64 (quo M.b M.d).n.re, .int .i64 (quo M.b M.d).n.im, .int .i64 (quo M.b M.d).d.re, .int .i64 (quo M.b M.d).d.im], .int .i64 (quoE M.d)]) (by simp [results, Tryz.results54, go_sem, cX]) rfl ?_
  exact ⟨rfl, hX⟩
set_option maxHeartbeats 1000000 in
theorem rTransfer_ok (l : List El) (f : Int) (A : Option Addr) (n c : Nat) (w : World) (hl : LadOk l) (h1 : 1 ≤ f) (h8 : f ≤ 8) (h : Reads w w.heap.size 3 A n (els l)) :
    Calls Tryz.prog 55 #[.slice A n c, .int .i64 f] w fun e w' => e = .returned (.tuple #[.agg #[.int .i64 (quo (dvs f .one l) (chn f .id l).a).n.re, .int .i64 (quo (dvs f .one l) (chn f .id l).a).n.im, .int .i64 (quo (dvs f .one l) (chn f .id l).a).d.re, .int .i64 (quo (dvs f .one l) (chn f .id l).a).d.im], .int .i64 (quoE (chn f .id l).a)]) ∧ Below w.heap.size w w' := by
  have HCH : Hid (∀ w, Reads w w.heap.size 3 A n (els l) → Calls Tryz.prog 41 #[.slice A n c, .int .i64 f] w fun e w' => e = .returned (.agg #[.int .i64 (chn f .id l).a.re, .int .i64 (chn f .id l).a.im, .int .i64 (chn f .id l).b.re, .int .i64 (chn f .id l).b.im, .int .i64 (chn f .id l).c.re, .int .i64 (chn f .id l).c.im, .int .i64 (chn f .id l).d.re, .int .i64 (chn f .id l).d.im]) ∧ Below w.heap.size w w') := fun w hR => rChain_ok l f A n c w hl h1 h8 hR
  have HDV : Hid (∀ w, Reads w w.heap.size 3 A n (els l) → Calls Tryz.prog 42 #[.slice A n c, .int .i64 f] w fun e w' => e = .returned (.agg #[.int .i64 (dvs f .one l).re, .int .i64 (dvs f .one l).im]) ∧ Below w.heap.size w w') := fun w hR => rDivisor_ok l f A n c w hl h1 h8 hR
  obtain ⟨M, hM⟩ : ∃ M, chn f .id l = M := ⟨_, rfl⟩
  obtain ⟨D, hD⟩ : ∃ D, dvs f .one l = D := ⟨_, rfl⟩
  rw [hM] at HCH ⊢
  rw [hD] at HDV ⊢
  clear hM hD hl h1 h8
  have ri : ∀ W, (Instr.index 78 (.agg #[.int .i64 M.a.re, .int .i64 M.a.im, .int .i64 M.b.re, .int .i64 M.b.im, .int .i64 M.c.re, .int .i64 M.c.im, .int .i64 M.d.re, .int .i64 M.d.im]) (.int .i64 0)).run Tryz.prog W = .ok (.agg #[.int .i64 M.a.re, .int .i64 M.a.im]) W := fun _ => by kernel_rfl
  go_enter Tryz.func55, Tryz.ntmps55
  go_wp2_with fail
  obtain ⟨w1, e1, hb1, hz1, k0⟩ := box1 w #[.int .i64 0, .int .i64 0, .int .i64 0, .int .i64 0] 25
  rw [← e1]; clear e1
  refine (HDV.out _ (carry h (by repeat (first | with_reducible assumption | exact Below.refl _ _ | refine below_next (by with_reducible assumption) ?_)))).mono ?_
  rintro e w2 ⟨rfl, hb2⟩
  go_wp2_with fail
  refine (HCH.out _ (carry h (by repeat (first | with_reducible assumption | exact Below.refl _ _ | refine below_next (by with_reducible assumption) ?_)))).mono ?_
  rintro e w3 ⟨rfl, hb3⟩
  go_wp2_with fail
  refine (rQuotient_any D M.a _).mono ?_
  rintro e w4 ⟨rfl, hb4⟩
  have kR := carryK (w' := w4) k0 (by repeat (first | with_reducible assumption | exact Below.refl _ _ | refine below_next (by with_reducible assumption) ?_))
  have c5 := kR.cell
  have f5 := kR.frozen
  go_wp2_with fail
  with_reducible refine fin4 (B := w.heap.size) (v := w) 25 (by repeat (first | with_reducible assumption | exact Below.refl _ _ | refine below_next (by with_reducible assumption) ?_)) (Nat.le_refl _) kR (fun X hX kX => ?_)
  have cX := kX.cell
  clear c5 f5
  refine bodyPost_ret (v := .tuple #[.agg #[.int .i64 (quo D M.a).n.re, .int .i64 (quo D M.a).n.im, .int .i64 (quo D M.a).d.re, .int .i64 (quo D M.a).d.im], .int .i64 (quoE M.a)]) (by simp [results, Tryz.results55, go_sem, cX]) rfl ?_
  exact ⟨rfl, hX⟩
set_option maxHeartbeats 1000000 in
theorem rPower_ok (l : List El) (f : Int) (A : Option Addr) (n c : Nat) (w : World) (hl : LadOk l) (h1 : 1 ≤ f) (h8 : f ≤ 8) (h : Reads w w.heap.size 3 A n (els l)) :
    Calls Tryz.prog 57 #[.slice A n c, .int .i64 f] w fun e w' => e = .returned (.int .i64 (pw (chn f .id l).a (chn f .id l).c)) ∧ Below w.heap.size w w' := by
  have HCH : Hid (∀ w, Reads w w.heap.size 3 A n (els l) → Calls Tryz.prog 41 #[.slice A n c, .int .i64 f] w fun e w' => e = .returned (.agg #[.int .i64 (chn f .id l).a.re, .int .i64 (chn f .id l).a.im, .int .i64 (chn f .id l).b.re, .int .i64 (chn f .id l).b.im, .int .i64 (chn f .id l).c.re, .int .i64 (chn f .id l).c.im, .int .i64 (chn f .id l).d.re, .int .i64 (chn f .id l).d.im]) ∧ Below w.heap.size w w') := fun w hR => rChain_ok l f A n c w hl h1 h8 hR
  have hin := chain_in hl h1 h8
  obtain ⟨M, hM⟩ : ∃ M, chn f .id l = M := ⟨_, rfl⟩
  rw [hM] at HCH hin ⊢
  have na : M.a.nrm ≤ 2073071593 := by have := hin.1; omega
  have nc : M.c.nrm ≤ 2073071593 := by have := hin.2; omega
  have QC := hide (conj_im (a := M.c) (by omega))
  have E1 : Hid ((M.a.mul M.c.conj).w.re = pw M.a M.c) := by
    show (M.a.mul M.c.conj).w.re = pw M.a M.c
    rw [G.w_in (Nat.le_trans (mul_conj_nrm na nc) (by decide)), pw_conj]
  obtain ⟨P0, hP⟩ : ∃ P0, pw M.a M.c = P0 := ⟨_, rfl⟩
  rw [hP] at E1 ⊢
  clear hM hl h1 h8 hin na nc hP
  go_enter Tryz.func57, Tryz.ntmps57
  go_wp2_with fail
  refine (HCH.out _ h).mono ?_
  rintro e w2 ⟨rfl, hb2⟩
  go_upto_region 2 with (fail)
  obtain ⟨w3, e3, hb3, hz3, k3⟩ := box1 w2 #[.int .i64 M.a.re, .int .i64 M.a.im, .int .i64 M.b.re, .int .i64 M.b.im, .int .i64 M.c.re, .int .i64 M.c.im, .int .i64 M.d.re, .int .i64 M.d.im] 78
  rw [← e3]; clear e3
  have c3 := over_blk k3 k3.lt
  have i0 : ∀ W : World, (Instr.field 23 (.agg #[.int .i64 (M.a.mul M.c.conj).w.re, .int .i64 (M.a.mul M.c.conj).w.im]) 0).run Tryz.prog W = .ok (.int .i64 P0) W := fun _ => by rw [← E1.out]; kernel_rfl
  refine wp_region_over w3.heap.size (by kernel_rfl) (by kernel_rfl) ?_; (repeat (first | go_big_quiet_step (first | (go_at_call 62; with_reducible exact over_call (Nat.le_refl _) (conjIn_any M.c QC.out _)) | (go_at_call 61; with_reducible exact over_call (Nat.le_refl _) (rTimes_any M.a M.c.conj _))) | quiet_step (first | (go_at_call 62; with_reducible exact over_call (Nat.le_refl _) (conjIn_any M.c QC.out _)) | (go_at_call 61; with_reducible exact over_call (Nat.le_refl _) (rTimes_any M.a M.c.conj _))))); refine wpQuiet_nil ?_; rintro W ⟨x, rfl⟩
  have hbY := over_below w3.heap.size w3 x
  generalize over w3.heap.size w3 x = Y at hbY ⊢
  clear c3 i0
  go_wp2_with fail
  go_ret
  exact ⟨rfl, (by repeat (first | with_reducible assumption | exact Below.refl _ _ | refine below_next (by with_reducible assumption) ?_))⟩
set_option maxHeartbeats 1000000 in
theorem rLossless_any (A : Option Addr) (n c : Nat) (l : List El) (w : World) (h : Reads w w.heap.size 3 A n (els l)) (hn : n ≤ 1000000000000) :
    Calls Tryz.prog 58 #[.slice A n c] w fun e w' => e = .returned (.bool (lossB l)) ∧ Below w.heap.size w w' := by
  have HL := hide (els_reads_len h)
  go_enter Tryz.func58, Tryz.ntmps58
  go_wp2_with fail
  go_loopw [3] (fun i wr => ∃ k : Nat, k ≤ n ∧ i = .int .i64 k ∧ (∀ x ∈ l.take k, x.a = 0) ∧ Below w.heap.size w wr) (fun i _ => n - (intOf i).toNat)
  case atStart => exact ⟨0, by omega, rfl, by simp, Below.refl _ _⟩
  case round =>
    rename World => wo
    obtain ⟨k, hk, rfl, hz, hb⟩ := hrel
    have HZ := hide hz
    clear hz
    by_cases hlt : k < n
    · obtain ⟨ad, x, rfl, _, hxk, hcx⟩ := els_hit (carry h hb) hlt (Nat.le_refl _)
      obtain ⟨q0, q1, q2⟩ := hcx wo (Below.refl _ _)
      have HX := hide hxk
      clear hxk hcx
      by_cases h0 : x.a = 0
      · have t0 : (x.a != 0) = false := by simp [h0]
        have H0 := hide h0
        clear h0
        go_wp2_with fail
        go_roundw
        case rel =>
          refine ⟨k + 1, by omega, by go_num, fun y hy => ?_, hb⟩
          rw [List.take_add_one, HX.out] at hy
          simp at hy
          rcases hy with hy | rfl
          · exact HZ.out y hy
          · exact H0.out
        case measure => simp [intOf]; omega
      · have t0 : (x.a != 0) = true := by simp [h0]
        have hs : lossB l = false := by
          unfold lossB
          exact List.all_eq_false.2 ⟨x, List.mem_of_getElem? HX.out, by simp [h0]⟩
        have HS := hide hs
        clear hs h0
        go_wp2_with fail
        go_ret
        exact ⟨by rw [HS.out]; rfl, hb⟩
    · have hs : lossB l = true := lossB_iff.2 fun x hx => HZ.out x (by rw [List.take_of_length_le (by rw [HL.out]; omega)]; exact hx)
      have HS := hide hs
      clear hs
      go_wp2_with fail
      go_ret
      exact ⟨by rw [HS.out]; rfl, hb⟩
theorem rLowest_nn (n d : Int) (w : World) (hn : 0 ≤ n ∧ n ≤ 9223372036854775807) (hd : 0 < d ∧ d ≤ 9223372036854775807) :
    Calls Tryz.prog 75 #[.int .i64 n, .int .i64 d] w fun e w' => e = .returned (.agg #[.int .i64 (low n.toNat d.toNat).n, .int .i64 (low n.toNat d.toNat).d]) ∧ Below w.heap.size w w' := by
  have := rLowest_any n d w (by omega) (by omega)
  have e : lowI n d = low n.toNat d.toNat := by
    have h1 : n = ((n.toNat : Nat) : Int) := by omega
    have h2 : d = ((d.toNat : Nat) : Int) := by omega
    rw [h1, h2, lowI_pos]; rfl
  rwa [e] at this
set_option maxHeartbeats 1000000 in
theorem rLevel_no (l : List El) (f : Int) (A : Option Addr) (n c : Nat) (w : World) (hl : LadOk l) (h1 : 1 ≤ f) (h8 : f ≤ 8) (h : Reads w w.heap.size 3 A n (els l)) (hz : (chn f .id l).a = .zero) :
    Calls Tryz.prog 56 #[.slice A n c, .int .i64 f] w fun e w' => e = .returned (.tuple #[.agg #[.int .i64 0, .int .i64 0], .int .i64 17]) ∧ Below w.heap.size w w' := by
  have HTR : Hid (∀ w, Reads w w.heap.size 3 A n (els l) → Calls Tryz.prog 55 #[.slice A n c, .int .i64 f] w fun e w' => e = .returned (.tuple #[.agg #[.int .i64 (quo (dvs f .one l) (chn f .id l).a).n.re, .int .i64 (quo (dvs f .one l) (chn f .id l).a).n.im, .int .i64 (quo (dvs f .one l) (chn f .id l).a).d.re, .int .i64 (quo (dvs f .one l) (chn f .id l).a).d.im], .int .i64 (quoE (chn f .id l).a)]) ∧ Below w.heap.size w w') := fun w hR => rTransfer_ok l f A n c w hl h1 h8 hR
  rw [show quo (dvs f .one l) (chn f .id l).a = .zero from if_pos hz, show quoE (chn f .id l).a = 17 from if_pos hz] at HTR
  clear hz hl h1 h8
  go_enter Tryz.func56, Tryz.ntmps56
  go_wp2_with fail
  obtain ⟨w1, e1, hb1, hz1, k0⟩ := box1 w #[.int .i64 0, .int .i64 0] 54
  rw [← e1]; clear e1
  refine (HTR.out _ (carry h (by repeat (first | with_reducible assumption | exact Below.refl _ _ | refine below_next (by with_reducible assumption) ?_)))).mono ?_
  rintro e w2 ⟨rfl, hb2⟩
  go_upto_region 2 with (fail)
  obtain ⟨w3, e3, hb3, hz3, k3⟩ := box1 w2 #[.int .i64 Pr.zero.n.re, .int .i64 Pr.zero.n.im, .int .i64 Pr.zero.d.re, .int .i64 Pr.zero.d.im] 25
  rw [← e3]; clear e3
  have kR := carryK (w' := w3) k0 (by repeat (first | with_reducible assumption | exact Below.refl _ _ | refine below_next (by with_reducible assumption) ?_))
  have c5 := kR.cell
  have f5 := kR.frozen
  go_wp2_with fail
  have kX := blk2 (u0 := .int .i64 0) (u1 := .int .i64 0) kR
  have hX := below2 (u0 := .int .i64 0) (u1 := .int .i64 0) (show Below w.heap.size w w3 from (by repeat (first | with_reducible assumption | exact Below.refl _ _ | refine below_next (by with_reducible assumption) ?_))) (Nat.le_refl w.heap.size)
  have cX := kX.cell
  clear c5 f5
  refine bodyPost_ret (v := .tuple #[.agg #[.int .i64 0, .int .i64 0], .int .i64 17]) (by simp [results, Tryz.results56, go_sem, cX]) rfl ?_
  exact ⟨rfl, hX⟩
set_option maxHeartbeats 1000000 in
theorem rLevel_ok (l : List El) (f : Int) (A : Option Addr) (n c : Nat) (w : World) (hl : LadOk l) (h1 : 1 ≤ f) (h8 : f ≤ 8) (h : Reads w w.heap.size 3 A n (els l)) (hz : ¬ (chn f .id l).a = .zero) :
    Calls Tryz.prog 56 #[.slice A n c, .int .i64 f] w fun e w' => e = .returned (.tuple #[.agg #[.int .i64 (lvR l f).n, .int .i64 (lvR l f).d], .int .i64 0]) ∧ Below w.heap.size w w' := by
  have HTR : Hid (∀ w, Reads w w.heap.size 3 A n (els l) → Calls Tryz.prog 55 #[.slice A n c, .int .i64 f] w fun e w' => e = .returned (.tuple #[.agg #[.int .i64 (quo (dvs f .one l) (chn f .id l).a).n.re, .int .i64 (quo (dvs f .one l) (chn f .id l).a).n.im, .int .i64 (quo (dvs f .one l) (chn f .id l).a).d.re, .int .i64 (quo (dvs f .one l) (chn f .id l).a).d.im], .int .i64 (quoE (chn f .id l).a)]) ∧ Below w.heap.size w w') := fun w hR => rTransfer_ok l f A n c w hl h1 h8 hR
  rw [show quo (dvs f .one l) (chn f .id l).a = ⟨dvs f .one l, (chn f .id l).a⟩ from if_neg hz, show quoE (chn f .id l).a = 0 from if_neg hz] at HTR
  simp only at HTR
  have hin := lv_in hl h1 h8
  have hpos := G.sq_pos hz
  have hw : ∀ W, Calls Tryz.prog 75 #[.int .i64 (dvs f .one l).sq, .int .i64 (chn f .id l).a.sq] W fun e w' => e = .returned (.agg #[.int .i64 (lvR l f).n, .int .i64 (lvR l f).d]) ∧ Below W.heap.size W w' := fun W =>
    rLowest_nn _ _ W ⟨G.sq_nn _, by omega⟩ ⟨hpos, by omega⟩
  have q1 : wr (dvs f .one l).sq = (dvs f .one l).sq := wr_in (by have := G.sq_nn (dvs f .one l); omega)
  have q2 : wr (chn f .id l).a.sq = (chn f .id l).a.sq := wr_in (by omega)
  have HLW := hide hw
  have Q1 := hide q1
  have Q2 := hide q2
  obtain ⟨D, hD⟩ : ∃ D, dvs f .one l = D := ⟨_, rfl⟩
  obtain ⟨M, hM⟩ : ∃ M, (chn f .id l).a = M := ⟨_, rfl⟩
  obtain ⟨L, hL⟩ : ∃ L, lvR l f = L := ⟨_, rfl⟩
  rw [hD] at HTR HLW Q1
  rw [hM] at HTR HLW Q2
  rw [hL] at HLW ⊢
  clear hz hl h1 h8 hin hpos hw q1 q2 hD hM hL
  go_enter Tryz.func56, Tryz.ntmps56
  go_wp2_with fail
  obtain ⟨w1, e1, hb1, hz1, k0⟩ := box1 w #[.int .i64 0, .int .i64 0] 54
  rw [← e1]; clear e1
  refine (HTR.out _ (carry h (by repeat (first | with_reducible assumption | exact Below.refl _ _ | refine below_next (by with_reducible assumption) ?_)))).mono ?_
  rintro e w2 ⟨rfl, hb2⟩
  go_upto_region 2 with (fail)
  obtain ⟨w3, e3, hb3, hz3, k3⟩ := box1 w2 #[.int .i64 D.re, .int .i64 D.im, .int .i64 M.re, .int .i64 M.im] 25
  rw [← e3]; clear e3
  go_upto_region 4 with (fail)
  have c3 := over_blk k3 k3.lt
  refine wp_region_part 7 w3.heap.size (by kernel_rfl) (by kernel_rfl) ?_; simp only [List.take_succ_cons, List.take_zero, List.drop_succ_cons, List.drop_zero]; (repeat (first | go_big_quiet_step (first | (go_at_call 63; with_reducible first | exact over_call (Nat.le_refl _) (sqIn_any D Q1.out _) | exact over_call (Nat.le_refl _) (sqIn_any M Q2.out _)) | (go_at_call 75; with_reducible exact over_call (Nat.le_refl _) (HLW.out _))) | quiet_step (first | (go_at_call 63; with_reducible first | exact over_call (Nat.le_refl _) (sqIn_any D Q1.out _) | exact over_call (Nat.le_refl _) (sqIn_any M Q2.out _)) | (go_at_call 75; with_reducible exact over_call (Nat.le_refl _) (HLW.out _))))); refine wpQuiet_nil ?_; rintro W ⟨x, rfl⟩
  have hbY := over_below w3.heap.size w3 x
  generalize over w3.heap.size w3 x = Y at hbY ⊢
  clear c3
  have kR := carryK (w' := Y) k0 (by repeat (first | with_reducible assumption | exact Below.refl _ _ | refine below_next (by with_reducible assumption) ?_))
  have c5 := kR.cell
  have f5 := kR.frozen
  go_wp2_with fail
  have kX := blk2 (u0 := .int .i64 L.n) (u1 := .int .i64 L.d) kR
  have hX := below2 (u0 := .int .i64 L.n) (u1 := .int .i64 L.d) (show Below w.heap.size w Y from (by repeat (first | with_reducible assumption | exact Below.refl _ _ | refine below_next (by with_reducible assumption) ?_))) (Nat.le_refl w.heap.size)
  have cX := kX.cell
  clear c5 f5
  refine bodyPost_ret (v := .tuple #[.agg #[.int .i64 L.n, .int .i64 L.d], .int .i64 0]) (by simp [results, Tryz.results56, go_sem, cX]) rfl ?_
  exact ⟨rfl, hX⟩
end Go.Proofs.YtnndaipnfniciaaGreatDoor
