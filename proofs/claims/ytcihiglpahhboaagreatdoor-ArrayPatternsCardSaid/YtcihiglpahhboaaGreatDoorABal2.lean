/- Balloon of the program and of the reference: what they return. -/
import Derived.Test.YtcihiglpahhboaaGreatDoorABal
import Derived.Test.YtcihiglpahhboaaGreatDoorAPat3
namespace Go.Proofs.YtcihiglpahhboaaGreatDoor
open Go.RowKit Go.Shelf
set_option maxRecDepth 100000
/-- The bits of a balloon. -/
structure B8 where
  (r0 i0 r1 i1 r2 i2 r3 i3 r4 i4 r5 i5 r6 i6 r7 i7 : Nat)
def blO (f : Nat → G) : B8 := ⟨fl (f 0).re, fl (f 0).im, fl (f 1).re, fl (f 1).im, fl (f 2).re, fl (f 2).im, fl (f 3).re, fl (f 3).im, fl (f 4).re, fl (f 4).im, fl (f 5).re, fl (f 5).im, fl (f 6).re, fl (f 6).im, fl (f 7).re, fl (f 7).im⟩
theorem bcs_blO (f : Nat → G) : (bcs f 8).toArray = #[.complex .f32 (blO f).r0 (blO f).i0, .complex .f32 (blO f).r1 (blO f).i1, .complex .f32 (blO f).r2 (blO f).i2, .complex .f32 (blO f).r3 (blO f).i3, .complex .f32 (blO f).r4 (blO f).i4, .complex .f32 (blO f).r5 (blO f).i5, .complex .f32 (blO f).r6 (blO f).i6, .complex .f32 (blO f).r7 (blO f).i7] := rfl
theorem eqB8 (f : Nat → G) (hf : ∀ k, k < 8 → (f k).nrm ≤ 1600) (w : World) : (binOp .eql 84 (.agg #[.complex .f32 (blO f).r0 (blO f).i0, .complex .f32 (blO f).r1 (blO f).i1, .complex .f32 (blO f).r2 (blO f).i2, .complex .f32 (blO f).r3 (blO f).i3, .complex .f32 (blO f).r4 (blO f).i4, .complex .f32 (blO f).r5 (blO f).i5, .complex .f32 (blO f).r6 (blO f).i6, .complex .f32 (blO f).r7 (blO f).i7]) (.agg #[.complex .f32 (blO f).r0 (blO f).i0, .complex .f32 (blO f).r1 (blO f).i1, .complex .f32 (blO f).r2 (blO f).i2, .complex .f32 (blO f).r3 (blO f).i3, .complex .f32 (blO f).r4 (blO f).i4, .complex .f32 (blO f).r5 (blO f).i5, .complex .f32 (blO f).r6 (blO f).i6, .complex .f32 (blO f).r7 (blO f).i7])).run Tryz.prog w = .ok (.bool true) w := eqBal f hf w
theorem blO_zero : blO (fun _ => .zero) = ⟨0, 0, 0, 0, 0, 0, 0, 0, 0, 0, 0, 0, 0, 0, 0, 0⟩ := by
  unfold blO
  rw [show (G.zero).re = 0 from rfl, show (G.zero).im = 0 from rfl, fl_zero]
set_option maxHeartbeats 4000000 in
theorem rBalloon_any (A : Option Addr) (m c : Nat) (l : List Src) (w : World) (hok : LOk l) (hR : Reads w w.heap.size 4 A m (srcs l)) :
    Calls Tryz.prog 53 #[.slice A m c] w fun e w' => e = .returned (.agg #[.complex .f32 (blO (prs l)).r0 (blO (prs l)).i0, .complex .f32 (blO (prs l)).r1 (blO (prs l)).i1, .complex .f32 (blO (prs l)).r2 (blO (prs l)).i2, .complex .f32 (blO (prs l)).r3 (blO (prs l)).i3, .complex .f32 (blO (prs l)).r4 (blO (prs l)).i4, .complex .f32 (blO (prs l)).r5 (blO (prs l)).i5, .complex .f32 (blO (prs l)).r6 (blO (prs l)).i6, .complex .f32 (blO (prs l)).r7 (blO (prs l)).i7]) ∧ Below w.heap.size w w' := by
  have HO := hide hok
  have hst := fun (x y : Nat) (a : Addr) (W : World) (m : Mode) => run_store Tryz.prog W a (.complex .f32 x y) m rfl
  clear hok
  go_enter Tryz.func53, Tryz.ntmps53
  go_upto_region 2 with (fail)
  obtain ⟨w1, e1, hb1, hz1, k0, k1⟩ := box2 w #[.complex .f32 0 0, .complex .f32 0 0, .complex .f32 0 0, .complex .f32 0 0, .complex .f32 0 0, .complex .f32 0 0, .complex .f32 0 0, .complex .f32 0 0] #[.complex .f32 0 0, .complex .f32 0 0, .complex .f32 0 0, .complex .f32 0 0, .complex .f32 0 0, .complex .f32 0 0, .complex .f32 0 0, .complex .f32 0 0] 84 84
  rw [← e1]; clear e1
  go_wp2_with fail
  go_loopw [4] (fun i wr => ∃ k : Nat, k ≤ 8 ∧ i = .int .i64 k ∧ Blk wr w.heap.size 84 #[.complex .f32 0 0, .complex .f32 0 0, .complex .f32 0 0, .complex .f32 0 0, .complex .f32 0 0, .complex .f32 0 0, .complex .f32 0 0, .complex .f32 0 0] ∧ Blk wr (w.heap.size + 1) 84 (bcs (prs l) k).toArray ∧ Below w.heap.size w wr) (fun i _ => 8 - (intOf i).toNat)
  case atStart => exact ⟨0, by omega, rfl, k0, k1, hb1⟩
  case round =>
    rename World => wo
    clear k0 k1 hb1
    obtain ⟨k, hk, rfl, k0, k1, hb⟩ := hrel
    by_cases hlt : k < 8
    · have hki : (k : Int) < 8 := by omega
      have hpn := prs_in HO.out k
      obtain ⟨z, hz⟩ : ∃ z, prs l k = z := ⟨_, rfl⟩
      rw [hz] at hpn
      have HZ := hide hz
      have fr := fl_ok (n := z.re) (by unfold G.nrm at hpn; omega)
      have fi := fl_ok (n := z.im) (by unfold G.nrm at hpn; omega)
      obtain ⟨p, hp⟩ : ∃ p, floatOfInt .f32 z.re = p := ⟨_, rfl⟩
      obtain ⟨q, hq⟩ : ∃ q, floatOfInt .f32 z.im = q := ⟨_, rfl⟩
      obtain ⟨a, ha⟩ : ∃ a, fl z.re = a := ⟨_, rfl⟩
      obtain ⟨b, hb'⟩ : ∃ b, fl z.im = b := ⟨_, rfl⟩
      have HBC : Hid (bc z = .complex .f32 a b) := by show _ = _; unfold bc; rw [ha, hb']
      have v1 : ∀ W, (convert 3 152 (.int .i64 z.re)).run Tryz.prog W = .ok (.float .f32 p) W := fun W => by rw [← hp]; exact run_convert_int_float W _ _ _ _ _ (by rw [Tryz.underlying3]; rfl) Tryz.underlying152
      have v2 : ∀ W, (convert 3 152 (.int .i64 z.im)).run Tryz.prog W = .ok (.float .f32 q) W := fun W => by rw [← hq]; exact run_convert_int_float W _ _ _ _ _ (by rw [Tryz.underlying3]; rfl) Tryz.underlying152
      have v3 : ∀ W, (binOp .quo 152 (.float .f32 p) (.float .f32 1098907648)).run Tryz.prog W = .ok (.float .f32 a) W := fun W => run_float_arith W .quo _ _ _ _ _ (by rw [← hp, ← ha]; exact fr.1)
      have v4 : ∀ W, (binOp .quo 152 (.float .f32 q) (.float .f32 1098907648)).run Tryz.prog W = .ok (.float .f32 b) W := fun W => run_float_arith W .quo _ _ _ _ _ (by rw [← hq, ← hb']; exact fi.1)
      have v5 : ∀ ts t W, (Builtin.complex_ ts t #[.float .f32 a, .float .f32 b]).run Tryz.prog W = .ok (.complex .f32 a b) W := fun _ _ _ => rfl
      clear hp hq ha hb' fr fi hpn hz
      go_wp2_with fail
      refine (rPressure_any A m c l k _ hlt HO.out (carry hR hb)).mono ?_
      rintro e w2 ⟨rfl, hb2⟩
      rw [HZ.out]
      have k02 := carryK k0 hb2
      have k12 := carryK k1 hb2
      have hb02 := below_next hb hb2
      clear k0 k1 hb hb2
      go_upto_region 6 with (fail)
      obtain ⟨w3, e3, hb3, hz3, kZ⟩ := box1 w2 #[.int .i64 z.re, .int .i64 z.im] 54
      rw [← e3]; clear e3
      have k03 := carryK k02 hb3
      have k13 := carryK k12 hb3
      have hb03 := below_next hb02 hb3
      have cZ := kZ.cell
      have f1 := k13.frozen
      obtain ⟨v0, hv0⟩ : ∃ v, w3.cell? ⟨w.heap.size + 1, k, none⟩ = some v := by rw [k13.cell, List.getElem?_toArray]; exact ⟨_, List.getElem?_eq_getElem (by rw [bcs_len]; omega)⟩
      have kX := bcs_set hlt k13
      rw [HZ.out, HBC.out] at kX
      have kX0 := k03.far (p := ⟨w.heap.size + 1, k, none⟩) (by show w.heap.size ≠ w.heap.size + 1; omega) (.complex .f32 a b)
      have hX := below_set hb03 (Nat.le_succ w.heap.size) (i := k) (.complex .f32 a b)
      have KX := hide kX
      have K0 := hide kX0
      have HX := hide hX
      clear k02 k12 hb02 hb3 k03 k13 hb03 kX kX0 hX
      go_wp2_with fail
      go_roundw
      case rel => exact ⟨k + 1, by omega, by go_num, K0.out, KX.out, HX.out⟩
      case measure => simp [intOf]; omega
    · obtain rfl : k = 8 := by omega
      rw [bcs_blO] at k1
      obtain ⟨B, hB⟩ : ∃ B, blO (prs l) = B := ⟨_, rfl⟩
      rw [hB] at k1
      have HB := hide hB
      clear hB
      have c1 := k1.cell
      have c0 := k0.cell
      have f0 := k0.frozen
      go_wp2_with fail
      with_reducible refine fins8 84 hb (Nat.le_refl w.heap.size) k0 (fun X hX kX => ?_)
      have cX := kX.cell
      refine bodyPost_ret (v := .agg #[.complex .f32 B.r0 B.i0, .complex .f32 B.r1 B.i1, .complex .f32 B.r2 B.i2, .complex .f32 B.r3 B.i3, .complex .f32 B.r4 B.i4, .complex .f32 B.r5 B.i5, .complex .f32 B.r6 B.i6, .complex .f32 B.r7 B.i7]) (by simp [results, Tryz.results53, go_sem, cX]) rfl ?_
      exact ⟨by rw [HB.out], hX⟩
set_option maxHeartbeats 4000000 in
theorem Balloon_any (A : Option Addr) (m c : Nat) (l : List Src) (w : World) (hR : Reads w w.heap.size 4 A m (srcs l)) (hV : Vr w) (hm : m ≤ 1000000) :
    Calls Tryz.prog 49 #[.slice A m c] w fun e w' => e = .returned (.tuple #[.agg #[.complex .f32 (blO (ptV l)).r0 (blO (ptV l)).i0, .complex .f32 (blO (ptV l)).r1 (blO (ptV l)).i1, .complex .f32 (blO (ptV l)).r2 (blO (ptV l)).i2, .complex .f32 (blO (ptV l)).r3 (blO (ptV l)).i3, .complex .f32 (blO (ptV l)).r4 (blO (ptV l)).i4, .complex .f32 (blO (ptV l)).r5 (blO (ptV l)).i5, .complex .f32 (blO (ptV l)).r6 (blO (ptV l)).i6, .complex .f32 (blO (ptV l)).r7 (blO (ptV l)).i7], .int .i64 (lstErr l)]) ∧ Below w.heap.size w w' := by
  have hst := fun (x y : Nat) (a : Addr) (W : World) (m : Mode) => run_store Tryz.prog W a (.complex .f32 x y) m rfl
  by_cases h0 : lstErr l = 0
  · have HO := hide (lst_ok h0)
    have t0 : (lstErr l != 0) = false := by rw [h0]; rfl
    have HE := hide h0
    have HPT := hide (ptV_ok h0)
    clear h0
    go_enter Tryz.func49, Tryz.ntmps49
    go_upto_region 2 with (fail)
    obtain ⟨w1, e1, hb1, hz1, k0, k1⟩ := box2 w #[.complex .f32 0 0, .complex .f32 0 0, .complex .f32 0 0, .complex .f32 0 0, .complex .f32 0 0, .complex .f32 0 0, .complex .f32 0 0, .complex .f32 0 0] #[.complex .f32 0 0, .complex .f32 0 0, .complex .f32 0 0, .complex .f32 0 0, .complex .f32 0 0, .complex .f32 0 0, .complex .f32 0 0, .complex .f32 0 0] 84 84
    rw [← e1]; clear e1
    go_wp2_with fail
    refine (CheckSources_any A m c l _ (carry hR hb1) (by omega)).mono ?_
    rintro e w2 ⟨rfl, hb2⟩
    have k02 := carryK k0 hb2
    have k12 := carryK k1 hb2
    have hb02 := below_next hb1 hb2
    clear k0 k1 hb1 hb2
    go_wp2_with fail
    refine (pattern_any A m c l _ HO.out (carry hR hb02) (hV.carry hb02)).mono ?_
    rintro e w3 ⟨rfl, hb3⟩
    have k03 := carryK k02 hb3
    have k13 := carryK k12 hb3
    have hb03 := below_next hb02 hb3
    clear k02 k12 hb02 hb3
    go_wp2_with fail
    go_loopw [16] (fun i wr => ∃ k : Nat, k ≤ 8 ∧ i = .int .i64 k ∧ Blk wr w.heap.size 84 #[.complex .f32 0 0, .complex .f32 0 0, .complex .f32 0 0, .complex .f32 0 0, .complex .f32 0 0, .complex .f32 0 0, .complex .f32 0 0, .complex .f32 0 0] ∧ Blk wr (w.heap.size + 1) 84 (bcs (prs l) k).toArray ∧ Below w.heap.size w wr) (fun i _ => 8 - (intOf i).toNat)
    case atStart => exact ⟨0, by omega, rfl, k03, k13, hb03⟩
    case round =>
      rename World => wo
      clear k03 k13 hb03
      obtain ⟨k, hk, rfl, k02, k12, hb02⟩ := hrel
      by_cases hlt : k < 8
      · have hki : (k : Int) < 8 := by omega
        have ri : ∀ W, (Instr.index 55 (.agg #[.int .i64 (prs l 0).re, .int .i64 (prs l 0).im, .int .i64 (prs l 1).re, .int .i64 (prs l 1).im, .int .i64 (prs l 2).re, .int .i64 (prs l 2).im, .int .i64 (prs l 3).re, .int .i64 (prs l 3).im, .int .i64 (prs l 4).re, .int .i64 (prs l 4).im, .int .i64 (prs l 5).re, .int .i64 (prs l 5).im, .int .i64 (prs l 6).re, .int .i64 (prs l 6).im, .int .i64 (prs l 7).re, .int .i64 (prs l 7).im]) (.int .i64 (k : Int))).run Tryz.prog W = .ok (.agg #[.int .i64 (prs l k).re, .int .i64 (prs l k).im]) W := fun W => pat_index (prs l) hlt W
        have hpn := prs_in HO.out k
        obtain ⟨z, hz⟩ : ∃ z, prs l k = z := ⟨_, rfl⟩
        rw [hz] at hpn
        have HZ := hide hz
        have fr := fl_ok (n := z.re) (by unfold G.nrm at hpn; omega)
        have fi := fl_ok (n := z.im) (by unfold G.nrm at hpn; omega)
        obtain ⟨p, hp⟩ : ∃ p, floatOfInt .f32 z.re = p := ⟨_, rfl⟩
        obtain ⟨q, hq⟩ : ∃ q, floatOfInt .f32 z.im = q := ⟨_, rfl⟩
        obtain ⟨a, ha⟩ : ∃ a, fl z.re = a := ⟨_, rfl⟩
        obtain ⟨b, hb'⟩ : ∃ b, fl z.im = b := ⟨_, rfl⟩
        have HBC : Hid (bc z = .complex .f32 a b) := by show _ = _; unfold bc; rw [ha, hb']
        have v1 : ∀ W, (convert 3 152 (.int .i64 z.re)).run Tryz.prog W = .ok (.float .f32 p) W := fun W => by rw [← hp]; exact run_convert_int_float W _ _ _ _ _ (by rw [Tryz.underlying3]; rfl) Tryz.underlying152
        have v2 : ∀ W, (convert 3 152 (.int .i64 z.im)).run Tryz.prog W = .ok (.float .f32 q) W := fun W => by rw [← hq]; exact run_convert_int_float W _ _ _ _ _ (by rw [Tryz.underlying3]; rfl) Tryz.underlying152
        have v3 : ∀ W, (binOp .quo 152 (.float .f32 p) (.float .f32 1098907648)).run Tryz.prog W = .ok (.float .f32 a) W := fun W => run_float_arith W .quo _ _ _ _ _ (by rw [← hp, ← ha]; exact fr.1)
        have v4 : ∀ W, (binOp .quo 152 (.float .f32 q) (.float .f32 1098907648)).run Tryz.prog W = .ok (.float .f32 b) W := fun W => run_float_arith W .quo _ _ _ _ _ (by rw [← hq, ← hb']; exact fi.1)
        have v5 : ∀ ts t W, (Builtin.complex_ ts t #[.float .f32 a, .float .f32 b]).run Tryz.prog W = .ok (.complex .f32 a b) W := fun _ _ _ => rfl
        clear hp hq ha hb' fr fi hpn hz
        rw [HZ.out] at ri
        go_upto_region 8 with (fail)
        obtain ⟨w3, e3, hb3, hz3, kZ⟩ := box1 wo #[.int .i64 z.re, .int .i64 z.im] 54
        rw [← e3]; clear e3
        have k03 := carryK k02 hb3
        have k13 := carryK k12 hb3
        have hb03 := below_next hb02 hb3
        have cZ := kZ.cell
        have f1 := k13.frozen
        obtain ⟨v0, hv0⟩ : ∃ v, w3.cell? ⟨w.heap.size + 1, k, none⟩ = some v := by rw [k13.cell, List.getElem?_toArray]; exact ⟨_, List.getElem?_eq_getElem (by rw [bcs_len]; omega)⟩
        have kX := bcs_set hlt k13
        rw [HZ.out, HBC.out] at kX
        have kX0 := k03.far (p := ⟨w.heap.size + 1, k, none⟩) (by show w.heap.size ≠ w.heap.size + 1; omega) (.complex .f32 a b)
        have hX := below_set hb03 (Nat.le_succ w.heap.size) (i := k) (.complex .f32 a b)
        have KX := hide kX
        have K0 := hide kX0
        have HX := hide hX
        clear k02 k12 hb02 hb3 k03 k13 hb03 kX kX0 hX ri
        go_wp2_with fail
        go_roundw
        case rel => exact ⟨k + 1, by omega, by go_num, K0.out, KX.out, HX.out⟩
        case measure => simp [intOf]; omega
      · obtain rfl : k = 8 := by omega
        rw [bcs_blO] at k12
        obtain ⟨B, hB⟩ : ∃ B, blO (prs l) = B := ⟨_, rfl⟩
        rw [hB] at k12
        have HB := hide hB
        clear hB
        have c1 := k12.cell
        have c0 := k02.cell
        have f0 := k02.frozen
        go_wp2_with fail
        with_reducible refine fins8 84 hb02 (Nat.le_refl w.heap.size) k02 (fun X hX kX => ?_)
        have cX := kX.cell
        refine bodyPost_ret (v := .tuple #[.agg #[.complex .f32 B.r0 B.i0, .complex .f32 B.r1 B.i1, .complex .f32 B.r2 B.i2, .complex .f32 B.r3 B.i3, .complex .f32 B.r4 B.i4, .complex .f32 B.r5 B.i5, .complex .f32 B.r6 B.i6, .complex .f32 B.r7 B.i7], .int .i64 0]) (by simp [results, Tryz.results49, go_sem, cX]) rfl ?_
        exact ⟨by rw [HPT.out, HB.out, HE.out], hX⟩
  · have t0 : (lstErr l != 0) = true := by simpa using h0
    have HPT : Hid (blO (ptV l) = ⟨0, 0, 0, 0, 0, 0, 0, 0, 0, 0, 0, 0, 0, 0, 0, 0⟩) := by show _ = _; rw [ptV_bad h0, blO_zero]
    clear h0
    go_enter Tryz.func49, Tryz.ntmps49
    go_upto_region 2 with (fail)
    obtain ⟨w1, e1, hb1, hz1, k0, k1⟩ := box2 w #[.complex .f32 0 0, .complex .f32 0 0, .complex .f32 0 0, .complex .f32 0 0, .complex .f32 0 0, .complex .f32 0 0, .complex .f32 0 0, .complex .f32 0 0] #[.complex .f32 0 0, .complex .f32 0 0, .complex .f32 0 0, .complex .f32 0 0, .complex .f32 0 0, .complex .f32 0 0, .complex .f32 0 0, .complex .f32 0 0] 84 84
    rw [← e1]; clear e1
    go_wp2_with fail
    refine (CheckSources_any A m c l _ (carry hR hb1) (by omega)).mono ?_
    rintro e w2 ⟨rfl, hb2⟩
    have k02 := carryK k0 hb2
    have k12 := carryK k1 hb2
    have hb02 := below_next hb1 hb2
    clear k0 k1 hb1 hb2
    have c1 := k12.cell
    have c0 := k02.cell
    have f0 := k02.frozen
    go_wp2_with fail
    with_reducible refine fins8 84 hb02 (Nat.le_refl w.heap.size) k02 (fun X hX kX => ?_)
    have cX := kX.cell
    refine bodyPost_ret (v := .tuple #[.agg #[.complex .f32 0 0, .complex .f32 0 0, .complex .f32 0 0, .complex .f32 0 0, .complex .f32 0 0, .complex .f32 0 0, .complex .f32 0 0, .complex .f32 0 0], .int .i64 (lstErr l)]) (by simp [results, Tryz.results49, go_sem, cX]) rfl ?_
    exact ⟨by rw [HPT.out], hX⟩
end Go.Proofs.YtcihiglpahhboaaGreatDoor
