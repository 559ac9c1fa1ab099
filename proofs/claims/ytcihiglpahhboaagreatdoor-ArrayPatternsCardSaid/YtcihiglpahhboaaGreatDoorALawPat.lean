/- The law ArrayPatterns: for all arguments it returns true. -/
import Derived.Test.YtcihiglpahhboaaGreatDoorAAwk
import Derived.Test.YtcihiglpahhboaaGreatDoorABal2
import Derived.Test.YtcihiglpahhboaaGreatDoorALawG
import Derived.Test.YtcihiglpahhboaaGreatDoorABksP
import Derived.Deep.DeepCutAuto
namespace Go.Proofs.YtcihiglpahhboaaGreatDoor
open Go.RowKit Go.Shelf
set_option maxRecDepth 100000
theorem own_others {w w' : World} {base size n : Nat} {e : TypeId} {v : Value} {xs : List Value} (h : w.ownsRow base e size v n xs) (hk : ∀ g cs, base ≤ g → Blk w g e cs → Blk w' g e cs) : w'.ownsRow base e size v n xs :=
  ⟨h.1, h.2.imp id fun ⟨g, cap, cur, e1, hb, hh, r⟩ => ⟨g, cap, cur, e1, hb, hk g cur hb hh, r⟩⟩
theorem reflPT (f : Nat → G) (w : World) : (binOp .eql 55 (.agg #[.int .i64 (f 0).re, .int .i64 (f 0).im, .int .i64 (f 1).re, .int .i64 (f 1).im, .int .i64 (f 2).re, .int .i64 (f 2).im, .int .i64 (f 3).re, .int .i64 (f 3).im, .int .i64 (f 4).re, .int .i64 (f 4).im, .int .i64 (f 5).re, .int .i64 (f 5).im, .int .i64 (f 6).re, .int .i64 (f 6).im, .int .i64 (f 7).re, .int .i64 (f 7).im]) (.agg #[.int .i64 (f 0).re, .int .i64 (f 0).im, .int .i64 (f 1).re, .int .i64 (f 1).im, .int .i64 (f 2).re, .int .i64 (f 2).im, .int .i64 (f 3).re, .int .i64 (f 3).im, .int .i64 (f 4).re, .int .i64 (f 4).im, .int .i64 (f 5).re, .int .i64 (f 5).im, .int .i64 (f 6).re, .int .i64 (f 6).im, .int .i64 (f 7).re, .int .i64 (f 7).im])).run Tryz.prog w = .ok (.bool true) w := by
  have hh : (Op.equalIn 10000 55 (.agg #[.int .i64 (f 0).re, .int .i64 (f 0).im, .int .i64 (f 1).re, .int .i64 (f 1).im, .int .i64 (f 2).re, .int .i64 (f 2).im, .int .i64 (f 3).re, .int .i64 (f 3).im, .int .i64 (f 4).re, .int .i64 (f 4).im, .int .i64 (f 5).re, .int .i64 (f 5).im, .int .i64 (f 6).re, .int .i64 (f 6).im, .int .i64 (f 7).re, .int .i64 (f 7).im]) (.agg #[.int .i64 (f 0).re, .int .i64 (f 0).im, .int .i64 (f 1).re, .int .i64 (f 1).im, .int .i64 (f 2).re, .int .i64 (f 2).im, .int .i64 (f 3).re, .int .i64 (f 3).im, .int .i64 (f 4).re, .int .i64 (f 4).im, .int .i64 (f 5).re, .int .i64 (f 5).im, .int .i64 (f 6).re, .int .i64 (f 6).im, .int .i64 (f 7).re, .int .i64 (f 7).im])).run Tryz.prog w = .ok true w := by
    obtain ⟨i, hi⟩ := info_gaussB
    have c2 : Tryz.prog.cellsOf 54 = 2 := by kernel_rfl
    have g : ∀ z : G, (Op.equalIn 9999 54 (.agg #[.int .i64 z.re, .int .i64 z.im]) (.agg #[.int .i64 z.re, .int .i64 z.im])).run Tryz.prog w = .ok true w := fun z => by rw [gEqD z z w]; simp
    rw [show (10000 : Nat) = 9999 + 1 from rfl, run_equalIn_array w 9999 _ _ Tryz.underlying55 hi, c2]
    simp only [show List.range 8 = [0, 1, 2, 3, 4, 5, 6, 7] from rfl, Op.eqItems, go_sem]
    simp [go_sem]
  simp only [binOp, Op.equal, Op.maxDepth]
  simp [hh, go_sem]
theorem reflRt (v : Rt) (w : World) : (binOp .eql 88 (.agg #[.int .i64 v.n, .int .i64 v.d]) (.agg #[.int .i64 v.n, .int .i64 v.d])).run Tryz.prog w = .ok (.bool true) w := by
  have hh : (Op.equalIn 10000 88 (.agg #[.int .i64 v.n, .int .i64 v.d]) (.agg #[.int .i64 v.n, .int .i64 v.d])).run Tryz.prog w = .ok true w := by
    rw [show (10000 : Nat) = 9999 + 1 from rfl, run_equalIn_struct w 9999 88 _ _ (by kernel_rfl) (by kernel_rfl)]
    simp [Program.fieldsOf, Tryz.underlying88, Op.eqFields, go_sem, run_equalIn_int _ _ _ _ _ _ _ Tryz.underlying3]
  simp only [binOp, Op.equal, Op.maxDepth]
  simp [hh, go_sem]
theorem nulV_is {l : List Src} (h : lstErr l = 0) : nulV l = nulK l 8 := by unfold nulV; rw [if_pos h]
theorem nulV_len (l : List Src) : (nulV l).length ≤ 8 := by
  unfold nulV
  split
  · exact nulK_len l 8
  · simp
theorem ptV_in (l : List Src) (k : Nat) : (ptV l k).nrm ≤ 1600 := by
  unfold ptV
  split
  · exact prs_in (lst_ok ‹_›) k
  · simp [G.nrm, G.zero]
theorem drE_bad {l : List Src} {d : Int} (h : ¬ prE l d = 0) : drE l d = prE l d := by unfold drE; rw [if_neg h]
theorem drV_bad {l : List Src} {d : Int} (h : ¬ prE l d = 0) : drV l d = ⟨0, 0⟩ := by unfold drV; rw [drE_bad h, if_neg h]
set_option maxHeartbeats 8000000 in
theorem lawPat_any (A : Option Addr) (m c : Nat) (l : List Src) (d : Int) (w : World) (hR : Reads w w.heap.size 4 A m (srcs l)) (hV : Vr w) (hT : Tens w) :
    Calls Tryz.prog 8 #[.slice A m c, .int .i64 d] w fun e w' => e = .returned (.bool true) ∧ Below w.heap.size w w' := by
  by_cases hs : shrt m 8 = true
  · have hm : m ≤ 17 := by unfold shrt at hs; simp at hs; omega
    have HSH := hide hs
    clear hs
    obtain ⟨F, hF⟩ : ∃ F, ptV l = F := ⟨_, rfl⟩
    obtain ⟨B, hB⟩ : ∃ B, blO (ptV l) = B := ⟨_, rfl⟩
    obtain ⟨T, hTV⟩ : ∃ T, drV l d = T := ⟨_, rfl⟩
    have q1 := reflPT F
    have q2 : ∀ W, (binOp .eql 84 (.agg #[.complex .f32 B.r0 B.i0, .complex .f32 B.r1 B.i1, .complex .f32 B.r2 B.i2, .complex .f32 B.r3 B.i3, .complex .f32 B.r4 B.i4, .complex .f32 B.r5 B.i5, .complex .f32 B.r6 B.i6, .complex .f32 B.r7 B.i7]) (.agg #[.complex .f32 B.r0 B.i0, .complex .f32 B.r1 B.i1, .complex .f32 B.r2 B.i2, .complex .f32 B.r3 B.i3, .complex .f32 B.r4 B.i4, .complex .f32 B.r5 B.i5, .complex .f32 B.r6 B.i6, .complex .f32 B.r7 B.i7])).run Tryz.prog W = .ok (.bool true) W := fun W => by rw [← hB]; exact eqB8 (ptV l) (fun k _ => ptV_in l k) W
    have q3 := reflRt T
    have PC := hide (fun (A' : Option Addr) (m' c' : Nat) (W : World) h1 h2 h3 => Pattern_any A' m' c' l W h1 h2 h3)
    have BC := hide (fun (A' : Option Addr) (m' c' : Nat) (W : World) h1 h2 h3 => Balloon_any A' m' c' l W h1 h2 h3)
    have DC := hide (fun (A' : Option Addr) (m' c' : Nat) (W : World) h1 h2 h3 => Directivity_any A' m' c' l d W h1 h2 h3)
    rw [hF] at PC
    rw [hB] at BC
    rw [hTV] at DC
    have Q1 := hide q1
    have Q2 := hide q2
    have Q3 := hide q3
    clear q1 q2 q3
    have HF := hide hF
    have HB := hide hB
    have HTV := hide hTV
    clear hF hB hTV
    have hst := fun (x y : Nat) (a : Addr) (W : World) (m : Mode) => run_store Tryz.prog W a (.complex .f32 x y) m rfl
    go_enter Tryz.func8, Tryz.ntmps8
    go_wp2_with fail
    refine (awake_any _ hV hT).mono ?_
    rintro e w2 ⟨rfl, hb2⟩
    go_wp2_with (go_at_call 18; refine (short_any _ _ _ _ _).mono ?_; rintro e W' ⟨rfl, rfl⟩; rw [HSH.out])
    refine (own_any A m c l _ (carry hR (by repeat (first | with_reducible assumption | exact Below.refl _ _ | refine below_next (by with_reducible assumption) ?_))) (by omega)).mono ?_
    rintro e w3 ⟨A3, c3, rfl, hR3, hb3⟩
    go_wp2_with fail
    refine (PC.out A3 m c3 _ hR3 (hV.carry (by repeat (first | with_reducible assumption | exact Below.refl _ _ | refine below_next (by with_reducible assumption) ?_))) (by omega)).mono ?_
    rintro e w4 ⟨rfl, hb4⟩
    go_upto_region 4 with (fail)
    obtain ⟨w5, e5, hb5, hz5, k5⟩ := box1 w4 #[.int .i64 (F 0).re, .int .i64 (F 0).im, .int .i64 (F 1).re, .int .i64 (F 1).im, .int .i64 (F 2).re, .int .i64 (F 2).im, .int .i64 (F 3).re, .int .i64 (F 3).im, .int .i64 (F 4).re, .int .i64 (F 4).im, .int .i64 (F 5).re, .int .i64 (F 5).im, .int .i64 (F 6).re, .int .i64 (F 6).im, .int .i64 (F 7).re, .int .i64 (F 7).im] 55
    rw [← e5]; clear e5
    go_wp2_with fail
    refine (own_any A m c l _ (carry hR (by repeat (first | with_reducible assumption | exact Below.refl _ _ | refine below_next (by with_reducible assumption) ?_))) (by omega)).mono ?_
    rintro e w6 ⟨A6, c6, rfl, hR6, hb6⟩
    go_wp2_with fail
    refine (BC.out A6 m c6 _ hR6 (hV.carry (by repeat (first | with_reducible assumption | exact Below.refl _ _ | refine below_next (by with_reducible assumption) ?_))) (by omega)).mono ?_
    rintro e w7 ⟨rfl, hb7⟩
    go_upto_region 5 with (fail)
    obtain ⟨w8, e8, hb8, hz8, k7⟩ := box1 w7 #[.complex .f32 B.r0 B.i0, .complex .f32 B.r1 B.i1, .complex .f32 B.r2 B.i2, .complex .f32 B.r3 B.i3, .complex .f32 B.r4 B.i4, .complex .f32 B.r5 B.i5, .complex .f32 B.r6 B.i6, .complex .f32 B.r7 B.i7] 84
    rw [← e8]; clear e8
    go_wp2_with fail
    refine (own_any A m c l _ (carry hR (by repeat (first | with_reducible assumption | exact Below.refl _ _ | refine below_next (by with_reducible assumption) ?_))) (by omega)).mono ?_
    rintro e w9 ⟨A9, c9, rfl, hR9, hb9⟩
    go_wp2_with fail
    refine (Nulls_any A9 m c9 l _ hR9 (hV.carry (by repeat (first | with_reducible assumption | exact Below.refl _ _ | refine below_next (by with_reducible assumption) ?_))) (by omega)).mono ?_
    rintro e w10 ⟨A10, m10, c10, rfl, hR10, hb10⟩
    go_wp2_with fail
    refine (own_any A m c l _ (carry hR (by repeat (first | with_reducible assumption | exact Below.refl _ _ | refine below_next (by with_reducible assumption) ?_))) (by omega)).mono ?_
    rintro e w11 ⟨A11, c11, rfl, hR11, hb11⟩
    go_wp2_with fail
    refine (DC.out A11 m c11 _ hR11 (hV.carry (by repeat (first | with_reducible assumption | exact Below.refl _ _ | refine below_next (by with_reducible assumption) ?_))) (by omega)).mono ?_
    rintro e w12 ⟨rfl, hb12⟩
    go_upto_region 7 with (fail)
    obtain ⟨w13, e13, hb13, hz13, k11⟩ := box1 w12 #[.int .i64 T.n, .int .i64 T.d] 88
    rw [← e13]; clear e13
    go_wp2_with fail
    refine (rCheckSources_any A m c l _ (carry hR (by repeat (first | with_reducible assumption | exact Below.refl _ _ | refine below_next (by with_reducible assumption) ?_))) (by omega)).mono ?_
    rintro e w14 ⟨rfl, hb14⟩
    go_upto_region 9 with (first | (go_at_call 22; (first | (with_reducible (refine (rFirst_any _ _ _ _ _ _ (reads2 _ _ _ _) (by omega)).mono ?_)) | (with_reducible (refine (rFirst_any _ _ _ _ _ _ (Reads.drew (reads2 _ _ _ _)) (by omega)).mono ?_))); rintro e W' ⟨rfl, rfl⟩) | (go_at_call 41; refine (rCheckDirection_any _ _).mono ?_; rintro e W' ⟨rfl, rfl⟩))
    obtain ⟨w15, e15, hb15, hz15, kx⟩ := box1 w14 #[.int .i64 (lstErr l), .int .i64 (rng d 0 7)] 3
    rw [← e15]; clear e15 kx
    go_upto_region 13 with (fail)
    obtain ⟨w16, e16, hb16, hz16, k15, k16, k18⟩ := box3 w15 #[.int .i64 0, .int .i64 0, .int .i64 0, .int .i64 0, .int .i64 0, .int .i64 0, .int .i64 0, .int .i64 0, .int .i64 0, .int .i64 0, .int .i64 0, .int .i64 0, .int .i64 0, .int .i64 0, .int .i64 0, .int .i64 0] #[.complex .f32 0 0, .complex .f32 0 0, .complex .f32 0 0, .complex .f32 0 0, .complex .f32 0 0, .complex .f32 0 0, .complex .f32 0 0, .complex .f32 0 0] #[.int .i64 0, .int .i64 0] 55 84 88
    rw [← e16]; clear e16
    obtain ⟨g, hg⟩ : ∃ g, w15.heap.size = g := ⟨_, rfl⟩
    rw [hg] at k15 k16 k18 ⊢
    have hb015 : Below w.heap.size w w15 := (by repeat (first | with_reducible assumption | exact Below.refl _ _ | refine below_next (by with_reducible assumption) ?_))
    have hg0 : w.heap.size ≤ g := by rw [← hg]; exact hb015.size
    have hR15 := carry hR (w' := w15) (by repeat (first | with_reducible assumption | exact Below.refl _ _ | refine below_next (by with_reducible assumption) ?_))
    have R15 := carry hR10 (w' := w15) (by repeat (first | with_reducible assumption | exact Below.refl _ _ | refine below_next (by with_reducible assumption) ?_))
    have K5 := carryK k5 (w' := w15) (by repeat (first | with_reducible assumption | exact Below.refl _ _ | refine below_next (by with_reducible assumption) ?_))
    have K7 := carryK k7 (w' := w15) (by repeat (first | with_reducible assumption | exact Below.refl _ _ | refine below_next (by with_reducible assumption) ?_))
    have K11 := carryK k11 (w' := w15) (by repeat (first | with_reducible assumption | exact Below.refl _ _ | refine below_next (by with_reducible assumption) ?_))
    have L5 := K5.lt
    have L7 := K7.lt
    have L11 := K11.lt
    have hb016 := below_next hb015 hb16
    have K5 := carryK K5 hb16
    have K7 := carryK K7 hb16
    have K11 := carryK K11 hb16
    have hRA := carry hR15 hb16
    have R10b : Reads w16 g 1 A10 m10 (ints (nulV l)) := by
      have := R15.below hb16
      rwa [hg] at this
    have hRAb : Reads w16 g 4 A m (srcs l) := by
      have := hR15.below hb16
      rwa [hg] at this
    rw [hg] at L5 L7 L11
    have hgz : g + 3 ≤ w16.heap.size := by rw [← hg]; exact hz16
    clear hb2 hb3 hb4 hb5 hb6 hb7 hb8 hb9 hb10 hb11 hb12 hb13 hb14 hb15 hb16 hR3 hR6 hR9 hR10 hR11 k5 k7 k11 hV hT hR hz5 hz8 hz13 hz15 hz16 hg PC BC DC hb015 hR15 R15
    go_upto_if 60 with (fail)
    go_cut [17] from 59 to 66 (fun s17 wx => ∃ v : Value, v = s17 ∧ wx.ownsRow (g + 3) 3 1 v (nulV l).length (ints (nulV l)) ∧ Blk wx g 55 #[.int .i64 (F 0).re, .int .i64 (F 0).im, .int .i64 (F 1).re, .int .i64 (F 1).im, .int .i64 (F 2).re, .int .i64 (F 2).im, .int .i64 (F 3).re, .int .i64 (F 3).im, .int .i64 (F 4).re, .int .i64 (F 4).im, .int .i64 (F 5).re, .int .i64 (F 5).im, .int .i64 (F 6).re, .int .i64 (F 6).im, .int .i64 (F 7).re, .int .i64 (F 7).im] ∧ Blk wx (g + 1) 84 #[.complex .f32 B.r0 B.i0, .complex .f32 B.r1 B.i1, .complex .f32 B.r2 B.i2, .complex .f32 B.r3 B.i3, .complex .f32 B.r4 B.i4, .complex .f32 B.r5 B.i5, .complex .f32 B.r6 B.i6, .complex .f32 B.r7 B.i7] ∧ Blk wx (g + 2) 88 #[.int .i64 0, .int .i64 0] ∧ Below g w16 wx)
    case first =>
      by_cases h0 : lstErr l = 0
      · have HO := hide (lst_ok h0)
        have hptv := ptV_ok h0
        have t0 : (lstErr l == 0) = true := by rw [h0]; rfl
        have HN := hide (nulV_is h0)
        have PC := hide (fun (W : World) h => rPattern_any A m c l W (lst_ok h0) h)
        have BC := hide (fun (W : World) h => rBalloon_any A m c l W (lst_ok h0) h)
        rw [← hptv, HF.out] at PC
        rw [← hptv, HB.out] at BC
        clear h0 hptv
        go_wp2_with fail
        refine (PC.out _ hRA).mono ?_
        rintro e w17 ⟨rfl, hb17⟩
        go_wp2_with fail
        refine (BC.out _ (carry hRA hb17)).mono ?_
        rintro e w18 ⟨rfl, hb18⟩
        go_wp2_with fail
        refine (rNulls_any A m c l _ HO.out (carry (carry hRA hb17) hb18)).mono ?_
        rintro e w19 ⟨v19, rfl, ho19, hb19⟩
        have hb1618 : Below w16.heap.size w16 w18 := (by repeat (first | with_reducible assumption | exact Below.refl _ _ | refine below_next (by with_reducible assumption) ?_))
        have hb1619 : Below w16.heap.size w16 w19 := below_next hb1618 hb19
        have k15b := carryK k15 hb1619
        have k16b := carryK k16 hb1619
        have k18b := carryK k18 hb1619
        have hbg : Below g w16 w19 := hb1619.mono (by omega)
        clear k15 k16 k18 hb17 hb18 hb19 K5 K7 K11
        have c15 := k15b.cell
        have f15 := k15b.frozen
        have c16 := k16b.cell
        have f16 := k16b.frozen
        obtain ⟨wB, eB, kB, _, hO1, hO2⟩ := sets16 w19 g 55 (.int .i64 0) (.int .i64 0) (.int .i64 0) (.int .i64 0) (.int .i64 0) (.int .i64 0) (.int .i64 0) (.int .i64 0) (.int .i64 0) (.int .i64 0) (.int .i64 0) (.int .i64 0) (.int .i64 0) (.int .i64 0) (.int .i64 0) (.int .i64 0) (.int .i64 (F 0).re) (.int .i64 (F 0).im) (.int .i64 (F 1).re) (.int .i64 (F 1).im) (.int .i64 (F 2).re) (.int .i64 (F 2).im) (.int .i64 (F 3).re) (.int .i64 (F 3).im) (.int .i64 (F 4).re) (.int .i64 (F 4).im) (.int .i64 (F 5).re) (.int .i64 (F 5).im) (.int .i64 (F 6).re) (.int .i64 (F 6).im) (.int .i64 (F 7).re) (.int .i64 (F 7).im) k15b
        obtain ⟨wC, eC, kC, _, hO3, hO4⟩ := sets8 wB (g + 1) 84 (.complex .f32 0 0) (.complex .f32 0 0) (.complex .f32 0 0) (.complex .f32 0 0) (.complex .f32 0 0) (.complex .f32 0 0) (.complex .f32 0 0) (.complex .f32 0 0) (.complex .f32 B.r0 B.i0) (.complex .f32 B.r1 B.i1) (.complex .f32 B.r2 B.i2) (.complex .f32 B.r3 B.i3) (.complex .f32 B.r4 B.i4) (.complex .f32 B.r5 B.i5) (.complex .f32 B.r6 B.i6) (.complex .f32 B.r7 B.i7) (hO1 _ _ _ (by omega) k16b)
        have kD := hO3 _ _ _ (by omega) (hO1 _ _ _ (by omega) k18b)
        have kB' := hO3 _ _ _ (by omega) kB
        have hbC := hO4 g w16 (by omega) (hO2 g w16 (Nat.le_refl _) hbg)
        have hoC : wC.ownsRow (g + 3) 3 1 v19 (nulV l).length (ints (nulV l)) := by
          rw [HN.out]
          refine own_others (ho19.weaken (by have := hb1618.size; omega)) fun g' cs hg' h => hO3 _ _ _ (by omega) (hO1 _ _ _ (by omega) h)
        go_wp2_with fail
        rw [← eB, ← eC]
        go_meet
        exact ⟨v19, rfl, hoC, kB', kC, kD, hbC⟩
      · have t0 : (lstErr l == 0) = false := by simpa using h0
        have HFZ : Hid (F = fun _ => .zero) := by show _ = _; rw [← HF.out, ptV_bad h0]
        have HBZ : Hid (B = ⟨0, 0, 0, 0, 0, 0, 0, 0, 0, 0, 0, 0, 0, 0, 0, 0⟩) := by show _ = _; rw [← HB.out, ptV_bad h0, blO_zero]
        have HN : Hid (nulV l = []) := by show _ = _; unfold nulV; rw [if_neg h0]
        clear h0
        go_wp2_with fail
        go_meet
        exact ⟨_, rfl, by rw [HN.out]; exact World.ownsRow_nil _ _ _ _, by rw [HFZ.out]; exact k15, by rw [HBZ.out]; exact k16, k18, Below.refl _ _⟩
    case rest =>
      obtain ⟨v17, rfl, ho17, kF, kB, kD, hb17⟩ := hcut
      rename World => w17
      have K5b := K5.below hb17 L5
      have K7b := K7.below hb17 L7
      have K11b := K11.below hb17 L11
      have R10c := R10b.below hb17
      have hRAc := hRAb.below hb17
      have hz17 := hb17.size
      have hb017 : Below w.heap.size w w17 := hb016.trans (hb17.mono hg0)
      clear k15 k16 k18 K5 K7 K11 hb17 R10b hRAb hRA hb016
      go_upto_if 68 with (fail)
      go_cut [14] from 67 to 74 (fun s14 wx => s14 = .int .i64 (drE l d) ∧ wx.ownsRow (g + 3) 3 1 v17 (nulV l).length (ints (nulV l)) ∧ Blk wx g 55 #[.int .i64 (F 0).re, .int .i64 (F 0).im, .int .i64 (F 1).re, .int .i64 (F 1).im, .int .i64 (F 2).re, .int .i64 (F 2).im, .int .i64 (F 3).re, .int .i64 (F 3).im, .int .i64 (F 4).re, .int .i64 (F 4).im, .int .i64 (F 5).re, .int .i64 (F 5).im, .int .i64 (F 6).re, .int .i64 (F 6).im, .int .i64 (F 7).re, .int .i64 (F 7).im] ∧ Blk wx (g + 1) 84 #[.complex .f32 B.r0 B.i0, .complex .f32 B.r1 B.i1, .complex .f32 B.r2 B.i2, .complex .f32 B.r3 B.i3, .complex .f32 B.r4 B.i4, .complex .f32 B.r5 B.i5, .complex .f32 B.r6 B.i6, .complex .f32 B.r7 B.i7] ∧ Blk wx (g + 2) 88 #[.int .i64 T.n, .int .i64 T.d] ∧ Below g w17 wx)
      case first =>
        by_cases h0 : prE l d = 0
        · have t0 : (fnz [lstErr l, rng d 0 7] == 0) = true := by rw [show fnz [lstErr l, rng d 0 7] = 0 from h0]; rfl
          obtain ⟨hok, k, hk, rfl⟩ := prE_ok h0
          have HO := hide hok
          have DC := hide (fun (W : World) h => rDirectivity_any A m c l k W hk hok h)
          rw [HTV.out] at DC
          clear h0 hok
          go_wp2_with fail
          refine (DC.out _ (hRAc.more (by omega))).mono ?_
          rintro e w18 ⟨rfl, hb18⟩
          have ho18 := row_below ho17 hb18
          have kF8 := carryK kF hb18
          have kB8 := carryK kB hb18
          have kD8 := carryK kD hb18
          have hbg : Below g w17 w18 := hb18.mono (by omega)
          have hnr : v17.ownBlock ≠ some (g + 2) := fun e => by have := (ho17.lt _ e).1; omega
          have c8 := kD8.cell
          have f8 := kD8.frozen
          have kX := hide (blk2 (u0 := .int .i64 T.n) (u1 := .int .i64 T.d) kD8)
          have kFX := hide (far2 (u0 := .int .i64 T.n) (u1 := .int .i64 T.d) (g := g + 2) kF8 (by omega))
          have kBX := hide (far2 (u0 := .int .i64 T.n) (u1 := .int .i64 T.d) (g := g + 2) kB8 (by omega))
          have hoX := hide (ownsRow_setCell_other (a := ⟨g + 2, 1, none⟩) (ownsRow_setCell_other (a := ⟨g + 2, 0, none⟩) ho18 hnr (.int .i64 T.n)) hnr (.int .i64 T.d))
          have hX := hide (below2 (u0 := .int .i64 T.n) (u1 := .int .i64 T.d) (g := g + 2) hbg (by omega))
          clear ho17 ho18 kF kB kD kF8 kB8 kD8 hbg hb18
          go_wp2_with fail
          go_meet
          exact ⟨rfl, hoX.out, kFX.out, kBX.out, kX.out, hX.out⟩
        · have t0 : (fnz [lstErr l, rng d 0 7] == 0) = false := by simpa using (show ¬ fnz [lstErr l, rng d 0 7] = 0 from h0)
          have HE := hide (drE_bad h0)
          have HT0 : Hid (T = ⟨0, 0⟩) := by show _ = _; rw [← HTV.out, drV_bad h0]
          clear h0
          go_wp2_with fail
          go_meet
          exact ⟨by rw [HE.out]; rfl, ho17, kF, kB, by rw [HT0.out]; exact kD, Below.refl _ _⟩
      case rest =>
        obtain ⟨rfl, ho18, kF8, kB8, kD8, hb18⟩ := hcut
        rename World => w18
        have K5c := K5b.below hb18 L5
        have K7c := K7b.below hb18 L7
        have K11c := K11b.below hb18 L11
        have R10d := R10c.below hb18
        have hz18 := hb18.size
        have hb018 : Below w.heap.size w w18 := hb017.trans (hb18.mono hg0)
        obtain ⟨A17, c17, rfl, hR17⟩ := own_slice ho18
        have L17 := hide (nulV_len l)
        have L10 : Hid (m10 ≤ 1000) := by have := reads_len R10d; have := nulV_len l; show _ ≤ _; omega
        clear K5b K7b K11b R10c hb18 hb017 ho17 kF kB kD hRAc ho18
        have q1 := Q1.out
        have q2 := Q2.out
        have q3 := Q3.out
        have c5 := K5c.cell
        have c7 := K7c.cell
        have c11 := K11c.cell
        have c15 := kF8.cell
        have c16 := kB8.cell
        have c18 := kD8.cell
        go_wp2_with fail
        refine (sameInts_any A10 m10 c10 g _ A17 _ c17 w18.heap.size _ w18 R10d hR17 (by omega) (Nat.le_refl _) (by have := L10.out; omega) (by have := L17.out; omega)).mono ?_
        rintro e w19 ⟨rfl, hb19⟩
        rw [decide_eq_true rfl]
        have c11 := (carryK K11c hb19).cell
        have c18 := (carryK kD8 hb19).cell
        go_wp2_with fail
        go_ret
        exact ⟨rfl, below_next hb018 hb19⟩
  · have hs : shrt m 8 = false := by simpa using hs
    go_enter Tryz.func8, Tryz.ntmps8
    go_wp2_with fail
    refine (awake_any _ hV hT).mono ?_
    rintro e w2 ⟨rfl, hb2⟩
    go_wp2_with (go_at_call 18; refine (short_any _ _ _ _ _).mono ?_; rintro e W' ⟨rfl, rfl⟩; rw [hs])
    refine (awake_any _ (hV.carry hb2) (tens_below hT hb2 hT.1)).mono ?_
    rintro e w3 ⟨rfl, hb3⟩
    go_wp2_with fail
    go_ret
    exact ⟨rfl, (by repeat (first | with_reducible assumption | exact Below.refl _ _ | refine below_next (by with_reducible assumption) ?_))⟩
end Go.Proofs.YtcihiglpahhboaaGreatDoor
