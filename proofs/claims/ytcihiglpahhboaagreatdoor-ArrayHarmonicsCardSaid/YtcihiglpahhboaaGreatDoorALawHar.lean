/- The law ArrayHarmonics: for all arguments it returns true. -/
import Derived.Test.YtcihiglpahhboaaGreatDoorAAwk
import Derived.Test.YtcihiglpahhboaaGreatDoorABksP
import Derived.Test.YtcihiglpahhboaaGreatDoorARBack
namespace Go.Proofs.YtcihiglpahhboaaGreatDoor
open Go.RowKit Go.Shelf
set_option maxRecDepth 100000
theorem reflF4_eq (m : F4) (w : World) : (binOp .eql 114 (.agg #[.int .i64 m.a.re, .int .i64 m.a.im, .int .i64 m.b.re, .int .i64 m.b.im, .int .i64 m.c.re, .int .i64 m.c.im, .int .i64 m.d.re, .int .i64 m.d.im]) (.agg #[.int .i64 m.a.re, .int .i64 m.a.im, .int .i64 m.b.re, .int .i64 m.b.im, .int .i64 m.c.re, .int .i64 m.c.im, .int .i64 m.d.re, .int .i64 m.d.im])).run Tryz.prog w = .ok (.bool true) w := by
  have hh := reflF4_in m w
  simp only [binOp, Op.equal, Op.maxDepth]
  simp [hh, go_sem]
set_option maxHeartbeats 8000000 in
theorem lawHar_any (p : F4) (w : World) (hV : Vr w) (hT : Tens w) :
    Calls Tryz.prog 12 #[.agg #[.int .i64 p.a.re, .int .i64 p.a.im, .int .i64 p.b.re, .int .i64 p.b.im, .int .i64 p.c.re, .int .i64 p.c.im, .int .i64 p.d.re, .int .i64 p.d.im]] w fun e w' => e = .returned (.bool true) ∧ Below w.heap.size w w' := by
  have hH := fun W hV' => Harmonics_any p W hV'
  have hK := fun W hV' => Back_any p W hV'
  by_cases h0 : fourE p = 0
  · have hR := fun W => rHarmonics_any p W (fourE_bnd h0)
    have hB := fun W => rBack_any p W h0
    have eh : haV p = trV (-1) p := by unfold haV; rw [if_pos h0]
    obtain ⟨h, hh⟩ : ∃ h, trV (-1) p = h := ⟨_, rfl⟩
    obtain ⟨b, hb'⟩ : ∃ b, bkV p = b := ⟨_, rfl⟩
    obtain ⟨eb, he⟩ : ∃ e, bkE p = e := ⟨_, rfl⟩
    rw [eh, hh] at hH
    rw [hh] at hR
    rw [hb', he] at hK hB
    have HH := hide hH
    have HK := hide hK
    have HR := hide hR
    have HB := hide hB
    have H0 := hide h0
    clear hH hK hR hB h0 eh hh hb' he
    go_enter Tryz.func12, Tryz.ntmps12
    go_upto_region 1 with (fail)
    obtain ⟨w1, e1, hb1, hz1, k0⟩ := box1 w #[.int .i64 p.a.re, .int .i64 p.a.im, .int .i64 p.b.re, .int .i64 p.b.im, .int .i64 p.c.re, .int .i64 p.c.im, .int .i64 p.d.re, .int .i64 p.d.im] 114
    rw [← e1]; clear e1
    go_wp2_with fail
    refine (awake_any _ (hV.carry hb1) (tens_below hT hb1 hT.1)).mono ?_
    rintro e w2 ⟨rfl, hb2⟩
    have c0 := (carryK k0 (w' := w2) (by repeat (first | with_reducible assumption | exact Below.refl _ _ | refine below_next (by with_reducible assumption) ?_))).cell
    go_wp2_with fail
    refine (HH.out _ (hV.carry (by repeat (first | with_reducible assumption | exact Below.refl _ _ | refine below_next (by with_reducible assumption) ?_)))).mono ?_
    rintro e w3 ⟨rfl, hb3⟩
    clear c0
    go_upto_region 4 with (fail)
    obtain ⟨w4, e4, hb4, hz4, k3⟩ := box1 w3 #[.int .i64 h.a.re, .int .i64 h.a.im, .int .i64 h.b.re, .int .i64 h.b.im, .int .i64 h.c.re, .int .i64 h.c.im, .int .i64 h.d.re, .int .i64 h.d.im] 114
    rw [← e4]; clear e4
    have c0 := (carryK k0 (w' := w4) (by repeat (first | with_reducible assumption | exact Below.refl _ _ | refine below_next (by with_reducible assumption) ?_))).cell
    go_wp2_with fail
    refine (HK.out _ (hV.carry (by repeat (first | with_reducible assumption | exact Below.refl _ _ | refine below_next (by with_reducible assumption) ?_)))).mono ?_
    rintro e w5 ⟨rfl, hb5⟩
    clear c0
    go_upto_region 5 with (fail)
    obtain ⟨w6, e6, hb6, hz6, k5⟩ := box1 w5 #[.int .i64 b.a.re, .int .i64 b.a.im, .int .i64 b.b.re, .int .i64 b.b.im, .int .i64 b.c.re, .int .i64 b.c.im, .int .i64 b.d.re, .int .i64 b.d.im] 114
    rw [← e6]; clear e6
    have c0 := (carryK k0 (w' := w6) (by repeat (first | with_reducible assumption | exact Below.refl _ _ | refine below_next (by with_reducible assumption) ?_))).cell
    go_wp2_with fail
    refine (rCheckFour_any p _).mono ?_
    rintro e w7 ⟨rfl, hb7⟩
    clear c0
    go_upto_region 8 with (fail)
    obtain ⟨w8, e8, hb8, hz8, k9, k10⟩ := box2 w7 #[.int .i64 0, .int .i64 0, .int .i64 0, .int .i64 0, .int .i64 0, .int .i64 0, .int .i64 0, .int .i64 0] #[.int .i64 0, .int .i64 0, .int .i64 0, .int .i64 0, .int .i64 0, .int .i64 0, .int .i64 0, .int .i64 0] 114 114
    rw [← e8]; clear e8
    have k08 := carryK k0 (w' := w8) (by repeat (first | with_reducible assumption | exact Below.refl _ _ | refine below_next (by with_reducible assumption) ?_))
    have k38 := carryK k3 (w' := w8) (by repeat (first | with_reducible assumption | exact Below.refl _ _ | refine below_next (by with_reducible assumption) ?_))
    have k58 := carryK k5 (w' := w8) (by repeat (first | with_reducible assumption | exact Below.refl _ _ | refine below_next (by with_reducible assumption) ?_))
    have hb08 : Below w.heap.size w w8 := (by repeat (first | with_reducible assumption | exact Below.refl _ _ | refine below_next (by with_reducible assumption) ?_))
    have l3 : w3.heap.size < w7.heap.size := (carryK k3 (w' := w7) (by repeat (first | with_reducible assumption | exact Below.refl _ _ | refine below_next (by with_reducible assumption) ?_))).lt
    have l5 : w5.heap.size < w7.heap.size := (carryK k5 (w' := w7) (by repeat (first | with_reducible assumption | exact Below.refl _ _ | refine below_next (by with_reducible assumption) ?_))).lt
    have l0 : w.heap.size < w7.heap.size := (carryK k0 (w' := w7) (by repeat (first | with_reducible assumption | exact Below.refl _ _ | refine below_next (by with_reducible assumption) ?_))).lt
    clear k0 k3 k5 hb1 hb2 hb3 hb4 hb5 hb6 hb7 hb8 hz4 hz6
    rw [H0.out]
    have c0 := k08.cell
    have c9 := k9.cell
    have f9 := k9.frozen
    go_wp2_with fail
    refine (HR.out _).mono ?_
    rintro e w9 ⟨rfl, hb9⟩
    have k09 := carryK k08 hb9
    have k39 := carryK k38 hb9
    have k59 := carryK k58 hb9
    have k99 := carryK k9 hb9
    have k109 := carryK k10 hb9
    have hb09 := below_next hb08 hb9
    clear c0 c9 f9 k08 k38 k58 k9 k10 hb08 hb9
    have c9 := k99.cell
    have f9 := k99.frozen
    go_upto_region 10 with (fail)
    obtain ⟨w10, e10, kA, _, hA, hAb⟩ := sets8 w9 w7.heap.size 114 (.int .i64 0) (.int .i64 0) (.int .i64 0) (.int .i64 0) (.int .i64 0) (.int .i64 0) (.int .i64 0) (.int .i64 0) (.int .i64 h.a.re) (.int .i64 h.a.im) (.int .i64 h.b.re) (.int .i64 h.b.im) (.int .i64 h.c.re) (.int .i64 h.c.im) (.int .i64 h.d.re) (.int .i64 h.d.im) k99
    rw [← e10]; clear e10 c9 f9
    have k0A := hA _ _ _ (by omega) k09
    have k3A := hA _ _ _ (by omega) k39
    have k5A := hA _ _ _ (by omega) k59
    have k10A := hA _ _ _ (by omega) k109
    have hb0A := hAb w.heap.size w (by omega) hb09
    clear k09 k39 k59 k99 k109 hA hAb hb09
    have c0 := k0A.cell
    go_wp2_with fail
    refine (HB.out _).mono ?_
    rintro e w11 ⟨rfl, hb11⟩
    clear c0
    have k3B := carryK k3A hb11
    have k5B := carryK k5A hb11
    have k9B := carryK kA hb11
    have k10B := carryK k10A hb11
    have hb0B := below_next hb0A hb11
    clear k0A k3A k5A k10A kA hb0A hb11
    have c10 := k10B.cell
    have f10 := k10B.frozen
    go_upto_region 11 with (fail)
    obtain ⟨w12, e12, kC, _, hA, hAb⟩ := sets8 w11 (w7.heap.size + 1) 114 (.int .i64 0) (.int .i64 0) (.int .i64 0) (.int .i64 0) (.int .i64 0) (.int .i64 0) (.int .i64 0) (.int .i64 0) (.int .i64 b.a.re) (.int .i64 b.a.im) (.int .i64 b.b.re) (.int .i64 b.b.im) (.int .i64 b.c.re) (.int .i64 b.c.im) (.int .i64 b.d.re) (.int .i64 b.d.im) k10B
    rw [← e12]; clear e12 c10 f10
    have k3C := hA _ _ _ (by omega) k3B
    have k5C := hA _ _ _ (by omega) k5B
    have k9C := hA _ _ _ (by omega) k9B
    have hb0C := hAb w.heap.size w (by omega) hb0B
    clear k3B k5B k9B k10B hA hAb hb0B
    have q1 := reflF4_eq h
    have q2 := reflF4_eq b
    have c3 := k3C.cell
    have c5 := k5C.cell
    have c9 := k9C.cell
    have c10 := kC.cell
    go_wp2_with fail
    go_ret
    exact ⟨rfl, hb0C⟩
  · have eh : haV p = .zero := by unfold haV; rw [if_neg h0]
    have ee : bkE p = fourE p := by unfold bkE; rw [if_neg h0]
    have ev : bkV p = .zero := by unfold bkV; rw [ee, if_neg h0]
    have t0 : (fourE p == 0) = false := by simpa using h0
    have HH : Hid (∀ W, Vr W → Calls Tryz.prog 75 #[.agg #[.int .i64 p.a.re, .int .i64 p.a.im, .int .i64 p.b.re, .int .i64 p.b.im, .int .i64 p.c.re, .int .i64 p.c.im, .int .i64 p.d.re, .int .i64 p.d.im]] W fun e w' => e = .returned (.tuple #[.agg #[.int .i64 0, .int .i64 0, .int .i64 0, .int .i64 0, .int .i64 0, .int .i64 0, .int .i64 0, .int .i64 0], .int .i64 (fourE p)]) ∧ Below W.heap.size W w') := fun W hV' => by
      have := hH W hV'
      rw [eh] at this
      exact this
    have HK : Hid (∀ W, Vr W → Calls Tryz.prog 76 #[.agg #[.int .i64 p.a.re, .int .i64 p.a.im, .int .i64 p.b.re, .int .i64 p.b.im, .int .i64 p.c.re, .int .i64 p.c.im, .int .i64 p.d.re, .int .i64 p.d.im]] W fun e w' => e = .returned (.tuple #[.agg #[.int .i64 0, .int .i64 0, .int .i64 0, .int .i64 0, .int .i64 0, .int .i64 0, .int .i64 0, .int .i64 0], .int .i64 (fourE p)]) ∧ Below W.heap.size W w') := fun W hV' => by
      have := hK W hV'
      rw [ee, ev] at this
      exact this
    clear hH hK eh ee ev h0
    go_enter Tryz.func12, Tryz.ntmps12
    go_upto_region 1 with (fail)
    obtain ⟨w1, e1, hb1, hz1, k0⟩ := box1 w #[.int .i64 p.a.re, .int .i64 p.a.im, .int .i64 p.b.re, .int .i64 p.b.im, .int .i64 p.c.re, .int .i64 p.c.im, .int .i64 p.d.re, .int .i64 p.d.im] 114
    rw [← e1]; clear e1
    go_wp2_with fail
    refine (awake_any _ (hV.carry hb1) (tens_below hT hb1 hT.1)).mono ?_
    rintro e w2 ⟨rfl, hb2⟩
    have c0 := (carryK k0 (w' := w2) (by repeat (first | with_reducible assumption | exact Below.refl _ _ | refine below_next (by with_reducible assumption) ?_))).cell
    go_wp2_with fail
    refine (HH.out _ (hV.carry (by repeat (first | with_reducible assumption | exact Below.refl _ _ | refine below_next (by with_reducible assumption) ?_)))).mono ?_
    rintro e w3 ⟨rfl, hb3⟩
    clear c0
    go_upto_region 4 with (fail)
    obtain ⟨w4, e4, hb4, hz4, k3⟩ := box1 w3 #[.int .i64 0, .int .i64 0, .int .i64 0, .int .i64 0, .int .i64 0, .int .i64 0, .int .i64 0, .int .i64 0] 114
    rw [← e4]; clear e4
    have c0 := (carryK k0 (w' := w4) (by repeat (first | with_reducible assumption | exact Below.refl _ _ | refine below_next (by with_reducible assumption) ?_))).cell
    go_wp2_with fail
    refine (HK.out _ (hV.carry (by repeat (first | with_reducible assumption | exact Below.refl _ _ | refine below_next (by with_reducible assumption) ?_)))).mono ?_
    rintro e w5 ⟨rfl, hb5⟩
    clear c0
    go_upto_region 5 with (fail)
    obtain ⟨w6, e6, hb6, hz6, k5⟩ := box1 w5 #[.int .i64 0, .int .i64 0, .int .i64 0, .int .i64 0, .int .i64 0, .int .i64 0, .int .i64 0, .int .i64 0] 114
    rw [← e6]; clear e6
    have c0 := (carryK k0 (w' := w6) (by repeat (first | with_reducible assumption | exact Below.refl _ _ | refine below_next (by with_reducible assumption) ?_))).cell
    go_wp2_with fail
    refine (rCheckFour_any p _).mono ?_
    rintro e w7 ⟨rfl, hb7⟩
    clear c0
    go_upto_region 8 with (fail)
    obtain ⟨w8, e8, hb8, hz8, k9, k10⟩ := box2 w7 #[.int .i64 0, .int .i64 0, .int .i64 0, .int .i64 0, .int .i64 0, .int .i64 0, .int .i64 0, .int .i64 0] #[.int .i64 0, .int .i64 0, .int .i64 0, .int .i64 0, .int .i64 0, .int .i64 0, .int .i64 0, .int .i64 0] 114 114
    rw [← e8]; clear e8
    have k08 := carryK k0 (w' := w8) (by repeat (first | with_reducible assumption | exact Below.refl _ _ | refine below_next (by with_reducible assumption) ?_))
    have k38 := carryK k3 (w' := w8) (by repeat (first | with_reducible assumption | exact Below.refl _ _ | refine below_next (by with_reducible assumption) ?_))
    have k58 := carryK k5 (w' := w8) (by repeat (first | with_reducible assumption | exact Below.refl _ _ | refine below_next (by with_reducible assumption) ?_))
    have hb08 : Below w.heap.size w w8 := (by repeat (first | with_reducible assumption | exact Below.refl _ _ | refine below_next (by with_reducible assumption) ?_))
    have l3 : w3.heap.size < w7.heap.size := (carryK k3 (w' := w7) (by repeat (first | with_reducible assumption | exact Below.refl _ _ | refine below_next (by with_reducible assumption) ?_))).lt
    have l5 : w5.heap.size < w7.heap.size := (carryK k5 (w' := w7) (by repeat (first | with_reducible assumption | exact Below.refl _ _ | refine below_next (by with_reducible assumption) ?_))).lt
    have l0 : w.heap.size < w7.heap.size := (carryK k0 (w' := w7) (by repeat (first | with_reducible assumption | exact Below.refl _ _ | refine below_next (by with_reducible assumption) ?_))).lt
    clear k0 k3 k5 hb1 hb2 hb3 hb4 hb5 hb6 hb7 hb8 hz4 hz6
    have q1 : ∀ W, (binOp .eql 114 (.agg #[.int .i64 0, .int .i64 0, .int .i64 0, .int .i64 0, .int .i64 0, .int .i64 0, .int .i64 0, .int .i64 0]) (.agg #[.int .i64 0, .int .i64 0, .int .i64 0, .int .i64 0, .int .i64 0, .int .i64 0, .int .i64 0, .int .i64 0])).run Tryz.prog W = .ok (.bool true) W := fun W => by kernel_rfl
    have c3 := k38.cell
    have c5 := k58.cell
    have c9 := k9.cell
    have c10 := k10.cell
    go_wp2_with fail
    go_ret
    exact ⟨rfl, hb08⟩
end Go.Proofs.YtcihiglpahhboaaGreatDoor
