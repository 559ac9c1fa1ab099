/- The law ArrayBacks: for all arguments it returns true. -/
import Derived.Test.YtcihiglpahhboaaGreatDoorAAwk
import Derived.Test.YtcihiglpahhboaaGreatDoorABksP
import Derived.Test.YtcihiglpahhboaaGreatDoorATurn
import Derived.Test.YtcihiglpahhboaaGreatDoorSplitA
namespace Go.Proofs.YtcihiglpahhboaaGreatDoor
open Go.RowKit Go.Shelf
set_option maxRecDepth 100000
theorem lvl4_in {p : F4} {b : Int} (h : sml b p.a ∧ sml b p.b ∧ sml b p.c ∧ sml b p.d) (hb : 0 ≤ b ∧ b ≤ 400000000) {k : Nat} (hk : k ≤ 4) : 0 ≤ lvl4 p k ∧ lvl4 p k ≤ 1280000000000000000 := by
  have hbb : b * b ≤ 160000000000000000 := by
    have := Int.mul_le_mul hb.2 hb.2 hb.1 (by omega)
    omega
  have ha := sq_sml h.1 hb.1
  have hb' := sq_sml h.2.1 hb.1
  have hc := sq_sml h.2.2.1 hb.1
  have hd := sq_sml h.2.2.2 hb.1
  rcases (show k = 0 ∨ k = 1 ∨ k = 2 ∨ k = 3 ∨ k = 4 by omega) with rfl | rfl | rfl | rfl | rfl
  all_goals
    simp [lvl4, F4.l]
    try omega
set_option maxHeartbeats 8000000 in
theorem lawBks_any (p : F4) (w : World) (hV : Vr w) (hT : Tens w) :
    Calls Tryz.prog 13 #[.agg #[.int .i64 p.a.re, .int .i64 p.a.im, .int .i64 p.b.re, .int .i64 p.b.im, .int .i64 p.c.re, .int .i64 p.c.im, .int .i64 p.d.re, .int .i64 p.d.im]] w fun e w' => e = .returned (.bool true) ∧ Below w.heap.size w w' := by
  go_enter Tryz.func13, Tryz.ntmps13
  go_upto_region 1 with (fail)
  obtain ⟨w1, e1, hb1, hz1, k0⟩ := box1 w #[.int .i64 p.a.re, .int .i64 p.a.im, .int .i64 p.b.re, .int .i64 p.b.im, .int .i64 p.c.re, .int .i64 p.c.im, .int .i64 p.d.re, .int .i64 p.d.im] 114
  rw [← e1]; clear e1
  have c0 := k0.cell
  go_wp2_with fail
  clear c0
  go_loopw [17] (fun i wr => ∃ k : Nat, k ≤ 4 ∧ i = .int .i64 k ∧ Hid (∀ j, j < k → sml 100000000 (p.l.getD j .zero)) ∧ Blk wr w.heap.size 114 #[.int .i64 p.a.re, .int .i64 p.a.im, .int .i64 p.b.re, .int .i64 p.b.im, .int .i64 p.c.re, .int .i64 p.c.im, .int .i64 p.d.re, .int .i64 p.d.im] ∧ Below w.heap.size w wr) (fun i _ => 4 - (intOf i).toNat)
  case atStart => exact ⟨0, by omega, rfl, (fun j hj => absurd hj (Nat.not_lt_zero j)), k0, hb1⟩
  case round =>
    rename World => wo
    clear k0 hb1
    obtain ⟨k, hk, rfl, HD, kP, hb⟩ := hrel
    by_cases hlt : k < 4
    · have hki : (k : Int) < 4 := by omega
      have ri : ∀ W, (Instr.index 114 (.agg #[.int .i64 p.a.re, .int .i64 p.a.im, .int .i64 p.b.re, .int .i64 p.b.im, .int .i64 p.c.re, .int .i64 p.c.im, .int .i64 p.d.re, .int .i64 p.d.im]) (.int .i64 (k : Int))).run Tryz.prog W = .ok (.agg #[.int .i64 (p.l.getD k .zero).re, .int .i64 (p.l.getD k .zero).im]) W := fun W => four_index p hlt W
      have hdd : sml 100000000 (p.l.getD k .zero) → ∀ j, j < k + 1 → sml 100000000 (p.l.getD j .zero) := fun h j hj => by
        by_cases e : j = k
        · rw [e]; exact h
        · exact HD.out j (by omega)
      have HDD := hide hdd
      obtain ⟨z, hz⟩ : ∃ z, p.l.getD k .zero = z := ⟨_, rfl⟩
      rw [hz] at ri HDD
      clear hz hdd
      go_upto_region 4 with (fail)
      obtain ⟨w5, e5, hb5, hz5, kz⟩ := box1 wo #[.int .i64 z.re, .int .i64 z.im] 54
      rw [← e5]; clear e5 ri
      have cz := kz.cell
      by_cases h1 : (100000000 : Int) < z.re
      · skip
        go_wp2_with fail
        refine (awake_any _ (hV.carry (by repeat (first | with_reducible assumption | exact Below.refl _ _ | refine below_next (by with_reducible assumption) ?_))) (tens_below hT (show Below w.heap.size w w5 from (by repeat (first | with_reducible assumption | exact Below.refl _ _ | refine below_next (by with_reducible assumption) ?_))) hT.1)).mono ?_
        rintro e w6 ⟨rfl, hb6⟩
        go_wp2_with fail
        go_ret
        exact ⟨rfl, (by repeat (first | with_reducible assumption | exact Below.refl _ _ | refine below_next (by with_reducible assumption) ?_))⟩
      · by_cases h2 : z.re < -100000000
        · skip
          go_wp2_with fail
          refine (awake_any _ (hV.carry (by repeat (first | with_reducible assumption | exact Below.refl _ _ | refine below_next (by with_reducible assumption) ?_))) (tens_below hT (show Below w.heap.size w w5 from (by repeat (first | with_reducible assumption | exact Below.refl _ _ | refine below_next (by with_reducible assumption) ?_))) hT.1)).mono ?_
          rintro e w6 ⟨rfl, hb6⟩
          go_wp2_with fail
          go_ret
          exact ⟨rfl, (by repeat (first | with_reducible assumption | exact Below.refl _ _ | refine below_next (by with_reducible assumption) ?_))⟩
        · by_cases h3 : (100000000 : Int) < z.im
          · skip
            go_wp2_with fail
            refine (awake_any _ (hV.carry (by repeat (first | with_reducible assumption | exact Below.refl _ _ | refine below_next (by with_reducible assumption) ?_))) (tens_below hT (show Below w.heap.size w w5 from (by repeat (first | with_reducible assumption | exact Below.refl _ _ | refine below_next (by with_reducible assumption) ?_))) hT.1)).mono ?_
            rintro e w6 ⟨rfl, hb6⟩
            go_wp2_with fail
            go_ret
            exact ⟨rfl, (by repeat (first | with_reducible assumption | exact Below.refl _ _ | refine below_next (by with_reducible assumption) ?_))⟩
          · by_cases h4 : z.im < -100000000
            · skip
              go_wp2_with fail
              refine (awake_any _ (hV.carry (by repeat (first | with_reducible assumption | exact Below.refl _ _ | refine below_next (by with_reducible assumption) ?_))) (tens_below hT (show Below w.heap.size w w5 from (by repeat (first | with_reducible assumption | exact Below.refl _ _ | refine below_next (by with_reducible assumption) ?_))) hT.1)).mono ?_
              rintro e w6 ⟨rfl, hb6⟩
              go_wp2_with fail
              go_ret
              exact ⟨rfl, (by repeat (first | with_reducible assumption | exact Below.refl _ _ | refine below_next (by with_reducible assumption) ?_))⟩
            · have hs : sml 100000000 z := by unfold sml; omega
              have HS := hide hs
              clear hs
              go_wp2_with fail
              go_roundw
              case rel => exact ⟨k + 1, by omega, by go_num, HDD.out HS.out, carryK kP hb5, below_next hb hb5⟩
              case measure => simp [intOf]; omega
    · obtain rfl : k = 4 := by omega
      have hS : Sml p := ⟨HD.out 0 (by omega), HD.out 1 (by omega), HD.out 2 (by omega), HD.out 3 (by omega)⟩
      have HS := hide hS
      clear hS HD
      go_wp2_with fail
      refine (awake_any _ (hV.carry hb) (tens_below hT hb hT.1)).mono ?_
      rintro e w2 ⟨rfl, hb2⟩
      have kP2 := carryK kP hb2
      have c0 := kP2.cell
      go_wp2_with fail
      refine (Harmonics_any p _ (hV.carry (by repeat (first | with_reducible assumption | exact Below.refl _ _ | refine below_next (by with_reducible assumption) ?_)))).mono ?_
      rintro e w3 ⟨rfl, hb3⟩
      rw [HS.out.har, HS.out.four]
      clear c0
      have hsum := har_sum p
      have hrot := fun m (hm : m < 4) => on_turn p hm
      have hall := lvl4_all p
      have hbE := HS.out.backE
      have hbV := HS.out.backV
      have hhs := HS.out.hs
      obtain ⟨h, hh⟩ : ∃ h, trV (-1) p = h := ⟨_, rfl⟩
      rw [hh] at hsum hrot hall hbE hbV hhs ⊢
      have HSUM := hide hsum
      have HROT := hide hrot
      have HALL := hide hall
      have HBE := hide hbE
      have HBV := hide hbV
      have HHS := hide hhs
      clear hh hsum hrot hall hbE hbV hhs
      go_upto_region 10 with (fail)
      obtain ⟨w4, e4, hb4, hz4, kH⟩ := box1 w3 #[.int .i64 h.a.re, .int .i64 h.a.im, .int .i64 h.b.re, .int .i64 h.b.im, .int .i64 h.c.re, .int .i64 h.c.im, .int .i64 h.d.re, .int .i64 h.d.im] 114
      rw [← e4]; clear e4
      have cH := kH.cell
      go_wp2_with fail
      refine (Back_any h _ (hV.carry (by repeat (first | with_reducible assumption | exact Below.refl _ _ | refine below_next (by with_reducible assumption) ?_)))).mono ?_
      rintro e w5 ⟨rfl, hb5⟩
      rw [HBE.out, HBV.out]
      clear cH
      go_upto_region 11 with (fail)
      obtain ⟨w6, e6, hb6, hz6, kB⟩ := box1 w5 #[.int .i64 p.a.re, .int .i64 p.a.im, .int .i64 p.b.re, .int .i64 p.b.im, .int .i64 p.c.re, .int .i64 p.c.im, .int .i64 p.d.re, .int .i64 p.d.im] 114
      rw [← e6]; clear e6
      have c0 := (carryK kP2 (w' := w6) (by repeat (first | with_reducible assumption | exact Below.refl _ _ | refine below_next (by with_reducible assumption) ?_))).cell
      go_upto_region 12 with (fail)
      clear c0
      obtain ⟨w7, e7, hb7, hz7, kO⟩ := box1 w6 #[.int .i64 p.d.re, .int .i64 p.d.im, .int .i64 p.a.re, .int .i64 p.a.im, .int .i64 p.b.re, .int .i64 p.b.im, .int .i64 p.c.re, .int .i64 p.c.im] 114
      rw [← e7]; clear e7
      have cO := kO.cell
      go_wp2_with fail
      refine (Harmonics_any (onP p) _ (hV.carry (by repeat (first | with_reducible assumption | exact Below.refl _ _ | refine below_next (by with_reducible assumption) ?_)))).mono ?_
      rintro e w8 ⟨rfl, hb8⟩
      rw [HS.out.on.har, HS.out.on.four]
      clear cO
      obtain ⟨g, hg⟩ : ∃ g, trV (-1) (onP p) = g := ⟨_, rfl⟩
      have HR2 : Hid (∀ m, m < 4 → g.l.getD m .zero = (turnI (-(m : Int))).mul (h.l.getD m .zero)) := fun m hm => by rw [← hg]; exact HROT.out m hm
      rw [hg]
      clear hg HROT
      go_upto_region 13 with (fail)
      obtain ⟨w9, e9, hb9, hz9, kG⟩ := box1 w8 #[.int .i64 g.a.re, .int .i64 g.a.im, .int .i64 g.b.re, .int .i64 g.b.im, .int .i64 g.c.re, .int .i64 g.c.im, .int .i64 g.d.re, .int .i64 g.d.im] 114
      rw [← e9]; clear e9
      have kP9 := carryK kP2 (w' := w9) (by repeat (first | with_reducible assumption | exact Below.refl _ _ | refine below_next (by with_reducible assumption) ?_))
      have kB9 := carryK kB (w' := w9) (by repeat (first | with_reducible assumption | exact Below.refl _ _ | refine below_next (by with_reducible assumption) ?_))
      have kH9 := carryK kH (w' := w9) (by repeat (first | with_reducible assumption | exact Below.refl _ _ | refine below_next (by with_reducible assumption) ?_))
      have hb9w : Below w.heap.size w w9 := (by repeat (first | with_reducible assumption | exact Below.refl _ _ | refine below_next (by with_reducible assumption) ?_))
      have c0 := kP9.cell
      have cB := kB9.cell
      have q0 := reflF4_ne p
      clear kP kP2 kB kH kO hb2 hb3 hb4 hb5 hb6 hb7 hb8 hb9 hb hz4 hz6 hz7 hz9 kB9
      go_upto_region 15 with (fail)
      clear c0 cB q0
      have hSp := HS.out
      have hp1 : Hid (∀ W, Calls Tryz.prog 73 #[.agg #[.int .i64 p.a.re, .int .i64 p.a.im], .agg #[.int .i64 p.b.re, .int .i64 p.b.im]] W fun e W' => e = .returned (.agg #[.int .i64 (p.a.add p.b).re, .int .i64 (p.a.add p.b).im]) ∧ Below W.heap.size W W') := fun W => by
        have := rPlus_any p.a p.b W
        rw [G.w_in (by have h1 := hSp.a; have h2 := hSp.b; unfold sml at h1 h2; unfold G.nrm G.add; simp only; omega)] at this
        exact this
      have hp2 : Hid (∀ W, Calls Tryz.prog 73 #[.agg #[.int .i64 p.c.re, .int .i64 p.c.im], .agg #[.int .i64 p.d.re, .int .i64 p.d.im]] W fun e W' => e = .returned (.agg #[.int .i64 (p.c.add p.d).re, .int .i64 (p.c.add p.d).im]) ∧ Below W.heap.size W W') := fun W => by
        have := rPlus_any p.c p.d W
        rw [G.w_in (by have h1 := hSp.c; have h2 := hSp.d; unfold sml at h1 h2; unfold G.nrm G.add; simp only; omega)] at this
        exact this
      have hp3 : Hid (∀ W, Calls Tryz.prog 73 #[.agg #[.int .i64 (p.a.add p.b).re, .int .i64 (p.a.add p.b).im], .agg #[.int .i64 (p.c.add p.d).re, .int .i64 (p.c.add p.d).im]] W fun e W' => e = .returned (.agg #[.int .i64 h.a.re, .int .i64 h.a.im]) ∧ Below W.heap.size W W') := fun W => by
        have := rPlus_any (p.a.add p.b) (p.c.add p.d) W
        rw [← HSUM.out, G.w_in (by have h1 := HHS.out.1; unfold sml at h1; unfold G.nrm; omega)] at this
        exact this
      clear hSp
      refine wp_region_alloc1 11 (af := ?af1) (t1 := 54) (cs1 := #[.int .i64 0, .int .i64 0]) (by kernel_rfl) (by kernel_rfl) (by kernel_rfl) rfl ⟨rfl, rfl, fun _ _ => by kernel_rfl⟩ (by kernel_rfl) ?q1n ?q2n
      case q1n =>
        intro W0 hW0
        have c0 := over_blk (carryK (w' := W0) kP9 hW0) (carryK (w' := W0) kP9 hW0).lt
        simp only [List.take_succ_cons, List.take_zero]
        (repeat (first | go_big_quiet_step (first | (go_at_call 73; with_reducible first | exact over_call (Nat.le_refl _) (hp1.out _) | exact over_call (Nat.le_refl _) (hp2.out _) | exact over_call (Nat.le_refl _) (hp3.out _)))))
        refine wpQuiet_nil ?_
        rfl
      intro gS Y hgS hbY kS0
      simp only [List.drop_succ_cons, List.drop_zero, Act.put, List.setIfInBounds_toArray, List.set_cons_succ, List.set_cons_zero]
      have cS0 := kS0.cell
      have fS0 := kS0.frozen
      go_upto_region 17 with (fail)
      have kS : Blk _ gS 54 #[.int .i64 h.a.re, .int .i64 h.a.im] := blk2 (u0 := .int .i64 h.a.re) (u1 := .int .i64 h.a.im) kS0
      have hbN := below2 (u0 := .int .i64 h.a.re) (u1 := .int .i64 h.a.im) hbY hgS
      clear cS0 fS0 kS0 hbY
      generalize World.setCell _ _ _ = V at kS hbN ⊢
      have kP0 := carryK kP9 hbN
      have kH0 := carryK kH9 hbN
      have kG0 := carryK kG hbN
      have hb0 := below_next hb9w hbN
      clear kP9 kH9 kG hb9w hbN
      have hlP := fun k (hk : k ≤ 4) => lvl4_in (p := p) (b := 100000000) ⟨HS.out.a, HS.out.b, HS.out.c, HS.out.d⟩ (by omega) hk
      have hlH := fun k (hk : k ≤ 4) => lvl4_in (p := h) (b := 400000000) HHS.out (by omega) hk
      have HLP := hide hlP
      have HLH := hide hlH
      have hsP : Hid (∀ k, k < 4 → sml 400000000 (p.l.getD k .zero)) := fun k hk => by
        have h0 := HS.out
        have w : ∀ z, sml 100000000 z → sml 400000000 z := fun z hz => by unfold sml at *; omega
        rcases lt4 hk with rfl | rfl | rfl | rfl
        · exact w _ h0.a
        · exact w _ h0.b
        · exact w _ h0.c
        · exact w _ h0.d
      have hsH : Hid (∀ k, k < 4 → sml 400000000 (h.l.getD k .zero)) := fun k hk => by
        have h0 := HHS.out
        rcases lt4 hk with rfl | rfl | rfl | rfl
        · exact h0.1
        · exact h0.2.1
        · exact h0.2.2.1
        · exact h0.2.2.2
      clear hlP hlH
      go_wp2_with fail
      go_loopw [13, 14, 92] (fun a b i wr => ∃ k : Nat, k ≤ 4 ∧ i = .int .i64 k ∧ a = .int .i64 (lvl4 p k) ∧ b = .int .i64 (lvl4 h k) ∧ Blk wr w.heap.size 114 (qcs fun j => p.l.getD j .zero).toArray ∧ Blk wr w3.heap.size 114 (qcs fun j => h.l.getD j .zero).toArray ∧ Blk wr w8.heap.size 114 (qcs fun j => g.l.getD j .zero).toArray ∧ Blk wr gS 54 #[.int .i64 h.a.re, .int .i64 h.a.im] ∧ Below w.heap.size w wr) (fun _ _ i _ => 4 - (intOf i).toNat)
      case atStart => exact ⟨0, by omega, rfl, rfl, rfl, kP0, kH0, kG0, kS, hb0⟩
      case round =>
        rename World => wq
        clear kP0 kH0 kG0 kS hb0
        obtain ⟨k, hk, rfl, rfl, rfl, kP, kH, kG, kS, hb⟩ := hrel
        by_cases hlt : k < 4
        · have hki : (k : Int) < 4 := by omega
          have tn : wrap64 (-(k : Int)) = -(k : Int) := by unfold wrap64; omega
          have hst := HR2.out k hlt
          have hzs := hsP.out k hlt
          have hhs := hsH.out k hlt
          have hl1 := lvl4_succ p hlt
          have hl2 := lvl4_succ h hlt
          have b1 := HLP.out (k + 1) (by omega)
          have b2 := HLH.out (k + 1) (by omega)
          have pc := fun W (hW : Below wq.heap.size wq W) => qcs_at hlt (carryK kP hW)
          have hc := fun W (hW : Below wq.heap.size wq W) => qcs_at hlt (carryK kH hW)
          have gc := fun W (hW : Below wq.heap.size wq W) => qcs_at hlt (carryK kG hW)
          obtain ⟨zp, ezp⟩ : ∃ z, p.l.getD k .zero = z := ⟨_, rfl⟩
          obtain ⟨zh, ezh⟩ : ∃ z, h.l.getD k .zero = z := ⟨_, rfl⟩
          obtain ⟨zg, ezg⟩ : ∃ z, g.l.getD k .zero = z := ⟨_, rfl⟩
          rw [ezp] at hzs hl1
          rw [ezh] at hst hhs hl2
          rw [ezg] at hst
          simp only [ezp] at pc
          simp only [ezh] at hc
          simp only [ezg] at gc
          clear ezp ezh ezg
          have r0 : ∀ x, (over wq.heap.size wq x).cell? ⟨w8.heap.size, k * 2, none⟩ = some (.int .i64 zg.re) := fun x => (gc _ (over_below _ _ _)).1
          have r1 : ∀ x, (over wq.heap.size wq x).cell? ⟨w8.heap.size, k * 2 + 1, none⟩ = some (.int .i64 zg.im) := fun x => (gc _ (over_below _ _ _)).2
          have r2 : ∀ x, (over wq.heap.size wq x).cell? ⟨w3.heap.size, k * 2, none⟩ = some (.int .i64 zh.re) := fun x => (hc _ (over_below _ _ _)).1
          have r3 : ∀ x, (over wq.heap.size wq x).cell? ⟨w3.heap.size, k * 2 + 1, none⟩ = some (.int .i64 zh.im) := fun x => (hc _ (over_below _ _ _)).2
          have hturn : Hid (∀ W, Calls Tryz.prog 72 #[.agg #[.int .i64 zh.re, .int .i64 zh.im], .int .i64 (-(k : Int))] W fun e W' => e = .returned (.agg #[.int .i64 zg.re, .int .i64 zg.im]) ∧ Below W.heap.size W W') := fun W => by
            have := qTurn_any zh (-(k : Int)) W (by unfold sml at hhs; unfold G.nrm; omega)
            rw [← hst] at this
            exact this
          have sqp := sq_sml hzs (by omega)
          have sqh := sq_sml hhs (by omega)
          have hq1 : Hid (∀ W, Calls Tryz.prog 63 #[.agg #[.int .i64 zp.re, .int .i64 zp.im]] W fun e W' => e = .returned (.int .i64 zp.sq) ∧ Below W.heap.size W W') := fun W => by
            have := rSquare_any zp W
            rw [wr_in (by omega)] at this
            exact this
          have hq2 : Hid (∀ W, Calls Tryz.prog 63 #[.agg #[.int .i64 zh.re, .int .i64 zh.im]] W fun e W' => e = .returned (.int .i64 zh.sq) ∧ Below W.heap.size W W') := fun W => by
            have := rSquare_any zh W
            rw [wr_in (by omega)] at this
            exact this
          have s1 : wrap64 (lvl4 p k + zp.sq) = lvl4 p (k + 1) := by rw [hl1]; rw [hl1] at b1; unfold wrap64; omega
          have s2 : wrap64 (lvl4 h k + zh.sq) = lvl4 h (k + 1) := by rw [hl2]; rw [hl2] at b2; unfold wrap64; omega
          have qn := reflG_ne zg
          have PC := hide pc
          have HC := hide hc
          clear hst hzs hhs hl1 hl2 b1 b2 pc hc gc sqp sqh
          go_upto_region 20 with (fail)
          refine wp_region_over wq.heap.size (by kernel_rfl) (by kernel_rfl) ?_; (repeat (first | go_big_quiet_step ((go_at_call 72; exact over_call (Nat.le_refl _) (hturn.out _))) | quiet_step ((go_at_call 72; exact over_call (Nat.le_refl _) (hturn.out _))))); refine wpQuiet_nil ?_; rintro W ⟨x, rfl⟩
          have hbY := over_below wq.heap.size wq x
          generalize over wq.heap.size wq x = Z at hbY ⊢
          clear r0 r1 r2 r3 hturn tn
          have t0 : ∀ x, (over Z.heap.size Z x).cell? ⟨w.heap.size, k * 2, none⟩ = some (.int .i64 zp.re) := fun x => (PC.out _ (below_next hbY (over_below _ _ _))).1
          have t1 : ∀ x, (over Z.heap.size Z x).cell? ⟨w.heap.size, k * 2 + 1, none⟩ = some (.int .i64 zp.im) := fun x => (PC.out _ (below_next hbY (over_below _ _ _))).2
          have t2 : ∀ x, (over Z.heap.size Z x).cell? ⟨w3.heap.size, k * 2, none⟩ = some (.int .i64 zh.re) := fun x => (HC.out _ (below_next hbY (over_below _ _ _))).1
          have t3 : ∀ x, (over Z.heap.size Z x).cell? ⟨w3.heap.size, k * 2 + 1, none⟩ = some (.int .i64 zh.im) := fun x => (HC.out _ (below_next hbY (over_below _ _ _))).2
          go_upto_region 22 with (fail)
          refine wp_region_over Z.heap.size (by kernel_rfl) (by kernel_rfl) ?_; (repeat (first | go_big_quiet_step ((go_at_call 63; with_reducible first | exact over_call (Nat.le_refl _) (hq1.out _) | exact over_call (Nat.le_refl _) (hq2.out _))) | quiet_step ((go_at_call 63; with_reducible first | exact over_call (Nat.le_refl _) (hq1.out _) | exact over_call (Nat.le_refl _) (hq2.out _))))); refine wpQuiet_nil ?_; rintro W ⟨x, rfl⟩
          have hbV := over_below Z.heap.size Z x
          generalize over Z.heap.size Z x = V at hbV ⊢
          clear t0 t1 t2 t3
          go_wp2_with fail
          go_roundw
          case rel => exact ⟨k + 1, by omega, by go_num, (by first | rfl | rw [s1]), (by first | rfl | rw [s2]), carryK (carryK kP hbY) hbV, carryK (carryK kH hbY) hbV, carryK (carryK kG hbY) hbV, carryK (carryK kS hbY) hbV, below_next hb (below_next hbY hbV)⟩
          case measure => simp [intOf]; omega
        · obtain rfl : k = 4 := by omega
          have hc0 := kH.cell
          have cH : ∀ i, wq.cell? ⟨w3.heap.size, i, none⟩ = #[.int .i64 h.a.re, .int .i64 h.a.im, .int .i64 h.b.re, .int .i64 h.b.im, .int .i64 h.c.re, .int .i64 h.c.im, .int .i64 h.d.re, .int .i64 h.d.im][i]? := hc0
          have cS := kS.cell
          have qe := reflG_eq h.a
          have t4 : wrap64 (4 * lvl4 p 4) = lvl4 h 4 := by
            rw [HALL.out]
            have := HLH.out 4 (by omega)
            rw [HALL.out] at this
            unfold wrap64; omega
          clear hc0
          go_wp2_with fail
          go_ret
          exact ⟨rfl, hb⟩
end Go.Proofs.YtcihiglpahhboaaGreatDoor
