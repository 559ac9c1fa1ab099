/- The law NetworkPassive. -/
import Derived.Test.YtnndaipnfniciaaGreatDoorNAwk
import Derived.Test.YtnndaipnfniciaaGreatDoorNBey
import Derived.Test.YtnndaipnfniciaaGreatDoorNBad
import Derived.Test.YtnndaipnfniciaaGreatDoorBaseR
import Derived.Test.YtnndaipnfniciaaGreatDoorNLiftN
import Derived.Deep.DeepCutAuto
namespace Go.Proofs.YtnndaipnfniciaaGreatDoor
open Go.RowKit Go.Shelf
set_option maxRecDepth 100000
theorem El.dual_ok {x : El} (h : x.Ok) : x.dual.Ok := by
  have hk : x.dual.known = true ∧ x.dual.divides = x.divides := by
    have n1 : ¬ kSeries = kBlock := by decide
    have n2 : ¬ kSeries = kShunt := by decide
    have n3 : ¬ kSeries = kTrap := by decide
    have n4 : ¬ kShunt = kBlock := by decide
    have n5 : ¬ kShunt = kSeries := by decide
    have n6 : ¬ kShunt = kTrap := by decide
    have n7 : ¬ kTrap = kBlock := by decide
    have n8 : ¬ kTrap = kSeries := by decide
    have n9 : ¬ kTrap = kShunt := by decide
    rcases El.kinds h.kn with e | e | e | e <;> simp [El.known, El.divides, El.dual, dualKind, e, n1, n2, n3, n4, n5, n6, n7, n8, n9]
  exact ⟨hk.1, h.al, h.ah, h.bl, h.bh, fun hd => h.nz (hk.2 ▸ hd)⟩
theorem lad_dual {l : List El} (h : LadOk l) : LadOk (l.map El.dual) :=
  ⟨by rw [List.length_map]; exact h.len, fun x hx => by obtain ⟨y, hy, rfl⟩ := List.mem_map.1 hx; exact El.dual_ok (h.all y hy)⟩
theorem at_of {l : List El} {f : Int} (h : LadOk l) (h1 : 1 ≤ f) (h8 : f ≤ 8) : atErr l f = 0 := by
  unfold atErr
  rw [fnz_zero]
  simp only [List.mem_cons, List.not_mem_nil, or_false, forall_eq_or_imp, forall_eq]
  exact ⟨ok_lad h, rng_zero.2 ⟨h1, h8⟩⟩
theorem lad_more {l : List El} (h : LadOk l) (h4 : l.length ≤ 4) : LadOk (⟨kSeries, 3, 0⟩ :: l) :=
  ⟨by simp; omega, fun x hx => by
    rcases List.mem_cons.1 hx with rfl | hx
    · exact El.err_ok (by decide)
    · exact h.all x hx⟩
theorem chn_in4 {l : List El} {f : Int} (h : LadOk l) (h1 : 1 ≤ f) (h8 : f ≤ 8) (h4 : l.length ≤ 4) : (chn f .id l).In 28398241 := by
  have := chn_in h1 h8 l .id 1 h.all id_in
  have hp : 1 * 73 ^ l.length ≤ 28398241 := by
    have := Nat.pow_le_pow_right (show 0 < 73 by decide) h4
    omega
  exact ⟨Nat.le_trans this.1 hp, Nat.le_trans this.2 hp⟩
theorem sq_nrm (a : G) : a.sq ≤ ((a.nrm * a.nrm : Nat) : Int) := by
  have h := G.nrm_mul a a.conj
  have e : (a.mul a.conj).re = a.sq := by simp only [G.mul, G.conj, G.sq]; grind
  have hc : a.conj.nrm = a.nrm := by simp [G.nrm, G.conj]
  rw [← e]
  have := G.nrm_mul a a.conj
  rw [hc] at this
  have := (G.nrm_le this).2.1
  exact this
theorem pw_nrm {a c : G} {n : Nat} (ha : a.nrm ≤ n) (hc : c.nrm ≤ n) : pw a c ≤ ((n * n : Nat) : Int) := by
  rw [← pw_conj]
  exact (G.nrm_le (mul_conj_nrm ha hc)).2.1
theorem lawPas_bad (A : Option Addr) (n c : Nat) (l : List El) (f : Int) (w : World) (hV : VarsN w) (hR : Reads w w.heap.size 3 A n (els l)) (he : ¬ atErr l f = 0) :
    Calls Tryz.prog 8 #[.slice A n c, .int .i64 f] w fun e w' => e = .returned (.bool true) ∧ Below w.heap.size w w' := by
  have t0 : (atErr l f != 0) = true := by simpa using he
  clear he
  go_enter Tryz.func8, Tryz.ntmps8
  go_wp2_with fail
  refine (rCheckAt_any A n c l f _ hR).mono ?_
  rintro e w1 ⟨rfl, hb1⟩
  go_wp2_with fail
  refine (awake_any _ (hV.con.carry (by repeat (first | with_reducible assumption | exact Below.refl _ _ | refine below_next (by with_reducible assumption) ?_))) (hV.tur.carry (by repeat (first | with_reducible assumption | exact Below.refl _ _ | refine below_next (by with_reducible assumption) ?_))) (hV.ten.carry (by repeat (first | with_reducible assumption | exact Below.refl _ _ | refine below_next (by with_reducible assumption) ?_)))).mono ?_
  rintro e wz ⟨rfl, hbz⟩
  go_wp2_with fail
  go_ret
  exact ⟨rfl, (by repeat (first | with_reducible assumption | exact Below.refl _ _ | refine below_next (by with_reducible assumption) ?_))⟩
set_option maxHeartbeats 8000000 in
theorem lawPas_good (A : Option Addr) (n c : Nat) (l : List El) (f : Int) (w : World) (hV : VarsN w) (hR : Reads w w.heap.size 3 A n (els l)) (he : atErr l f = 0) :
    Calls Tryz.prog 8 #[.slice A n c, .int .i64 f] w fun e w' => e = .returned (.bool true) ∧ Below w.heap.size w w' := by
  obtain ⟨hl, f1, f8⟩ := at_zero he
  have hll := els_reads_len hR
  have hn5 : n ≤ 5 := by have := hl.len; omega
  have H0 := hide (ok_lad hl)
  have HE := hide he
  obtain ⟨hp, hs, hz⟩ := pas_pw (f := f) hl
  have hin := chain_in hl f1 f8
  have hda := at_of (lad_dual hl) f1 f8
  have hdm := chn_dual (w := f) (l := l) fun x hx => (hl.all x hx).kn
  have hmm := pw_more (f := f) (l := l)
  have hc4 := fun h4 => chn_in4 hl f1 f8 h4
  have hpw := fun A c w hC hR => Power_ok l f A n c w hC he (by omega) hR
  have hch := fun A c w hC hR => Chain_ok l f A n c w hC he (by omega) hR
  have hcd := fun A c w hC hR => Chain_ok (l.map El.dual) f A n c w hC hda (by omega) hR
  obtain ⟨M, hM⟩ : ∃ M, chn f .id l = M := ⟨_, rfl⟩
  rw [hdm] at hcd
  simp only [Mat.dual] at hcd
  rw [hM] at hp hs hz hin hmm hc4 hpw hch hcd
  have na : M.a.nrm ≤ 2073071593 := by have := hin.1; omega
  have nb : M.b.nrm ≤ 2073071593 := by have := hin.1; omega
  have nc : M.c.nrm ≤ 2073071593 := by have := hin.2; omega
  have nd : M.d.nrm ≤ 2073071593 := by have := hin.2; omega
  have qc := conj_im (a := M.c) (by omega)
  have qd := conj_im (a := M.d) (by omega)
  have e1 : (M.a.mul M.c.conj).w.re = pw M.a M.c := by
    rw [G.w_in (Nat.le_trans (mul_conj_nrm na nc) (by decide)), pw_conj]
  have e2 : (M.b.mul M.d.conj).w.re = pw M.b M.d := by
    rw [G.w_in (Nat.le_trans (mul_conj_nrm nb nd) (by decide)), pw_conj]
  have hind : M.dual.In 2073071593 := by
    have h1 := hin.1; have h2 := hin.2
    exact ⟨by simp only [Mat.dual]; omega, by simp only [Mat.dual]; omega⟩
  have hmo : n < 5 → atErr (⟨kSeries, 3, 0⟩ :: l) f = 0 ∧ pw (chn f .id (⟨kSeries, 3, 0⟩ :: l)).a (chn f .id (⟨kSeries, 3, 0⟩ :: l)).c = pw M.a M.c + 3 * M.c.sq ∧ (0 ≤ M.c.sq ∧ M.c.sq ≤ 806460091894081) ∧ (0 ≤ pw M.a M.c ∧ pw M.a M.c ≤ 806460091894081) := by
    intro h
    have i4 := hc4 (by omega)
    have ia : M.a.nrm ≤ 28398241 := by have := i4.1; omega
    have ic : M.c.nrm ≤ 28398241 := by have := i4.2; omega
    refine ⟨at_of (lad_more hl (by omega)) f1 f8, by rw [hmm]; exact pw_add3 _ _ _, ⟨G.sq_nn _, ?_⟩, hp, ?_⟩
    · have h1 := sq_nrm M.c
      have h2 := Nat.mul_le_mul ic ic
      omega
    · have h1 := pw_nrm ia ic
      omega
  obtain ⟨P0, hP⟩ : ∃ P0, pw M.a M.c = P0 := ⟨_, rfl⟩
  obtain ⟨S0, hS⟩ : ∃ S0, pw M.b M.d = S0 := ⟨_, rfl⟩
  obtain ⟨K0, hK⟩ : ∃ K0, M.c.sq = K0 := ⟨_, rfl⟩
  rw [hP] at hp hz e1 hpw
  rw [hS] at hs hz e2
  rw [hP, hK] at hmo
  obtain ⟨pl, hpl⟩ : ∃ pl, lossB l = pl := ⟨_, rfl⟩
  have hz' : pl = true → P0 = 0 ∧ S0 = 0 := fun h => hz (lossB_iff.1 (hpl.trans h))
  have HLB : Hid (lossB (l.take n) = pl) := by show lossB (l.take n) = pl; rw [List.take_of_length_le (by omega), hpl]
  have hlo := fun A c w hR => Lossless_ok A n c l w (ok_lad hl) hR (by omega)
  rw [hpl] at hlo
  have HPW := hide hpw
  have HCH := hide hch
  have HCD := hide hcd
  have HLO := hide hlo
  have HIN := hide hin
  have hbd : ∀ W, Calls Tryz.prog 60 #[.agg #[.int .i64 M.d.re, .int .i64 M.d.im, .int .i64 M.c.re, .int .i64 M.c.im, .int .i64 M.b.re, .int .i64 M.b.im, .int .i64 M.a.re, .int .i64 M.a.im]] W fun e w' => e = .returned (.bool false) ∧ Below W.heap.size W w' := fun W => beyond_any M.dual W hind
  have HBD := hide hbd
  have HMO := hide hmo
  have HZ := hide hz'
  have QC := hide qc
  have QD := hide qd
  have QK := hide hK
  have E1 := hide e1
  have E2 := hide e2
  have hp0 : decide (P0 < 0) = false := decide_eq_false (by omega)
  have hs0 : decide (S0 < 0) = false := decide_eq_false (by omega)
  clear e1 e2 hbd hll he hp hs hz hin hda hdm hmm hc4 hpw hch hcd hM hmo hP hS hK hz' hlo hpl qc qd hl f1 f8 na nb nc nd hind
  go_enter Tryz.func8, Tryz.ntmps8
  go_wp2_with fail
  refine (rCheckAt_any A n c l f _ hR).mono ?_
  rintro e w1 ⟨rfl, hb1⟩
  rw [HE.out]
  go_wp2_with fail
  refine (ladder_lad A n c l _ (carry hR (by repeat (first | with_reducible assumption | exact Below.refl _ _ | refine below_next (by with_reducible assumption) ?_))) (by omega)).mono ?_
  rintro e w2 ⟨A2, cA2, rfl, rA2, hbw2⟩
  go_wp2_with fail
  refine (HPW.out A2 cA2 _ (hV.con.carry (by repeat (first | with_reducible assumption | exact Below.refl _ _ | refine below_next (by with_reducible assumption) ?_))) rA2).mono ?_
  rintro e w3 ⟨rfl, hb3⟩
  go_wp2_with fail
  refine (ladder_lad A n c l _ (carry hR (by repeat (first | with_reducible assumption | exact Below.refl _ _ | refine below_next (by with_reducible assumption) ?_))) (by omega)).mono ?_
  rintro e w4 ⟨A4, cA4, rfl, rA4, hbw4⟩
  go_wp2_with fail
  refine (HCH.out A4 cA4 _ (hV.con.carry (by repeat (first | with_reducible assumption | exact Below.refl _ _ | refine below_next (by with_reducible assumption) ?_))) rA4).mono ?_
  rintro e w5 ⟨rfl, hb5⟩
  go_upto_region 5 with (fail)
  obtain ⟨w6, e6, hb6, hz6, kM⟩ := box1 w5 #[.int .i64 M.a.re, .int .i64 M.a.im, .int .i64 M.b.re, .int .i64 M.b.im, .int .i64 M.c.re, .int .i64 M.c.im, .int .i64 M.d.re, .int .i64 M.d.im] 73
  rw [← e6]; clear e6
  go_wp2_with fail
  refine (ladder_lad A n c l _ (carry hR (by repeat (first | with_reducible assumption | exact Below.refl _ _ | refine below_next (by with_reducible assumption) ?_))) (by omega)).mono ?_
  rintro e w7 ⟨A7, cA7, rfl, rA7, hbw7⟩
  go_wp2_with fail
  refine (HLO.out A7 cA7 _ rA7).mono ?_
  rintro e w8 ⟨rfl, hb8⟩
  go_wp2_with fail
  refine (ladder_lad A n c l _ (carry hR (by repeat (first | with_reducible assumption | exact Below.refl _ _ | refine below_next (by with_reducible assumption) ?_))) (by omega)).mono ?_
  rintro e w9 ⟨A9, cA9, rfl, rA9, hbw9⟩
  go_wp2_with fail
  refine (Dual_ok A9 n cA9 l _ rA9 H0.out).mono ?_
  rintro e w10 ⟨A10, c10, rfl, rD, hb10⟩
  go_upto_region 7 with (fail)
  have cM := over_blk (carryK (w' := w10) kM (by repeat (first | with_reducible assumption | exact Below.refl _ _ | refine below_next (by with_reducible assumption) ?_))) (carryK (w' := w10) kM (by repeat (first | with_reducible assumption | exact Below.refl _ _ | refine below_next (by with_reducible assumption) ?_))).lt
  have i0 : ∀ W : World, (Instr.field 23 (.agg #[.int .i64 (M.a.mul M.c.conj).w.re, .int .i64 (M.a.mul M.c.conj).w.im]) 0).run Tryz.prog W = .ok (.int .i64 P0) W := fun _ => by rw [← E1.out]; kernel_rfl
  refine wp_region_over w10.heap.size (by kernel_rfl) (by kernel_rfl) ?_; (repeat (first | go_big_quiet_step (first | (go_at_call 60; with_reducible exact over_call (Nat.le_refl _) (beyond_any M _ HIN.out)) | (go_at_call 62; with_reducible exact over_call (Nat.le_refl _) (conjIn_any M.c QC.out _)) | (go_at_call 61; with_reducible exact over_call (Nat.le_refl _) (rTimes_any M.a M.c.conj _))) | quiet_step (first | (go_at_call 60; with_reducible exact over_call (Nat.le_refl _) (beyond_any M _ HIN.out)) | (go_at_call 62; with_reducible exact over_call (Nat.le_refl _) (conjIn_any M.c QC.out _)) | (go_at_call 61; with_reducible exact over_call (Nat.le_refl _) (rTimes_any M.a M.c.conj _))))); refine wpQuiet_nil ?_; rintro W ⟨x, rfl⟩
  have hbY := over_below w10.heap.size w10 x
  generalize over w10.heap.size w10 x = Y at hbY ⊢
  clear cM
  go_upto_region 9 with (fail)
  have cM := over_blk (carryK (w' := Y) kM (by repeat (first | with_reducible assumption | exact Below.refl _ _ | refine below_next (by with_reducible assumption) ?_))) (carryK (w' := Y) kM (by repeat (first | with_reducible assumption | exact Below.refl _ _ | refine below_next (by with_reducible assumption) ?_))).lt
  have i1 : ∀ W : World, (Instr.field 23 (.agg #[.int .i64 (M.b.mul M.d.conj).w.re, .int .i64 (M.b.mul M.d.conj).w.im]) 0).run Tryz.prog W = .ok (.int .i64 S0) W := fun _ => by rw [← E2.out]; kernel_rfl
  refine wp_region_over Y.heap.size (by kernel_rfl) (by kernel_rfl) ?_; (repeat (first | go_big_quiet_step (first | (go_at_call 62; with_reducible exact over_call (Nat.le_refl _) (conjIn_any M.d QD.out _)) | (go_at_call 61; with_reducible exact over_call (Nat.le_refl _) (rTimes_any M.b M.d.conj _))) | quiet_step (first | (go_at_call 62; with_reducible exact over_call (Nat.le_refl _) (conjIn_any M.d QD.out _)) | (go_at_call 61; with_reducible exact over_call (Nat.le_refl _) (rTimes_any M.b M.d.conj _))))); refine wpQuiet_nil ?_; rintro W ⟨x, rfl⟩
  have hbZ := over_below Y.heap.size Y x
  generalize over Y.heap.size Y x = Z at hbZ ⊢
  clear cM i1
  go_wp2_with fail
  have kMZ := carryK (w' := Z) kM (by repeat (first | with_reducible assumption | exact Below.refl _ _ | refine below_next (by with_reducible assumption) ?_))
  have hRZ := carry (w' := Z) hR (by repeat (first | with_reducible assumption | exact Below.refl _ _ | refine below_next (by with_reducible assumption) ?_))
  have rDZ := carry (w' := Z) rD (by repeat (first | with_reducible assumption | exact Below.refl _ _ | refine below_next (by with_reducible assumption) ?_))
  have hVZ : VarsN Z := hV.carry (by repeat (first | with_reducible assumption | exact Below.refl _ _ | refine below_next (by with_reducible assumption) ?_))
  have hbw : Below w.heap.size w Z := (by repeat (first | with_reducible assumption | exact Below.refl _ _ | refine below_next (by with_reducible assumption) ?_))
  clear hb1 hbw2 hb3 hbw4 hb5 hb6 hbw7 hb8 hbw9 hb10 hbY hbZ rA2 rA4 rA7 rA9 hR hV kM rD
  go_loopw [14, 88] (fun v i wr => ∃ k : Nat, k ≤ n ∧ i = .int .i64 k ∧ v = .bool (lossB (l.take k)) ∧ Below Z.heap.size Z wr) (fun _ i _ => n - (intOf i).toNat)
  case atStart => exact ⟨0, by omega, rfl, rfl, Below.refl _ _⟩
  case round =>
    rename World => wo
    obtain ⟨k, hk, rfl, rfl, hb⟩ := hrel
    by_cases hlt : k < n
    · obtain ⟨ad, x, rfl, _, hxk, hcx⟩ := els_hit (carry hRZ hb) hlt (Nat.le_refl _)
      obtain ⟨q0, q1, q2⟩ := hcx wo (Below.refl _ _)
      have hstep : lossB (l.take (k + 1)) = (lossB (l.take k) && decide (x.a = 0)) := by
        rw [List.take_add_one, hxk]; simp [lossB]
      have HST := hide hstep
      clear hxk hcx hstep
      obtain ⟨b, hbq⟩ : ∃ b, lossB (l.take k) = b := ⟨_, rfl⟩
      rw [hbq] at HST ⊢
      clear hbq
      go_upto_region 14 with (fail)
      obtain ⟨w11, e11, hb11, hz11, kX⟩ := box1 wo #[.string x.kind, .int .i64 x.a, .int .i64 x.b] 103
      rw [← e11]; clear e11 q0 q1 q2
      have hbo := below_next hb hb11
      have cX := kX.cell
      cases b
      · go_wp2_with fail
        go_roundw
        case rel => exact ⟨k + 1, by omega, by go_num, by rw [HST.out]; rfl, hbo⟩
        case measure => simp [intOf]; omega
      · by_cases hx0 : x.a = 0
        · have g0 : (x.a == 0) = true := by simp [hx0]
          have HX := hide hx0
          clear hx0
          go_wp2_with fail
          go_roundw
          case rel => exact ⟨k + 1, by omega, by go_num, by rw [HST.out]; simp [HX.out], hbo⟩
          case measure => simp [intOf]; omega
        · have g0 : (x.a == 0) = false := by simp [hx0]
          have HX := hide hx0
          clear hx0
          go_wp2_with fail
          go_roundw
          case rel => exact ⟨k + 1, by omega, by go_num, by rw [HST.out]; simp [HX.out], hbo⟩
          case measure => simp [intOf]; omega
    · have hkn : k = n := by omega
      rw [hkn, HLB.out]
      have g1 : ¬ ((n : Int) < (n : Int)) := by omega
      clear hkn hlt hk
      have h5 : n ≤ 5 := hn5
      cases pl
      · skip
        go_wp2_with fail
        refine (HCD.out A10 c10 _ (hVZ.con.carry (by repeat (first | with_reducible assumption | exact Below.refl _ _ | refine below_next (by with_reducible assumption) ?_))) (carry rDZ (by repeat (first | with_reducible assumption | exact Below.refl _ _ | refine below_next (by with_reducible assumption) ?_)))).mono ?_
        rintro e w12 ⟨rfl, hb12⟩
        go_upto_region 19 with (fail)
        obtain ⟨w13, e13, hb13, hz13, kN⟩ := box1 w12 #[.int .i64 M.d.re, .int .i64 M.d.im, .int .i64 M.c.re, .int .i64 M.c.im, .int .i64 M.b.re, .int .i64 M.b.im, .int .i64 M.a.re, .int .i64 M.a.im] 73
        rw [← e13]; clear e13
        have cN := over_blk kN kN.lt
        refine wp_region_over w13.heap.size (by kernel_rfl) (by kernel_rfl) ?_; (repeat (first | go_big_quiet_step (first | (go_at_call 60; with_reducible exact over_call (Nat.le_refl _) (HBD.out _)) | (go_at_call 62; with_reducible exact over_call (Nat.le_refl _) (conjIn_any M.c QC.out _)) | (go_at_call 61; with_reducible exact over_call (Nat.le_refl _) (rTimes_any M.a M.c.conj _))) | quiet_step (first | (go_at_call 60; with_reducible exact over_call (Nat.le_refl _) (HBD.out _)) | (go_at_call 62; with_reducible exact over_call (Nat.le_refl _) (conjIn_any M.c QC.out _)) | (go_at_call 61; with_reducible exact over_call (Nat.le_refl _) (rTimes_any M.a M.c.conj _))))); refine wpQuiet_nil ?_; rintro W ⟨x, rfl⟩
        have hbU := over_below w13.heap.size w13 x
        generalize over w13.heap.size w13 x = U at hbU ⊢
        clear cN i0
        by_cases hlt5 : n < 5
        · have g5 : (((n : Nat) : Int) == 5) = false := by simp; omega
          obtain ⟨hat, hmo, k1, k2⟩ := HMO.out hlt5
          have HAT := hide hat
          have HMR := hide hmo
          have HSQ : Hid (∀ W, Calls Tryz.prog 63 #[.agg #[.int .i64 M.c.re, .int .i64 M.c.im]] W fun e w' => e = .returned (.int .i64 K0) ∧ Below W.heap.size W w') := fun W => by
            have := sqIn_any M.c (wr_in (by rw [QK.out]; omega)) W
            rwa [QK.out] at this
          have r1 : IntKind.i64.wrap (3 * K0) = 3 * K0 := IntWalk.i64_in _ (by omega)
          have r2 : IntKind.i64.wrap (P0 + 3 * K0) = P0 + 3 * K0 := IntWalk.i64_in _ (by omega)
          clear hat hmo k1 k2
          go_wp2_with fail
          obtain ⟨w14, e14, hb14, hz14, kL⟩ := box1 U #[.string { data := #[115, 101, 114, 105, 101, 115] }, .int .i64 3, .int .i64 0] 104
          rw [← e14]; clear e14
          refine (ladder_lad A n c l _ (carry hRZ (by repeat (first | with_reducible assumption | exact Below.refl _ _ | refine below_next (by with_reducible assumption) ?_))) (by omega)).mono ?_
          rintro e w15 ⟨A15, c15, rfl, rL, hbw15⟩
          have hown : w15.ownsRow U.heap.size 104 3 (.slice (some ⟨U.heap.size, 0, none⟩) 1 1) 1 [.string { data := #[115, 101, 114, 105, 101, 115] }, .int .i64 3, .int .i64 0] := ⟨rfl, .inr ⟨U.heap.size, 1, #[.string { data := #[115, 101, 114, 105, 101, 115] }, .int .i64 3, .int .i64 0], rfl, Nat.le_refl _, carryK kL hbw15, Nat.le_refl _, by unfold maxLen; omega, rfl, rfl⟩⟩
          have hU15 : Below U.heap.size U w15 := (by repeat (first | with_reducible assumption | exact Below.refl _ _ | refine below_next (by with_reducible assumption) ?_))
          have q1 : 1 + n ≤ maxLen := by unfold maxLen; omega
          have q2 : (1 + n) * 32 ≤ 140737488355328 := by omega
          obtain ⟨i, hi, hz, hsize, hby⟩ := info_parts info_el
          have hz15 := hU15.size
          go_wp2_with (at_builtin; refine wpList_append_any w15 rfl (.tmp 146) (.tmp 148) _ rfl U.heap.size 104 i _ 3 32 Tryz.underlying47 hi hz hsize hby rfl (by decide) _ 1 _ rfl hown w15.heap.size A15 n c15 (els l) rfl rL (els_one l) q1 q2 hz15 ?_; intro v1 w16 ho1 hg1 _; obtain ⟨A16, c16, rfl, rM⟩ := own_slice ho1)
          have hU16 : Below U.heap.size U w16 := hU15.grown hg1 hz15 fun k hk => (hown.lt k hk).1
          have rM2 : Reads w16 w16.heap.size 3 A16 (1 + n) (els (⟨kSeries, 3, 0⟩ :: l)) := rM
          clear hb14 hbw15 hU15 hg1 hown ho1 rM kL rL hi hz hsize hby hz15 q1 q2
          refine (Power_ok (⟨kSeries, 3, 0⟩ :: l) f A16 (1 + n) c16 _ (hVZ.con.carry (by repeat (first | with_reducible assumption | exact Below.refl _ _ | refine below_next (by with_reducible assumption) ?_))) HAT.out (by omega) rM2).mono ?_
          rintro e w17 ⟨rfl, hb17⟩
          rw [HMR.out]
          have cM := (carryK (w' := w17) kMZ (by repeat (first | with_reducible assumption | exact Below.refl _ _ | refine below_next (by with_reducible assumption) ?_))).cell
          go_wp2_with fail
          refine (HSQ.out _).mono ?_
          rintro e w18 ⟨rfl, hb18⟩
          clear cM
          go_wp2_with fail
          refine (awake_any _ (hVZ.con.carry (by repeat (first | with_reducible assumption | exact Below.refl _ _ | refine below_next (by with_reducible assumption) ?_))) (hVZ.tur.carry (by repeat (first | with_reducible assumption | exact Below.refl _ _ | refine below_next (by with_reducible assumption) ?_))) (hVZ.ten.carry (by repeat (first | with_reducible assumption | exact Below.refl _ _ | refine below_next (by with_reducible assumption) ?_)))).mono ?_
          rintro e wz ⟨rfl, hbz⟩
          go_wp2_with fail
          go_ret
          exact ⟨rfl, (by repeat (first | with_reducible assumption | exact Below.refl _ _ | refine below_next (by with_reducible assumption) ?_))⟩
        · have hn : n = 5 := by omega
          have g5 : (((n : Nat) : Int) == 5) = true := by simp; omega
          clear hn hlt5
          go_wp2_with fail
          refine (awake_any _ (hVZ.con.carry (by repeat (first | with_reducible assumption | exact Below.refl _ _ | refine below_next (by with_reducible assumption) ?_))) (hVZ.tur.carry (by repeat (first | with_reducible assumption | exact Below.refl _ _ | refine below_next (by with_reducible assumption) ?_))) (hVZ.ten.carry (by repeat (first | with_reducible assumption | exact Below.refl _ _ | refine below_next (by with_reducible assumption) ?_)))).mono ?_
          rintro e wz ⟨rfl, hbz⟩
          go_wp2_with fail
          go_ret
          exact ⟨rfl, (by repeat (first | with_reducible assumption | exact Below.refl _ _ | refine below_next (by with_reducible assumption) ?_))⟩
      · obtain ⟨rfl, rfl⟩ := HZ.out rfl
        go_wp2_with fail
        refine (HCD.out A10 c10 _ (hVZ.con.carry (by repeat (first | with_reducible assumption | exact Below.refl _ _ | refine below_next (by with_reducible assumption) ?_))) (carry rDZ (by repeat (first | with_reducible assumption | exact Below.refl _ _ | refine below_next (by with_reducible assumption) ?_)))).mono ?_
        rintro e w12 ⟨rfl, hb12⟩
        go_upto_region 19 with (fail)
        obtain ⟨w13, e13, hb13, hz13, kN⟩ := box1 w12 #[.int .i64 M.d.re, .int .i64 M.d.im, .int .i64 M.c.re, .int .i64 M.c.im, .int .i64 M.b.re, .int .i64 M.b.im, .int .i64 M.a.re, .int .i64 M.a.im] 73
        rw [← e13]; clear e13
        have cN := over_blk kN kN.lt
        refine wp_region_over w13.heap.size (by kernel_rfl) (by kernel_rfl) ?_; (repeat (first | go_big_quiet_step (first | (go_at_call 60; with_reducible exact over_call (Nat.le_refl _) (HBD.out _)) | (go_at_call 62; with_reducible exact over_call (Nat.le_refl _) (conjIn_any M.c QC.out _)) | (go_at_call 61; with_reducible exact over_call (Nat.le_refl _) (rTimes_any M.a M.c.conj _))) | quiet_step (first | (go_at_call 60; with_reducible exact over_call (Nat.le_refl _) (HBD.out _)) | (go_at_call 62; with_reducible exact over_call (Nat.le_refl _) (conjIn_any M.c QC.out _)) | (go_at_call 61; with_reducible exact over_call (Nat.le_refl _) (rTimes_any M.a M.c.conj _))))); refine wpQuiet_nil ?_; rintro W ⟨x, rfl⟩
        have hbU := over_below w13.heap.size w13 x
        generalize over w13.heap.size w13 x = U at hbU ⊢
        clear cN i0
        by_cases hlt5 : n < 5
        · have g5 : (((n : Nat) : Int) == 5) = false := by simp; omega
          obtain ⟨hat, hmo, k1, k2⟩ := HMO.out hlt5
          have HAT := hide hat
          have HMR := hide hmo
          have HSQ : Hid (∀ W, Calls Tryz.prog 63 #[.agg #[.int .i64 M.c.re, .int .i64 M.c.im]] W fun e w' => e = .returned (.int .i64 K0) ∧ Below W.heap.size W w') := fun W => by
            have := sqIn_any M.c (wr_in (by rw [QK.out]; omega)) W
            rwa [QK.out] at this
          have r1 : IntKind.i64.wrap (3 * K0) = 3 * K0 := IntWalk.i64_in _ (by omega)
          have r2 : IntKind.i64.wrap (0 + 3 * K0) = 0 + 3 * K0 := IntWalk.i64_in _ (by omega)
          clear hat hmo k1 k2
          go_wp2_with fail
          obtain ⟨w14, e14, hb14, hz14, kL⟩ := box1 U #[.string { data := #[115, 101, 114, 105, 101, 115] }, .int .i64 3, .int .i64 0] 104
          rw [← e14]; clear e14
          refine (ladder_lad A n c l _ (carry hRZ (by repeat (first | with_reducible assumption | exact Below.refl _ _ | refine below_next (by with_reducible assumption) ?_))) (by omega)).mono ?_
          rintro e w15 ⟨A15, c15, rfl, rL, hbw15⟩
          have hown : w15.ownsRow U.heap.size 104 3 (.slice (some ⟨U.heap.size, 0, none⟩) 1 1) 1 [.string { data := #[115, 101, 114, 105, 101, 115] }, .int .i64 3, .int .i64 0] := ⟨rfl, .inr ⟨U.heap.size, 1, #[.string { data := #[115, 101, 114, 105, 101, 115] }, .int .i64 3, .int .i64 0], rfl, Nat.le_refl _, carryK kL hbw15, Nat.le_refl _, by unfold maxLen; omega, rfl, rfl⟩⟩
          have hU15 : Below U.heap.size U w15 := (by repeat (first | with_reducible assumption | exact Below.refl _ _ | refine below_next (by with_reducible assumption) ?_))
          have q1 : 1 + n ≤ maxLen := by unfold maxLen; omega
          have q2 : (1 + n) * 32 ≤ 140737488355328 := by omega
          obtain ⟨i, hi, hz, hsize, hby⟩ := info_parts info_el
          have hz15 := hU15.size
          go_wp2_with (at_builtin; refine wpList_append_any w15 rfl (.tmp 146) (.tmp 148) _ rfl U.heap.size 104 i _ 3 32 Tryz.underlying47 hi hz hsize hby rfl (by decide) _ 1 _ rfl hown w15.heap.size A15 n c15 (els l) rfl rL (els_one l) q1 q2 hz15 ?_; intro v1 w16 ho1 hg1 _; obtain ⟨A16, c16, rfl, rM⟩ := own_slice ho1)
          have hU16 : Below U.heap.size U w16 := hU15.grown hg1 hz15 fun k hk => (hown.lt k hk).1
          have rM2 : Reads w16 w16.heap.size 3 A16 (1 + n) (els (⟨kSeries, 3, 0⟩ :: l)) := rM
          clear hb14 hbw15 hU15 hg1 hown ho1 rM kL rL hi hz hsize hby hz15 q1 q2
          refine (Power_ok (⟨kSeries, 3, 0⟩ :: l) f A16 (1 + n) c16 _ (hVZ.con.carry (by repeat (first | with_reducible assumption | exact Below.refl _ _ | refine below_next (by with_reducible assumption) ?_))) HAT.out (by omega) rM2).mono ?_
          rintro e w17 ⟨rfl, hb17⟩
          rw [HMR.out]
          have cM := (carryK (w' := w17) kMZ (by repeat (first | with_reducible assumption | exact Below.refl _ _ | refine below_next (by with_reducible assumption) ?_))).cell
          go_wp2_with fail
          refine (HSQ.out _).mono ?_
          rintro e w18 ⟨rfl, hb18⟩
          clear cM
          go_wp2_with fail
          refine (awake_any _ (hVZ.con.carry (by repeat (first | with_reducible assumption | exact Below.refl _ _ | refine below_next (by with_reducible assumption) ?_))) (hVZ.tur.carry (by repeat (first | with_reducible assumption | exact Below.refl _ _ | refine below_next (by with_reducible assumption) ?_))) (hVZ.ten.carry (by repeat (first | with_reducible assumption | exact Below.refl _ _ | refine below_next (by with_reducible assumption) ?_)))).mono ?_
          rintro e wz ⟨rfl, hbz⟩
          go_wp2_with fail
          go_ret
          exact ⟨rfl, (by repeat (first | with_reducible assumption | exact Below.refl _ _ | refine below_next (by with_reducible assumption) ?_))⟩
        · have hn : n = 5 := by omega
          have g5 : (((n : Nat) : Int) == 5) = true := by simp; omega
          clear hn hlt5
          go_wp2_with fail
          refine (awake_any _ (hVZ.con.carry (by repeat (first | with_reducible assumption | exact Below.refl _ _ | refine below_next (by with_reducible assumption) ?_))) (hVZ.tur.carry (by repeat (first | with_reducible assumption | exact Below.refl _ _ | refine below_next (by with_reducible assumption) ?_))) (hVZ.ten.carry (by repeat (first | with_reducible assumption | exact Below.refl _ _ | refine below_next (by with_reducible assumption) ?_)))).mono ?_
          rintro e wz ⟨rfl, hbz⟩
          go_wp2_with fail
          go_ret
          exact ⟨rfl, (by repeat (first | with_reducible assumption | exact Below.refl _ _ | refine below_next (by with_reducible assumption) ?_))⟩
theorem lawPas_any (A : Option Addr) (n c : Nat) (l : List El) (f : Int) (w : World) (hV : VarsN w) (hR : Reads w w.heap.size 3 A n (els l)) :
    Calls Tryz.prog 8 #[.slice A n c, .int .i64 f] w fun e w' => e = .returned (.bool true) ∧ Below w.heap.size w w' := by
  by_cases he : atErr l f = 0
  · exact lawPas_good A n c l f w hV hR he
  · exact lawPas_bad A n c l f w hV hR he
end Go.Proofs.YtnndaipnfniciaaGreatDoor
