/- The law NetworkReciprocal. -/
import Derived.Test.YtnndaipnfniciaaGreatDoorNLawPas
import Derived.Test.YtnndaipnfniciaaGreatDoorNEqs
namespace Go.Proofs.YtnndaipnfniciaaGreatDoor
open Go.RowKit Go.Shelf
set_option maxRecDepth 100000
theorem G.w_sub (a b : G) : (a.w.sub b.w).w = (a.sub b).w := G.ext' (wr_sub _ _) (wr_sub _ _)
theorem lad_rev {l : List El} (h : LadOk l) : LadOk l.reverse := ⟨by rw [List.length_reverse]; exact h.len, fun x hx => h.all x (List.mem_reverse.1 hx)⟩
theorem lad_drop {l : List El} (h : LadOk l) (k : Nat) : LadOk (l.drop k) := ⟨by have := h.len; rw [List.length_drop]; omega, fun x hx => h.all x (List.mem_of_mem_drop hx)⟩
theorem drop_step {l : List El} {n k : Nat} {x : El} (hn : l.length = n) (hk : k < n) (hx : l[n - 1 - k]? = some x) : l.drop (n - (k + 1)) = x :: l.drop (n - k) := by
  have h1 : n - 1 - k < l.length := by omega
  rw [List.getElem?_eq_getElem h1] at hx
  have := List.drop_eq_getElem_cons h1
  rw [show n - (k + 1) = n - 1 - k by omega, this, show n - 1 - k + 1 = n - k by omega]
  rw [Option.some.inj hx]
/-- One more element at the begin: what the law's step makes of the columns. -/
theorem mul_series {x : El} (h : x.kind = kSeries) (v : G) (m : Mat) : (x.mat v).mul m = ⟨m.a.add (v.mul m.c), m.b.add (v.mul m.d), m.c, m.d⟩ := by
  unfold El.mat; rw [if_pos h]
  apply Mat.ext' <;> apply G.ext' <;> simp [Mat.mul, G.mul, G.add, G.one, G.zero]
theorem mul_shunt {x : El} (h : x.kind = kShunt) (v : G) (m : Mat) : (x.mat v).mul m = ⟨m.a, m.b, m.c.add (v.mul m.a), m.d.add (v.mul m.b)⟩ := by
  unfold El.mat; rw [if_neg (by rw [h]; decide), if_pos h]
  apply Mat.ext' <;> apply G.ext' <;> simp [Mat.mul, G.mul, G.add, G.one, G.zero] <;> omega
theorem mul_block {x : El} (h : x.kind = kBlock) (v : G) (m : Mat) : (x.mat v).mul m = ⟨(v.mul m.a).add m.c, (v.mul m.b).add m.d, v.mul m.c, v.mul m.d⟩ := by
  unfold El.mat; rw [if_neg (by rw [h]; decide), if_neg (by rw [h]; decide), if_pos h]
  apply Mat.ext' <;> apply G.ext' <;> simp [Mat.mul, G.mul, G.add, G.one, G.zero]
theorem mul_trap {x : El} (h : x.kind = kTrap) (v : G) (m : Mat) : (x.mat v).mul m = ⟨v.mul m.a, v.mul m.b, (v.mul m.c).add m.a, (v.mul m.d).add m.b⟩ := by
  unfold El.mat; rw [if_neg (by rw [h]; decide), if_neg (by rw [h]; decide), if_neg (by rw [h]; decide)]
  apply Mat.ext' <;> apply G.ext' <;> simp [Mat.mul, G.mul, G.add, G.one, G.zero] <;> omega
theorem timesX (v q t : G) (ht : v.mul q = t) (h : t.nrm ≤ 9223372036854775807) (w : World) :
    Calls Tryz.prog 61 #[.agg #[.int .i64 v.re, .int .i64 v.im], .agg #[.int .i64 q.re, .int .i64 q.im]] w fun e w' => e = .returned (.agg #[.int .i64 t.re, .int .i64 t.im]) ∧ Below w.heap.size w w' := by
  have := rTimes_any v q w
  rwa [ht, G.w_in h] at this
theorem plusX (v q t : G) (ht : v.add q = t) (h : t.nrm ≤ 9223372036854775807) (w : World) :
    Calls Tryz.prog 66 #[.agg #[.int .i64 v.re, .int .i64 v.im], .agg #[.int .i64 q.re, .int .i64 q.im]] w fun e w' => e = .returned (.agg #[.int .i64 t.re, .int .i64 t.im]) ∧ Below w.heap.size w w' := by
  have := rPlus_any v q w
  rwa [ht, G.w_in h] at this
theorem lawRec_bad (A : Option Addr) (n c : Nat) (l : List El) (f : Int) (w : World) (hV : VarsN w) (hR : Reads w w.heap.size 3 A n (els l)) (he : ¬ atErr l f = 0) :
    Calls Tryz.prog 9 #[.slice A n c, .int .i64 f] w fun e w' => e = .returned (.bool true) ∧ Below w.heap.size w w' := by
  have t0 : (atErr l f != 0) = true := by simpa using he
  clear he
  go_enter Tryz.func9, Tryz.ntmps9
  go_wp2_with fail
  refine (rCheckAt_any A n c l f _ hR).mono ?_
  rintro e w1 ⟨rfl, hb1⟩
  go_wp2_with fail
  refine (awake_any _ (hV.con.carry (by repeat (first | with_reducible assumption | exact Below.refl _ _ | refine below_next (by with_reducible assumption) ?_))) (hV.tur.carry (by repeat (first | with_reducible assumption | exact Below.refl _ _ | refine below_next (by with_reducible assumption) ?_))) (hV.ten.carry (by repeat (first | with_reducible assumption | exact Below.refl _ _ | refine below_next (by with_reducible assumption) ?_)))).mono ?_
  rintro e wz ⟨rfl, hbz⟩
  go_wp2_with fail
  go_ret
  exact ⟨rfl, (by repeat (first | with_reducible assumption | exact Below.refl _ _ | refine below_next (by with_reducible assumption) ?_))⟩
set_option maxHeartbeats 8000000 in
theorem lawRec_good (A : Option Addr) (n c : Nat) (l : List El) (f : Int) (w : World) (hV : VarsN w) (hR : Reads w w.heap.size 3 A n (els l)) (he : atErr l f = 0) :
    Calls Tryz.prog 9 #[.slice A n c, .int .i64 f] w fun e w' => e = .returned (.bool true) ∧ Below w.heap.size w w' := by
  obtain ⟨hl, f1, f8⟩ := at_zero he
  have hll := els_reads_len hR
  have hn5 : n ≤ 5 := by have := hl.len; omega
  have H0 := hide (ok_lad hl)
  have HE := hide he
  have HOK := hide hl
  have HL := hide hll
  have hin := chain_in hl f1 f8
  have hdn := div_in hl f1 f8
  have hdet := det_chn (w := f) fun x hx => (hl.all x hx).kn
  have hda := at_of (lad_dual hl) f1 f8
  have hra := at_of (lad_rev hl) f1 f8
  have hdm := chn_dual (w := f) (l := l) fun x hx => (hl.all x hx).kn
  have hrm := chn_rev f l
  have hch := fun A c w hC hR => Chain_ok l f A n c w hC he (by omega) hR
  have hdv := fun A c w hC hR => Divisor_ok l f A n c w hC he (by omega) hR
  have hcd := fun A c w hC hR => Chain_ok (l.map El.dual) f A n c w hC hda (by omega) hR
  have hcr := fun A c w hC hR => Chain_ok l.reverse f A n c w hC hra (by omega) hR
  obtain ⟨M, hM⟩ : ∃ M, chn f .id l = M := ⟨_, rfl⟩
  obtain ⟨D, hD⟩ : ∃ D, dvs f .one l = D := ⟨_, rfl⟩
  rw [hdm] at hcd
  rw [hrm] at hcr
  rw [hM] at hin hch hcd hcr hdet
  rw [hD] at hdv hdet
  simp only [Mat.dual] at hcd
  simp only [Mat.rev] at hcr
  have hls : ∀ W, Calls Tryz.prog 65 #[.agg #[.int .i64 (M.a.mul M.d).w.re, .int .i64 (M.a.mul M.d).w.im], .agg #[.int .i64 (M.b.mul M.c).w.re, .int .i64 (M.b.mul M.c).w.im]] W fun e w' => e = .returned (.agg #[.int .i64 (D.mul D).w.re, .int .i64 (D.mul D).w.im]) ∧ Below W.heap.size W w' := fun W => by
    have := rLess_any (M.a.mul M.d).w (M.b.mul M.c).w W
    rwa [G.w_sub, show (M.a.mul M.d).sub (M.b.mul M.c) = D.mul D from hdet] at this
  have HLS := hide hls
  have HCH := hide hch
  have HDV := hide hdv
  have HCD := hide hcd
  have HCR := hide hcr
  have HIN := hide hin
  have HM := hide hM
  clear hll he hin hdn hdet hda hra hdm hrm hch hdv hcd hcr hM hD hls hl
  go_enter Tryz.func9, Tryz.ntmps9
  go_wp2_with fail
  refine (rCheckAt_any A n c l f _ hR).mono ?_
  rintro e w1 ⟨rfl, hb1⟩
  rw [HE.out]
  go_wp2_with fail
  refine (ladder_lad A n c l _ (carry hR (by repeat (first | with_reducible assumption | exact Below.refl _ _ | refine below_next (by with_reducible assumption) ?_))) (by omega)).mono ?_
  rintro e w2 ⟨A2, cA2, rfl, rA2, hbw2⟩
  go_wp2_with fail
  refine (HCH.out A2 cA2 _ (hV.con.carry (by repeat (first | with_reducible assumption | exact Below.refl _ _ | refine below_next (by with_reducible assumption) ?_))) rA2).mono ?_
  rintro e w3 ⟨rfl, hb3⟩
  go_upto_region 4 with (fail)
  obtain ⟨w4, e4, hb4, hz4, kM⟩ := box1 w3 #[.int .i64 M.a.re, .int .i64 M.a.im, .int .i64 M.b.re, .int .i64 M.b.im, .int .i64 M.c.re, .int .i64 M.c.im, .int .i64 M.d.re, .int .i64 M.d.im] 73
  rw [← e4]; clear e4
  go_wp2_with fail
  refine (ladder_lad A n c l _ (carry hR (by repeat (first | with_reducible assumption | exact Below.refl _ _ | refine below_next (by with_reducible assumption) ?_))) (by omega)).mono ?_
  rintro e w5 ⟨A5, cA5, rfl, rA5, hbw5⟩
  go_wp2_with fail
  refine (HDV.out A5 cA5 _ (hV.con.carry (by repeat (first | with_reducible assumption | exact Below.refl _ _ | refine below_next (by with_reducible assumption) ?_))) rA5).mono ?_
  rintro e w6 ⟨rfl, hb6⟩
  go_upto_region 5 with (fail)
  obtain ⟨w7, e7, hb7, hz7, kD⟩ := box1 w6 #[.int .i64 D.re, .int .i64 D.im] 23
  rw [← e7]; clear e7
  go_wp2_with fail
  refine (ladder_lad A n c l _ (carry hR (by repeat (first | with_reducible assumption | exact Below.refl _ _ | refine below_next (by with_reducible assumption) ?_))) (by omega)).mono ?_
  rintro e w8 ⟨A8, cA8, rfl, rA8, hbw8⟩
  go_wp2_with fail
  refine (Reverse_ok A8 n cA8 l _ rA8 H0.out).mono ?_
  rintro e w9 ⟨A9, c9, rfl, rV, hb9⟩
  go_wp2_with fail
  refine (ladder_lad A n c l _ (carry hR (by repeat (first | with_reducible assumption | exact Below.refl _ _ | refine below_next (by with_reducible assumption) ?_))) (by omega)).mono ?_
  rintro e w10 ⟨A10, cA10, rfl, rA10, hbw10⟩
  go_wp2_with fail
  refine (Dual_ok A10 n cA10 l _ rA10 H0.out).mono ?_
  rintro e w11 ⟨A11, c11, rfl, rU, hb11⟩
  have cM := (carryK (w' := w11) kM (by repeat (first | with_reducible assumption | exact Below.refl _ _ | refine below_next (by with_reducible assumption) ?_))).cell
  go_wp2_with fail
  refine (beyond_any M _ HIN.out).mono ?_
  rintro e w12 ⟨rfl, hb12⟩
  clear cM
  go_wp2_with fail
  refine (HCR.out A9 c9 _ (hV.con.carry (by repeat (first | with_reducible assumption | exact Below.refl _ _ | refine below_next (by with_reducible assumption) ?_))) (carry rV (by repeat (first | with_reducible assumption | exact Below.refl _ _ | refine below_next (by with_reducible assumption) ?_)))).mono ?_
  rintro e w13 ⟨rfl, hb13⟩
  go_upto_region 10 with (fail)
  obtain ⟨w14, e14, hb14, hz14, kA⟩ := box1 w13 #[.int .i64 M.d.re, .int .i64 M.d.im, .int .i64 M.b.re, .int .i64 M.b.im, .int .i64 M.c.re, .int .i64 M.c.im, .int .i64 M.a.re, .int .i64 M.a.im] 73
  rw [← e14]; clear e14
  go_wp2_with fail
  refine (HCD.out A11 c11 _ (hV.con.carry (by repeat (first | with_reducible assumption | exact Below.refl _ _ | refine below_next (by with_reducible assumption) ?_))) (carry rU (by repeat (first | with_reducible assumption | exact Below.refl _ _ | refine below_next (by with_reducible assumption) ?_)))).mono ?_
  rintro e w15 ⟨rfl, hb15⟩
  go_upto_region 11 with (fail)
  obtain ⟨w16, e16, hb16, hz16, kB⟩ := box1 w15 #[.int .i64 M.d.re, .int .i64 M.d.im, .int .i64 M.c.re, .int .i64 M.c.im, .int .i64 M.b.re, .int .i64 M.b.im, .int .i64 M.a.re, .int .i64 M.a.im] 73
  rw [← e16]; clear e16
  have cM := over_blk (carryK (w' := w16) kM (by repeat (first | with_reducible assumption | exact Below.refl _ _ | refine below_next (by with_reducible assumption) ?_))) (carryK (w' := w16) kM (by repeat (first | with_reducible assumption | exact Below.refl _ _ | refine below_next (by with_reducible assumption) ?_))).lt
  have cD := over_blk (carryK (w' := w16) kD (by repeat (first | with_reducible assumption | exact Below.refl _ _ | refine below_next (by with_reducible assumption) ?_))) (carryK (w' := w16) kD (by repeat (first | with_reducible assumption | exact Below.refl _ _ | refine below_next (by with_reducible assumption) ?_))).lt
  have cA := over_blk (carryK (w' := w16) kA (by repeat (first | with_reducible assumption | exact Below.refl _ _ | refine below_next (by with_reducible assumption) ?_))) (carryK (w' := w16) kA (by repeat (first | with_reducible assumption | exact Below.refl _ _ | refine below_next (by with_reducible assumption) ?_))).lt
  have cB := over_blk kB kB.lt
  have qD := fun W => reflG_ne (D.mul D).w W
  have qA := fun W => reflMa_ne ⟨M.d, M.b, M.c, M.a⟩ W
  have qB := fun W => reflMa_ne ⟨M.d, M.c, M.b, M.a⟩ W
  simp only at qA qB
  refine wp_region_over w16.heap.size (by kernel_rfl) (by kernel_rfl) ?_; (repeat (first | go_big_quiet_step (first | (go_at_call 61; with_reducible first | exact over_call (Nat.le_refl _) (rTimes_any M.a M.d _) | exact over_call (Nat.le_refl _) (rTimes_any M.b M.c _) | exact over_call (Nat.le_refl _) (rTimes_any D D _)) | (go_at_call 65; with_reducible exact over_call (Nat.le_refl _) (HLS.out _))) | quiet_step (first | (go_at_call 61; with_reducible first | exact over_call (Nat.le_refl _) (rTimes_any M.a M.d _) | exact over_call (Nat.le_refl _) (rTimes_any M.b M.c _) | exact over_call (Nat.le_refl _) (rTimes_any D D _)) | (go_at_call 65; with_reducible exact over_call (Nat.le_refl _) (HLS.out _))))); refine wpQuiet_nil ?_; rintro W ⟨x, rfl⟩
  have hbY := over_below w16.heap.size w16 x
  generalize over w16.heap.size w16 x = Y at hbY ⊢
  clear cM cD cA cB qD qA qB
  have kMY := carryK (w' := Y) kM (by repeat (first | with_reducible assumption | exact Below.refl _ _ | refine below_next (by with_reducible assumption) ?_))
  have hRY := carry (w' := Y) hR (by repeat (first | with_reducible assumption | exact Below.refl _ _ | refine below_next (by with_reducible assumption) ?_))
  have hVY : VarsN Y := hV.carry (by repeat (first | with_reducible assumption | exact Below.refl _ _ | refine below_next (by with_reducible assumption) ?_))
  have hbw : Below w.heap.size w Y := (by repeat (first | with_reducible assumption | exact Below.refl _ _ | refine below_next (by with_reducible assumption) ?_))
  clear hb1 hbw2 hb3 hb4 hbw5 hb6 hb7 hbw8 hb9 hbw10 hb11 hb12 hb13 hb14 hb15 hb16 hbY kM kD kA kB rV rU rA2 rA5 rA8 rA10 hR hV
  go_wp2_with fail
  go_loopw [125] (fun v wr => ∃ i : Nat, i ≤ 2 ∧ v = .int .i64 i ∧ Below Y.heap.size Y wr) (fun v _ => 2 - (intOf v).toNat)
  case atStart => exact ⟨0, by omega, rfl, Below.refl _ _⟩
  case round =>
    rename World => wo
    obtain ⟨i, hi, rfl, hbo⟩ := hrel
    have hc : i = 0 ∨ i = 1 ∨ i = 2 := by omega
    rcases hc with rfl | rfl | rfl
    · skip
      go_upto_region 17 with (fail)
      obtain ⟨w20, e20, hb20, hz20, kp, kq⟩ := box2 wo #[.int .i64 1, .int .i64 0] #[.int .i64 0, .int .i64 0] 23 23
      rw [← e20]; clear e20
      go_wp2_with fail
      go_loopw [135] (fun i wr => ∃ k : Nat, k ≤ n ∧ i = .int .i64 k ∧ Blk wr wo.heap.size 23 #[.int .i64 (chn f .id (l.drop (n - k))).a.re, .int .i64 (chn f .id (l.drop (n - k))).a.im] ∧ Blk wr (wo.heap.size + 1) 23 #[.int .i64 (chn f .id (l.drop (n - k))).c.re, .int .i64 (chn f .id (l.drop (n - k))).c.im] ∧ Below wo.heap.size wo wr) (fun i _ => n - (intOf i).toNat)
      case atStart =>
        have hT : l.drop (n - 0) = [] := List.drop_of_length_le (by rw [HL.out]; omega)
        refine ⟨0, by omega, rfl, ?_, ?_, hb20⟩
        · rw [hT]; exact kp
        · rw [hT]; exact kq
      case round =>
        rename World => wi
        obtain ⟨k, hk, rfl, kP, kQ, hbi⟩ := hrel
        clear kp kq hb20
        by_cases hlt : k < n
        · obtain ⟨j, hj⟩ : ∃ j, n - 1 - k = j := ⟨_, rfl⟩
          have hjn : j < n := by omega
          have ej : (n : Int) - 1 - (k : Int) = (j : Int) := by omega
          obtain ⟨ad, x, rfl, _, hxk, hcx⟩ := els_hit (carry hRY (below_next hbo hbi)) hjn (Nat.le_refl _)
          obtain ⟨q0, q1, q2⟩ := hcx wi (Below.refl _ _)
          have hxo := HOK.out.all x (List.mem_of_getElem? hxk)
          have hdr := drop_step HL.out hlt (show l[n - 1 - k]? = some x by rw [hj]; exact hxk)
          have hvn := El.val_nrm hxo f1 f8
          have hvb := val_bd hxo f1 f8
          have hmi := chain_in (lad_drop HOK.out (n - k)) f1 f8
          obtain ⟨y, hy⟩ : ∃ y, f * x.b = y := ⟨_, rfl⟩
          have hnx : chn f .id (l.drop (n - (k + 1))) = (x.mat ⟨x.a, y⟩).mul (chn f .id (l.drop (n - k))) := by rw [hdr, chn_cons, ← hy]; rfl
          have hyw : IntKind.i64.wrap (f * x.b) = y := by rw [hy]; exact IntWalk.i64_in _ (by omega)
          have hv' : (⟨x.a, y⟩ : G).nrm ≤ 72 := by rw [← hy]; exact hvn
          obtain ⟨m, hm⟩ : ∃ m, chn f .id (l.drop (n - k)) = m := ⟨_, rfl⟩
          rw [hm] at hnx hmi kP kQ
          have np : m.a.nrm ≤ 2073071593 := by have := hmi.1; have := hmi.2; omega
          have nq : m.c.nrm ≤ 2073071593 := by have := hmi.1; have := hmi.2; omega
          obtain ⟨T, hT⟩ : ∃ T, (⟨x.a, y⟩ : G).mul m.a = T := ⟨_, rfl⟩
          obtain ⟨U, hU⟩ : ∃ U, (⟨x.a, y⟩ : G).mul m.c = U := ⟨_, rfl⟩
          have nT : T.nrm ≤ 149261154696 := by rw [← hT]; exact Nat.le_trans (G.nrm_mul _ _) (Nat.mul_le_mul hv' np)
          have nU : U.nrm ≤ 149261154696 := by rw [← hU]; exact Nat.le_trans (G.nrm_mul _ _) (Nat.mul_le_mul hv' nq)
          have HT : Hid (∀ W, Calls Tryz.prog 61 #[.agg #[.int .i64 x.a, .int .i64 y], .agg #[.int .i64 m.a.re, .int .i64 m.a.im]] W fun e w' => e = .returned (.agg #[.int .i64 T.re, .int .i64 T.im]) ∧ Below W.heap.size W w') := fun W => timesX ⟨x.a, y⟩ m.a T hT (by omega) W
          have HU : Hid (∀ W, Calls Tryz.prog 61 #[.agg #[.int .i64 x.a, .int .i64 y], .agg #[.int .i64 m.c.re, .int .i64 m.c.im]] W fun e w' => e = .returned (.agg #[.int .i64 U.re, .int .i64 U.im]) ∧ Below W.heap.size W w') := fun W => timesX ⟨x.a, y⟩ m.c U hU (by omega) W
          have h1 := list_series x.kind
          have h2 := list_shunt x.kind
          have h3 := list_block x.kind
          have h4 := list_trap x.kind
          clear hxk hcx hdr hvn hvb hmi hm hy hv' hj
          rcases El.kinds hxo.kn with e | e | e | e
          · have hh := hnx.trans (mul_block e _ _)
            obtain ⟨S, hS⟩ : ∃ S, T.add m.c = S := ⟨_, rfl⟩
            have nS : S.nrm ≤ 9223372036854775807 := by rw [← hS]; have := G.nrm_add T m.c; omega
            have HS : Hid (∀ W, Calls Tryz.prog 66 #[.agg #[.int .i64 T.re, .int .i64 T.im], .agg #[.int .i64 m.c.re, .int .i64 m.c.im]] W fun e w' => e = .returned (.agg #[.int .i64 S.re, .int .i64 S.im]) ∧ Below W.heap.size W w') := fun W => plusX T m.c S hS nS W
            have HN1 : Hid ((chn f .id (l.drop (n - (k + 1)))).a = S) := by show _ = S; rw [hh, ← hS, ← hT]
            have HN2 : Hid ((chn f .id (l.drop (n - (k + 1)))).c = U) := by show _ = U; rw [hh, ← hU]
            have t1 : (x.kind.toList == [115, 101, 114, 105, 101, 115]) = false := by rw [h1, e]; decide
            have t2 : (x.kind.toList == [115, 104, 117, 110, 116]) = false := by rw [h2, e]; decide
            have t3 : (x.kind.toList == [98, 108, 111, 99, 107]) = true := by rw [h3, e]; decide
            clear h1 h2 h3 h4 hh hnx hS hT hU nS nT nU np nq e
            go_upto_region 21 with (fail)
            obtain ⟨w21, e21, hb21, hz21, kX⟩ := box1 wi #[.string x.kind, .int .i64 x.a, .int .i64 x.b] 103
            rw [← e21]; clear e21 q0 q1 q2
            have cX := kX.cell
            go_upto_region 22 with (fail)
            obtain ⟨w22, e22, hb22, hz22, kV⟩ := box1 w21 #[.int .i64 x.a, .int .i64 y] 23
            rw [← e22]; clear e22 cX
            have cX := (carryK kX hb22).cell
            have kP2 := carryK (w' := w22) kP (by repeat (first | with_reducible assumption | exact Below.refl _ _ | refine below_next (by with_reducible assumption) ?_))
            have kQ2 := carryK (w' := w22) kQ (by repeat (first | with_reducible assumption | exact Below.refl _ _ | refine below_next (by with_reducible assumption) ?_))
            go_upto_region 28 with (fail)
            have cP := over_blk kP2 kP2.lt
            have cQ := over_blk kQ2 kQ2.lt
            have cV := over_blk kV kV.lt
            refine wp_region_part 8 w22.heap.size (by kernel_rfl) (by kernel_rfl) ?_; simp only [List.take_succ_cons, List.take_zero, List.drop_succ_cons, List.drop_zero]; (repeat (first | go_big_quiet_step (first | (go_at_call 61; with_reducible first | exact over_call (Nat.le_refl _) (HT.out _) | exact over_call (Nat.le_refl _) (HU.out _)) | (go_at_call 66; with_reducible exact over_call (Nat.le_refl _) (HS.out _))) | quiet_step (first | (go_at_call 61; with_reducible first | exact over_call (Nat.le_refl _) (HT.out _) | exact over_call (Nat.le_refl _) (HU.out _)) | (go_at_call 66; with_reducible exact over_call (Nat.le_refl _) (HS.out _))))); refine wpQuiet_nil ?_; rintro W ⟨x, rfl⟩
            have hbX := over_below w22.heap.size w22 x
            generalize over w22.heap.size w22 x = X at hbX ⊢
            have hbx : Below wo.heap.size wo X := (by repeat (first | with_reducible assumption | exact Below.refl _ _ | refine below_next (by with_reducible assumption) ?_))
            have kP3 := carryK (w' := X) kP2 (by repeat (first | with_reducible assumption | exact Below.refl _ _ | refine below_next (by with_reducible assumption) ?_))
            have kQ3 := carryK (w' := X) kQ2 (by repeat (first | with_reducible assumption | exact Below.refl _ _ | refine below_next (by with_reducible assumption) ?_))
            clear cX cP cQ cV kP2 kQ2 kP kQ hb21 hb22 hbX
            have cP := kP3.cell
            have cQ := kQ3.cell
            have fP := kP3.frozen
            have fQ := kQ3.frozen
            go_wp2_with fail
            go_roundw
            case measure => simp [intOf]; omega
            case rel => exact ⟨k + 1, by omega, by go_num, by rw [HN1.out]; exact far2 (blk2 kP3) (by omega), by rw [HN2.out]; exact blk2 (far2 kQ3 (by omega)), below2 (below2 hbx (by omega)) (by omega)⟩
          · have hh := hnx.trans (mul_series e _ _)
            obtain ⟨S, hS⟩ : ∃ S, m.a.add U = S := ⟨_, rfl⟩
            have nS : S.nrm ≤ 9223372036854775807 := by rw [← hS]; have := G.nrm_add m.a U; omega
            have HS : Hid (∀ W, Calls Tryz.prog 66 #[.agg #[.int .i64 m.a.re, .int .i64 m.a.im], .agg #[.int .i64 U.re, .int .i64 U.im]] W fun e w' => e = .returned (.agg #[.int .i64 S.re, .int .i64 S.im]) ∧ Below W.heap.size W w') := fun W => plusX m.a U S hS nS W
            have HN1 : Hid ((chn f .id (l.drop (n - (k + 1)))).a = S) := by show _ = S; rw [hh, ← hS, ← hU]
            have HN2 : Hid ((chn f .id (l.drop (n - (k + 1)))).c = m.c) := by show _ = m.c; rw [hh]
            have t1 : (x.kind.toList == [115, 101, 114, 105, 101, 115]) = true := by rw [h1, e]; decide
            clear h1 h2 h3 h4 hh hnx hS hT hU nS nT nU np nq e
            go_upto_region 21 with (fail)
            obtain ⟨w21, e21, hb21, hz21, kX⟩ := box1 wi #[.string x.kind, .int .i64 x.a, .int .i64 x.b] 103
            rw [← e21]; clear e21 q0 q1 q2
            have cX := kX.cell
            go_upto_region 22 with (fail)
            obtain ⟨w22, e22, hb22, hz22, kV⟩ := box1 w21 #[.int .i64 x.a, .int .i64 y] 23
            rw [← e22]; clear e22 cX
            have cX := (carryK kX hb22).cell
            have kP2 := carryK (w' := w22) kP (by repeat (first | with_reducible assumption | exact Below.refl _ _ | refine below_next (by with_reducible assumption) ?_))
            have kQ2 := carryK (w' := w22) kQ (by repeat (first | with_reducible assumption | exact Below.refl _ _ | refine below_next (by with_reducible assumption) ?_))
            go_upto_region 24 with (fail)
            have cP := over_blk kP2 kP2.lt
            have cQ := over_blk kQ2 kQ2.lt
            have cV := over_blk kV kV.lt
            refine wp_region_part 5 w22.heap.size (by kernel_rfl) (by kernel_rfl) ?_; simp only [List.take_succ_cons, List.take_zero, List.drop_succ_cons, List.drop_zero]; (repeat (first | go_big_quiet_step (first | (go_at_call 61; with_reducible first | exact over_call (Nat.le_refl _) (HT.out _) | exact over_call (Nat.le_refl _) (HU.out _)) | (go_at_call 66; with_reducible exact over_call (Nat.le_refl _) (HS.out _))) | quiet_step (first | (go_at_call 61; with_reducible first | exact over_call (Nat.le_refl _) (HT.out _) | exact over_call (Nat.le_refl _) (HU.out _)) | (go_at_call 66; with_reducible exact over_call (Nat.le_refl _) (HS.out _))))); refine wpQuiet_nil ?_; rintro W ⟨x, rfl⟩
            have hbX := over_below w22.heap.size w22 x
            generalize over w22.heap.size w22 x = X at hbX ⊢
            have hbx : Below wo.heap.size wo X := (by repeat (first | with_reducible assumption | exact Below.refl _ _ | refine below_next (by with_reducible assumption) ?_))
            have kP3 := carryK (w' := X) kP2 (by repeat (first | with_reducible assumption | exact Below.refl _ _ | refine below_next (by with_reducible assumption) ?_))
            have kQ3 := carryK (w' := X) kQ2 (by repeat (first | with_reducible assumption | exact Below.refl _ _ | refine below_next (by with_reducible assumption) ?_))
            clear cX cP cQ cV kP2 kQ2 kP kQ hb21 hb22 hbX
            have cP := kP3.cell
            have cQ := kQ3.cell
            have fP := kP3.frozen
            have fQ := kQ3.frozen
            go_wp2_with fail
            go_roundw
            case measure => simp [intOf]; omega
            case rel => exact ⟨k + 1, by omega, by go_num, by rw [HN1.out]; exact blk2 kP3, by rw [HN2.out]; exact far2 kQ3 (by omega), below2 hbx (by omega)⟩
          · have hh := hnx.trans (mul_shunt e _ _)
            obtain ⟨S, hS⟩ : ∃ S, m.c.add T = S := ⟨_, rfl⟩
            have nS : S.nrm ≤ 9223372036854775807 := by rw [← hS]; have := G.nrm_add m.c T; omega
            have HS : Hid (∀ W, Calls Tryz.prog 66 #[.agg #[.int .i64 m.c.re, .int .i64 m.c.im], .agg #[.int .i64 T.re, .int .i64 T.im]] W fun e w' => e = .returned (.agg #[.int .i64 S.re, .int .i64 S.im]) ∧ Below W.heap.size W w') := fun W => plusX m.c T S hS nS W
            have HN1 : Hid ((chn f .id (l.drop (n - (k + 1)))).a = m.a) := by show _ = m.a; rw [hh]
            have HN2 : Hid ((chn f .id (l.drop (n - (k + 1)))).c = S) := by show _ = S; rw [hh, ← hS, ← hT]
            have t1 : (x.kind.toList == [115, 101, 114, 105, 101, 115]) = false := by rw [h1, e]; decide
            have t2 : (x.kind.toList == [115, 104, 117, 110, 116]) = true := by rw [h2, e]; decide
            clear h1 h2 h3 h4 hh hnx hS hT hU nS nT nU np nq e
            go_upto_region 21 with (fail)
            obtain ⟨w21, e21, hb21, hz21, kX⟩ := box1 wi #[.string x.kind, .int .i64 x.a, .int .i64 x.b] 103
            rw [← e21]; clear e21 q0 q1 q2
            have cX := kX.cell
            go_upto_region 22 with (fail)
            obtain ⟨w22, e22, hb22, hz22, kV⟩ := box1 w21 #[.int .i64 x.a, .int .i64 y] 23
            rw [← e22]; clear e22 cX
            have cX := (carryK kX hb22).cell
            have kP2 := carryK (w' := w22) kP (by repeat (first | with_reducible assumption | exact Below.refl _ _ | refine below_next (by with_reducible assumption) ?_))
            have kQ2 := carryK (w' := w22) kQ (by repeat (first | with_reducible assumption | exact Below.refl _ _ | refine below_next (by with_reducible assumption) ?_))
            go_upto_region 26 with (fail)
            have cP := over_blk kP2 kP2.lt
            have cQ := over_blk kQ2 kQ2.lt
            have cV := over_blk kV kV.lt
            refine wp_region_part 5 w22.heap.size (by kernel_rfl) (by kernel_rfl) ?_; simp only [List.take_succ_cons, List.take_zero, List.drop_succ_cons, List.drop_zero]; (repeat (first | go_big_quiet_step (first | (go_at_call 61; with_reducible first | exact over_call (Nat.le_refl _) (HT.out _) | exact over_call (Nat.le_refl _) (HU.out _)) | (go_at_call 66; with_reducible exact over_call (Nat.le_refl _) (HS.out _))) | quiet_step (first | (go_at_call 61; with_reducible first | exact over_call (Nat.le_refl _) (HT.out _) | exact over_call (Nat.le_refl _) (HU.out _)) | (go_at_call 66; with_reducible exact over_call (Nat.le_refl _) (HS.out _))))); refine wpQuiet_nil ?_; rintro W ⟨x, rfl⟩
            have hbX := over_below w22.heap.size w22 x
            generalize over w22.heap.size w22 x = X at hbX ⊢
            have hbx : Below wo.heap.size wo X := (by repeat (first | with_reducible assumption | exact Below.refl _ _ | refine below_next (by with_reducible assumption) ?_))
            have kP3 := carryK (w' := X) kP2 (by repeat (first | with_reducible assumption | exact Below.refl _ _ | refine below_next (by with_reducible assumption) ?_))
            have kQ3 := carryK (w' := X) kQ2 (by repeat (first | with_reducible assumption | exact Below.refl _ _ | refine below_next (by with_reducible assumption) ?_))
            clear cX cP cQ cV kP2 kQ2 kP kQ hb21 hb22 hbX
            have cP := kP3.cell
            have cQ := kQ3.cell
            have fP := kP3.frozen
            have fQ := kQ3.frozen
            go_wp2_with fail
            go_roundw
            case measure => simp [intOf]; omega
            case rel => exact ⟨k + 1, by omega, by go_num, by rw [HN1.out]; exact far2 kP3 (by omega), by rw [HN2.out]; exact blk2 kQ3, below2 hbx (by omega)⟩
          · have hh := hnx.trans (mul_trap e _ _)
            obtain ⟨S, hS⟩ : ∃ S, U.add m.a = S := ⟨_, rfl⟩
            have nS : S.nrm ≤ 9223372036854775807 := by rw [← hS]; have := G.nrm_add U m.a; omega
            have HS : Hid (∀ W, Calls Tryz.prog 66 #[.agg #[.int .i64 U.re, .int .i64 U.im], .agg #[.int .i64 m.a.re, .int .i64 m.a.im]] W fun e w' => e = .returned (.agg #[.int .i64 S.re, .int .i64 S.im]) ∧ Below W.heap.size W w') := fun W => plusX U m.a S hS nS W
            have HN1 : Hid ((chn f .id (l.drop (n - (k + 1)))).a = T) := by show _ = T; rw [hh, ← hT]
            have HN2 : Hid ((chn f .id (l.drop (n - (k + 1)))).c = S) := by show _ = S; rw [hh, ← hS, ← hU]
            have t1 : (x.kind.toList == [115, 101, 114, 105, 101, 115]) = false := by rw [h1, e]; decide
            have t2 : (x.kind.toList == [115, 104, 117, 110, 116]) = false := by rw [h2, e]; decide
            have t3 : (x.kind.toList == [98, 108, 111, 99, 107]) = false := by rw [h3, e]; decide
            have t4 : (x.kind.toList == [116, 114, 97, 112]) = true := by rw [h4, e]; decide
            clear h1 h2 h3 h4 hh hnx hS hT hU nS nT nU np nq e
            go_upto_region 21 with (fail)
            obtain ⟨w21, e21, hb21, hz21, kX⟩ := box1 wi #[.string x.kind, .int .i64 x.a, .int .i64 x.b] 103
            rw [← e21]; clear e21 q0 q1 q2
            have cX := kX.cell
            go_upto_region 22 with (fail)
            obtain ⟨w22, e22, hb22, hz22, kV⟩ := box1 w21 #[.int .i64 x.a, .int .i64 y] 23
            rw [← e22]; clear e22 cX
            have cX := (carryK kX hb22).cell
            have kP2 := carryK (w' := w22) kP (by repeat (first | with_reducible assumption | exact Below.refl _ _ | refine below_next (by with_reducible assumption) ?_))
            have kQ2 := carryK (w' := w22) kQ (by repeat (first | with_reducible assumption | exact Below.refl _ _ | refine below_next (by with_reducible assumption) ?_))
            go_upto_region 30 with (fail)
            have cP := over_blk kP2 kP2.lt
            have cQ := over_blk kQ2 kQ2.lt
            have cV := over_blk kV kV.lt
            refine wp_region_part 8 w22.heap.size (by kernel_rfl) (by kernel_rfl) ?_; simp only [List.take_succ_cons, List.take_zero, List.drop_succ_cons, List.drop_zero]; (repeat (first | go_big_quiet_step (first | (go_at_call 61; with_reducible first | exact over_call (Nat.le_refl _) (HT.out _) | exact over_call (Nat.le_refl _) (HU.out _)) | (go_at_call 66; with_reducible exact over_call (Nat.le_refl _) (HS.out _))) | quiet_step (first | (go_at_call 61; with_reducible first | exact over_call (Nat.le_refl _) (HT.out _) | exact over_call (Nat.le_refl _) (HU.out _)) | (go_at_call 66; with_reducible exact over_call (Nat.le_refl _) (HS.out _))))); refine wpQuiet_nil ?_; rintro W ⟨x, rfl⟩
            have hbX := over_below w22.heap.size w22 x
            generalize over w22.heap.size w22 x = X at hbX ⊢
            have hbx : Below wo.heap.size wo X := (by repeat (first | with_reducible assumption | exact Below.refl _ _ | refine below_next (by with_reducible assumption) ?_))
            have kP3 := carryK (w' := X) kP2 (by repeat (first | with_reducible assumption | exact Below.refl _ _ | refine below_next (by with_reducible assumption) ?_))
            have kQ3 := carryK (w' := X) kQ2 (by repeat (first | with_reducible assumption | exact Below.refl _ _ | refine below_next (by with_reducible assumption) ?_))
            clear cX cP cQ cV kP2 kQ2 kP kQ hb21 hb22 hbX
            have cP := kP3.cell
            have cQ := kQ3.cell
            have fP := kP3.frozen
            have fQ := kQ3.frozen
            go_wp2_with fail
            go_roundw
            case measure => simp [intOf]; omega
            case rel => exact ⟨k + 1, by omega, by go_num, by rw [HN1.out]; exact far2 (blk2 kP3) (by omega), by rw [HN2.out]; exact blk2 (far2 kQ3 (by omega)), below2 (below2 hbx (by omega)) (by omega)⟩
        · obtain rfl : k = n := by omega
          rw [Nat.sub_self, List.drop_zero, HM.out] at kP kQ
          go_upto_region 32 with (fail)
          have cM := over_blk (carryK (w' := wi) kMY (by repeat (first | with_reducible assumption | exact Below.refl _ _ | refine below_next (by with_reducible assumption) ?_))) (carryK (w' := wi) kMY (by repeat (first | with_reducible assumption | exact Below.refl _ _ | refine below_next (by with_reducible assumption) ?_))).lt
          have cP := over_blk kP kP.lt
          have cQ := over_blk kQ kQ.lt
          have qP := fun W => reflG_ne M.a W
          have qQ := fun W => reflG_ne M.c W
          have W0 : IntKind.i64.wrap 2 = 2 := rfl
          have W1 : IntKind.i64.wrap 3 = 3 := rfl
          refine wp_region_over wi.heap.size (by kernel_rfl) (by kernel_rfl) ?_; (repeat (first | go_big_quiet_step (fail) | quiet_step (fail))); refine wpQuiet_nil ?_; rintro W ⟨x, rfl⟩
          have hbX := over_below wi.heap.size wi x
          generalize over wi.heap.size wi x = X at hbX ⊢
          clear cM cP cQ qP qQ W0 W1
          go_wp2_with fail
          go_roundw
          case rel => exact ⟨0 + 1, by omega, rfl, (by repeat (first | with_reducible assumption | exact Below.refl _ _ | refine below_next (by with_reducible assumption) ?_))⟩
          case measure => simp [intOf]
    · skip
      go_upto_region 17 with (fail)
      obtain ⟨w20, e20, hb20, hz20, kp, kq⟩ := box2 wo #[.int .i64 0, .int .i64 0] #[.int .i64 1, .int .i64 0] 23 23
      rw [← e20]; clear e20
      go_wp2_with fail
      go_loopw [135] (fun i wr => ∃ k : Nat, k ≤ n ∧ i = .int .i64 k ∧ Blk wr wo.heap.size 23 #[.int .i64 (chn f .id (l.drop (n - k))).b.re, .int .i64 (chn f .id (l.drop (n - k))).b.im] ∧ Blk wr (wo.heap.size + 1) 23 #[.int .i64 (chn f .id (l.drop (n - k))).d.re, .int .i64 (chn f .id (l.drop (n - k))).d.im] ∧ Below wo.heap.size wo wr) (fun i _ => n - (intOf i).toNat)
      case atStart =>
        have hT : l.drop (n - 0) = [] := List.drop_of_length_le (by rw [HL.out]; omega)
        refine ⟨0, by omega, rfl, ?_, ?_, hb20⟩
        · rw [hT]; exact kp
        · rw [hT]; exact kq
      case round =>
        rename World => wi
        obtain ⟨k, hk, rfl, kP, kQ, hbi⟩ := hrel
        clear kp kq hb20
        by_cases hlt : k < n
        · obtain ⟨j, hj⟩ : ∃ j, n - 1 - k = j := ⟨_, rfl⟩
          have hjn : j < n := by omega
          have ej : (n : Int) - 1 - (k : Int) = (j : Int) := by omega
          obtain ⟨ad, x, rfl, _, hxk, hcx⟩ := els_hit (carry hRY (below_next hbo hbi)) hjn (Nat.le_refl _)
          obtain ⟨q0, q1, q2⟩ := hcx wi (Below.refl _ _)
          have hxo := HOK.out.all x (List.mem_of_getElem? hxk)
          have hdr := drop_step HL.out hlt (show l[n - 1 - k]? = some x by rw [hj]; exact hxk)
          have hvn := El.val_nrm hxo f1 f8
          have hvb := val_bd hxo f1 f8
          have hmi := chain_in (lad_drop HOK.out (n - k)) f1 f8
          obtain ⟨y, hy⟩ : ∃ y, f * x.b = y := ⟨_, rfl⟩
          have hnx : chn f .id (l.drop (n - (k + 1))) = (x.mat ⟨x.a, y⟩).mul (chn f .id (l.drop (n - k))) := by rw [hdr, chn_cons, ← hy]; rfl
          have hyw : IntKind.i64.wrap (f * x.b) = y := by rw [hy]; exact IntWalk.i64_in _ (by omega)
          have hv' : (⟨x.a, y⟩ : G).nrm ≤ 72 := by rw [← hy]; exact hvn
          obtain ⟨m, hm⟩ : ∃ m, chn f .id (l.drop (n - k)) = m := ⟨_, rfl⟩
          rw [hm] at hnx hmi kP kQ
          have np : m.b.nrm ≤ 2073071593 := by have := hmi.1; have := hmi.2; omega
          have nq : m.d.nrm ≤ 2073071593 := by have := hmi.1; have := hmi.2; omega
          obtain ⟨T, hT⟩ : ∃ T, (⟨x.a, y⟩ : G).mul m.b = T := ⟨_, rfl⟩
          obtain ⟨U, hU⟩ : ∃ U, (⟨x.a, y⟩ : G).mul m.d = U := ⟨_, rfl⟩
          have nT : T.nrm ≤ 149261154696 := by rw [← hT]; exact Nat.le_trans (G.nrm_mul _ _) (Nat.mul_le_mul hv' np)
          have nU : U.nrm ≤ 149261154696 := by rw [← hU]; exact Nat.le_trans (G.nrm_mul _ _) (Nat.mul_le_mul hv' nq)
          have HT : Hid (∀ W, Calls Tryz.prog 61 #[.agg #[.int .i64 x.a, .int .i64 y], .agg #[.int .i64 m.b.re, .int .i64 m.b.im]] W fun e w' => e = .returned (.agg #[.int .i64 T.re, .int .i64 T.im]) ∧ Below W.heap.size W w') := fun W => timesX ⟨x.a, y⟩ m.b T hT (by omega) W
          have HU : Hid (∀ W, Calls Tryz.prog 61 #[.agg #[.int .i64 x.a, .int .i64 y], .agg #[.int .i64 m.d.re, .int .i64 m.d.im]] W fun e w' => e = .returned (.agg #[.int .i64 U.re, .int .i64 U.im]) ∧ Below W.heap.size W w') := fun W => timesX ⟨x.a, y⟩ m.d U hU (by omega) W
          have h1 := list_series x.kind
          have h2 := list_shunt x.kind
          have h3 := list_block x.kind
          have h4 := list_trap x.kind
          clear hxk hcx hdr hvn hvb hmi hm hy hv' hj
          rcases El.kinds hxo.kn with e | e | e | e
          · have hh := hnx.trans (mul_block e _ _)
            obtain ⟨S, hS⟩ : ∃ S, T.add m.d = S := ⟨_, rfl⟩
            have nS : S.nrm ≤ 9223372036854775807 := by rw [← hS]; have := G.nrm_add T m.d; omega
            have HS : Hid (∀ W, Calls Tryz.prog 66 #[.agg #[.int .i64 T.re, .int .i64 T.im], .agg #[.int .i64 m.d.re, .int .i64 m.d.im]] W fun e w' => e = .returned (.agg #[.int .i64 S.re, .int .i64 S.im]) ∧ Below W.heap.size W w') := fun W => plusX T m.d S hS nS W
            have HN1 : Hid ((chn f .id (l.drop (n - (k + 1)))).b = S) := by show _ = S; rw [hh, ← hS, ← hT]
            have HN2 : Hid ((chn f .id (l.drop (n - (k + 1)))).d = U) := by show _ = U; rw [hh, ← hU]
            have t1 : (x.kind.toList == [115, 101, 114, 105, 101, 115]) = false := by rw [h1, e]; decide
            have t2 : (x.kind.toList == [115, 104, 117, 110, 116]) = false := by rw [h2, e]; decide
            have t3 : (x.kind.toList == [98, 108, 111, 99, 107]) = true := by rw [h3, e]; decide
            clear h1 h2 h3 h4 hh hnx hS hT hU nS nT nU np nq e
            go_upto_region 21 with (fail)
            obtain ⟨w21, e21, hb21, hz21, kX⟩ := box1 wi #[.string x.kind, .int .i64 x.a, .int .i64 x.b] 103
            rw [← e21]; clear e21 q0 q1 q2
            have cX := kX.cell
            go_upto_region 22 with (fail)
            obtain ⟨w22, e22, hb22, hz22, kV⟩ := box1 w21 #[.int .i64 x.a, .int .i64 y] 23
            rw [← e22]; clear e22 cX
            have cX := (carryK kX hb22).cell
            have kP2 := carryK (w' := w22) kP (by repeat (first | with_reducible assumption | exact Below.refl _ _ | refine below_next (by with_reducible assumption) ?_))
            have kQ2 := carryK (w' := w22) kQ (by repeat (first | with_reducible assumption | exact Below.refl _ _ | refine below_next (by with_reducible assumption) ?_))
            go_upto_region 28 with (fail)
            have cP := over_blk kP2 kP2.lt
            have cQ := over_blk kQ2 kQ2.lt
            have cV := over_blk kV kV.lt
            refine wp_region_part 8 w22.heap.size (by kernel_rfl) (by kernel_rfl) ?_; simp only [List.take_succ_cons, List.take_zero, List.drop_succ_cons, List.drop_zero]; (repeat (first | go_big_quiet_step (first | (go_at_call 61; with_reducible first | exact over_call (Nat.le_refl _) (HT.out _) | exact over_call (Nat.le_refl _) (HU.out _)) | (go_at_call 66; with_reducible exact over_call (Nat.le_refl _) (HS.out _))) | quiet_step (first | (go_at_call 61; with_reducible first | exact over_call (Nat.le_refl _) (HT.out _) | exact over_call (Nat.le_refl _) (HU.out _)) | (go_at_call 66; with_reducible exact over_call (Nat.le_refl _) (HS.out _))))); refine wpQuiet_nil ?_; rintro W ⟨x, rfl⟩
            have hbX := over_below w22.heap.size w22 x
            generalize over w22.heap.size w22 x = X at hbX ⊢
            have hbx : Below wo.heap.size wo X := (by repeat (first | with_reducible assumption | exact Below.refl _ _ | refine below_next (by with_reducible assumption) ?_))
            have kP3 := carryK (w' := X) kP2 (by repeat (first | with_reducible assumption | exact Below.refl _ _ | refine below_next (by with_reducible assumption) ?_))
            have kQ3 := carryK (w' := X) kQ2 (by repeat (first | with_reducible assumption | exact Below.refl _ _ | refine below_next (by with_reducible assumption) ?_))
            clear cX cP cQ cV kP2 kQ2 kP kQ hb21 hb22 hbX
            have cP := kP3.cell
            have cQ := kQ3.cell
            have fP := kP3.frozen
            have fQ := kQ3.frozen
            go_wp2_with fail
            go_roundw
            case measure => simp [intOf]; omega
            case rel => exact ⟨k + 1, by omega, by go_num, by rw [HN1.out]; exact far2 (blk2 kP3) (by omega), by rw [HN2.out]; exact blk2 (far2 kQ3 (by omega)), below2 (below2 hbx (by omega)) (by omega)⟩
          · have hh := hnx.trans (mul_series e _ _)
            obtain ⟨S, hS⟩ : ∃ S, m.b.add U = S := ⟨_, rfl⟩
            have nS : S.nrm ≤ 9223372036854775807 := by rw [← hS]; have := G.nrm_add m.b U; omega
            have HS : Hid (∀ W, Calls Tryz.prog 66 #[.agg #[.int .i64 m.b.re, .int .i64 m.b.im], .agg #[.int .i64 U.re, .int .i64 U.im]] W fun e w' => e = .returned (.agg #[.int .i64 S.re, .int .i64 S.im]) ∧ Below W.heap.size W w') := fun W => plusX m.b U S hS nS W
            have HN1 : Hid ((chn f .id (l.drop (n - (k + 1)))).b = S) := by show _ = S; rw [hh, ← hS, ← hU]
            have HN2 : Hid ((chn f .id (l.drop (n - (k + 1)))).d = m.d) := by show _ = m.d; rw [hh]
            have t1 : (x.kind.toList == [115, 101, 114, 105, 101, 115]) = true := by rw [h1, e]; decide
            clear h1 h2 h3 h4 hh hnx hS hT hU nS nT nU np nq e
            go_upto_region 21 with (fail)
            obtain ⟨w21, e21, hb21, hz21, kX⟩ := box1 wi #[.string x.kind, .int .i64 x.a, .int .i64 x.b] 103
            rw [← e21]; clear e21 q0 q1 q2
            have cX := kX.cell
            go_upto_region 22 with (fail)
            obtain ⟨w22, e22, hb22, hz22, kV⟩ := box1 w21 #[.int .i64 x.a, .int .i64 y] 23
            rw [← e22]; clear e22 cX
            have cX := (carryK kX hb22).cell
            have kP2 := carryK (w' := w22) kP (by repeat (first | with_reducible assumption | exact Below.refl _ _ | refine below_next (by with_reducible assumption) ?_))
            have kQ2 := carryK (w' := w22) kQ (by repeat (first | with_reducible assumption | exact Below.refl _ _ | refine below_next (by with_reducible assumption) ?_))
            go_upto_region 24 with (fail)
            have cP := over_blk kP2 kP2.lt
            have cQ := over_blk kQ2 kQ2.lt
            have cV := over_blk kV kV.lt
            refine wp_region_part 5 w22.heap.size (by kernel_rfl) (by kernel_rfl) ?_; simp only [List.take_succ_cons, List.take_zero, List.drop_succ_cons, List.drop_zero]; (repeat (first | go_big_quiet_step (first | (go_at_call 61; with_reducible first | exact over_call (Nat.le_refl _) (HT.out _) | exact over_call (Nat.le_refl _) (HU.out _)) | (go_at_call 66; with_reducible exact over_call (Nat.le_refl _) (HS.out _))) | quiet_step (first | (go_at_call 61; with_reducible first | exact over_call (Nat.le_refl _) (HT.out _) | exact over_call (Nat.le_refl _) (HU.out _)) | (go_at_call 66; with_reducible exact over_call (Nat.le_refl _) (HS.out _))))); refine wpQuiet_nil ?_; rintro W ⟨x, rfl⟩
            have hbX := over_below w22.heap.size w22 x
            generalize over w22.heap.size w22 x = X at hbX ⊢
            have hbx : Below wo.heap.size wo X := (by repeat (first | with_reducible assumption | exact Below.refl _ _ | refine below_next (by with_reducible assumption) ?_))
            have kP3 := carryK (w' := X) kP2 (by repeat (first | with_reducible assumption | exact Below.refl _ _ | refine below_next (by with_reducible assumption) ?_))
            have kQ3 := carryK (w' := X) kQ2 (by repeat (first | with_reducible assumption | exact Below.refl _ _ | refine below_next (by with_reducible assumption) ?_))
            clear cX cP cQ cV kP2 kQ2 kP kQ hb21 hb22 hbX
            have cP := kP3.cell
            have cQ := kQ3.cell
            have fP := kP3.frozen
            have fQ := kQ3.frozen
            go_wp2_with fail
            go_roundw
            case measure => simp [intOf]; omega
            case rel => exact ⟨k + 1, by omega, by go_num, by rw [HN1.out]; exact blk2 kP3, by rw [HN2.out]; exact far2 kQ3 (by omega), below2 hbx (by omega)⟩
          · have hh := hnx.trans (mul_shunt e _ _)
            obtain ⟨S, hS⟩ : ∃ S, m.d.add T = S := ⟨_, rfl⟩
            have nS : S.nrm ≤ 9223372036854775807 := by rw [← hS]; have := G.nrm_add m.d T; omega
            have HS : Hid (∀ W, Calls Tryz.prog 66 #[.agg #[.int .i64 m.d.re, .int .i64 m.d.im], .agg #[.int .i64 T.re, .int .i64 T.im]] W fun e w' => e = .returned (.agg #[.int .i64 S.re, .int .i64 S.im]) ∧ Below W.heap.size W w') := fun W => plusX m.d T S hS nS W
            have HN1 : Hid ((chn f .id (l.drop (n - (k + 1)))).b = m.b) := by show _ = m.b; rw [hh]
            have HN2 : Hid ((chn f .id (l.drop (n - (k + 1)))).d = S) := by show _ = S; rw [hh, ← hS, ← hT]
            have t1 : (x.kind.toList == [115, 101, 114, 105, 101, 115]) = false := by rw [h1, e]; decide
            have t2 : (x.kind.toList == [115, 104, 117, 110, 116]) = true := by rw [h2, e]; decide
            clear h1 h2 h3 h4 hh hnx hS hT hU nS nT nU np nq e
            go_upto_region 21 with (fail)
            obtain ⟨w21, e21, hb21, hz21, kX⟩ := box1 wi #[.string x.kind, .int .i64 x.a, .int .i64 x.b] 103
            rw [← e21]; clear e21 q0 q1 q2
            have cX := kX.cell
            go_upto_region 22 with (fail)
            obtain ⟨w22, e22, hb22, hz22, kV⟩ := box1 w21 #[.int .i64 x.a, .int .i64 y] 23
            rw [← e22]; clear e22 cX
            have cX := (carryK kX hb22).cell
            have kP2 := carryK (w' := w22) kP (by repeat (first | with_reducible assumption | exact Below.refl _ _ | refine below_next (by with_reducible assumption) ?_))
            have kQ2 := carryK (w' := w22) kQ (by repeat (first | with_reducible assumption | exact Below.refl _ _ | refine below_next (by with_reducible assumption) ?_))
            go_upto_region 26 with (fail)
            have cP := over_blk kP2 kP2.lt
            have cQ := over_blk kQ2 kQ2.lt
            have cV := over_blk kV kV.lt
            refine wp_region_part 5 w22.heap.size (by kernel_rfl) (by kernel_rfl) ?_; simp only [List.take_succ_cons, List.take_zero, List.drop_succ_cons, List.drop_zero]; (repeat (first | go_big_quiet_step (first | (go_at_call 61; with_reducible first | exact over_call (Nat.le_refl _) (HT.out _) | exact over_call (Nat.le_refl _) (HU.out _)) | (go_at_call 66; with_reducible exact over_call (Nat.le_refl _) (HS.out _))) | quiet_step (first | (go_at_call 61; with_reducible first | exact over_call (Nat.le_refl _) (HT.out _) | exact over_call (Nat.le_refl _) (HU.out _)) | (go_at_call 66; with_reducible exact over_call (Nat.le_refl _) (HS.out _))))); refine wpQuiet_nil ?_; rintro W ⟨x, rfl⟩
            have hbX := over_below w22.heap.size w22 x
            generalize over w22.heap.size w22 x = X at hbX ⊢
            have hbx : Below wo.heap.size wo X := (by repeat (first | with_reducible assumption | exact Below.refl _ _ | refine below_next (by with_reducible assumption) ?_))
            have kP3 := carryK (w' := X) kP2 (by repeat (first | with_reducible assumption | exact Below.refl _ _ | refine below_next (by with_reducible assumption) ?_))
            have kQ3 := carryK (w' := X) kQ2 (by repeat (first | with_reducible assumption | exact Below.refl _ _ | refine below_next (by with_reducible assumption) ?_))
            clear cX cP cQ cV kP2 kQ2 kP kQ hb21 hb22 hbX
            have cP := kP3.cell
            have cQ := kQ3.cell
            have fP := kP3.frozen
            have fQ := kQ3.frozen
            go_wp2_with fail
            go_roundw
            case measure => simp [intOf]; omega
            case rel => exact ⟨k + 1, by omega, by go_num, by rw [HN1.out]; exact far2 kP3 (by omega), by rw [HN2.out]; exact blk2 kQ3, below2 hbx (by omega)⟩
          · have hh := hnx.trans (mul_trap e _ _)
            obtain ⟨S, hS⟩ : ∃ S, U.add m.b = S := ⟨_, rfl⟩
            have nS : S.nrm ≤ 9223372036854775807 := by rw [← hS]; have := G.nrm_add U m.b; omega
            have HS : Hid (∀ W, Calls Tryz.prog 66 #[.agg #[.int .i64 U.re, .int .i64 U.im], .agg #[.int .i64 m.b.re, .int .i64 m.b.im]] W fun e w' => e = .returned (.agg #[.int .i64 S.re, .int .i64 S.im]) ∧ Below W.heap.size W w') := fun W => plusX U m.b S hS nS W
            have HN1 : Hid ((chn f .id (l.drop (n - (k + 1)))).b = T) := by show _ = T; rw [hh, ← hT]
            have HN2 : Hid ((chn f .id (l.drop (n - (k + 1)))).d = S) := by show _ = S; rw [hh, ← hS, ← hU]
            have t1 : (x.kind.toList == [115, 101, 114, 105, 101, 115]) = false := by rw [h1, e]; decide
            have t2 : (x.kind.toList == [115, 104, 117, 110, 116]) = false := by rw [h2, e]; decide
            have t3 : (x.kind.toList == [98, 108, 111, 99, 107]) = false := by rw [h3, e]; decide
            have t4 : (x.kind.toList == [116, 114, 97, 112]) = true := by rw [h4, e]; decide
            clear h1 h2 h3 h4 hh hnx hS hT hU nS nT nU np nq e
            go_upto_region 21 with (fail)
            obtain ⟨w21, e21, hb21, hz21, kX⟩ := box1 wi #[.string x.kind, .int .i64 x.a, .int .i64 x.b] 103
            rw [← e21]; clear e21 q0 q1 q2
            have cX := kX.cell
            go_upto_region 22 with (fail)
            obtain ⟨w22, e22, hb22, hz22, kV⟩ := box1 w21 #[.int .i64 x.a, .int .i64 y] 23
            rw [← e22]; clear e22 cX
            have cX := (carryK kX hb22).cell
            have kP2 := carryK (w' := w22) kP (by repeat (first | with_reducible assumption | exact Below.refl _ _ | refine below_next (by with_reducible assumption) ?_))
            have kQ2 := carryK (w' := w22) kQ (by repeat (first | with_reducible assumption | exact Below.refl _ _ | refine below_next (by with_reducible assumption) ?_))
            go_upto_region 30 with (fail)
            have cP := over_blk kP2 kP2.lt
            have cQ := over_blk kQ2 kQ2.lt
            have cV := over_blk kV kV.lt
            refine wp_region_part 8 w22.heap.size (by kernel_rfl) (by kernel_rfl) ?_; simp only [List.take_succ_cons, List.take_zero, List.drop_succ_cons, List.drop_zero]; (repeat (first | go_big_quiet_step (first | (go_at_call 61; with_reducible first | exact over_call (Nat.le_refl _) (HT.out _) | exact over_call (Nat.le_refl _) (HU.out _)) | (go_at_call 66; with_reducible exact over_call (Nat.le_refl _) (HS.out _))) | quiet_step (first | (go_at_call 61; with_reducible first | exact over_call (Nat.le_refl _) (HT.out _) | exact over_call (Nat.le_refl _) (HU.out _)) | (go_at_call 66; with_reducible exact over_call (Nat.le_refl _) (HS.out _))))); refine wpQuiet_nil ?_; rintro W ⟨x, rfl⟩
            have hbX := over_below w22.heap.size w22 x
            generalize over w22.heap.size w22 x = X at hbX ⊢
            have hbx : Below wo.heap.size wo X := (by repeat (first | with_reducible assumption | exact Below.refl _ _ | refine below_next (by with_reducible assumption) ?_))
            have kP3 := carryK (w' := X) kP2 (by repeat (first | with_reducible assumption | exact Below.refl _ _ | refine below_next (by with_reducible assumption) ?_))
            have kQ3 := carryK (w' := X) kQ2 (by repeat (first | with_reducible assumption | exact Below.refl _ _ | refine below_next (by with_reducible assumption) ?_))
            clear cX cP cQ cV kP2 kQ2 kP kQ hb21 hb22 hbX
            have cP := kP3.cell
            have cQ := kQ3.cell
            have fP := kP3.frozen
            have fQ := kQ3.frozen
            go_wp2_with fail
            go_roundw
            case measure => simp [intOf]; omega
            case rel => exact ⟨k + 1, by omega, by go_num, by rw [HN1.out]; exact far2 (blk2 kP3) (by omega), by rw [HN2.out]; exact blk2 (far2 kQ3 (by omega)), below2 (below2 hbx (by omega)) (by omega)⟩
        · obtain rfl : k = n := by omega
          rw [Nat.sub_self, List.drop_zero, HM.out] at kP kQ
          go_upto_region 32 with (fail)
          have cM := over_blk (carryK (w' := wi) kMY (by repeat (first | with_reducible assumption | exact Below.refl _ _ | refine below_next (by with_reducible assumption) ?_))) (carryK (w' := wi) kMY (by repeat (first | with_reducible assumption | exact Below.refl _ _ | refine below_next (by with_reducible assumption) ?_))).lt
          have cP := over_blk kP kP.lt
          have cQ := over_blk kQ kQ.lt
          have qP := fun W => reflG_ne M.b W
          have qQ := fun W => reflG_ne M.d W
          have W0 : IntKind.i64.wrap 2 = 2 := rfl
          have W1 : IntKind.i64.wrap 3 = 3 := rfl
          refine wp_region_over wi.heap.size (by kernel_rfl) (by kernel_rfl) ?_; (repeat (first | go_big_quiet_step (fail) | quiet_step (fail))); refine wpQuiet_nil ?_; rintro W ⟨x, rfl⟩
          have hbX := over_below wi.heap.size wi x
          generalize over wi.heap.size wi x = X at hbX ⊢
          clear cM cP cQ qP qQ W0 W1
          go_wp2_with fail
          go_roundw
          case rel => exact ⟨1 + 1, by omega, rfl, (by repeat (first | with_reducible assumption | exact Below.refl _ _ | refine below_next (by with_reducible assumption) ?_))⟩
          case measure => simp [intOf]
    · go_wp2_with fail
      refine (awake_any _ (hVY.con.carry (by repeat (first | with_reducible assumption | exact Below.refl _ _ | refine below_next (by with_reducible assumption) ?_))) (hVY.tur.carry (by repeat (first | with_reducible assumption | exact Below.refl _ _ | refine below_next (by with_reducible assumption) ?_))) (hVY.ten.carry (by repeat (first | with_reducible assumption | exact Below.refl _ _ | refine below_next (by with_reducible assumption) ?_)))).mono ?_
      rintro e wz ⟨rfl, hbz⟩
      go_wp2_with fail
      go_ret
      exact ⟨rfl, (by repeat (first | with_reducible assumption | exact Below.refl _ _ | refine below_next (by with_reducible assumption) ?_))⟩
theorem lawRec_any (A : Option Addr) (n c : Nat) (l : List El) (f : Int) (w : World) (hV : VarsN w) (hR : Reads w w.heap.size 3 A n (els l)) :
    Calls Tryz.prog 9 #[.slice A n c, .int .i64 f] w fun e w' => e = .returned (.bool true) ∧ Below w.heap.size w w' := by
  by_cases he : atErr l f = 0
  · exact lawRec_good A n c l f w hV hR he
  · exact lawRec_bad A n c l f w hV hR he
end Go.Proofs.YtnndaipnfniciaaGreatDoor
