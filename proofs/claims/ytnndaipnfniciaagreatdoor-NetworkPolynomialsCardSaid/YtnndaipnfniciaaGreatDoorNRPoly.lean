/- The reference's Polynomials. -/
import Derived.Test.YtnndaipnfniciaaGreatDoorNRPol
import Derived.Test.YtnndaipnfniciaaGreatDoorNPols
import Derived.Test.YtnndaipnfniciaaGreatDoorBaseR
namespace Go.Proofs.YtnndaipnfniciaaGreatDoor
open Go.RowKit Go.Shelf
set_option maxRecDepth 100000
theorem pch_T : ∀ (l : List El) (m : PM), m.T → (pch m l).T := by
  intro l
  induction l with
  | nil => intro m h; exact h
  | cons x l ih => intro m _; exact ih _ (PM.mul_t _ _)
theorem pch_take {l : List El} {k : Nat} {x : El} (h : l[k]? = some x) : pch .id (l.take (k + 1)) = (pch .id (l.take k)).step x := by
  rw [List.take_add_one, h]
  show (l.take k ++ [x]).foldl _ _ = _
  rw [List.foldl_append]
  exact (step_mul (pch_T _ _ PM.id_t) x).symm
theorem pdv_take {l : List El} {k : Nat} {x : El} (h : l[k]? = some x) : pdv [1] (l.take (k + 1)) = if x.divides then rtimes (pdv [1] (l.take k)) x.pv else pdv [1] (l.take k) := by
  rw [List.take_add_one, h]
  show (l.take k ++ [x]).foldl _ _ = _
  rw [List.foldl_append]; rfl
theorem rt_bd {a v : List Int} (ha : a.length ≤ 11) (hv : v.length ≤ 2) (na : n1 a ≤ 1419857) (nv : n1 v ≤ 16) : (rtimes a v).length ≤ 13 ∧ n1 (rtimes a v) ≤ 22717712 ∧ n1 a * n1 v ≤ 22717712 := by
  have h1 := padd_len [] a v
  have h2 := n1_padd [] a v
  have h3 := Nat.mul_le_mul na nv
  rw [n1_nil] at h2
  simp only [List.length_nil] at h1
  exact ⟨by unfold rtimes; omega, by unfold rtimes; omega, h3⟩
set_option maxHeartbeats 8000000 in
theorem rPolynomials_ok (A : Option Addr) (n c : Nat) (l : List El) (w : World) (hl : LadOk l) (h : Reads w w.heap.size 3 A n (els l)) :
    Calls Tryz.prog 27 #[.slice A n c] w fun e w' => ∃ va vb vc vd v, e = .returned (.tuple #[.agg #[va, vb, vc, vd], v]) ∧ w'.ownsRow w.heap.size 3 1 va (pch .id l).a.length (ints (pch .id l).a) ∧ w'.ownsRow w.heap.size 3 1 vb (pch .id l).b.length (ints (pch .id l).b) ∧ w'.ownsRow w.heap.size 3 1 vc (pch .id l).c.length (ints (pch .id l).c) ∧ w'.ownsRow w.heap.size 3 1 vd (pch .id l).d.length (ints (pch .id l).d) ∧ w'.ownsRow w.heap.size 3 1 v (pdv [1] l).length (ints (pdv [1] l)) ∧ Below w.heap.size w w' := by
  have HL := hide (els_reads_len h)
  have HOK := hide hl
  have hn5 : n ≤ 5 := by rw [← HL.out]; exact hl.len
  clear hl
  have n1 : IntKind.i64.wrap 1 = 1 := rfl
  go_enter Tryz.func27, Tryz.ntmps27
  go_wp2_with fail
  obtain ⟨w1, e1, hb1, hz1, kR, k1, k2, k3⟩ := box4 w #[.slice none 0 0, .slice none 0 0, .slice none 0 0, .slice none 0 0] #[.int .i64 1] #[] #[] 44 3 3 3
  have hs1 : w1.heap.size = w.heap.size + 4 := by rw [e1]; simp
  rw [← e1]; clear e1
  obtain ⟨w2, e2, hb2, hz2, k4, kM, k5⟩ := box3 w1 #[.int .i64 1] #[.slice (some ⟨w.heap.size + 1, 0, none⟩) 1 1, .slice (some ⟨w.heap.size + 1 + 1, 0, none⟩) 0 0, .slice (some ⟨w.heap.size + 1 + 1 + 1, 0, none⟩) 0 0, .slice (some ⟨w.heap.size + 1 + 1 + 1 + 1, 0, none⟩) 1 1] #[.int .i64 1] 3 44 3
  rw [← e2]; clear e2
  rw [hs1] at kM k4 k5
  have oa : w2.ownsRow w.heap.size 3 1 (.slice (some ⟨w.heap.size + 1, 0, none⟩) 1 1) ([1] : List Int).length (ints [1]) := ⟨rfl, .inr ⟨_, 1, #[.int .i64 1], rfl, by omega, carryK k1 hb2, Nat.le_refl _, by unfold maxLen; omega, rfl, rfl⟩⟩
  have ob : w2.ownsRow w.heap.size 3 1 (.slice (some ⟨w.heap.size + 1 + 1, 0, none⟩) 0 0) ([] : List Int).length (ints []) := ⟨rfl, .inr ⟨_, 0, #[], rfl, by omega, carryK k2 hb2, Nat.le_refl _, by unfold maxLen; omega, rfl, rfl⟩⟩
  have oc : w2.ownsRow w.heap.size 3 1 (.slice (some ⟨w.heap.size + 1 + 1 + 1, 0, none⟩) 0 0) ([] : List Int).length (ints []) := ⟨rfl, .inr ⟨_, 0, #[], rfl, by omega, carryK k3 hb2, Nat.le_refl _, by unfold maxLen; omega, rfl, rfl⟩⟩
  have od : w2.ownsRow w.heap.size 3 1 (.slice (some ⟨w.heap.size + 1 + 1 + 1 + 1, 0, none⟩) 1 1) ([1] : List Int).length (ints [1]) := ⟨rfl, .inr ⟨_, 1, #[.int .i64 1], rfl, by omega, k4, Nat.le_refl _, by unfold maxLen; omega, rfl, rfl⟩⟩
  have oe : w2.ownsRow w.heap.size 3 1 (.slice (some ⟨w.heap.size + 1 + 1 + 1 + 1 + 1 + 1, 0, none⟩) 1 1) ([1] : List Int).length (ints [1]) := ⟨rfl, .inr ⟨_, 1, #[.int .i64 1], rfl, by omega, k5, Nat.le_refl _, by unfold maxLen; omega, rfl, rfl⟩⟩
  obtain ⟨g, hg⟩ : ∃ g, w.heap.size + 1 + 1 + 1 + 1 + 1 = g := ⟨_, rfl⟩
  have kM : Blk w2 g 44 _ := hg ▸ kM
  have hg0 : w.heap.size + 5 ≤ g := by omega
  rw [hg] at oe ⊢
  have kR2 := carryK kR hb2
  have hbw := below_next hb1 hb2
  clear hg k1 k2 k3 k4 k5 hb1 hb2 hz1 hz2 hs1 kR n1
  go_loopw [5, 6] (fun d i wr => ∃ k : Nat, k ≤ n ∧ i = .int .i64 k ∧ ∃ va vb vc vd, Blk wr g 44 #[va, vb, vc, vd] ∧ wr.ownsRow w.heap.size 3 1 va (pch .id (l.take k)).a.length (ints (pch .id (l.take k)).a) ∧ wr.ownsRow w.heap.size 3 1 vb (pch .id (l.take k)).b.length (ints (pch .id (l.take k)).b) ∧ wr.ownsRow w.heap.size 3 1 vc (pch .id (l.take k)).c.length (ints (pch .id (l.take k)).c) ∧ wr.ownsRow w.heap.size 3 1 vd (pch .id (l.take k)).d.length (ints (pch .id (l.take k)).d) ∧ wr.ownsRow w.heap.size 3 1 d (pdv [1] (l.take k)).length (ints (pdv [1] (l.take k))) ∧ Blk wr w.heap.size 44 #[.slice none 0 0, .slice none 0 0, .slice none 0 0, .slice none 0 0] ∧ Below w.heap.size w wr) (fun _ i _ => n - (intOf i).toNat)
  case atStart => exact ⟨0, by omega, rfl, _, _, _, _, kM, oa, ob, oc, od, oe, kR2, hbw⟩
  case round =>
    rename World => wo
    clear kM oa ob oc od oe kR2 hbw
    obtain ⟨k, hk, rfl, va, vb, vc, vd, kM, oa, ob, oc, od, oe, kR, hbo⟩ := hrel
    by_cases hlt : k < n
    · obtain ⟨ad, el, rfl, _, hxk, hcx⟩ := els_hit h hlt (Nat.le_refl _)
      have hxo := HOK.out.all el (List.mem_of_getElem? hxk)
      have hbd := lad_pm HOK.out k
      have hdd := lad_pd HOK.out k
      have hpv := pv_bd hxo
      have hps := pch_take hxk
      have hds := pdv_take hxk
      have HKN := hide hxo.kn
      obtain ⟨⟨ma, mb, mc, md⟩, hm⟩ : ∃ m, pch .id (l.take k) = m := ⟨_, rfl⟩
      obtain ⟨dl, hdl⟩ : ∃ d, pdv [1] (l.take k) = d := ⟨_, rfl⟩
      rw [hm] at hbd hps oa ob oc od
      rw [hdl] at hdd hds oe
      simp only at oa ob oc od
      obtain ⟨V, hV⟩ : ∃ V, el.pv = V := ⟨_, rfl⟩
      unfold PM.step at hps
      rw [hV] at hpv hps hds
      have la : ma.length ≤ 11 := hbd.la
      have lb : mb.length ≤ 11 := hbd.lb
      have lc : mc.length ≤ 11 := hbd.lc
      have ld : md.length ≤ 11 := hbd.ld
      have r1 : n1 ma + n1 mb ≤ 1419857 := hbd.r1
      have r2 : n1 mc + n1 md ≤ 1419857 := hbd.r2
      obtain ⟨ta1, ta2, ta3⟩ := rt_bd la hpv.1 (by omega) hpv.2
      obtain ⟨tb1, tb2, tb3⟩ := rt_bd lb hpv.1 (by omega) hpv.2
      obtain ⟨tc1, tc2, tc3⟩ := rt_bd lc hpv.1 (by omega) hpv.2
      obtain ⟨td1, td2, td3⟩ := rt_bd ld hpv.1 (by omega) hpv.2
      obtain ⟨te1, te2, te3⟩ := rt_bd hdd.1 hpv.1 hdd.2 hpv.2
      have lv := hpv.1
      have na : n1 ma ≤ 1419857 := by omega
      have nb : n1 mb ≤ 1419857 := by omega
      have nc : n1 mc ≤ 1419857 := by omega
      have nd : n1 md ≤ 1419857 := by omega
      have HPS := hide hps
      have HDS := hide hds
      have HV := hide hV
      have HC := hide hcx
      clear hxk hcx hxo hbd hpv hps hds hm hdl hV r1 r2
      go_upto_region 6 with (fail)
      have q1 := fun W (hW : Below wo.heap.size wo W) => (HC.out W (below_next hbo hW)).2.1
      have q2 := fun W (hW : Below wo.heap.size wo W) => (HC.out W (below_next hbo hW)).2.2
      go_region_held3 (fun W => Below wo.heap.size wo W) (first | exact (Below.refl _ _).drew | (with_reducible assumption) | exact below_new ‹Below wo.heap.size wo _› (Nat.le_refl _) _ | (refine below_set (below_set (below_set (below_set (by assumption) (by omega) _) (by omega) _) (by omega) _) (by omega) _)) ((go_at_call 99; have hz9 := Below.size ‹Below wo.heap.size wo _›; refine (rTrimmed_any _ 2 2 [el.a, el.b] _ (blkR (xs := [el.a, el.b]) (show Blk _ _ 3 #[.int .i64 el.a, .int .i64 el.b] from by repeat (first | (with_reducible refine Blk.drew ?_) | (with_reducible exact Blk.newAt (by first | rfl | simp)))) rfl) (by omega) (by omega)).mono ?_; rintro e w4 ⟨tv, rfl, ov, hb4⟩; have hS := below_step ‹Below wo.heap.size wo _› hb4 (Below.size ‹Below wo.heap.size wo _›)))
      have hb04 : Below wo.heap.size wo w4 := by with_reducible assumption
      rw [show trim [el.a, el.b] = V from HV.out] at ov
      obtain ⟨Av, cv, rfl, rv⟩ := own_slice ov
      have ov4 := ov.weaken (Nat.le_trans hbo.size hz9)
      clear q1 q2
      have oa4 := row_below oa hb04
      have ob4 := row_below ob hb04
      have oc4 := row_below oc hb04
      have od4 := row_below od hb04
      have oe4 := row_below oe hb04
      have kM4 := carryK kM hb04
      have kR4 := carryK kR hb04
      have hb4w := below_next hbo hb04
      have hle4 := hb4w.size
      obtain ⟨Aa, ca, rfl, ra⟩ := own_slice oa4
      obtain ⟨Ab, cb, rfl, rb⟩ := own_slice ob4
      obtain ⟨Ac, cc, rfl, rc⟩ := own_slice oc4
      obtain ⟨Ad, cd, rfl, rd⟩ := own_slice od4
      obtain ⟨Ae, ce, rfl, re⟩ := own_slice oe4
      clear hb4 oa ob oc od oe kM kR hb04 ov hbo
      go_upto_region 7 with (fail)
      have cM := over_blk kM4 kM4.lt
      refine wp_region_over w4.heap.size (by kernel_rfl) (by kernel_rfl) ?_; (repeat (first | go_big_quiet_step (fail) | quiet_step (fail))); refine wpQuiet_nil ?_; rintro W ⟨x, rfl⟩
      have hbY := over_below w4.heap.size w4 x
      generalize over w4.heap.size w4 x = Y5 at hbY ⊢
      clear cM
      have q0 := (HC.out Y5 (below_next hb4w hbY)).1
      have h1 := list_series el.kind
      have h2 := list_shunt el.kind
      have h3 := list_block el.kind
      rcases El.kinds HKN.out with e | e | e | e
      · have t1 : (el.kind.toList == [115, 101, 114, 105, 101, 115]) = false := by rw [h1, e]; decide
        have t2 : (el.kind.toList == [115, 104, 117, 110, 116]) = false := by rw [h2, e]; decide
        have t3 : (el.kind.toList == [98, 108, 111, 99, 107]) = true := by rw [h3, e]; decide
        have td : kDiv el.kind = true := by rw [e]; decide
        have HN : Hid (pch .id (l.take (k + 1)) = ⟨rtimes ma V, rplus ma (rtimes mb V), rtimes mc V, rplus mc (rtimes md V)⟩) := by show _ = _; rw [HPS.out, if_neg (by rw [e]; decide), if_neg (by rw [e]; decide), if_pos e]
        have HM : Hid (pdv [1] (l.take (k + 1)) = rtimes dl V) := by show _ = _; rw [HDS.out, if_pos (by unfold El.divides; rw [e]; decide)]
        clear h1 h2 h3 e
        go_wp2_with fail
        refine (rPolTimes_any Aa _ ca ma Av _ cv V _ (carry ra (by repeat (first | with_reducible assumption | exact Below.refl _ _ | refine below_next (by with_reducible assumption) ?_))) (carry rv (by repeat (first | with_reducible assumption | exact Below.refl _ _ | refine below_next (by with_reducible assumption) ?_))) (by omega) (by omega) (by omega)).mono ?_
        rintro e w11 ⟨tT1, rfl, oT1, hbw11⟩
        obtain ⟨AT1, cT1, rfl, rT1⟩ := own_slice oT1
        go_wp2_with fail
        refine (rPolTimes_any Ab _ cb mb Av _ cv V _ (carry rb (by repeat (first | with_reducible assumption | exact Below.refl _ _ | refine below_next (by with_reducible assumption) ?_))) (carry rv (by repeat (first | with_reducible assumption | exact Below.refl _ _ | refine below_next (by with_reducible assumption) ?_))) (by omega) (by omega) (by omega)).mono ?_
        rintro e w12 ⟨tT2, rfl, oT2, hbw12⟩
        obtain ⟨AT2, cT2, rfl, rT2⟩ := own_slice oT2
        go_wp2_with fail
        refine (rPolPlus_any Aa _ ca ma AT2 _ cT2 (rtimes mb V) _ (carry ra (by repeat (first | with_reducible assumption | exact Below.refl _ _ | refine below_next (by with_reducible assumption) ?_))) (carry rT2 (by repeat (first | with_reducible assumption | exact Below.refl _ _ | refine below_next (by with_reducible assumption) ?_))) (by omega) (by omega) (by omega)).mono ?_
        rintro e w13 ⟨tP1, rfl, oP1, hbw13⟩
        obtain ⟨AP1, cP1, rfl, rP1⟩ := own_slice oP1
        go_wp2_with fail
        refine (rPolTimes_any Ac _ cc mc Av _ cv V _ (carry rc (by repeat (first | with_reducible assumption | exact Below.refl _ _ | refine below_next (by with_reducible assumption) ?_))) (carry rv (by repeat (first | with_reducible assumption | exact Below.refl _ _ | refine below_next (by with_reducible assumption) ?_))) (by omega) (by omega) (by omega)).mono ?_
        rintro e w14 ⟨tT3, rfl, oT3, hbw14⟩
        obtain ⟨AT3, cT3, rfl, rT3⟩ := own_slice oT3
        go_wp2_with fail
        refine (rPolTimes_any Ad _ cd md Av _ cv V _ (carry rd (by repeat (first | with_reducible assumption | exact Below.refl _ _ | refine below_next (by with_reducible assumption) ?_))) (carry rv (by repeat (first | with_reducible assumption | exact Below.refl _ _ | refine below_next (by with_reducible assumption) ?_))) (by omega) (by omega) (by omega)).mono ?_
        rintro e w15 ⟨tT4, rfl, oT4, hbw15⟩
        obtain ⟨AT4, cT4, rfl, rT4⟩ := own_slice oT4
        go_wp2_with fail
        refine (rPolPlus_any Ac _ cc mc AT4 _ cT4 (rtimes md V) _ (carry rc (by repeat (first | with_reducible assumption | exact Below.refl _ _ | refine below_next (by with_reducible assumption) ?_))) (carry rT4 (by repeat (first | with_reducible assumption | exact Below.refl _ _ | refine below_next (by with_reducible assumption) ?_))) (by omega) (by omega) (by omega)).mono ?_
        rintro e w16 ⟨tP2, rfl, oP2, hbw16⟩
        obtain ⟨AP2, cP2, rfl, rP2⟩ := own_slice oP2
        have f0 := row_below (w' := w16) (oT1.weaken (show w.heap.size ≤ _ from Below.size (show Below w.heap.size w _ from (by repeat (first | with_reducible assumption | exact Below.refl _ _ | refine below_next (by with_reducible assumption) ?_))))) (by repeat (first | with_reducible assumption | exact Below.refl _ _ | refine below_next (by with_reducible assumption) ?_))
        have f1 := row_below (w' := w16) (oP1.weaken (show w.heap.size ≤ _ from Below.size (show Below w.heap.size w _ from (by repeat (first | with_reducible assumption | exact Below.refl _ _ | refine below_next (by with_reducible assumption) ?_))))) (by repeat (first | with_reducible assumption | exact Below.refl _ _ | refine below_next (by with_reducible assumption) ?_))
        have f2 := row_below (w' := w16) (oT3.weaken (show w.heap.size ≤ _ from Below.size (show Below w.heap.size w _ from (by repeat (first | with_reducible assumption | exact Below.refl _ _ | refine below_next (by with_reducible assumption) ?_))))) (by repeat (first | with_reducible assumption | exact Below.refl _ _ | refine below_next (by with_reducible assumption) ?_))
        have f3 := row_below (w' := w16) (oP2.weaken (show w.heap.size ≤ _ from Below.size (show Below w.heap.size w _ from (by repeat (first | with_reducible assumption | exact Below.refl _ _ | refine below_next (by with_reducible assumption) ?_))))) (by repeat (first | with_reducible assumption | exact Below.refl _ _ | refine below_next (by with_reducible assumption) ?_))
        have kMF := carryK (w' := w16) kM4 (by repeat (first | with_reducible assumption | exact Below.refl _ _ | refine below_next (by with_reducible assumption) ?_))
        have kRF := carryK (w' := w16) kR4 (by repeat (first | with_reducible assumption | exact Below.refl _ _ | refine below_next (by with_reducible assumption) ?_))
        have fe := row_below (w' := w16) oe4 (by repeat (first | with_reducible assumption | exact Below.refl _ _ | refine below_next (by with_reducible assumption) ?_))
        have hbF : Below w.heap.size w w16 := (by repeat (first | with_reducible assumption | exact Below.refl _ _ | refine below_next (by with_reducible assumption) ?_))
        obtain ⟨X, eX, kX, _, hfX, hBX, _, _, hoX⟩ := set4 w16 g 44 _ _ _ _ (.slice AT1 (rtimes ma V).length cT1) (.slice AP1 (rplus ma (rtimes mb V)).length cP1) (.slice AT3 (rtimes mc V).length cT3) (.slice AP2 (rplus mc (rtimes md V)).length cP2) kMF
        have kRX := hfX _ _ _ (by omega) kRF
        have hbX : Below w.heap.size w X := below_step hbF (hBX w.heap.size (by omega)) (Nat.le_refl _)
        have ga := hoX _ _ _ _ _ _ (show (3 : TypeId) ≠ 44 by decide) f0
        have gb := hoX _ _ _ _ _ _ (show (3 : TypeId) ≠ 44 by decide) f1
        have gc := hoX _ _ _ _ _ _ (show (3 : TypeId) ≠ 44 by decide) f2
        have gd := hoX _ _ _ _ _ _ (show (3 : TypeId) ≠ 44 by decide) f3
        have ge := hoX _ _ _ _ _ _ (show (3 : TypeId) ≠ 44 by decide) fe
        have gv := hoX _ _ _ _ _ _ (show (3 : TypeId) ≠ 44 by decide) (row_below (w' := w16) ov4 (by repeat (first | with_reducible assumption | exact Below.refl _ _ | refine below_next (by with_reducible assumption) ?_)))
        have qX := (HC.out X hbX).1
        rw [eX] at qX
        have cM := kMF.cell
        have fM := kMF.frozen
        clear hfX hBX hoX
        go_wp2_with (go_at_call 102; refine (divides_any _ _).mono ?_; rintro e W' ⟨rfl, rfl⟩)
        rw [← eX]
        clear eX qX cM fM
        have hleX := hbX.size
        obtain ⟨Ae2, ce2, ee, re2⟩ := own_slice ge
        obtain ⟨Av2, cv2, ev, rv2⟩ := own_slice gv
        cases ee
        cases ev
        refine (rPolTimes_any Ae _ ce dl Av _ cv V _ re2 rv2 (by omega) (by omega) (by omega)).mono ?_
        rintro e w30 ⟨tz, rfl, oz, hb30⟩
        have oz2 := oz.weaken hleX
        have ga2 := row_below ga hb30
        have gb2 := row_below gb hb30
        have gc2 := row_below gc hb30
        have gd2 := row_below gd hb30
        have kX2 := carryK kX hb30
        have kRX2 := carryK kRX hb30
        have hbX2 := below_next hbX hb30
        go_wp2_with fail
        go_roundw
        case rel => exact ⟨k + 1, by omega, by go_num, _, _, _, _, kX2, by rw [HN.out]; exact ga2, by rw [HN.out]; exact gb2, by rw [HN.out]; exact gc2, by rw [HN.out]; exact gd2, by rw [HM.out]; exact oz2, kRX2, hbX2⟩
        case measure => simp [intOf]; omega
      · have t1 : (el.kind.toList == [115, 101, 114, 105, 101, 115]) = true := by rw [h1, e]; decide
        have td : kDiv el.kind = false := by rw [e]; decide
        have HN : Hid (pch .id (l.take (k + 1)) = ⟨ma, rplus (rtimes ma V) mb, mc, rplus (rtimes mc V) md⟩) := by show _ = _; rw [HPS.out, if_pos e]
        have HM : Hid (pdv [1] (l.take (k + 1)) = dl) := by show _ = _; rw [HDS.out, if_neg (by unfold El.divides; rw [e]; decide)]
        clear h1 h2 h3 e
        go_wp2_with fail
        refine (rPolTimes_any Aa _ ca ma Av _ cv V _ (carry ra (by repeat (first | with_reducible assumption | exact Below.refl _ _ | refine below_next (by with_reducible assumption) ?_))) (carry rv (by repeat (first | with_reducible assumption | exact Below.refl _ _ | refine below_next (by with_reducible assumption) ?_))) (by omega) (by omega) (by omega)).mono ?_
        rintro e w11 ⟨tT1, rfl, oT1, hbw11⟩
        obtain ⟨AT1, cT1, rfl, rT1⟩ := own_slice oT1
        go_wp2_with fail
        refine (rPolPlus_any AT1 _ cT1 (rtimes ma V) Ab _ cb mb _ (carry rT1 (by repeat (first | with_reducible assumption | exact Below.refl _ _ | refine below_next (by with_reducible assumption) ?_))) (carry rb (by repeat (first | with_reducible assumption | exact Below.refl _ _ | refine below_next (by with_reducible assumption) ?_))) (by omega) (by omega) (by omega)).mono ?_
        rintro e w12 ⟨tP1, rfl, oP1, hbw12⟩
        obtain ⟨AP1, cP1, rfl, rP1⟩ := own_slice oP1
        go_wp2_with fail
        refine (rPolTimes_any Ac _ cc mc Av _ cv V _ (carry rc (by repeat (first | with_reducible assumption | exact Below.refl _ _ | refine below_next (by with_reducible assumption) ?_))) (carry rv (by repeat (first | with_reducible assumption | exact Below.refl _ _ | refine below_next (by with_reducible assumption) ?_))) (by omega) (by omega) (by omega)).mono ?_
        rintro e w13 ⟨tT2, rfl, oT2, hbw13⟩
        obtain ⟨AT2, cT2, rfl, rT2⟩ := own_slice oT2
        go_wp2_with fail
        refine (rPolPlus_any AT2 _ cT2 (rtimes mc V) Ad _ cd md _ (carry rT2 (by repeat (first | with_reducible assumption | exact Below.refl _ _ | refine below_next (by with_reducible assumption) ?_))) (carry rd (by repeat (first | with_reducible assumption | exact Below.refl _ _ | refine below_next (by with_reducible assumption) ?_))) (by omega) (by omega) (by omega)).mono ?_
        rintro e w14 ⟨tP2, rfl, oP2, hbw14⟩
        obtain ⟨AP2, cP2, rfl, rP2⟩ := own_slice oP2
        have f0 := row_below (w' := w14) oa4 (by repeat (first | with_reducible assumption | exact Below.refl _ _ | refine below_next (by with_reducible assumption) ?_))
        have f1 := row_below (w' := w14) (oP1.weaken (show w.heap.size ≤ _ from Below.size (show Below w.heap.size w _ from (by repeat (first | with_reducible assumption | exact Below.refl _ _ | refine below_next (by with_reducible assumption) ?_))))) (by repeat (first | with_reducible assumption | exact Below.refl _ _ | refine below_next (by with_reducible assumption) ?_))
        have f2 := row_below (w' := w14) oc4 (by repeat (first | with_reducible assumption | exact Below.refl _ _ | refine below_next (by with_reducible assumption) ?_))
        have f3 := row_below (w' := w14) (oP2.weaken (show w.heap.size ≤ _ from Below.size (show Below w.heap.size w _ from (by repeat (first | with_reducible assumption | exact Below.refl _ _ | refine below_next (by with_reducible assumption) ?_))))) (by repeat (first | with_reducible assumption | exact Below.refl _ _ | refine below_next (by with_reducible assumption) ?_))
        have kMF := carryK (w' := w14) kM4 (by repeat (first | with_reducible assumption | exact Below.refl _ _ | refine below_next (by with_reducible assumption) ?_))
        have kRF := carryK (w' := w14) kR4 (by repeat (first | with_reducible assumption | exact Below.refl _ _ | refine below_next (by with_reducible assumption) ?_))
        have fe := row_below (w' := w14) oe4 (by repeat (first | with_reducible assumption | exact Below.refl _ _ | refine below_next (by with_reducible assumption) ?_))
        have hbF : Below w.heap.size w w14 := (by repeat (first | with_reducible assumption | exact Below.refl _ _ | refine below_next (by with_reducible assumption) ?_))
        obtain ⟨X, eX, kX, _, hfX, hBX, _, _, hoX⟩ := set4 w14 g 44 _ _ _ _ (.slice Aa ma.length ca) (.slice AP1 (rplus (rtimes ma V) mb).length cP1) (.slice Ac mc.length cc) (.slice AP2 (rplus (rtimes mc V) md).length cP2) kMF
        have kRX := hfX _ _ _ (by omega) kRF
        have hbX : Below w.heap.size w X := below_step hbF (hBX w.heap.size (by omega)) (Nat.le_refl _)
        have ga := hoX _ _ _ _ _ _ (show (3 : TypeId) ≠ 44 by decide) f0
        have gb := hoX _ _ _ _ _ _ (show (3 : TypeId) ≠ 44 by decide) f1
        have gc := hoX _ _ _ _ _ _ (show (3 : TypeId) ≠ 44 by decide) f2
        have gd := hoX _ _ _ _ _ _ (show (3 : TypeId) ≠ 44 by decide) f3
        have ge := hoX _ _ _ _ _ _ (show (3 : TypeId) ≠ 44 by decide) fe
        have gv := hoX _ _ _ _ _ _ (show (3 : TypeId) ≠ 44 by decide) (row_below (w' := w14) ov4 (by repeat (first | with_reducible assumption | exact Below.refl _ _ | refine below_next (by with_reducible assumption) ?_)))
        have qX := (HC.out X hbX).1
        rw [eX] at qX
        have cM := kMF.cell
        have fM := kMF.frozen
        clear hfX hBX hoX
        go_wp2_with (go_at_call 102; refine (divides_any _ _).mono ?_; rintro e W' ⟨rfl, rfl⟩)
        rw [← eX]
        clear eX qX cM fM
        go_roundw
        case rel => exact ⟨k + 1, by omega, by go_num, _, _, _, _, kX, by rw [HN.out]; exact ga, by rw [HN.out]; exact gb, by rw [HN.out]; exact gc, by rw [HN.out]; exact gd, by rw [HM.out]; exact ge, kRX, hbX⟩
        case measure => simp [intOf]; omega
      · have t1 : (el.kind.toList == [115, 101, 114, 105, 101, 115]) = false := by rw [h1, e]; decide
        have t2 : (el.kind.toList == [115, 104, 117, 110, 116]) = true := by rw [h2, e]; decide
        have td : kDiv el.kind = false := by rw [e]; decide
        have HN : Hid (pch .id (l.take (k + 1)) = ⟨rplus ma (rtimes mb V), mb, rplus mc (rtimes md V), md⟩) := by show _ = _; rw [HPS.out, if_neg (by rw [e]; decide), if_pos e]
        have HM : Hid (pdv [1] (l.take (k + 1)) = dl) := by show _ = _; rw [HDS.out, if_neg (by unfold El.divides; rw [e]; decide)]
        clear h1 h2 h3 e
        go_wp2_with fail
        refine (rPolTimes_any Ab _ cb mb Av _ cv V _ (carry rb (by repeat (first | with_reducible assumption | exact Below.refl _ _ | refine below_next (by with_reducible assumption) ?_))) (carry rv (by repeat (first | with_reducible assumption | exact Below.refl _ _ | refine below_next (by with_reducible assumption) ?_))) (by omega) (by omega) (by omega)).mono ?_
        rintro e w11 ⟨tT1, rfl, oT1, hbw11⟩
        obtain ⟨AT1, cT1, rfl, rT1⟩ := own_slice oT1
        go_wp2_with fail
        refine (rPolPlus_any Aa _ ca ma AT1 _ cT1 (rtimes mb V) _ (carry ra (by repeat (first | with_reducible assumption | exact Below.refl _ _ | refine below_next (by with_reducible assumption) ?_))) (carry rT1 (by repeat (first | with_reducible assumption | exact Below.refl _ _ | refine below_next (by with_reducible assumption) ?_))) (by omega) (by omega) (by omega)).mono ?_
        rintro e w12 ⟨tP1, rfl, oP1, hbw12⟩
        obtain ⟨AP1, cP1, rfl, rP1⟩ := own_slice oP1
        go_wp2_with fail
        refine (rPolTimes_any Ad _ cd md Av _ cv V _ (carry rd (by repeat (first | with_reducible assumption | exact Below.refl _ _ | refine below_next (by with_reducible assumption) ?_))) (carry rv (by repeat (first | with_reducible assumption | exact Below.refl _ _ | refine below_next (by with_reducible assumption) ?_))) (by omega) (by omega) (by omega)).mono ?_
        rintro e w13 ⟨tT2, rfl, oT2, hbw13⟩
        obtain ⟨AT2, cT2, rfl, rT2⟩ := own_slice oT2
        go_wp2_with fail
        refine (rPolPlus_any Ac _ cc mc AT2 _ cT2 (rtimes md V) _ (carry rc (by repeat (first | with_reducible assumption | exact Below.refl _ _ | refine below_next (by with_reducible assumption) ?_))) (carry rT2 (by repeat (first | with_reducible assumption | exact Below.refl _ _ | refine below_next (by with_reducible assumption) ?_))) (by omega) (by omega) (by omega)).mono ?_
        rintro e w14 ⟨tP2, rfl, oP2, hbw14⟩
        obtain ⟨AP2, cP2, rfl, rP2⟩ := own_slice oP2
        have f0 := row_below (w' := w14) (oP1.weaken (show w.heap.size ≤ _ from Below.size (show Below w.heap.size w _ from (by repeat (first | with_reducible assumption | exact Below.refl _ _ | refine below_next (by with_reducible assumption) ?_))))) (by repeat (first | with_reducible assumption | exact Below.refl _ _ | refine below_next (by with_reducible assumption) ?_))
        have f1 := row_below (w' := w14) ob4 (by repeat (first | with_reducible assumption | exact Below.refl _ _ | refine below_next (by with_reducible assumption) ?_))
        have f2 := row_below (w' := w14) (oP2.weaken (show w.heap.size ≤ _ from Below.size (show Below w.heap.size w _ from (by repeat (first | with_reducible assumption | exact Below.refl _ _ | refine below_next (by with_reducible assumption) ?_))))) (by repeat (first | with_reducible assumption | exact Below.refl _ _ | refine below_next (by with_reducible assumption) ?_))
        have f3 := row_below (w' := w14) od4 (by repeat (first | with_reducible assumption | exact Below.refl _ _ | refine below_next (by with_reducible assumption) ?_))
        have kMF := carryK (w' := w14) kM4 (by repeat (first | with_reducible assumption | exact Below.refl _ _ | refine below_next (by with_reducible assumption) ?_))
        have kRF := carryK (w' := w14) kR4 (by repeat (first | with_reducible assumption | exact Below.refl _ _ | refine below_next (by with_reducible assumption) ?_))
        have fe := row_below (w' := w14) oe4 (by repeat (first | with_reducible assumption | exact Below.refl _ _ | refine below_next (by with_reducible assumption) ?_))
        have hbF : Below w.heap.size w w14 := (by repeat (first | with_reducible assumption | exact Below.refl _ _ | refine below_next (by with_reducible assumption) ?_))
        obtain ⟨X, eX, kX, _, hfX, hBX, _, _, hoX⟩ := set4 w14 g 44 _ _ _ _ (.slice AP1 (rplus ma (rtimes mb V)).length cP1) (.slice Ab mb.length cb) (.slice AP2 (rplus mc (rtimes md V)).length cP2) (.slice Ad md.length cd) kMF
        have kRX := hfX _ _ _ (by omega) kRF
        have hbX : Below w.heap.size w X := below_step hbF (hBX w.heap.size (by omega)) (Nat.le_refl _)
        have ga := hoX _ _ _ _ _ _ (show (3 : TypeId) ≠ 44 by decide) f0
        have gb := hoX _ _ _ _ _ _ (show (3 : TypeId) ≠ 44 by decide) f1
        have gc := hoX _ _ _ _ _ _ (show (3 : TypeId) ≠ 44 by decide) f2
        have gd := hoX _ _ _ _ _ _ (show (3 : TypeId) ≠ 44 by decide) f3
        have ge := hoX _ _ _ _ _ _ (show (3 : TypeId) ≠ 44 by decide) fe
        have gv := hoX _ _ _ _ _ _ (show (3 : TypeId) ≠ 44 by decide) (row_below (w' := w14) ov4 (by repeat (first | with_reducible assumption | exact Below.refl _ _ | refine below_next (by with_reducible assumption) ?_)))
        have qX := (HC.out X hbX).1
        rw [eX] at qX
        have cM := kMF.cell
        have fM := kMF.frozen
        clear hfX hBX hoX
        go_wp2_with (go_at_call 102; refine (divides_any _ _).mono ?_; rintro e W' ⟨rfl, rfl⟩)
        rw [← eX]
        clear eX qX cM fM
        go_roundw
        case rel => exact ⟨k + 1, by omega, by go_num, _, _, _, _, kX, by rw [HN.out]; exact ga, by rw [HN.out]; exact gb, by rw [HN.out]; exact gc, by rw [HN.out]; exact gd, by rw [HM.out]; exact ge, kRX, hbX⟩
        case measure => simp [intOf]; omega
      · have t1 : (el.kind.toList == [115, 101, 114, 105, 101, 115]) = false := by rw [h1, e]; decide
        have t2 : (el.kind.toList == [115, 104, 117, 110, 116]) = false := by rw [h2, e]; decide
        have t3 : (el.kind.toList == [98, 108, 111, 99, 107]) = false := by rw [h3, e]; decide
        have td : kDiv el.kind = true := by rw [e]; decide
        have HN : Hid (pch .id (l.take (k + 1)) = ⟨rplus (rtimes ma V) mb, rtimes mb V, rplus (rtimes mc V) md, rtimes md V⟩) := by show _ = _; rw [HPS.out, if_neg (by rw [e]; decide), if_neg (by rw [e]; decide), if_neg (by rw [e]; decide)]
        have HM : Hid (pdv [1] (l.take (k + 1)) = rtimes dl V) := by show _ = _; rw [HDS.out, if_pos (by unfold El.divides; rw [e]; decide)]
        clear h1 h2 h3 e
        go_wp2_with fail
        refine (rPolTimes_any Aa _ ca ma Av _ cv V _ (carry ra (by repeat (first | with_reducible assumption | exact Below.refl _ _ | refine below_next (by with_reducible assumption) ?_))) (carry rv (by repeat (first | with_reducible assumption | exact Below.refl _ _ | refine below_next (by with_reducible assumption) ?_))) (by omega) (by omega) (by omega)).mono ?_
        rintro e w11 ⟨tT1, rfl, oT1, hbw11⟩
        obtain ⟨AT1, cT1, rfl, rT1⟩ := own_slice oT1
        go_wp2_with fail
        refine (rPolPlus_any AT1 _ cT1 (rtimes ma V) Ab _ cb mb _ (carry rT1 (by repeat (first | with_reducible assumption | exact Below.refl _ _ | refine below_next (by with_reducible assumption) ?_))) (carry rb (by repeat (first | with_reducible assumption | exact Below.refl _ _ | refine below_next (by with_reducible assumption) ?_))) (by omega) (by omega) (by omega)).mono ?_
        rintro e w12 ⟨tP1, rfl, oP1, hbw12⟩
        obtain ⟨AP1, cP1, rfl, rP1⟩ := own_slice oP1
        go_wp2_with fail
        refine (rPolTimes_any Ab _ cb mb Av _ cv V _ (carry rb (by repeat (first | with_reducible assumption | exact Below.refl _ _ | refine below_next (by with_reducible assumption) ?_))) (carry rv (by repeat (first | with_reducible assumption | exact Below.refl _ _ | refine below_next (by with_reducible assumption) ?_))) (by omega) (by omega) (by omega)).mono ?_
        rintro e w13 ⟨tT2, rfl, oT2, hbw13⟩
        obtain ⟨AT2, cT2, rfl, rT2⟩ := own_slice oT2
        go_wp2_with fail
        refine (rPolTimes_any Ac _ cc mc Av _ cv V _ (carry rc (by repeat (first | with_reducible assumption | exact Below.refl _ _ | refine below_next (by with_reducible assumption) ?_))) (carry rv (by repeat (first | with_reducible assumption | exact Below.refl _ _ | refine below_next (by with_reducible assumption) ?_))) (by omega) (by omega) (by omega)).mono ?_
        rintro e w14 ⟨tT3, rfl, oT3, hbw14⟩
        obtain ⟨AT3, cT3, rfl, rT3⟩ := own_slice oT3
        go_wp2_with fail
        refine (rPolPlus_any AT3 _ cT3 (rtimes mc V) Ad _ cd md _ (carry rT3 (by repeat (first | with_reducible assumption | exact Below.refl _ _ | refine below_next (by with_reducible assumption) ?_))) (carry rd (by repeat (first | with_reducible assumption | exact Below.refl _ _ | refine below_next (by with_reducible assumption) ?_))) (by omega) (by omega) (by omega)).mono ?_
        rintro e w15 ⟨tP2, rfl, oP2, hbw15⟩
        obtain ⟨AP2, cP2, rfl, rP2⟩ := own_slice oP2
        go_wp2_with fail
        refine (rPolTimes_any Ad _ cd md Av _ cv V _ (carry rd (by repeat (first | with_reducible assumption | exact Below.refl _ _ | refine below_next (by with_reducible assumption) ?_))) (carry rv (by repeat (first | with_reducible assumption | exact Below.refl _ _ | refine below_next (by with_reducible assumption) ?_))) (by omega) (by omega) (by omega)).mono ?_
        rintro e w16 ⟨tT4, rfl, oT4, hbw16⟩
        obtain ⟨AT4, cT4, rfl, rT4⟩ := own_slice oT4
        have f0 := row_below (w' := w16) (oP1.weaken (show w.heap.size ≤ _ from Below.size (show Below w.heap.size w _ from (by repeat (first | with_reducible assumption | exact Below.refl _ _ | refine below_next (by with_reducible assumption) ?_))))) (by repeat (first | with_reducible assumption | exact Below.refl _ _ | refine below_next (by with_reducible assumption) ?_))
        have f1 := row_below (w' := w16) (oT2.weaken (show w.heap.size ≤ _ from Below.size (show Below w.heap.size w _ from (by repeat (first | with_reducible assumption | exact Below.refl _ _ | refine below_next (by with_reducible assumption) ?_))))) (by repeat (first | with_reducible assumption | exact Below.refl _ _ | refine below_next (by with_reducible assumption) ?_))
        have f2 := row_below (w' := w16) (oP2.weaken (show w.heap.size ≤ _ from Below.size (show Below w.heap.size w _ from (by repeat (first | with_reducible assumption | exact Below.refl _ _ | refine below_next (by with_reducible assumption) ?_))))) (by repeat (first | with_reducible assumption | exact Below.refl _ _ | refine below_next (by with_reducible assumption) ?_))
        have f3 := row_below (w' := w16) (oT4.weaken (show w.heap.size ≤ _ from Below.size (show Below w.heap.size w _ from (by repeat (first | with_reducible assumption | exact Below.refl _ _ | refine below_next (by with_reducible assumption) ?_))))) (by repeat (first | with_reducible assumption | exact Below.refl _ _ | refine below_next (by with_reducible assumption) ?_))
        have kMF := carryK (w' := w16) kM4 (by repeat (first | with_reducible assumption | exact Below.refl _ _ | refine below_next (by with_reducible assumption) ?_))
        have kRF := carryK (w' := w16) kR4 (by repeat (first | with_reducible assumption | exact Below.refl _ _ | refine below_next (by with_reducible assumption) ?_))
        have fe := row_below (w' := w16) oe4 (by repeat (first | with_reducible assumption | exact Below.refl _ _ | refine below_next (by with_reducible assumption) ?_))
        have hbF : Below w.heap.size w w16 := (by repeat (first | with_reducible assumption | exact Below.refl _ _ | refine below_next (by with_reducible assumption) ?_))
        obtain ⟨X, eX, kX, _, hfX, hBX, _, _, hoX⟩ := set4 w16 g 44 _ _ _ _ (.slice AP1 (rplus (rtimes ma V) mb).length cP1) (.slice AT2 (rtimes mb V).length cT2) (.slice AP2 (rplus (rtimes mc V) md).length cP2) (.slice AT4 (rtimes md V).length cT4) kMF
        have kRX := hfX _ _ _ (by omega) kRF
        have hbX : Below w.heap.size w X := below_step hbF (hBX w.heap.size (by omega)) (Nat.le_refl _)
        have ga := hoX _ _ _ _ _ _ (show (3 : TypeId) ≠ 44 by decide) f0
        have gb := hoX _ _ _ _ _ _ (show (3 : TypeId) ≠ 44 by decide) f1
        have gc := hoX _ _ _ _ _ _ (show (3 : TypeId) ≠ 44 by decide) f2
        have gd := hoX _ _ _ _ _ _ (show (3 : TypeId) ≠ 44 by decide) f3
        have ge := hoX _ _ _ _ _ _ (show (3 : TypeId) ≠ 44 by decide) fe
        have gv := hoX _ _ _ _ _ _ (show (3 : TypeId) ≠ 44 by decide) (row_below (w' := w16) ov4 (by repeat (first | with_reducible assumption | exact Below.refl _ _ | refine below_next (by with_reducible assumption) ?_)))
        have qX := (HC.out X hbX).1
        rw [eX] at qX
        have cM := kMF.cell
        have fM := kMF.frozen
        clear hfX hBX hoX
        go_wp2_with (go_at_call 102; refine (divides_any _ _).mono ?_; rintro e W' ⟨rfl, rfl⟩)
        rw [← eX]
        clear eX qX cM fM
        have hleX := hbX.size
        obtain ⟨Ae2, ce2, ee, re2⟩ := own_slice ge
        obtain ⟨Av2, cv2, ev, rv2⟩ := own_slice gv
        cases ee
        cases ev
        refine (rPolTimes_any Ae _ ce dl Av _ cv V _ re2 rv2 (by omega) (by omega) (by omega)).mono ?_
        rintro e w30 ⟨tz, rfl, oz, hb30⟩
        have oz2 := oz.weaken hleX
        have ga2 := row_below ga hb30
        have gb2 := row_below gb hb30
        have gc2 := row_below gc hb30
        have gd2 := row_below gd hb30
        have kX2 := carryK kX hb30
        have kRX2 := carryK kRX hb30
        have hbX2 := below_next hbX hb30
        go_wp2_with fail
        go_roundw
        case rel => exact ⟨k + 1, by omega, by go_num, _, _, _, _, kX2, by rw [HN.out]; exact ga2, by rw [HN.out]; exact gb2, by rw [HN.out]; exact gc2, by rw [HN.out]; exact gd2, by rw [HM.out]; exact oz2, kRX2, hbX2⟩
        case measure => simp [intOf]; omega
    · obtain rfl : k = n := by omega
      have hT : l.take k = l := List.take_of_length_le (by rw [HL.out]; omega)
      rw [hT] at oa ob oc od oe
      clear hT
      obtain ⟨⟨ma, mb, mc, md⟩, hm⟩ : ∃ m, pch .id l = m := ⟨_, rfl⟩
      obtain ⟨dl, hdl⟩ : ∃ d, pdv [1] l = d := ⟨_, rfl⟩
      rw [hm] at oa ob oc od
      rw [hdl] at oe
      simp only at oa ob oc od
      have HM := hide hm
      have HD := hide hdl
      clear hm hdl
      obtain ⟨Aa, ca, rfl, _⟩ := own_slice oa
      obtain ⟨Ab, cb, rfl, _⟩ := own_slice ob
      obtain ⟨Ac, cc, rfl, _⟩ := own_slice oc
      obtain ⟨Ad, cd, rfl, _⟩ := own_slice od
      obtain ⟨Ae, ce, rfl, _⟩ := own_slice oe
      obtain ⟨X, eX, kX, _, _, hBX, _, _, hoX⟩ := set4 wo w.heap.size 44 _ _ _ _ (.slice Aa ma.length ca) (.slice Ab mb.length cb) (.slice Ac mc.length cc) (.slice Ad md.length cd) kR
      have hbX : Below w.heap.size w X := below_step hbo (hBX w.heap.size (Nat.le_refl _)) (Nat.le_refl _)
      have ga := hoX _ _ _ _ _ _ (show (3 : TypeId) ≠ 44 by decide) oa
      have gb := hoX _ _ _ _ _ _ (show (3 : TypeId) ≠ 44 by decide) ob
      have gc := hoX _ _ _ _ _ _ (show (3 : TypeId) ≠ 44 by decide) oc
      have gd := hoX _ _ _ _ _ _ (show (3 : TypeId) ≠ 44 by decide) od
      have ge := hoX _ _ _ _ _ _ (show (3 : TypeId) ≠ 44 by decide) oe
      have cM := kM.cell
      have cR := kR.cell
      have fR := kR.frozen
      clear hBX hoX
      go_wp2_with fail
      rw [← eX]
      clear eX cM cR fR
      have cX := kX.cell
      refine bodyPost_ret (v := .tuple #[.agg #[.slice Aa ma.length ca, .slice Ab mb.length cb, .slice Ac mc.length cc, .slice Ad md.length cd], .slice Ae dl.length ce]) (by simp [results, Tryz.results27, go_sem, cX]) rfl ?_
      rw [HM.out, HD.out]
      exact ⟨_, _, _, _, _, rfl, ga, gb, gc, gd, ge, hbX⟩
end Go.Proofs.YtnndaipnfniciaaGreatDoor
