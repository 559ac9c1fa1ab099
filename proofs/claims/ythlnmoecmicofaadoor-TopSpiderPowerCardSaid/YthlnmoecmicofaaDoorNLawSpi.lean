/- The law TopSpiderPower. -/
import Derived.Test.YthlnmoecmicofaaDoorNSpiP
import Derived.Test.YthlnmoecmicofaaDoorNCirc
import Derived.Test.YthlnmoecmicofaaDoorNLoss
import Derived.Test.YthlnmoecmicofaaDoorSplitA
import Derived.Deep.DeepCutAuto
namespace Go.Proofs.YthlnmoecmicofaaDoor
open Go.RowKit Go.Shelf
set_option maxRecDepth 100000
theorem conj_in (a : G) (h : wr (-a.im) = a.conj.im) (w : World) :
    Calls Tryd.prog 19 #[.agg #[.int .i64 a.re, .int .i64 a.im]] w fun e w' => e = .returned (.agg #[.int .i64 a.conj.re, .int .i64 a.conj.im]) ∧ Below w.heap.size w w' := by
  have := rConjugate_any a w
  rw [h] at this
  exact this
theorem num_nrm {d : Drv} (hd : d.Ok) {f : Int} (h1 : 1 ≤ f) (h8 : f ≤ 8) : (d.num f).nrm ≤ 4611686018427387904 ∧ (d.mech f).nrm ≤ 4611686018427387904 := by
  have B := Drv.bd hd h1 h8
  have n1 : (⟨d.re, f * d.le⟩ : G).nrm ≤ 130 := by unfold G.nrm; have := B.fe; have := hd.re1; have := hd.re2; simp only; omega
  have n2 : (d.mech f).nrm ≤ 20000 := by unfold G.nrm Drv.mech; have := B.fm; have := B.fl; have := hd.st1; have := hd.st2; simp only; omega
  have n3 : (⟨0, f * d.bl * d.bl⟩ : G).nrm ≤ 3200 := by unfold G.nrm; have := B.fbb; simp only; omega
  have n4 : G.one.nrm = 1 := rfl
  have m1 := Nat.le_trans (G.nrm_mul ⟨d.re, f * d.le⟩ (d.mech f)) (Nat.mul_le_mul n1 n2)
  have m2 := Nat.le_trans (G.nrm_mul ⟨0, f * d.bl * d.bl⟩ .one) (Nat.mul_le_mul n3 (Nat.le_of_eq n4))
  have := G.nrm_add ((⟨d.re, f * d.le⟩ : G).mul (d.mech f)) ((⟨0, f * d.bl * d.bl⟩ : G).mul .one)
  exact ⟨by unfold Drv.num; omega, by omega⟩
theorem room_nrm {z : G} {n : Nat} (h : z.inR (n : Nat)) : z.nrm ≤ 2 * n := by
  have h1 := h.1; have h2 := h.2.1; have h3 := h.2.2.1; have h4 := h.2.2.2
  unfold G.nrm; omega
theorem sq_in (a : G) (h : wr a.sq = a.sq) (w : World) :
    Calls Tryd.prog 20 #[.agg #[.int .i64 a.re, .int .i64 a.im]] w fun e w' => e = .returned (.int .i64 a.sq) ∧ Below w.heap.size w w' := by
  have := rSquare_any a w
  rw [h] at this
  exact this
theorem fin22 {Q : World → Prop} {B : Nat} {v W : World} {g1 g2 : Nat} {t1 t2 : TypeId} {c0 c1 c2 c3 u0 u1 u2 u3 : Value} (hne : g1 ≠ g2) (hB : Below B v W) (h1 : B ≤ g1) (h2 : B ≤ g2) (k1 : Blk W g1 t1 #[c0, c1]) (k2 : Blk W g2 t2 #[c2, c3]) (h : ∀ X, Below B v X → Blk X g1 t1 #[u0, u1] → Blk X g2 t2 #[u2, u3] → Q X) :
    Q ((((W.setCell ⟨g1, 0, none⟩ u0).setCell ⟨g1, 1, none⟩ u1).setCell ⟨g2, 0, none⟩ u2).setCell ⟨g2, 1, none⟩ u3) :=
  h _ (below2 (below2 hB h1) h2) (far2 (blk2 k1) hne) (blk2 (far2 k2 (fun q => hne q.symm)))
theorem els_two {l : List El} {n : Nat} {w : World} {A : Option Addr} (h : Reads w w.heap.size 3 A n (els l)) : l.length = n := els_reads_len h
set_option maxHeartbeats 1000000 in
theorem lawSpi_long (A : Option Addr) (n c : Nat) (l : List El) (d : Drv) (f : Int) (w : World) (hC : Con w) (hL : Lim w) (hR : Reads w w.heap.size 3 A n (els l)) (hn : 2 < n) :
    Calls Tryd.prog 3 #[.slice A n c, .agg #[.int .i64 d.re, .int .i64 d.le, .int .i64 d.bl, .int .i64 d.ms, .int .i64 d.st, .int .i64 d.ls], .int .i64 f] w fun e w' => e = .returned (.bool true) ∧ Below w.heap.size w w' := by
  have g1 : (2 : Int) < (n : Int) := by omega
  go_enter Tryd.func3, Tryd.ntmps3
  go_upto_region 1 with (fail)
  obtain ⟨w1, e1, hb1, hz1, k0⟩ := box1 w #[.int .i64 d.re, .int .i64 d.le, .int .i64 d.bl, .int .i64 d.ms, .int .i64 d.st, .int .i64 d.ls] 24
  rw [← e1]; clear e1
  have c0 := (carryK (w' := w1) k0 (by repeat (first | with_reducible assumption | exact Below.refl _ _ | refine below_next (by with_reducible assumption) ?_))).cell
  go_wp2_with fail
  refine (circ_any _ (hC.carry hb1) (hL.carry hb1)).mono ?_
  rintro e w2 ⟨rfl, hb2⟩
  clear c0
  have c0 := (carryK (w' := w2) k0 (by repeat (first | with_reducible assumption | exact Below.refl _ _ | refine below_next (by with_reducible assumption) ?_))).cell
  go_wp2_with fail
  refine (circ_any _ (hC.carry (by repeat (first | with_reducible assumption | exact Below.refl _ _ | refine below_next (by with_reducible assumption) ?_))) (hL.carry (by repeat (first | with_reducible assumption | exact Below.refl _ _ | refine below_next (by with_reducible assumption) ?_)))).mono ?_
  rintro e wz ⟨rfl, hbz⟩
  go_wp2_with fail
  go_ret
  exact ⟨rfl, (by repeat (first | with_reducible assumption | exact Below.refl _ _ | refine below_next (by with_reducible assumption) ?_))⟩
set_option maxHeartbeats 1000000 in
theorem lawSpi_bad1 (A : Option Addr) (n c : Nat) (l : List El) (d : Drv) (f : Int) (w : World) (hC : Con w) (hL : Lim w) (hR : Reads w w.heap.size 3 A n (els l)) (hn : n ≤ 2) (h1 : (ladErr l != 0) = true) :
    Calls Tryd.prog 3 #[.slice A n c, .agg #[.int .i64 d.re, .int .i64 d.le, .int .i64 d.bl, .int .i64 d.ms, .int .i64 d.st, .int .i64 d.ls], .int .i64 f] w fun e w' => e = .returned (.bool true) ∧ Below w.heap.size w w' := by
  have g1 : ¬ (2 : Int) < (n : Int) := by omega
  go_enter Tryd.func3, Tryd.ntmps3
  go_upto_region 1 with (fail)
  obtain ⟨w1, e1, hb1, hz1, k0⟩ := box1 w #[.int .i64 d.re, .int .i64 d.le, .int .i64 d.bl, .int .i64 d.ms, .int .i64 d.st, .int .i64 d.ls] 24
  rw [← e1]; clear e1
  have c0 := (carryK (w' := w1) k0 (by repeat (first | with_reducible assumption | exact Below.refl _ _ | refine below_next (by with_reducible assumption) ?_))).cell
  go_wp2_with fail
  refine (circ_any _ (hC.carry hb1) (hL.carry hb1)).mono ?_
  rintro e w2 ⟨rfl, hb2⟩
  clear c0
  have c0 := (carryK (w' := w2) k0 (by repeat (first | with_reducible assumption | exact Below.refl _ _ | refine below_next (by with_reducible assumption) ?_))).cell
  go_wp2_with fail
  refine (rCheckLadder_any A n c l _ (carry hR (by repeat (first | with_reducible assumption | exact Below.refl _ _ | refine below_next (by with_reducible assumption) ?_))) (by omega)).mono ?_
  rintro e w3 ⟨rfl, hb3⟩
  go_wp2_with fail
  refine (circ_any _ (hC.carry (by repeat (first | with_reducible assumption | exact Below.refl _ _ | refine below_next (by with_reducible assumption) ?_))) (hL.carry (by repeat (first | with_reducible assumption | exact Below.refl _ _ | refine below_next (by with_reducible assumption) ?_)))).mono ?_
  rintro e wz ⟨rfl, hbz⟩
  go_wp2_with fail
  go_ret
  exact ⟨rfl, (by repeat (first | with_reducible assumption | exact Below.refl _ _ | refine below_next (by with_reducible assumption) ?_))⟩
set_option maxHeartbeats 1000000 in
theorem lawSpi_bad2 (A : Option Addr) (n c : Nat) (l : List El) (d : Drv) (f : Int) (w : World) (hC : Con w) (hL : Lim w) (hR : Reads w w.heap.size 3 A n (els l)) (hn : n ≤ 2) (h1 : (ladErr l != 0) = false) (h2 : (d.err != 0) = true) :
    Calls Tryd.prog 3 #[.slice A n c, .agg #[.int .i64 d.re, .int .i64 d.le, .int .i64 d.bl, .int .i64 d.ms, .int .i64 d.st, .int .i64 d.ls], .int .i64 f] w fun e w' => e = .returned (.bool true) ∧ Below w.heap.size w w' := by
  have g1 : ¬ (2 : Int) < (n : Int) := by omega
  go_enter Tryd.func3, Tryd.ntmps3
  go_upto_region 1 with (fail)
  obtain ⟨w1, e1, hb1, hz1, k0⟩ := box1 w #[.int .i64 d.re, .int .i64 d.le, .int .i64 d.bl, .int .i64 d.ms, .int .i64 d.st, .int .i64 d.ls] 24
  rw [← e1]; clear e1
  have c0 := (carryK (w' := w1) k0 (by repeat (first | with_reducible assumption | exact Below.refl _ _ | refine below_next (by with_reducible assumption) ?_))).cell
  go_wp2_with fail
  refine (circ_any _ (hC.carry hb1) (hL.carry hb1)).mono ?_
  rintro e w2 ⟨rfl, hb2⟩
  clear c0
  have c0 := (carryK (w' := w2) k0 (by repeat (first | with_reducible assumption | exact Below.refl _ _ | refine below_next (by with_reducible assumption) ?_))).cell
  go_wp2_with fail
  refine (rCheckLadder_any A n c l _ (carry hR (by repeat (first | with_reducible assumption | exact Below.refl _ _ | refine below_next (by with_reducible assumption) ?_))) (by omega)).mono ?_
  rintro e w3 ⟨rfl, hb3⟩
  clear c0
  have c0 := (carryK (w' := w3) k0 (by repeat (first | with_reducible assumption | exact Below.refl _ _ | refine below_next (by with_reducible assumption) ?_))).cell
  go_wp2_with fail
  refine (rCheckDriver_any d _).mono ?_
  rintro e w4 ⟨rfl, hb4⟩
  go_wp2_with fail
  refine (circ_any _ (hC.carry (by repeat (first | with_reducible assumption | exact Below.refl _ _ | refine below_next (by with_reducible assumption) ?_))) (hL.carry (by repeat (first | with_reducible assumption | exact Below.refl _ _ | refine below_next (by with_reducible assumption) ?_)))).mono ?_
  rintro e wz ⟨rfl, hbz⟩
  go_wp2_with fail
  go_ret
  exact ⟨rfl, (by repeat (first | with_reducible assumption | exact Below.refl _ _ | refine below_next (by with_reducible assumption) ?_))⟩
set_option maxHeartbeats 1000000 in
theorem lawSpi_bad3 (A : Option Addr) (n c : Nat) (l : List El) (d : Drv) (f : Int) (w : World) (hC : Con w) (hL : Lim w) (hR : Reads w w.heap.size 3 A n (els l)) (hn : n ≤ 2) (h1 : (ladErr l != 0) = false) (h2 : (d.err != 0) = false) (h3 : (rng f 1 8 != 0) = true) :
    Calls Tryd.prog 3 #[.slice A n c, .agg #[.int .i64 d.re, .int .i64 d.le, .int .i64 d.bl, .int .i64 d.ms, .int .i64 d.st, .int .i64 d.ls], .int .i64 f] w fun e w' => e = .returned (.bool true) ∧ Below w.heap.size w w' := by
  have g1 : ¬ (2 : Int) < (n : Int) := by omega
  go_enter Tryd.func3, Tryd.ntmps3
  go_upto_region 1 with (fail)
  obtain ⟨w1, e1, hb1, hz1, k0⟩ := box1 w #[.int .i64 d.re, .int .i64 d.le, .int .i64 d.bl, .int .i64 d.ms, .int .i64 d.st, .int .i64 d.ls] 24
  rw [← e1]; clear e1
  have c0 := (carryK (w' := w1) k0 (by repeat (first | with_reducible assumption | exact Below.refl _ _ | refine below_next (by with_reducible assumption) ?_))).cell
  go_wp2_with fail
  refine (circ_any _ (hC.carry hb1) (hL.carry hb1)).mono ?_
  rintro e w2 ⟨rfl, hb2⟩
  clear c0
  have c0 := (carryK (w' := w2) k0 (by repeat (first | with_reducible assumption | exact Below.refl _ _ | refine below_next (by with_reducible assumption) ?_))).cell
  go_wp2_with fail
  refine (rCheckLadder_any A n c l _ (carry hR (by repeat (first | with_reducible assumption | exact Below.refl _ _ | refine below_next (by with_reducible assumption) ?_))) (by omega)).mono ?_
  rintro e w3 ⟨rfl, hb3⟩
  clear c0
  have c0 := (carryK (w' := w3) k0 (by repeat (first | with_reducible assumption | exact Below.refl _ _ | refine below_next (by with_reducible assumption) ?_))).cell
  go_wp2_with fail
  refine (rCheckDriver_any d _).mono ?_
  rintro e w4 ⟨rfl, hb4⟩
  go_wp2_with fail
  refine (rCheckW3_any f _).mono ?_
  rintro e W' ⟨rfl, rfl⟩
  go_wp2_with fail
  refine (circ_any _ (hC.carry (by repeat (first | with_reducible assumption | exact Below.refl _ _ | refine below_next (by with_reducible assumption) ?_))) (hL.carry (by repeat (first | with_reducible assumption | exact Below.refl _ _ | refine below_next (by with_reducible assumption) ?_)))).mono ?_
  rintro e wz ⟨rfl, hbz⟩
  go_wp2_with fail
  go_ret
  exact ⟨rfl, (by repeat (first | with_reducible assumption | exact Below.refl _ _ | refine below_next (by with_reducible assumption) ?_))⟩
theorem at_of {l : List El} {f : Int} (h : ladErr l = 0) (h1 : 1 ≤ f) (h8 : f ≤ 8) : atErr l f = 0 := by
  unfold atErr
  rw [fnz_zero]
  simp [h, rng_zero, h1, h8]
set_option maxHeartbeats 1000000 in
theorem lawSpi_good (A : Option Addr) (n c : Nat) (l : List El) (d : Drv) (f : Int) (w : World) (hC : Con w) (hL : Lim w) (hR : Reads w w.heap.size 3 A n (els l)) (hn : n ≤ 2) (h1 : ladErr l = 0) (h2 : d.err = 0) (h3 : rng f 1 8 = 0) :
    Calls Tryd.prog 3 #[.slice A n c, .agg #[.int .i64 d.re, .int .i64 d.le, .int .i64 d.bl, .int .i64 d.ms, .int .i64 d.st, .int .i64 d.ls], .int .i64 f] w fun e w' => e = .returned (.bool true) ∧ Below w.heap.size w w' := by
  have g1 : ¬ (2 : Int) < (n : Int) := by omega
  obtain ⟨f1, f8⟩ := rng_zero.1 h3
  have hA := at_of h1 f1 f8
  have hD := Drv.atE_of h2 f1 f8
  have t1 : (ladErr l != 0) = false := by rw [h1]; rfl
  have t2 : (d.err != 0) = false := by rw [h2]; rfl
  have t3 : (rng f 1 8 != 0) = false := by rw [h3]; rfl
  have hok := lad_ok h1
  have hlen : l.length ≤ 2 := by rw [els_reads_len hR]; exact hn
  have hdp := drv_pw (Drv.ok_of h2) f
  have HA := hide hA
  have HD := hide hD
  have H1 := hide h1
  have H2 := hide h2
  clear h1 h2 h3 hA hD
  go_enter Tryd.func3, Tryd.ntmps3
  go_upto_region 1 with (fail)
  obtain ⟨w1, e1, hb1, hz1, k0⟩ := box1 w #[.int .i64 d.re, .int .i64 d.le, .int .i64 d.bl, .int .i64 d.ms, .int .i64 d.st, .int .i64 d.ls] 24
  rw [← e1]; clear e1
  have c0 := (carryK (w' := w1) k0 (by repeat (first | with_reducible assumption | exact Below.refl _ _ | refine below_next (by with_reducible assumption) ?_))).cell
  go_wp2_with fail
  refine (circ_any _ (hC.carry hb1) (hL.carry hb1)).mono ?_
  rintro e w2 ⟨rfl, hb2⟩
  clear c0
  have c0 := (carryK (w' := w2) k0 (by repeat (first | with_reducible assumption | exact Below.refl _ _ | refine below_next (by with_reducible assumption) ?_))).cell
  go_wp2_with fail
  refine (rCheckLadder_any A n c l _ (carry hR (by repeat (first | with_reducible assumption | exact Below.refl _ _ | refine below_next (by with_reducible assumption) ?_))) (by omega)).mono ?_
  rintro e w3 ⟨rfl, hb3⟩
  clear c0
  have c0 := (carryK (w' := w3) k0 (by repeat (first | with_reducible assumption | exact Below.refl _ _ | refine below_next (by with_reducible assumption) ?_))).cell
  go_wp2_with fail
  refine (rCheckDriver_any d _).mono ?_
  rintro e w4 ⟨rfl, hb4⟩
  go_wp2_with fail
  refine (rCheckW3_any f _).mono ?_
  rintro e W' ⟨rfl, rfl⟩
  clear c0
  have c0 := (carryK (w' := w4) k0 (by repeat (first | with_reducible assumption | exact Below.refl _ _ | refine below_next (by with_reducible assumption) ?_))).cell
  go_wp2_with fail
  refine (DrImpedance_ok d f _ (hL.carry (by repeat (first | with_reducible assumption | exact Below.refl _ _ | refine below_next (by with_reducible assumption) ?_))) HD.out).mono ?_
  rintro e w5 ⟨rfl, hb5⟩
  clear c0
  go_upto_region 4 with (fail)
  obtain ⟨w6, e6, hb6, hz6, kZ⟩ := box1 w5 #[.int .i64 (⟨d.num f, d.mech f⟩ : Pr).n.re, .int .i64 (⟨d.num f, d.mech f⟩ : Pr).n.im, .int .i64 (⟨d.num f, d.mech f⟩ : Pr).d.re, .int .i64 (⟨d.num f, d.mech f⟩ : Pr).d.im] 32
  rw [← e6]; clear e6
  go_wp2_with fail
  refine (spiEls_lad A n c l _ (carry hR (by repeat (first | with_reducible assumption | exact Below.refl _ _ | refine below_next (by with_reducible assumption) ?_))) (by omega)).mono ?_
  rintro e w7 ⟨A7, c7, rfl, hR7, hb7⟩
  go_wp2_with fail
  refine (Chain_ok l f A7 n c7 _ (hC.carry (by repeat (first | with_reducible assumption | exact Below.refl _ _ | refine below_next (by with_reducible assumption) ?_))) HA.out (by omega) hR7).mono ?_
  rintro e w8 ⟨rfl, hb8⟩
  go_upto_region 5 with (fail)
  obtain ⟨w9, e9, hb9, hz9, kM⟩ := box1 w8 #[.int .i64 (chn f .id l).a.re, .int .i64 (chn f .id l).a.im, .int .i64 (chn f .id l).b.re, .int .i64 (chn f .id l).b.im, .int .i64 (chn f .id l).c.re, .int .i64 (chn f .id l).c.im, .int .i64 (chn f .id l).d.re, .int .i64 (chn f .id l).d.im] 38
  rw [← e9]; clear e9
  go_wp2_with fail
  refine (spiEls_lad A n c l _ (carry hR (by repeat (first | with_reducible assumption | exact Below.refl _ _ | refine below_next (by with_reducible assumption) ?_))) (by omega)).mono ?_
  rintro e w10 ⟨A10, c10, rfl, hR10, hb10⟩
  go_wp2_with fail
  refine (Divisor_ok l f A10 n c10 _ (hC.carry (by repeat (first | with_reducible assumption | exact Below.refl _ _ | refine below_next (by with_reducible assumption) ?_))) HA.out (by omega) hR10).mono ?_
  rintro e w11 ⟨rfl, hb11⟩
  go_upto_region 6 with (fail)
  obtain ⟨w12, e12, hb12, hz12, kD⟩ := box1 w11 #[.int .i64 (dvs f .one l).re, .int .i64 (dvs f .one l).im] 30
  rw [← e12]; clear e12
  go_wp2_with fail
  refine (spiEls_lad A n c l _ (carry hR (by repeat (first | with_reducible assumption | exact Below.refl _ _ | refine below_next (by with_reducible assumption) ?_))) (by omega)).mono ?_
  rintro e w13 ⟨A13, c13, rfl, hR13, hb13⟩
  go_wp2_with fail
  refine (Lossless_ok A13 n c13 l _ H1.out hR13 (by omega)).mono ?_
  rintro e w14 ⟨rfl, hb14⟩
  have hsm := spi_small hok f1 f8 hlen
  have hF := fun hp hq => spi_facts (l := l) (f := f) (p := d.num f) (q := d.mech f) hok f1 f8 hlen hp hq hdp
  have hz0 := num_nrm (Drv.ok_of H2.out) f1 f8
  have hlo := lossB_iff (l := l)
  generalize chn f .id l = M at *
  generalize dvs f .one l = D at *
  generalize d.num f = p at *
  generalize d.mech f = q at *
  generalize lossB l = is at *
  have HSM := hide hsm
  have HF := hide hF
  have HZ := hide hz0
  have HLO := hide hlo
  clear hsm hF hz0 hlo hdp hok hlen t1 t2 t3 f1 f8
  have hr : roomB 8192 [M.a, M.b, M.c, M.d, D] = true := roomB_iff.2 fun z hz => G.inR_of (Nat.le_trans (HSM.out z hz) (by decide))
  have HRM := hide hr
  clear hr
  have cM := (carryK (w' := w14) kM (by repeat (first | with_reducible assumption | exact Below.refl _ _ | refine below_next (by with_reducible assumption) ?_))).cell
  have cD := (carryK (w' := w14) kD (by repeat (first | with_reducible assumption | exact Below.refl _ _ | refine below_next (by with_reducible assumption) ?_))).cell
  have cZ := (carryK (w' := w14) kZ (by repeat (first | with_reducible assumption | exact Below.refl _ _ | refine below_next (by with_reducible assumption) ?_))).cell
  go_wp2_with fail
  obtain ⟨w15, e15, hb15, hz15, kS⟩ := box1 w14 #[.int .i64 M.a.re, .int .i64 M.a.im, .int .i64 M.b.re, .int .i64 M.b.im, .int .i64 M.c.re, .int .i64 M.c.im, .int .i64 M.d.re, .int .i64 M.d.im, .int .i64 D.re, .int .i64 D.im] 30
  rw [← e15]; clear e15
  refine (room13_any _ 5 5 [M.a, M.b, M.c, M.d, D] _ (blkG kS rfl) (by omega) (fun z hz => Nat.le_trans (HSM.out z hz) (by decide))).mono ?_
  rintro e w16 ⟨rfl, hb16⟩
  rw [HRM.out]
  clear cM cD cZ
  have cM := (carryK (w' := w16) kM (by repeat (first | with_reducible assumption | exact Below.refl _ _ | refine below_next (by with_reducible assumption) ?_))).cell
  have cD := (carryK (w' := w16) kD (by repeat (first | with_reducible assumption | exact Below.refl _ _ | refine below_next (by with_reducible assumption) ?_))).cell
  have cZ := (carryK (w' := w16) kZ (by repeat (first | with_reducible assumption | exact Below.refl _ _ | refine below_next (by with_reducible assumption) ?_))).cell
  go_wp2_with fail
  obtain ⟨w17, e17, hb17, hz17, kT⟩ := box1 w16 #[.int .i64 p.re, .int .i64 p.im, .int .i64 q.re, .int .i64 q.im] 30
  rw [← e17]; clear e17
  refine (room15_any _ 2 2 [p, q] _ (blkG kT rfl) (by omega) (by intro z hz; simp at hz; rcases hz with rfl | rfl; exact HZ.out.1; exact HZ.out.2)).mono ?_
  rintro e w18 ⟨rfl, hb18⟩
  clear cM cD cZ
  cases hro : roomB 32768 [p, q]
  · go_wp2_with fail
    go_ret
    exact ⟨rfl, (by repeat (first | with_reducible assumption | exact Below.refl _ _ | refine below_next (by with_reducible assumption) ?_))⟩
  · have hin := roomB_iff.1 hro
    obtain ⟨V, I, into, arr, F, hex⟩ := HF.out (room_nrm (n := 32768) (hin p (by simp))) (room_nrm (n := 32768) (hin q (by simp)))
    obtain ⟨_, _, _, _, _, ev, ei, ic, qc, ein, epq, esq, earr, nn, le⟩ := F
    have hexi : is = true → into = arr := fun h => hex (HLO.out.1 h)
    have EV := hide ev
    have EI := hide ei
    have EIN := hide ein
    have EPQ := hide epq
    have EARR := hide earr
    have HEX := hide hexi
    clear hro hin ev ei ein epq earr hex hexi
    go_upto_region 11 with (fail)
    refine wp_region_alloc2 22 (af := ?af) (t1 := 30) (t2 := 30) (cs1 := #[.int .i64 0, .int .i64 0]) (cs2 := #[.int .i64 0, .int .i64 0]) (by kernel_rfl) (by kernel_rfl) (by kernel_rfl) rfl ⟨rfl, rfl, fun _ _ => by kernel_rfl⟩ (by kernel_rfl) rfl ⟨rfl, rfl, fun _ _ => by kernel_rfl⟩ (by kernel_rfl) (by decide) ?q1 ?q2
    case q1 =>
      intro W0 hW0
      have cM := over_blk (carryK (w' := W0) kM (by repeat (first | with_reducible assumption | exact Below.refl _ _ | refine below_next (by with_reducible assumption) ?_))) (carryK (w' := W0) kM (by repeat (first | with_reducible assumption | exact Below.refl _ _ | refine below_next (by with_reducible assumption) ?_))).lt
      have cZ := over_blk (carryK (w' := W0) kZ (by repeat (first | with_reducible assumption | exact Below.refl _ _ | refine below_next (by with_reducible assumption) ?_))) (carryK (w' := W0) kZ (by repeat (first | with_reducible assumption | exact Below.refl _ _ | refine below_next (by with_reducible assumption) ?_))).lt
      simp only [List.take_succ_cons, List.take_zero]
      (repeat (first | go_big_quiet_step (first | (go_at_call 18; with_reducible first | exact over_call (Nat.le_refl _) (rTimes_any M.a p _) | exact over_call (Nat.le_refl _) (rTimes_any M.b q _) | exact over_call (Nat.le_refl _) (rTimes_any M.c p _) | exact over_call (Nat.le_refl _) (rTimes_any M.d q _)) | (go_at_call 17; with_reducible first | exact over_call (Nat.le_refl _) (rPlus_any (M.a.mul p).w (M.b.mul q).w _) | exact over_call (Nat.le_refl _) (rPlus_any (M.c.mul p).w (M.d.mul q).w _)))))
      refine wpQuiet_nil ?_
      rfl
    intro gV gI Y0 hgV hgI hne hbY0 kV0 kI0
    rw [EV.out, EI.out]
    simp only [List.drop_succ_cons, List.drop_zero, Act.put, List.setIfInBounds_toArray, List.set_cons_succ, List.set_cons_zero]
    have fV := kV0.frozen
    have fI := kI0.frozen
    have cV0 := kV0.cell
    have cI0 := kI0.cell
    have hne' := Ne.symm hne
    go_upto_region 12 with (fail)
    clear fV fI cV0 cI0 hne'
    with_reducible refine fin22 (B := w18.heap.size) (v := w18) hne hbY0 hgV hgI kV0 kI0 (fun w20 hb20 kV kI => ?_)
    have cV := over_blk kV kV.lt
    have cI := over_blk kI kI.lt
    have i0 : ∀ W : World, (Instr.field 30 (.agg #[.int .i64 (V.mul I.conj).w.re, .int .i64 (V.mul I.conj).w.im]) 0).run Tryd.prog W = .ok (.int .i64 (V.mul I.conj).w.re) W := fun _ => by kernel_rfl
    refine wp_region_over w20.heap.size (by kernel_rfl) (by kernel_rfl) ?_; (repeat (first | go_big_quiet_step (first | (go_at_call 19; with_reducible exact over_call (Nat.le_refl _) (conj_in I ic _)) | (go_at_call 18; with_reducible exact over_call (Nat.le_refl _) (rTimes_any V I.conj _))) | quiet_step (first | (go_at_call 19; with_reducible exact over_call (Nat.le_refl _) (conj_in I ic _)) | (go_at_call 18; with_reducible exact over_call (Nat.le_refl _) (rTimes_any V I.conj _))))); refine wpQuiet_nil ?_; rintro W ⟨x, rfl⟩
    have hbZ := over_below w20.heap.size w20 x
    generalize over w20.heap.size w20 x = Z at hbZ ⊢
    rw [EIN.out]
    clear cV cI
    go_upto_region 13 with (fail)
    have cD := over_blk (carryK (w' := Z) kD (by repeat (first | with_reducible assumption | exact Below.refl _ _ | refine below_next (by with_reducible assumption) ?_))) (carryK (w' := Z) kD (by repeat (first | with_reducible assumption | exact Below.refl _ _ | refine below_next (by with_reducible assumption) ?_))).lt
    have cZ := over_blk (carryK (w' := Z) kZ (by repeat (first | with_reducible assumption | exact Below.refl _ _ | refine below_next (by with_reducible assumption) ?_))) (carryK (w' := Z) kZ (by repeat (first | with_reducible assumption | exact Below.refl _ _ | refine below_next (by with_reducible assumption) ?_))).lt
    clear i0
    have i0 : ∀ W : World, (Instr.field 30 (.agg #[.int .i64 (p.mul q.conj).w.re, .int .i64 (p.mul q.conj).w.im]) 0).run Tryd.prog W = .ok (.int .i64 (p.mul q.conj).w.re) W := fun _ => by kernel_rfl
    refine wp_region_over Z.heap.size (by kernel_rfl) (by kernel_rfl) ?_; (repeat (first | go_big_quiet_step (first | (go_at_call 19; with_reducible exact over_call (Nat.le_refl _) (conj_in q qc _)) | (go_at_call 18; with_reducible exact over_call (Nat.le_refl _) (rTimes_any p q.conj _)) | (go_at_call 20; with_reducible exact over_call (Nat.le_refl _) (sq_in D esq _))) | quiet_step (first | (go_at_call 19; with_reducible exact over_call (Nat.le_refl _) (conj_in q qc _)) | (go_at_call 18; with_reducible exact over_call (Nat.le_refl _) (rTimes_any p q.conj _)) | (go_at_call 20; with_reducible exact over_call (Nat.le_refl _) (sq_in D esq _))))); refine wpQuiet_nil ?_; rintro W ⟨x, rfl⟩
    have hbU := over_below Z.heap.size Z x
    generalize over Z.heap.size Z x = U at hbU ⊢
    rw [EPQ.out, wr_is, EARR.out]
    clear cD cZ i0
    have hbf := below_next (show Below w.heap.size w Z from (by repeat (first | with_reducible assumption | exact Below.refl _ _ | refine below_next (by with_reducible assumption) ?_))) hbU
    clear esq ic qc
    have g0 : decide (0 ≤ arr) = true := decide_eq_true nn
    have g2 : decide (arr ≤ into) = true := decide_eq_true le
    cases is
    · clear nn le HEX
      go_wp2_with fail
      go_ret
      exact ⟨rfl, hbf⟩
    · obtain rfl := HEX.out rfl
      clear nn le HEX
      go_wp2_with fail
      go_ret
      exact ⟨rfl, hbf⟩
theorem lawSpi_any (A : Option Addr) (n c : Nat) (l : List El) (d : Drv) (f : Int) (w : World) (hC : Con w) (hL : Lim w) (hR : Reads w w.heap.size 3 A n (els l)) :
    Calls Tryd.prog 3 #[.slice A n c, .agg #[.int .i64 d.re, .int .i64 d.le, .int .i64 d.bl, .int .i64 d.ms, .int .i64 d.st, .int .i64 d.ls], .int .i64 f] w fun e w' => e = .returned (.bool true) ∧ Below w.heap.size w w' := by
  by_cases hn : 2 < n
  · exact lawSpi_long A n c l d f w hC hL hR hn
  have hn : n ≤ 2 := by omega
  by_cases h1 : ladErr l = 0
  · by_cases h2 : d.err = 0
    · by_cases h3 : rng f 1 8 = 0
      · exact lawSpi_good A n c l d f w hC hL hR hn h1 h2 h3
      · exact lawSpi_bad3 A n c l d f w hC hL hR hn (by rw [h1]; rfl) (by rw [h2]; rfl) (by simpa using h3)
    · exact lawSpi_bad2 A n c l d f w hC hL hR hn (by rw [h1]; rfl) (by simpa using h2)
  · exact lawSpi_bad1 A n c l d f w hC hL hR hn (by simpa using h1)
end Go.Proofs.YthlnmoecmicofaaDoor
