/- The law NetworkPolynomials. -/
import Derived.Test.YtnndaipnfniciaaGreatDoorNAwk
import Derived.Test.YtnndaipnfniciaaGreatDoorNRPoly
import Derived.Test.YtnndaipnfniciaaGreatDoorBaseR
import Derived.Test.YtnndaipnfniciaaGreatDoorNLiftN
import Derived.Deep.DeepCutAuto
namespace Go.Proofs.YtnndaipnfniciaaGreatDoor
open Go.RowKit Go.Shelf
set_option maxRecDepth 100000
set_option maxHeartbeats 1000000 in
theorem Polynomials_bad (A : Option Addr) (n c : Nat) (l : List El) (w : World) (h0 : ¬ ladErr l = 0) (h : Reads w w.heap.size 3 A n (els l)) (hn : n ≤ 1000000000000) :
    Calls Tryz.prog 24 #[.slice A n c] w fun e w' => e = .returned (.tuple #[.agg #[.slice none 0 0, .slice none 0 0, .slice none 0 0, .slice none 0 0], .slice none 0 0, .int .i64 (ladErr l)]) ∧ Below w.heap.size w w' := by
  have t0 : (ladErr l != 0) = true := by simpa using h0
  clear h0
  go_enter Tryz.func24, Tryz.ntmps24
  go_upto_region 2 with (fail)
  obtain ⟨w1, e1, hb1, hz1, k0, k1⟩ := box2 w #[.slice none 0 0, .slice none 0 0, .slice none 0 0, .slice none 0 0] #[.slice none 0 0, .slice none 0 0, .slice none 0 0, .slice none 0 0] 44 44
  rw [← e1]; clear e1
  go_wp2_with fail
  refine (checkLadder_any A n c l _ (carry h hb1) hn).mono ?_
  rintro e w2 ⟨rfl, hb2⟩
  have kR := carryK k0 hb2
  obtain ⟨X, eX, kX, _, _, hBX, _⟩ := set4 w2 w.heap.size 44 _ _ _ _ (.slice none 0 0) (.slice none 0 0) (.slice none 0 0) (.slice none 0 0) kR
  have hbX : Below w.heap.size w X := below_step (below_next hb1 hb2) (hBX w.heap.size (Nat.le_refl _)) (Nat.le_refl _)
  have c0 := kR.cell
  have c1 := (carryK k1 hb2).cell
  have f0 := kR.frozen
  clear hBX
  go_wp2_with fail
  rw [← eX]
  clear eX c0 c1 f0
  have cX := kX.cell
  refine bodyPost_ret (v := .tuple #[.agg #[.slice none 0 0, .slice none 0 0, .slice none 0 0, .slice none 0 0], .slice none 0 0, .int .i64 (ladErr l)]) (by simp [results, Tryz.results24, go_sem, cX]) rfl ?_
  exact ⟨rfl, hbX⟩
theorem polN_ok (A : Option Addr) (n c : Nat) (l : List El) (w : World) (hC : Con w) (h0 : ladErr l = 0) (h : Reads w w.heap.size 3 A n (els l)) (hn : n ≤ 1000000000000) :
    Calls Tryz.prog 24 #[.slice A n c] w fun e w' => ∃ A0 c0 A1 c1 A2 c2 A3 c3 A4 c4, e = .returned (.tuple #[.agg #[.slice A0 (pch .id l).a.length c0, .slice A1 (pch .id l).b.length c1, .slice A2 (pch .id l).c.length c2, .slice A3 (pch .id l).d.length c3], .slice A4 (pdv [1] l).length c4, .int .i64 0]) ∧
      Reads w' w'.heap.size 1 A0 (pch .id l).a.length (ints (pch .id l).a) ∧ Reads w' w'.heap.size 1 A1 (pch .id l).b.length (ints (pch .id l).b) ∧ Reads w' w'.heap.size 1 A2 (pch .id l).c.length (ints (pch .id l).c) ∧ Reads w' w'.heap.size 1 A3 (pch .id l).d.length (ints (pch .id l).d) ∧ Reads w' w'.heap.size 1 A4 (pdv [1] l).length (ints (pdv [1] l)) ∧ Below w.heap.size w w' := by
  refine (Polynomials_ok A n c l w hC h0 h hn).mono fun e w' h => ?_
  obtain ⟨s0, s1, s2, s3, sd, rfl, ⟨ok, hv⟩, hd, hb⟩ := h
  obtain ⟨A0, c0, rfl, r0⟩ := hv.a.sl
  obtain ⟨A1, c1, rfl, r1⟩ := hv.b.sl
  obtain ⟨A2, c2, rfl, r2⟩ := hv.c.sl
  obtain ⟨A3, c3, rfl, r3⟩ := hv.d.sl
  obtain ⟨A4, c4, rfl, r4⟩ := hd
  exact ⟨A0, c0, A1, c1, A2, c2, A3, c3, A4, c4, rfl, r0, r1, r2, r3, r4, hb⟩
theorem same_trueN (A : Option Addr) (n c : Nat) (xs : List Int) (A' : Option Addr) (c' : Nat) (w : World) (h : Reads w w.heap.size 1 A n (ints xs)) (h' : Reads w w.heap.size 1 A' n (ints xs)) (hn : n ≤ 1000000000000) :
    Calls Tryz.prog 28 #[.slice A n c, .slice A' n c'] w fun r w' => r = .returned (.bool true) ∧ Below w.heap.size w w' :=
  (sameInts_any A _ c _ xs A' _ c' _ xs w h h' (Nat.le_refl _) (Nat.le_refl _) hn hn).mono fun _ _ h => by simpa using h
theorem shortP {l : List El} {w : World} {A : Option Addr} {n : Nat} (hR : Reads w w.heap.size 3 A n (els l)) (h : shortB l = true) : n ≤ 6 := by
  unfold shortB at h
  rw [Bool.and_eq_true, decide_eq_true_eq] at h
  have := els_reads_len hR
  omega
set_option maxHeartbeats 8000000 in
theorem lawPol_long (A : Option Addr) (n c : Nat) (l : List El) (w : World) (hV : VarsN w) (hR : Reads w w.heap.size 3 A n (els l)) (hs : shortB l = false) :
    Calls Tryz.prog 4 #[.slice A n c] w fun e w' => e = .returned (.bool true) ∧ Below w.heap.size w w' := by
  have HS := hide hs
  clear hs
  go_enter Tryz.func4, Tryz.ntmps4
  go_wp2_with fail
  refine (rShort_any A n c l _ hR).mono ?_
  rintro e w1 ⟨rfl, hb1⟩
  rw [HS.out]
  go_wp2_with fail
  refine (awake_any _ (hV.con.carry (by repeat (first | with_reducible assumption | exact Below.refl _ _ | refine below_next (by with_reducible assumption) ?_))) (hV.tur.carry (by repeat (first | with_reducible assumption | exact Below.refl _ _ | refine below_next (by with_reducible assumption) ?_))) (hV.ten.carry (by repeat (first | with_reducible assumption | exact Below.refl _ _ | refine below_next (by with_reducible assumption) ?_)))).mono ?_
  rintro e wz ⟨rfl, hbz⟩
  go_wp2_with fail
  go_ret
  exact ⟨rfl, (by repeat (first | with_reducible assumption | exact Below.refl _ _ | refine below_next (by with_reducible assumption) ?_))⟩
set_option maxHeartbeats 8000000 in
theorem lawPol_bad (A : Option Addr) (n c : Nat) (l : List El) (w : World) (hV : VarsN w) (hR : Reads w w.heap.size 3 A n (els l)) (hs : shortB l = true) (E : Int) (he : ladErr l = E) (h0 : ¬ E = 0) :
    Calls Tryz.prog 4 #[.slice A n c] w fun e w' => e = .returned (.bool true) ∧ Below w.heap.size w w' := by
  have hn6 := shortP hR hs
  have HS := hide hs
  have HE := hide he
  have t0 : (E == 0) = false := by simpa using h0
  have HP : Hid (∀ A c w, Reads w w.heap.size 3 A n (els l) → Calls Tryz.prog 24 #[.slice A n c] w fun e w' => ∃ A0 c0 A1 c1 A2 c2 A3 c3 A4 c4, e = .returned (.tuple #[.agg #[.slice A0 0 c0, .slice A1 0 c1, .slice A2 0 c2, .slice A3 0 c3], .slice A4 0 c4, .int .i64 E]) ∧ Reads w' w'.heap.size 1 A0 0 (ints []) ∧ Reads w' w'.heap.size 1 A1 0 (ints []) ∧ Reads w' w'.heap.size 1 A2 0 (ints []) ∧ Reads w' w'.heap.size 1 A3 0 (ints []) ∧ Reads w' w'.heap.size 1 A4 0 (ints []) ∧ Below w.heap.size w w') := fun A c w hR => by
    refine (Polynomials_bad A n c l w (by rw [he]; exact h0) hR (by omega)).mono fun e w' h => ?_
    rw [he] at h
    exact ⟨none, 0, none, 0, none, 0, none, 0, none, 0, h.1, Reads.none_, Reads.none_, Reads.none_, Reads.none_, Reads.none_, h.2⟩
  clear hs he h0
  go_enter Tryz.func4, Tryz.ntmps4
  go_wp2_with fail
  refine (rShort_any A n c l _ hR).mono ?_
  rintro e w1 ⟨rfl, hb1⟩
  rw [HS.out]
  go_wp2_with fail
  refine (ladder_lad A n c l _ (carry hR (by repeat (first | with_reducible assumption | exact Below.refl _ _ | refine below_next (by with_reducible assumption) ?_))) (by omega)).mono ?_
  rintro e w2 ⟨A2, c2, rfl, r2, hb2⟩
  go_wp2_with fail
  refine (HP.out A2 c2 _ r2).mono ?_
  rintro e w3 ⟨M0, d0, M1, d1, M2, d2, M3, d3, M4, d4, rfl, m0, m1, m2, m3, m4, hb3⟩
  go_upto_region 4 with (fail)
  obtain ⟨w4, e4, hb4, hz4, kM⟩ := box1 w3 #[.slice M0 (0) d0, .slice M1 (0) d1, .slice M2 (0) d2, .slice M3 (0) d3] 44
  rw [← e4]; clear e4
  go_wp2_with fail
  refine (rCheckLadder_all A n c l _ (carry hR (by repeat (first | with_reducible assumption | exact Below.refl _ _ | refine below_next (by with_reducible assumption) ?_)))).mono ?_
  rintro e w5 ⟨rfl, hb5⟩
  rw [HE.out]
  go_upto_region 6 with (fail)
  obtain ⟨w6, e6, hb6, hz6, kW⟩ := box1 w5 #[.slice none 0 0, .slice none 0 0, .slice none 0 0, .slice none 0 0] 44
  rw [← e6]; clear e6
  have rN : Reads w6 w6.heap.size 1 none 0 (ints []) := Reads.none_
  have kWq := kW
  have kMq := carryK (w' := w6) kM (by repeat (first | with_reducible assumption | exact Below.refl _ _ | refine below_next (by with_reducible assumption) ?_))
  have v0 := carry (w' := w6) m0 (by repeat (first | with_reducible assumption | exact Below.refl _ _ | refine below_next (by with_reducible assumption) ?_))
  have v1 := carry (w' := w6) m1 (by repeat (first | with_reducible assumption | exact Below.refl _ _ | refine below_next (by with_reducible assumption) ?_))
  have v2 := carry (w' := w6) m2 (by repeat (first | with_reducible assumption | exact Below.refl _ _ | refine below_next (by with_reducible assumption) ?_))
  have v3 := carry (w' := w6) m3 (by repeat (first | with_reducible assumption | exact Below.refl _ _ | refine below_next (by with_reducible assumption) ?_))
  have v4 := carry (w' := w6) m4 (by repeat (first | with_reducible assumption | exact Below.refl _ _ | refine below_next (by with_reducible assumption) ?_))
  have hbw : Below w.heap.size w w6 := (by repeat (first | with_reducible assumption | exact Below.refl _ _ | refine below_next (by with_reducible assumption) ?_))
  go_wp2_with fail
  go_loopw [30] (fun v wq => ∃ i : Nat, i ≤ 4 ∧ v = .int .i64 i ∧ Below w6.heap.size w6 wq) (fun v _ => 4 - (intOf v).toNat)
  case atStart => exact ⟨0, by omega, rfl, Below.refl _ _⟩
  case round =>
    rename World => wq
    obtain ⟨i, hi, rfl, hbq⟩ := hrel
    have hc : i = 0 ∨ i = 1 ∨ i = 2 ∨ i = 3 ∨ i = 4 := by omega
    rcases hc with rfl | rfl | rfl | rfl | rfl
    · skip
      have cM := over_blk (carryK (w' := wq) kMq (by repeat (first | with_reducible assumption | exact Below.refl _ _ | refine below_next (by with_reducible assumption) ?_))) (carryK (w' := wq) kMq (by repeat (first | with_reducible assumption | exact Below.refl _ _ | refine below_next (by with_reducible assumption) ?_))).lt
      have cW := over_blk (carryK (w' := wq) kWq (by repeat (first | with_reducible assumption | exact Below.refl _ _ | refine below_next (by with_reducible assumption) ?_))) (carryK (w' := wq) kWq (by repeat (first | with_reducible assumption | exact Below.refl _ _ | refine below_next (by with_reducible assumption) ?_))).lt
      have R0 := fun x => carry (w' := over wq.heap.size wq x) v0 (below_next hbq (over_below _ _ _))
      have R1 := fun x => carry (w' := over wq.heap.size wq x) rN (below_next hbq (over_below _ _ _))
      go_upto_region 12 with (fail)
      refine wp_region_over wq.heap.size (by kernel_rfl) (by kernel_rfl) ?_; (repeat (first | go_big_quiet_step ((go_at_call 28; with_reducible exact over_call (Nat.le_refl _) (same_trueN M0 (0) d0 (([] : List Int)) none 0 _ (R0 _) (R1 _) (by omega)))) | quiet_step ((go_at_call 28; with_reducible exact over_call (Nat.le_refl _) (same_trueN M0 (0) d0 (([] : List Int)) none 0 _ (R0 _) (R1 _) (by omega)))))); refine wpQuiet_nil ?_; rintro W ⟨x, rfl⟩
      have hbY := over_below wq.heap.size wq x
      generalize over wq.heap.size wq x = Y at hbY ⊢
      clear cM cW R0 R1
      go_wp2_with fail
      go_roundw
      case rel => exact ⟨0 + 1, by omega, rfl, below_next hbq hbY⟩
      case measure => simp [intOf]
    · skip
      have cM := over_blk (carryK (w' := wq) kMq (by repeat (first | with_reducible assumption | exact Below.refl _ _ | refine below_next (by with_reducible assumption) ?_))) (carryK (w' := wq) kMq (by repeat (first | with_reducible assumption | exact Below.refl _ _ | refine below_next (by with_reducible assumption) ?_))).lt
      have cW := over_blk (carryK (w' := wq) kWq (by repeat (first | with_reducible assumption | exact Below.refl _ _ | refine below_next (by with_reducible assumption) ?_))) (carryK (w' := wq) kWq (by repeat (first | with_reducible assumption | exact Below.refl _ _ | refine below_next (by with_reducible assumption) ?_))).lt
      have R0 := fun x => carry (w' := over wq.heap.size wq x) v1 (below_next hbq (over_below _ _ _))
      have R1 := fun x => carry (w' := over wq.heap.size wq x) rN (below_next hbq (over_below _ _ _))
      go_upto_region 12 with (fail)
      refine wp_region_over wq.heap.size (by kernel_rfl) (by kernel_rfl) ?_; (repeat (first | go_big_quiet_step ((go_at_call 28; with_reducible exact over_call (Nat.le_refl _) (same_trueN M1 (0) d1 (([] : List Int)) none 0 _ (R0 _) (R1 _) (by omega)))) | quiet_step ((go_at_call 28; with_reducible exact over_call (Nat.le_refl _) (same_trueN M1 (0) d1 (([] : List Int)) none 0 _ (R0 _) (R1 _) (by omega)))))); refine wpQuiet_nil ?_; rintro W ⟨x, rfl⟩
      have hbY := over_below wq.heap.size wq x
      generalize over wq.heap.size wq x = Y at hbY ⊢
      clear cM cW R0 R1
      go_wp2_with fail
      go_roundw
      case rel => exact ⟨1 + 1, by omega, rfl, below_next hbq hbY⟩
      case measure => simp [intOf]
    · skip
      have cM := over_blk (carryK (w' := wq) kMq (by repeat (first | with_reducible assumption | exact Below.refl _ _ | refine below_next (by with_reducible assumption) ?_))) (carryK (w' := wq) kMq (by repeat (first | with_reducible assumption | exact Below.refl _ _ | refine below_next (by with_reducible assumption) ?_))).lt
      have cW := over_blk (carryK (w' := wq) kWq (by repeat (first | with_reducible assumption | exact Below.refl _ _ | refine below_next (by with_reducible assumption) ?_))) (carryK (w' := wq) kWq (by repeat (first | with_reducible assumption | exact Below.refl _ _ | refine below_next (by with_reducible assumption) ?_))).lt
      have R0 := fun x => carry (w' := over wq.heap.size wq x) v2 (below_next hbq (over_below _ _ _))
      have R1 := fun x => carry (w' := over wq.heap.size wq x) rN (below_next hbq (over_below _ _ _))
      go_upto_region 12 with (fail)
      refine wp_region_over wq.heap.size (by kernel_rfl) (by kernel_rfl) ?_; (repeat (first | go_big_quiet_step ((go_at_call 28; with_reducible exact over_call (Nat.le_refl _) (same_trueN M2 (0) d2 (([] : List Int)) none 0 _ (R0 _) (R1 _) (by omega)))) | quiet_step ((go_at_call 28; with_reducible exact over_call (Nat.le_refl _) (same_trueN M2 (0) d2 (([] : List Int)) none 0 _ (R0 _) (R1 _) (by omega)))))); refine wpQuiet_nil ?_; rintro W ⟨x, rfl⟩
      have hbY := over_below wq.heap.size wq x
      generalize over wq.heap.size wq x = Y at hbY ⊢
      clear cM cW R0 R1
      go_wp2_with fail
      go_roundw
      case rel => exact ⟨2 + 1, by omega, rfl, below_next hbq hbY⟩
      case measure => simp [intOf]
    · skip
      have cM := over_blk (carryK (w' := wq) kMq (by repeat (first | with_reducible assumption | exact Below.refl _ _ | refine below_next (by with_reducible assumption) ?_))) (carryK (w' := wq) kMq (by repeat (first | with_reducible assumption | exact Below.refl _ _ | refine below_next (by with_reducible assumption) ?_))).lt
      have cW := over_blk (carryK (w' := wq) kWq (by repeat (first | with_reducible assumption | exact Below.refl _ _ | refine below_next (by with_reducible assumption) ?_))) (carryK (w' := wq) kWq (by repeat (first | with_reducible assumption | exact Below.refl _ _ | refine below_next (by with_reducible assumption) ?_))).lt
      have R0 := fun x => carry (w' := over wq.heap.size wq x) v3 (below_next hbq (over_below _ _ _))
      have R1 := fun x => carry (w' := over wq.heap.size wq x) rN (below_next hbq (over_below _ _ _))
      go_upto_region 12 with (fail)
      refine wp_region_over wq.heap.size (by kernel_rfl) (by kernel_rfl) ?_; (repeat (first | go_big_quiet_step ((go_at_call 28; with_reducible exact over_call (Nat.le_refl _) (same_trueN M3 (0) d3 (([] : List Int)) none 0 _ (R0 _) (R1 _) (by omega)))) | quiet_step ((go_at_call 28; with_reducible exact over_call (Nat.le_refl _) (same_trueN M3 (0) d3 (([] : List Int)) none 0 _ (R0 _) (R1 _) (by omega)))))); refine wpQuiet_nil ?_; rintro W ⟨x, rfl⟩
      have hbY := over_below wq.heap.size wq x
      generalize over wq.heap.size wq x = Y at hbY ⊢
      clear cM cW R0 R1
      go_wp2_with fail
      go_roundw
      case rel => exact ⟨3 + 1, by omega, rfl, below_next hbq hbY⟩
      case measure => simp [intOf]
    · go_wp2_with fail
      refine (same_trueN M4 (0) d4 (([] : List Int)) none 0 _ (carry v4 hbq) (carry rN hbq) (by omega)).mono ?_
      rintro e w30 ⟨rfl, hb30⟩
      have hbz0 := below_next hbw (below_next hbq hb30)
      clear hbw hbq hb30
      go_wp2_with fail
      refine (awake_any _ (hV.con.carry hbz0) (hV.tur.carry hbz0) (hV.ten.carry hbz0)).mono ?_
      rintro e wz ⟨rfl, hbz⟩
      go_wp2_with fail
      go_ret
      exact ⟨rfl, below_next hbz0 hbz⟩
set_option maxHeartbeats 8000000 in
theorem lawPol_good (A : Option Addr) (n c : Nat) (l : List El) (w : World) (hV : VarsN w) (hR : Reads w w.heap.size 3 A n (els l)) (hs : shortB l = true) (he : ladErr l = 0) :
    Calls Tryz.prog 4 #[.slice A n c] w fun e w' => e = .returned (.bool true) ∧ Below w.heap.size w w' := by
  have hn6 := shortP hR hs
  have hl := lad_ok he
  have HS := hide hs
  have HE := hide he
  have t0 : ((0 : Int) == 0) = true := rfl
  have hbd := lad_pm hl l.length
  have hdd := lad_pd hl l.length
  rw [List.take_length] at hbd hdd
  have hp := fun A c w (hC : Con w) (hR : Reads w w.heap.size 3 A n (els l)) => polN_ok A n c l w hC he hR (by omega)
  have hq := fun w (hR : Reads w w.heap.size 3 A n (els l)) => rPolynomials_ok A n c l w hl hR
  obtain ⟨⟨La, Lb, Lc, Ld⟩, hm⟩ : ∃ m, pch .id l = m := ⟨_, rfl⟩
  obtain ⟨Le, hd⟩ : ∃ d, pdv [1] l = d := ⟨_, rfl⟩
  rw [hm, hd] at hp hq
  rw [hm] at hbd
  rw [hd] at hdd
  simp only at hp hq
  have la : La.length ≤ 11 := hbd.la
  have lb : Lb.length ≤ 11 := hbd.lb
  have lc : Lc.length ≤ 11 := hbd.lc
  have ld : Ld.length ≤ 11 := hbd.ld
  have le := hdd.1
  have HP := hide hp
  have HQ := hide hq
  clear hs he hl hbd hdd hp hq hm hd
  go_enter Tryz.func4, Tryz.ntmps4
  go_wp2_with fail
  refine (rShort_any A n c l _ hR).mono ?_
  rintro e w1 ⟨rfl, hb1⟩
  rw [HS.out]
  go_wp2_with fail
  refine (ladder_lad A n c l _ (carry hR (by repeat (first | with_reducible assumption | exact Below.refl _ _ | refine below_next (by with_reducible assumption) ?_))) (by omega)).mono ?_
  rintro e w2 ⟨A2, c2, rfl, r2, hb2⟩
  go_wp2_with fail
  refine (HP.out A2 c2 _ (hV.con.carry (by repeat (first | with_reducible assumption | exact Below.refl _ _ | refine below_next (by with_reducible assumption) ?_))) r2).mono ?_
  rintro e w3 ⟨M0, d0, M1, d1, M2, d2, M3, d3, M4, d4, rfl, m0, m1, m2, m3, m4, hb3⟩
  go_upto_region 4 with (fail)
  obtain ⟨w4, e4, hb4, hz4, kM⟩ := box1 w3 #[.slice M0 (La.length) d0, .slice M1 (Lb.length) d1, .slice M2 (Lc.length) d2, .slice M3 (Ld.length) d3] 44
  rw [← e4]; clear e4
  go_wp2_with fail
  refine (rCheckLadder_all A n c l _ (carry hR (by repeat (first | with_reducible assumption | exact Below.refl _ _ | refine below_next (by with_reducible assumption) ?_)))).mono ?_
  rintro e w5 ⟨rfl, hb5⟩
  rw [HE.out]
  go_upto_region 6 with (fail)
  obtain ⟨w6, e6, hb6, hz6, kW⟩ := box1 w5 #[.slice none 0 0, .slice none 0 0, .slice none 0 0, .slice none 0 0] 44
  rw [← e6]; clear e6
  go_wp2_with fail
  refine (HQ.out _ (carry hR (by repeat (first | with_reducible assumption | exact Below.refl _ _ | refine below_next (by with_reducible assumption) ?_)))).mono ?_
  rintro e w7 ⟨va, vb, vc, vd, ve, rfl, oa, ob, oc, od, oe, hb7⟩
  obtain ⟨B0, f0, rfl, _⟩ := own_slice oa
  obtain ⟨B1, f1, rfl, _⟩ := own_slice ob
  obtain ⟨B2, f2, rfl, _⟩ := own_slice oc
  obtain ⟨B3, f3, rfl, _⟩ := own_slice od
  obtain ⟨B4, f4, rfl, _⟩ := own_slice oe
  have kW7 := carryK kW hb7
  obtain ⟨X, eX, kWq, _, _, hBX, _, _, hoX⟩ := set4 w7 w5.heap.size 44 _ _ _ _ (.slice B0 La.length f0) (.slice B1 Lb.length f1) (.slice B2 Lc.length f2) (.slice B3 Ld.length f3) kW7
  have hb5X : Below w5.heap.size w5 X := below_step (below_next hb6 hb7) (hBX w5.heap.size (Nat.le_refl _)) (Nat.le_refl _)
  have hne : (3 : TypeId) ≠ 44 := by decide
  have x0 := Reads.of_own (hoX _ _ _ _ _ _ hne oa)
  have x1 := Reads.of_own (hoX _ _ _ _ _ _ hne ob)
  have x2 := Reads.of_own (hoX _ _ _ _ _ _ hne oc)
  have x3 := Reads.of_own (hoX _ _ _ _ _ _ hne od)
  have x4 := Reads.of_own (hoX _ _ _ _ _ _ hne oe)
  have cW := kW7.cell
  have fW := kW7.frozen
  clear hBX hoX hne hb6 hb7 oa ob oc od oe kW
  go_upto_region 9 with (fail)
  rw [← eX]
  clear eX cW fW kW7
  have kMq := carryK (w' := X) kM (by repeat (first | with_reducible assumption | exact Below.refl _ _ | refine below_next (by with_reducible assumption) ?_))
  have v0 := carry (w' := X) m0 (by repeat (first | with_reducible assumption | exact Below.refl _ _ | refine below_next (by with_reducible assumption) ?_))
  have v1 := carry (w' := X) m1 (by repeat (first | with_reducible assumption | exact Below.refl _ _ | refine below_next (by with_reducible assumption) ?_))
  have v2 := carry (w' := X) m2 (by repeat (first | with_reducible assumption | exact Below.refl _ _ | refine below_next (by with_reducible assumption) ?_))
  have v3 := carry (w' := X) m3 (by repeat (first | with_reducible assumption | exact Below.refl _ _ | refine below_next (by with_reducible assumption) ?_))
  have v4 := carry (w' := X) m4 (by repeat (first | with_reducible assumption | exact Below.refl _ _ | refine below_next (by with_reducible assumption) ?_))
  have hbw : Below w.heap.size w X := (by repeat (first | with_reducible assumption | exact Below.refl _ _ | refine below_next (by with_reducible assumption) ?_))
  go_wp2_with fail
  go_loopw [30] (fun v wq => ∃ i : Nat, i ≤ 4 ∧ v = .int .i64 i ∧ Below X.heap.size X wq) (fun v _ => 4 - (intOf v).toNat)
  case atStart => exact ⟨0, by omega, rfl, Below.refl _ _⟩
  case round =>
    rename World => wq
    obtain ⟨i, hi, rfl, hbq⟩ := hrel
    have hc : i = 0 ∨ i = 1 ∨ i = 2 ∨ i = 3 ∨ i = 4 := by omega
    rcases hc with rfl | rfl | rfl | rfl | rfl
    · skip
      have cM := over_blk (carryK (w' := wq) kMq (by repeat (first | with_reducible assumption | exact Below.refl _ _ | refine below_next (by with_reducible assumption) ?_))) (carryK (w' := wq) kMq (by repeat (first | with_reducible assumption | exact Below.refl _ _ | refine below_next (by with_reducible assumption) ?_))).lt
      have cW := over_blk (carryK (w' := wq) kWq (by repeat (first | with_reducible assumption | exact Below.refl _ _ | refine below_next (by with_reducible assumption) ?_))) (carryK (w' := wq) kWq (by repeat (first | with_reducible assumption | exact Below.refl _ _ | refine below_next (by with_reducible assumption) ?_))).lt
      have R0 := fun x => carry (w' := over wq.heap.size wq x) v0 (below_next hbq (over_below _ _ _))
      have R1 := fun x => carry (w' := over wq.heap.size wq x) x0 (below_next hbq (over_below _ _ _))
      go_upto_region 12 with (fail)
      refine wp_region_over wq.heap.size (by kernel_rfl) (by kernel_rfl) ?_; (repeat (first | go_big_quiet_step ((go_at_call 28; with_reducible exact over_call (Nat.le_refl _) (same_trueN M0 (La.length) d0 (La) B0 f0 _ (R0 _) (R1 _) (by omega)))) | quiet_step ((go_at_call 28; with_reducible exact over_call (Nat.le_refl _) (same_trueN M0 (La.length) d0 (La) B0 f0 _ (R0 _) (R1 _) (by omega)))))); refine wpQuiet_nil ?_; rintro W ⟨x, rfl⟩
      have hbY := over_below wq.heap.size wq x
      generalize over wq.heap.size wq x = Y at hbY ⊢
      clear cM cW R0 R1
      go_wp2_with fail
      go_roundw
      case rel => exact ⟨0 + 1, by omega, rfl, below_next hbq hbY⟩
      case measure => simp [intOf]
    · skip
      have cM := over_blk (carryK (w' := wq) kMq (by repeat (first | with_reducible assumption | exact Below.refl _ _ | refine below_next (by with_reducible assumption) ?_))) (carryK (w' := wq) kMq (by repeat (first | with_reducible assumption | exact Below.refl _ _ | refine below_next (by with_reducible assumption) ?_))).lt
      have cW := over_blk (carryK (w' := wq) kWq (by repeat (first | with_reducible assumption | exact Below.refl _ _ | refine below_next (by with_reducible assumption) ?_))) (carryK (w' := wq) kWq (by repeat (first | with_reducible assumption | exact Below.refl _ _ | refine below_next (by with_reducible assumption) ?_))).lt
      have R0 := fun x => carry (w' := over wq.heap.size wq x) v1 (below_next hbq (over_below _ _ _))
      have R1 := fun x => carry (w' := over wq.heap.size wq x) x1 (below_next hbq (over_below _ _ _))
      go_upto_region 12 with (fail)
      refine wp_region_over wq.heap.size (by kernel_rfl) (by kernel_rfl) ?_; (repeat (first | go_big_quiet_step ((go_at_call 28; with_reducible exact over_call (Nat.le_refl _) (same_trueN M1 (Lb.length) d1 (Lb) B1 f1 _ (R0 _) (R1 _) (by omega)))) | quiet_step ((go_at_call 28; with_reducible exact over_call (Nat.le_refl _) (same_trueN M1 (Lb.length) d1 (Lb) B1 f1 _ (R0 _) (R1 _) (by omega)))))); refine wpQuiet_nil ?_; rintro W ⟨x, rfl⟩
      have hbY := over_below wq.heap.size wq x
      generalize over wq.heap.size wq x = Y at hbY ⊢
      clear cM cW R0 R1
      go_wp2_with fail
      go_roundw
      case rel => exact ⟨1 + 1, by omega, rfl, below_next hbq hbY⟩
      case measure => simp [intOf]
    · skip
      have cM := over_blk (carryK (w' := wq) kMq (by repeat (first | with_reducible assumption | exact Below.refl _ _ | refine below_next (by with_reducible assumption) ?_))) (carryK (w' := wq) kMq (by repeat (first | with_reducible assumption | exact Below.refl _ _ | refine below_next (by with_reducible assumption) ?_))).lt
      have cW := over_blk (carryK (w' := wq) kWq (by repeat (first | with_reducible assumption | exact Below.refl _ _ | refine below_next (by with_reducible assumption) ?_))) (carryK (w' := wq) kWq (by repeat (first | with_reducible assumption | exact Below.refl _ _ | refine below_next (by with_reducible assumption) ?_))).lt
      have R0 := fun x => carry (w' := over wq.heap.size wq x) v2 (below_next hbq (over_below _ _ _))
      have R1 := fun x => carry (w' := over wq.heap.size wq x) x2 (below_next hbq (over_below _ _ _))
      go_upto_region 12 with (fail)
      refine wp_region_over wq.heap.size (by kernel_rfl) (by kernel_rfl) ?_; (repeat (first | go_big_quiet_step ((go_at_call 28; with_reducible exact over_call (Nat.le_refl _) (same_trueN M2 (Lc.length) d2 (Lc) B2 f2 _ (R0 _) (R1 _) (by omega)))) | quiet_step ((go_at_call 28; with_reducible exact over_call (Nat.le_refl _) (same_trueN M2 (Lc.length) d2 (Lc) B2 f2 _ (R0 _) (R1 _) (by omega)))))); refine wpQuiet_nil ?_; rintro W ⟨x, rfl⟩
      have hbY := over_below wq.heap.size wq x
      generalize over wq.heap.size wq x = Y at hbY ⊢
      clear cM cW R0 R1
      go_wp2_with fail
      go_roundw
      case rel => exact ⟨2 + 1, by omega, rfl, below_next hbq hbY⟩
      case measure => simp [intOf]
    · skip
      have cM := over_blk (carryK (w' := wq) kMq (by repeat (first | with_reducible assumption | exact Below.refl _ _ | refine below_next (by with_reducible assumption) ?_))) (carryK (w' := wq) kMq (by repeat (first | with_reducible assumption | exact Below.refl _ _ | refine below_next (by with_reducible assumption) ?_))).lt
      have cW := over_blk (carryK (w' := wq) kWq (by repeat (first | with_reducible assumption | exact Below.refl _ _ | refine below_next (by with_reducible assumption) ?_))) (carryK (w' := wq) kWq (by repeat (first | with_reducible assumption | exact Below.refl _ _ | refine below_next (by with_reducible assumption) ?_))).lt
      have R0 := fun x => carry (w' := over wq.heap.size wq x) v3 (below_next hbq (over_below _ _ _))
      have R1 := fun x => carry (w' := over wq.heap.size wq x) x3 (below_next hbq (over_below _ _ _))
      go_upto_region 12 with (fail)
      refine wp_region_over wq.heap.size (by kernel_rfl) (by kernel_rfl) ?_; (repeat (first | go_big_quiet_step ((go_at_call 28; with_reducible exact over_call (Nat.le_refl _) (same_trueN M3 (Ld.length) d3 (Ld) B3 f3 _ (R0 _) (R1 _) (by omega)))) | quiet_step ((go_at_call 28; with_reducible exact over_call (Nat.le_refl _) (same_trueN M3 (Ld.length) d3 (Ld) B3 f3 _ (R0 _) (R1 _) (by omega)))))); refine wpQuiet_nil ?_; rintro W ⟨x, rfl⟩
      have hbY := over_below wq.heap.size wq x
      generalize over wq.heap.size wq x = Y at hbY ⊢
      clear cM cW R0 R1
      go_wp2_with fail
      go_roundw
      case rel => exact ⟨3 + 1, by omega, rfl, below_next hbq hbY⟩
      case measure => simp [intOf]
    · go_wp2_with fail
      refine (same_trueN M4 (Le.length) d4 (Le) B4 f4 _ (carry v4 hbq) (carry x4 hbq) (by omega)).mono ?_
      rintro e w30 ⟨rfl, hb30⟩
      have hbz0 := below_next hbw (below_next hbq hb30)
      clear hbw hbq hb30
      go_wp2_with fail
      refine (awake_any _ (hV.con.carry hbz0) (hV.tur.carry hbz0) (hV.ten.carry hbz0)).mono ?_
      rintro e wz ⟨rfl, hbz⟩
      go_wp2_with fail
      go_ret
      exact ⟨rfl, below_next hbz0 hbz⟩
theorem lawPol_any (A : Option Addr) (n c : Nat) (l : List El) (w : World) (hV : VarsN w) (hR : Reads w w.heap.size 3 A n (els l)) :
    Calls Tryz.prog 4 #[.slice A n c] w fun e w' => e = .returned (.bool true) ∧ Below w.heap.size w w' := by
  by_cases hs : shortB l = true
  · by_cases he : ladErr l = 0
    · exact lawPol_good A n c l w hV hR hs he
    · exact lawPol_bad A n c l w hV hR hs (ladErr l) rfl he
  · exact lawPol_long A n c l w hV hR (by simpa using hs)
end Go.Proofs.YtnndaipnfniciaaGreatDoor
