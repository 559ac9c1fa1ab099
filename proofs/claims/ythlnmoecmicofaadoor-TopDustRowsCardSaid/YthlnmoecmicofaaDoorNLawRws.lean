/- The law TopDustRows. -/
import Derived.Test.YthlnmoecmicofaaDoorNSum
import Derived.Test.YthlnmoecmicofaaDoorNPolR
import Derived.Test.YthlnmoecmicofaaDoorNLawDus
namespace Go.Proofs.YthlnmoecmicofaaDoor
open Go.RowKit Go.Shelf
set_option maxRecDepth 100000
theorem pol_4 (A : Option Addr) (n c : Nat) (l : List El) (w : World) (hC : Con w) (h0 : ladErr l = 0) (h : Reads w w.heap.size 3 A n (els l)) (hn : n ≤ 1000000000000) (a b e d D : List Int) (hM : pch .id l = ⟨a, b, e, d⟩) (hD : pdv [1] l = D) :
    Calls Tryd.prog 23 #[.slice A n c] w fun r w' => ∃ A0 c0 A1 c1 A2 c2 A3 c3 A4 c4, r = .returned (.tuple #[.agg #[.slice A0 a.length c0, .slice A1 b.length c1, .slice A2 e.length c2, .slice A3 d.length c3], .slice A4 D.length c4, .int .i64 0]) ∧
      Reads w' w'.heap.size 1 A0 a.length (ints a) ∧ Reads w' w'.heap.size 1 A1 b.length (ints b) ∧ Reads w' w'.heap.size 1 A2 e.length (ints e) ∧ Reads w' w'.heap.size 1 A3 d.length (ints d) ∧ Reads w' w'.heap.size 1 A4 D.length (ints D) ∧ Below w.heap.size w w' := by
  have := pol_ok A n c l w hC h0 h hn
  rw [hM, hD] at this
  exact this
/-- A polynomial of a short ladder. -/
structure Sz (l : List Int) : Prop where
  len : l.length ≤ 11
  n : n1 l ≤ 289
theorem sum_trim (a b c d : List Int) : trim (sumR (cvl a b) (cvl c d)) = padd (padd [] a b) c d := by
  refine (trim_is _).ext (padd_trim _ _ _) fun k => ?_
  rw [co_trim, co_padd, co_padd, co_nil]
  have h0 : ∀ (Z : List Int) k, (∀ j, co Z j = 0) → co Z k = 0 := fun Z k h => h k
  have hz : co (List.replicate (max (cvl a b).length (cvl c d).length) (0 : Int)) k = 0 := by
    have := co_pad [] (max (cvl a b).length (cvl c d).length) k
    rw [List.nil_append, co_nil] at this
    exact this
  unfold sumR
  by_cases hk : k < max (cvl a b).length (cvl c d).length
  · rw [co_addRow (by rw [addRow_len, List.length_replicate]; exact hk), co_addRow (by rw [List.length_replicate]; exact hk), hz, if_pos (Nat.zero_le _), if_pos (Nat.zero_le _), Nat.sub_zero, co_cvl, co_cvl]
    omega
  · have h1 : co (cvl a b) k = 0 := co_far (by omega)
    have h2 : co (cvl c d) k = 0 := co_far (by omega)
    rw [co_cvl] at h1 h2
    rw [co_far (by rw [addRow_len, addRow_len, List.length_replicate]; omega), h1, h2]; rfl
theorem dustSum_x (A1 : Option Addr) (n1' c1 : Nat) (a : List Int) (A2 : Option Addr) (n2 c2 : Nat) (b : List Int) (A3 : Option Addr) (n3 c3 : Nat) (c : List Int) (A4 : Option Addr) (n4 c4 : Nat) (d : List Int) (w : World)
    (h1 : Reads w w.heap.size 1 A1 n1' (ints a)) (h2 : Reads w w.heap.size 1 A2 n2 (ints b)) (h3 : Reads w w.heap.size 1 A3 n3 (ints c)) (h4 : Reads w w.heap.size 1 A4 n4 (ints d)) (s1 : Sz a) (s2 : Sz b) (s3 : Sz c) (s4 : Sz d) (S : List Int) (hS : S = padd (padd [] a b) c d) :
    Calls Tryd.prog 37 #[.slice A1 n1' c1, .slice A2 n2 c2, .slice A3 n3 c3, .slice A4 n4 c4] w fun e w' => ∃ A k, e = .returned (.tuple #[.slice A S.length k, .bool true]) ∧ Reads w' w'.heap.size 1 A S.length (ints S) ∧ Below w.heap.size w w' := by
  have := dustSum_any A1 n1' c1 a A2 n2 c2 b A3 n3 c3 c A4 n4 c4 d w h1 h2 h3 h4 (cv_ok s1.len s2.len s1.n s2.n) (cv_ok s3.len s4.len s3.n s4.n) (by
    have e1 := n1_cvl a b
    have e2 := n1_cvl c d
    have m1 := Nat.mul_le_mul s1.n s2.n
    have m2 := Nat.mul_le_mul s3.n s4.n
    omega)
  rw [sum_trim, ← hS] at this
  exact this
theorem input_pole (l : List El) (f : Int) (A : Option Addr) (m c : Nat) (w : World) (hC : Con w) (he : atErr l f = 0) (hm : m ≤ 1000000000000) (hR : Reads w w.heap.size 3 A m (els l)) (hz : (chn f .id l).c = .zero) :
    Calls Tryd.prog 31 #[.slice A m c, .int .i64 f] w fun e w' => e = .returned (.tuple #[.agg #[.int .i64 0, .int .i64 0, .int .i64 0, .int .i64 0], .int .i64 17]) ∧ Below w.heap.size w w' := by
  have := Input_ok l f A m c w hC he hm hR
  rw [hz, show quo (chn f .id l).a .zero = .zero from if_pos rfl, show quoE .zero = 17 from if_pos rfl] at this
  exact this
theorem input_quo (l : List El) (f : Int) (A : Option Addr) (m c : Nat) (w : World) (hC : Con w) (he : atErr l f = 0) (hm : m ≤ 1000000000000) (hR : Reads w w.heap.size 3 A m (els l)) (p v : G) (hp : (chn f .id l).a = p) (hv : (chn f .id l).c = v) (hz : ¬ v = .zero) :
    Calls Tryd.prog 31 #[.slice A m c, .int .i64 f] w fun e w' => e = .returned (.tuple #[.agg #[.int .i64 p.re, .int .i64 p.im, .int .i64 v.re, .int .i64 v.im], .int .i64 0]) ∧ Below w.heap.size w w' := by
  have := Input_ok l f A m c w hC he hm hR
  rw [hp, hv, show quo p v = ⟨p, v⟩ from if_neg hz, show quoE v = 0 from if_neg hz] at this
  exact this
set_option maxHeartbeats 4000000 in
theorem lawRws_long1 (A : Option Addr) (n c : Nat) (l : List El) (B : Option Addr) (m d : Nat) (r : List El) (u : Int) (w : World) (hC : Con w) (hR : Reads w w.heap.size 3 A n (els l)) (hS : Reads w w.heap.size 3 B m (els r)) (hn : 2 < n) :
    Calls Tryd.prog 6 #[.slice A n c, .slice B m d, .int .u8 u] w fun e w' => e = .returned (.bool true) ∧ Below w.heap.size w w' := by
  have g1 : (2 : Int) < (n : Int) := by omega
  have hb0 := Below.refl w.heap.size w
  go_enter Tryd.func6, Tryd.ntmps6
  go_wp2_with fail
  refine (tee_any _ (hC.carry (by repeat (first | with_reducible assumption | exact Below.refl _ _ | refine below_next (by with_reducible assumption) ?_)))).mono ?_
  rintro e wz ⟨rfl, hbz⟩
  go_wp2_with fail
  go_ret
  exact ⟨rfl, (by repeat (first | with_reducible assumption | exact Below.refl _ _ | refine below_next (by with_reducible assumption) ?_))⟩
set_option maxHeartbeats 4000000 in
theorem lawRws_long2 (A : Option Addr) (n c : Nat) (l : List El) (B : Option Addr) (m d : Nat) (r : List El) (u : Int) (w : World) (hC : Con w) (hR : Reads w w.heap.size 3 A n (els l)) (hS : Reads w w.heap.size 3 B m (els r)) (hn : n ≤ 2) (hm : 2 < m) :
    Calls Tryd.prog 6 #[.slice A n c, .slice B m d, .int .u8 u] w fun e w' => e = .returned (.bool true) ∧ Below w.heap.size w w' := by
  have g1 : ¬ (2 : Int) < (n : Int) := by omega
  have g2 : (2 : Int) < (m : Int) := by omega
  have hb0 := Below.refl w.heap.size w
  go_enter Tryd.func6, Tryd.ntmps6
  go_wp2_with fail
  refine (tee_any _ (hC.carry (by repeat (first | with_reducible assumption | exact Below.refl _ _ | refine below_next (by with_reducible assumption) ?_)))).mono ?_
  rintro e wz ⟨rfl, hbz⟩
  go_wp2_with fail
  go_ret
  exact ⟨rfl, (by repeat (first | with_reducible assumption | exact Below.refl _ _ | refine below_next (by with_reducible assumption) ?_))⟩
set_option maxHeartbeats 4000000 in
theorem lawRws_bad1 (A : Option Addr) (n c : Nat) (l : List El) (B : Option Addr) (m d : Nat) (r : List El) (u : Int) (w : World) (hC : Con w) (hR : Reads w w.heap.size 3 A n (els l)) (hS : Reads w w.heap.size 3 B m (els r)) (hn : n ≤ 2) (hm : m ≤ 2) (h1 : (ladErr l != 0) = true) :
    Calls Tryd.prog 6 #[.slice A n c, .slice B m d, .int .u8 u] w fun e w' => e = .returned (.bool true) ∧ Below w.heap.size w w' := by
  have g1 : ¬ (2 : Int) < (n : Int) := by omega
  have g2 : ¬ (2 : Int) < (m : Int) := by omega
  go_enter Tryd.func6, Tryd.ntmps6
  go_wp2_with fail
  refine (rCheckLadder_any A n c l _ hR (by omega)).mono ?_
  rintro e w3 ⟨rfl, hb3⟩
  go_wp2_with fail
  refine (tee_any _ (hC.carry (by repeat (first | with_reducible assumption | exact Below.refl _ _ | refine below_next (by with_reducible assumption) ?_)))).mono ?_
  rintro e wz ⟨rfl, hbz⟩
  go_wp2_with fail
  go_ret
  exact ⟨rfl, (by repeat (first | with_reducible assumption | exact Below.refl _ _ | refine below_next (by with_reducible assumption) ?_))⟩
set_option maxHeartbeats 4000000 in
theorem lawRws_bad2 (A : Option Addr) (n c : Nat) (l : List El) (B : Option Addr) (m d : Nat) (r : List El) (u : Int) (w : World) (hC : Con w) (hR : Reads w w.heap.size 3 A n (els l)) (hS : Reads w w.heap.size 3 B m (els r)) (hn : n ≤ 2) (hm : m ≤ 2) (h1 : (ladErr l != 0) = false) (h2 : (ladErr r != 0) = true) :
    Calls Tryd.prog 6 #[.slice A n c, .slice B m d, .int .u8 u] w fun e w' => e = .returned (.bool true) ∧ Below w.heap.size w w' := by
  have g1 : ¬ (2 : Int) < (n : Int) := by omega
  have g2 : ¬ (2 : Int) < (m : Int) := by omega
  go_enter Tryd.func6, Tryd.ntmps6
  go_wp2_with fail
  refine (rCheckLadder_any A n c l _ hR (by omega)).mono ?_
  rintro e w2 ⟨rfl, hb2⟩
  go_wp2_with fail
  refine (rCheckLadder_any B m d r _ (carry hS hb2) (by omega)).mono ?_
  rintro e w3 ⟨rfl, hb3⟩
  go_wp2_with fail
  refine (tee_any _ (hC.carry (by repeat (first | with_reducible assumption | exact Below.refl _ _ | refine below_next (by with_reducible assumption) ?_)))).mono ?_
  rintro e wz ⟨rfl, hbz⟩
  go_wp2_with fail
  go_ret
  exact ⟨rfl, (by repeat (first | with_reducible assumption | exact Below.refl _ _ | refine below_next (by with_reducible assumption) ?_))⟩
set_option maxHeartbeats 4000000 in
theorem lawRws_good (A : Option Addr) (n c : Nat) (l : List El) (B : Option Addr) (m d : Nat) (r : List El) (u : Int) (w : World) (hC : Con w) (hR : Reads w w.heap.size 3 A n (els l)) (hS : Reads w w.heap.size 3 B m (els r)) (hu : 0 ≤ u ∧ u ≤ 255) (hn : n ≤ 2) (hm : m ≤ 2) (h1 : ladErr l = 0) (h2 : ladErr r = 0) :
    Calls Tryd.prog 6 #[.slice A n c, .slice B m d, .int .u8 u] w fun e w' => e = .returned (.bool true) ∧ Below w.heap.size w w' := by
  have g1 : ¬ (2 : Int) < (n : Int) := by omega
  have g2 : ¬ (2 : Int) < (m : Int) := by omega
  have t1 : (ladErr l != 0) = false := by rw [h1]; rfl
  have t2 : (ladErr r != 0) = false := by rw [h2]; rfl
  have hll := els_reads_len hR
  have hrl := els_reads_len hS
  have hok1 := lad_ok h1
  have hok2 := lad_ok h2
  have bl := lad_pm2 hok1 (by omega)
  have br := lad_pm2 hok2 (by omega)
  have dl := lad_pd2 hok1 (by omega)
  have dr := lad_pd2 hok2 (by omega)
  have hok : LadOk (l ++ r) := ⟨by rw [List.length_append]; omega, fun x hx => (List.mem_append.1 hx).elim (hok1.all x) (hok2.all x)⟩
  have hokr : LadOk (l ++ r).reverse := ⟨by rw [List.length_reverse]; exact hok.len, fun x hx => hok.all x (List.mem_reverse.1 hx)⟩
  obtain ⟨⟨xa, xb, xc, xd⟩, hX⟩ : ∃ X, pch .id l = X := ⟨_, rfl⟩
  obtain ⟨⟨ya, yb, yc, yd⟩, hY⟩ : ∃ X, pch .id r = X := ⟨_, rfl⟩
  obtain ⟨⟨ma, mb, mc, md⟩, hM⟩ : ∃ X, pch .id (l ++ r) = X := ⟨_, rfl⟩
  obtain ⟨F, hF⟩ : ∃ X, pdv [1] l = X := ⟨_, rfl⟩
  obtain ⟨K, hK⟩ : ∃ X, pdv [1] r = X := ⟨_, rfl⟩
  obtain ⟨D, hD⟩ : ∃ X, pdv [1] (l ++ r) = X := ⟨_, rfl⟩
  have hRv : pch .id (l ++ r).reverse = ⟨md, mb, mc, ma⟩ := by rw [pch_rev, hM]; rfl
  have hDv : pdv [1] (l ++ r).reverse = D := by rw [pdv_rev, hD]
  have hmul := pch_join l r
  rw [hM, hX, hY] at hmul
  rw [hX] at bl
  rw [hY] at br
  rw [hF] at dl
  rw [hK] at dr
  have hbm := lad_pm hok (l ++ r).length
  rw [List.take_length, hM] at hbm
  have lma : ma.length ≤ 11 := hbm.la
  have lmb : mb.length ≤ 11 := hbm.lb
  have lmc : mc.length ≤ 11 := hbm.lc
  have lmd : md.length ≤ 11 := hbm.ld
  have lD := (lad_pd hok (l ++ r).length).1
  rw [List.take_length, hD] at lD
  clear hbm
  have SA : Hid (ma = padd (padd [] xa ya) xb yc) := congrArg PM.a hmul
  have SB : Hid (mb = padd (padd [] xa yb) xb yd) := congrArg PM.b hmul
  have SC : Hid (mc = padd (padd [] xc ya) xd yc) := congrArg PM.c hmul
  have SD : Hid (md = padd (padd [] xc yb) xd yd) := congrArg PM.d hmul
  have zr1 : n1 xa + n1 xb ≤ 289 := bl.r1
  have zr2 : n1 xc + n1 xd ≤ 289 := bl.r2
  have zr3 : n1 ya + n1 yb ≤ 289 := br.r1
  have zr4 : n1 yc + n1 yd ≤ 289 := br.r2
  have zxa : Hid (Sz xa) := ⟨bl.la, by omega⟩
  have zxb : Hid (Sz xb) := ⟨bl.lb, by omega⟩
  have zxc : Hid (Sz xc) := ⟨bl.lc, by omega⟩
  have zxd : Hid (Sz xd) := ⟨bl.ld, by omega⟩
  have zya : Hid (Sz ya) := ⟨br.la, by omega⟩
  have zyb : Hid (Sz yb) := ⟨br.lb, by omega⟩
  have zyc : Hid (Sz yc) := ⟨br.lc, by omega⟩
  have zyd : Hid (Sz yd) := ⟨br.ld, by omega⟩
  have ZFK : Hid (CvOk F K) := cv_ok dl.1 dr.1 dl.2 dr.2
  have ED : Hid (D = cvl F K) := by
    show D = cvl F K
    rw [← hD, pdv_join, hF, hK, cvl_padd (by rw [← hF]; exact pdv_T _ _ rfl) (by rw [← hK]; exact pdv_T _ _ rfl)]
  have EDl : Hid (D.length = cvLen F K) := by
    show D.length = cvLen F K
    rw [ED.out, cvl_len]
  have H1 := hide h1
  have H2 := hide h2
  have HJ := hide (ok_lad hok)
  have HJR := hide (ok_lad hokr)
  have HX := hide hX
  have HY := hide hY
  have HM := hide hM
  have HF := hide hF
  have HK := hide hK
  have HD := hide hD
  have HRv := hide hRv
  have HDv := hide hDv
  have HLL := hide hll
  have HRL := hide hrl
  clear h1 h2 hll hrl hok1 hok2 bl br dl dr hok hokr hX hY hM hF hK hD hRv hDv hmul zr1 zr2 zr3 zr4
  go_enter Tryd.func6, Tryd.ntmps6
  go_wp2_with fail
  refine (rCheckLadder_any A n c l _ hR (by omega)).mono ?_
  rintro e w1 ⟨rfl, hb1⟩
  go_wp2_with fail
  refine (rCheckLadder_any B m d r _ (carry hS hb1) (by omega)).mono ?_
  rintro e w2 ⟨rfl, hb2⟩
  go_upto_region 3 with (fail)
  go_wp2_with fail
  refine (dustLad_lad A n c l _ (carry hR (by repeat (first | with_reducible assumption | exact Below.refl _ _ | refine below_next (by with_reducible assumption) ?_))) (by omega)).mono ?_
  rintro e w3 ⟨A3, d3, rfl, hR3, hb3⟩
  go_wp2_with fail
  refine (dustLad_lad B m d r _ (carry hS (by repeat (first | with_reducible assumption | exact Below.refl _ _ | refine below_next (by with_reducible assumption) ?_))) (by omega)).mono ?_
  rintro e w4 ⟨A4, d4, rfl, hR4, hb4⟩
  go_wp2_with fail
  refine (Join_ok A3 n d3 l A4 m d4 r _ (carry hR3 hb4) hR4 H1.out H2.out (by omega)).mono ?_
  rintro e w5 ⟨A5, d5, rfl, hR5, hb5⟩
  obtain ⟨N, hN⟩ : ∃ N, N = n + m := ⟨_, rfl⟩
  rw [← hN] at hR5 ⊢
  have hN4 : N ≤ 4 := by omega
  clear hN hR3 hR4
  go_upto_region 4 with (fail)
  go_wp2_with (at_builtin; refine wpList_copied w5 rfl (.tmp 63) (.tmp 64) 41 (by rfl) 62 _ 3 32 Tryd.underlying41 info_el rfl (by decide) (by decide) (by rfl) A5 N d5 (els (l ++ r)) (by rfl) hR5 (one_els _) (by omega) ?_; intro A6 c6 w6 r6 hb6)
  refine (Reverse_ok A6 N c6 (l ++ r) _ r6 HJ.out).mono ?_
  rintro e w7 ⟨A7, c7, rfl, hR7, hb7⟩
  have q5 : Reads w7 w7.heap.size 3 A5 N (els (l ++ r)) := carry hR5 (by repeat (first | with_reducible assumption | exact Below.refl _ _ | refine below_next (by with_reducible assumption) ?_))
  go_upto_region 5 with (fail)
  go_wp2_with (at_builtin; refine wpList_copied w7 rfl (.tmp 70) (.tmp 71) 41 (by rfl) 62 _ 3 32 Tryd.underlying41 info_el rfl (by decide) (by decide) (by rfl) A5 N d5 (els (l ++ r)) (by rfl) q5 (one_els _) (by omega) ?_; intro A8 c8 w8 r8 hb8)
  refine (pol_4 A8 N c8 (l ++ r) _ (hC.carry (by repeat (first | with_reducible assumption | exact Below.refl _ _ | refine below_next (by with_reducible assumption) ?_))) HJ.out r8 (by omega) ma mb mc md D HM.out HD.out).mono ?_
  rintro e w9 ⟨P0, P0c, P1, P1c, P2, P2c, P3, P3c, P4, P4c, rfl, Pr0, Pr1, Pr2, Pr3, Pr4, hbw9⟩
  go_upto_region 6 with (fail)
  obtain ⟨w10, ew10, hbw10, hzw10, kP⟩ := box1 w9 #[.slice P0 (ma).length P0c, .slice P1 (mb).length P1c, .slice P2 (mc).length P2c, .slice P3 (md).length P3c] 56
  rw [← ew10]; clear ew10
  go_wp2_with fail
  refine (dustLad_lad A n c l _ (carry hR (by repeat (first | with_reducible assumption | exact Below.refl _ _ | refine below_next (by with_reducible assumption) ?_))) (by omega)).mono ?_
  rintro e w11 ⟨A11, d11, rfl, hR11, hb11⟩
  go_wp2_with fail
  refine (pol_4 A11 n d11 l _ (hC.carry (by repeat (first | with_reducible assumption | exact Below.refl _ _ | refine below_next (by with_reducible assumption) ?_))) H1.out hR11 (by omega) xa xb xc xd F HX.out HF.out).mono ?_
  rintro e w12 ⟨X0, X0c, X1, X1c, X2, X2c, X3, X3c, X4, X4c, rfl, Xr0, Xr1, Xr2, Xr3, Xr4, hbw12⟩
  go_upto_region 7 with (fail)
  obtain ⟨w13, ew13, hbw13, hzw13, kX⟩ := box1 w12 #[.slice X0 (xa).length X0c, .slice X1 (xb).length X1c, .slice X2 (xc).length X2c, .slice X3 (xd).length X3c] 56
  rw [← ew13]; clear ew13
  go_wp2_with fail
  refine (dustLad_lad B m d r _ (carry hS (by repeat (first | with_reducible assumption | exact Below.refl _ _ | refine below_next (by with_reducible assumption) ?_))) (by omega)).mono ?_
  rintro e w14 ⟨A14, d14, rfl, hR14, hb14⟩
  go_wp2_with fail
  refine (pol_4 A14 m d14 r _ (hC.carry (by repeat (first | with_reducible assumption | exact Below.refl _ _ | refine below_next (by with_reducible assumption) ?_))) H2.out hR14 (by omega) ya yb yc yd K HY.out HK.out).mono ?_
  rintro e w15 ⟨Y0, Y0c, Y1, Y1c, Y2, Y2c, Y3, Y3c, Y4, Y4c, rfl, Yr0, Yr1, Yr2, Yr3, Yr4, hbw15⟩
  go_upto_region 8 with (fail)
  obtain ⟨w16, ew16, hbw16, hzw16, kY⟩ := box1 w15 #[.slice Y0 (ya).length Y0c, .slice Y1 (yb).length Y1c, .slice Y2 (yc).length Y2c, .slice Y3 (yd).length Y3c] 56
  rw [← ew16]; clear ew16
  have q7 : Reads w16 w16.heap.size 3 A7 N (els (l ++ r).reverse) := carry hR7 (by repeat (first | with_reducible assumption | exact Below.refl _ _ | refine below_next (by with_reducible assumption) ?_))
  go_wp2_with (at_builtin; refine wpList_copied w16 rfl (.tmp 92) (.tmp 93) 41 (by rfl) 62 _ 3 32 Tryd.underlying41 info_el rfl (by decide) (by decide) (by rfl) A7 N c7 (els (l ++ r).reverse) (by rfl) q7 (one_els _) (by omega) ?_; intro A17 c17 w17 r17 hb17)
  refine (pol_4 A17 N c17 (l ++ r).reverse _ (hC.carry (by repeat (first | with_reducible assumption | exact Below.refl _ _ | refine below_next (by with_reducible assumption) ?_))) HJR.out r17 (by omega) md mb mc ma D HRv.out HDv.out).mono ?_
  rintro e w18 ⟨V0, V0c, V1, V1c, V2, V2c, V3, V3c, V4, V4c, rfl, Vr0, Vr1, Vr2, Vr3, Vr4, hbw18⟩
  go_upto_region 9 with (fail)
  obtain ⟨w19, ew19, hbw19, hzw19, kV⟩ := box1 w18 #[.slice V0 (md).length V0c, .slice V1 (mb).length V1c, .slice V2 (mc).length V2c, .slice V3 (ma).length V3c] 56
  rw [← ew19]; clear ew19
  go_wp2_with fail
  have Pq0 := carry (w' := w19) Pr0 (by repeat (first | with_reducible assumption | exact Below.refl _ _ | refine below_next (by with_reducible assumption) ?_))
  have Pq1 := carry (w' := w19) Pr1 (by repeat (first | with_reducible assumption | exact Below.refl _ _ | refine below_next (by with_reducible assumption) ?_))
  have Pq2 := carry (w' := w19) Pr2 (by repeat (first | with_reducible assumption | exact Below.refl _ _ | refine below_next (by with_reducible assumption) ?_))
  have Pq3 := carry (w' := w19) Pr3 (by repeat (first | with_reducible assumption | exact Below.refl _ _ | refine below_next (by with_reducible assumption) ?_))
  have Pq4 := carry (w' := w19) Pr4 (by repeat (first | with_reducible assumption | exact Below.refl _ _ | refine below_next (by with_reducible assumption) ?_))
  have Xq0 := carry (w' := w19) Xr0 (by repeat (first | with_reducible assumption | exact Below.refl _ _ | refine below_next (by with_reducible assumption) ?_))
  have Xq1 := carry (w' := w19) Xr1 (by repeat (first | with_reducible assumption | exact Below.refl _ _ | refine below_next (by with_reducible assumption) ?_))
  have Xq2 := carry (w' := w19) Xr2 (by repeat (first | with_reducible assumption | exact Below.refl _ _ | refine below_next (by with_reducible assumption) ?_))
  have Xq3 := carry (w' := w19) Xr3 (by repeat (first | with_reducible assumption | exact Below.refl _ _ | refine below_next (by with_reducible assumption) ?_))
  have Xq4 := carry (w' := w19) Xr4 (by repeat (first | with_reducible assumption | exact Below.refl _ _ | refine below_next (by with_reducible assumption) ?_))
  have Yq0 := carry (w' := w19) Yr0 (by repeat (first | with_reducible assumption | exact Below.refl _ _ | refine below_next (by with_reducible assumption) ?_))
  have Yq1 := carry (w' := w19) Yr1 (by repeat (first | with_reducible assumption | exact Below.refl _ _ | refine below_next (by with_reducible assumption) ?_))
  have Yq2 := carry (w' := w19) Yr2 (by repeat (first | with_reducible assumption | exact Below.refl _ _ | refine below_next (by with_reducible assumption) ?_))
  have Yq3 := carry (w' := w19) Yr3 (by repeat (first | with_reducible assumption | exact Below.refl _ _ | refine below_next (by with_reducible assumption) ?_))
  have Yq4 := carry (w' := w19) Yr4 (by repeat (first | with_reducible assumption | exact Below.refl _ _ | refine below_next (by with_reducible assumption) ?_))
  have Vq0 := carry (w' := w19) Vr0 (by repeat (first | with_reducible assumption | exact Below.refl _ _ | refine below_next (by with_reducible assumption) ?_))
  have Vq1 := carry (w' := w19) Vr1 (by repeat (first | with_reducible assumption | exact Below.refl _ _ | refine below_next (by with_reducible assumption) ?_))
  have Vq2 := carry (w' := w19) Vr2 (by repeat (first | with_reducible assumption | exact Below.refl _ _ | refine below_next (by with_reducible assumption) ?_))
  have Vq3 := carry (w' := w19) Vr3 (by repeat (first | with_reducible assumption | exact Below.refl _ _ | refine below_next (by with_reducible assumption) ?_))
  have Vq4 := carry (w' := w19) Vr4 (by repeat (first | with_reducible assumption | exact Below.refl _ _ | refine below_next (by with_reducible assumption) ?_))
  have bP := carryK (w' := w19) kP (by repeat (first | with_reducible assumption | exact Below.refl _ _ | refine below_next (by with_reducible assumption) ?_))
  have bX := carryK (w' := w19) kX (by repeat (first | with_reducible assumption | exact Below.refl _ _ | refine below_next (by with_reducible assumption) ?_))
  have bY := carryK (w' := w19) kY (by repeat (first | with_reducible assumption | exact Below.refl _ _ | refine below_next (by with_reducible assumption) ?_))
  have bV := carryK (w' := w19) kV (by repeat (first | with_reducible assumption | exact Below.refl _ _ | refine below_next (by with_reducible assumption) ?_))
  have hR5q := carry (w' := w19) hR5 (by repeat (first | with_reducible assumption | exact Below.refl _ _ | refine below_next (by with_reducible assumption) ?_))
  have hR7q := carry (w' := w19) hR7 (by repeat (first | with_reducible assumption | exact Below.refl _ _ | refine below_next (by with_reducible assumption) ?_))
  have hbw : Below w.heap.size w w19 := (by repeat (first | with_reducible assumption | exact Below.refl _ _ | refine below_next (by with_reducible assumption) ?_))
  clear Pr0 Pr1 Pr2 Pr3 Pr4 Xr0 Xr1 Xr2 Xr3 Xr4 Yr0 Yr1 Yr2 Yr3 Yr4 Vr0 Vr1 Vr2 Vr3 Vr4 kP kX kY kV hR5 hR7 hR11 hR14 r6 r8 r17 q5 q7 hb1 hb2 hb3 hb4 hb5 hb6 hb7 hb8 hbw9 hbw10 hb11 hbw12 hbw13 hb14 hbw15 hbw16 hb17 hbw18 hbw19 hR hS
  go_loopw [111] (fun v wq => ∃ i : Nat, i ≤ 4 ∧ v = .int .i64 i ∧ Below w19.heap.size w19 wq) (fun v _ => 4 - (intOf v).toNat)
  case atStart => exact ⟨0, by omega, rfl, Below.refl _ _⟩
  case round =>
    rename World => wq
    obtain ⟨i, hi, rfl, hbq⟩ := hrel
    have kXq := bX.below hbq bX.lt
    have kYq := bY.below hbq bY.lt
    have kPq := bP.below hbq bP.lt
    have cP := fun i W (h : Below wq.heap.size wq W) => (kPq.below h kPq.lt).cell (i := i)
    have cX := fun i W (h : Below wq.heap.size wq W) => (kXq.below h kXq.lt).cell (i := i)
    have cY := fun i W (h : Below wq.heap.size wq W) => (kYq.below h kYq.lt).cell (i := i)
    have hc : i = 0 ∨ i = 1 ∨ i = 2 ∨ i = 3 ∨ i = 4 := by omega
    rcases hc with rfl | rfl | rfl | rfl | rfl
    · skip
      have DS := hide (fun (W : World) (h : Below wq.heap.size wq W) => dustSum_x X0 _ X0c xa Y0 _ Y0c ya X1 _ X1c xb Y2 _ Y2c yc W (carry (carry Xq0 hbq) h) (carry (carry Yq0 hbq) h) (carry (carry Xq1 hbq) h) (carry (carry Yq2 hbq) h) zxa.out zya.out zxb.out zyc.out ma SA.out)
      go_upto_region 15 with (fail)
      have W1 : IntKind.i64.wrap 1 = 1 := rfl
      have W2 : IntKind.i64.wrap 2 = 2 := rfl
      have W3 : IntKind.i64.wrap 3 = 3 := rfl
      go_region_held3 (fun W => Below wq.heap.size wq W) (first | exact (Below.refl _ _).drew | (with_reducible assumption) | exact below_new ‹Below wq.heap.size wq _› (Nat.le_refl _) _ | (refine below_set (below_set (below_set (below_set (by assumption) (by omega) _) (by omega) _) (by omega) _) (by omega) _)) ((go_at_call 37; refine (DS.out _ ‹Below wq.heap.size wq _›).mono ?_; rintro e w20 ⟨A20, c20, rfl, r20, hb20⟩; have hS := below_step ‹Below wq.heap.size wq _› hb20 (Below.size ‹Below wq.heap.size wq _›)))
      all_goals
        have hb19 : Below wq.heap.size wq w20 := ‹Below wq.heap.size wq w20›
        have hbn := below_next hbq hb19
        clear cX cY cP DS hb20 W1 W2 W3
        (try clear hS); (try clear hS)
        have cP2 := (bP.below hbn bP.lt).cell
        (try go_wp2_with fail)
        refine (same_true _ _ _ ma _ _ _ _ r20 (carry Pq0 hbn) (by omega) (by omega)).mono ?_
        rintro e w21 ⟨rfl, hb21⟩
        have hbn2 := below_next hbn hb21
        clear cP2
        go_wp2_with fail
        go_roundw
        case rel => exact ⟨0 + 1, by omega, rfl, hbn2⟩
        case measure => simp [intOf]
    · skip
      have DS := hide (fun (W : World) (h : Below wq.heap.size wq W) => dustSum_x X0 _ X0c xa Y1 _ Y1c yb X1 _ X1c xb Y3 _ Y3c yd W (carry (carry Xq0 hbq) h) (carry (carry Yq1 hbq) h) (carry (carry Xq1 hbq) h) (carry (carry Yq3 hbq) h) zxa.out zyb.out zxb.out zyd.out mb SB.out)
      go_upto_region 15 with (fail)
      have W1 : IntKind.i64.wrap 1 = 1 := rfl
      have W2 : IntKind.i64.wrap 2 = 2 := rfl
      have W3 : IntKind.i64.wrap 3 = 3 := rfl
      go_region_held3 (fun W => Below wq.heap.size wq W) (first | exact (Below.refl _ _).drew | (with_reducible assumption) | exact below_new ‹Below wq.heap.size wq _› (Nat.le_refl _) _ | (refine below_set (below_set (below_set (below_set (by assumption) (by omega) _) (by omega) _) (by omega) _) (by omega) _)) ((go_at_call 37; refine (DS.out _ ‹Below wq.heap.size wq _›).mono ?_; rintro e w20 ⟨A20, c20, rfl, r20, hb20⟩; have hS := below_step ‹Below wq.heap.size wq _› hb20 (Below.size ‹Below wq.heap.size wq _›)))
      all_goals
        have hb19 : Below wq.heap.size wq w20 := ‹Below wq.heap.size wq w20›
        have hbn := below_next hbq hb19
        clear cX cY cP DS hb20 W1 W2 W3
        (try clear hS); (try clear hS)
        have cP2 := (bP.below hbn bP.lt).cell
        (try go_wp2_with fail)
        refine (same_true _ _ _ mb _ _ _ _ r20 (carry Pq1 hbn) (by omega) (by omega)).mono ?_
        rintro e w21 ⟨rfl, hb21⟩
        have hbn2 := below_next hbn hb21
        clear cP2
        go_wp2_with fail
        go_roundw
        case rel => exact ⟨1 + 1, by omega, rfl, hbn2⟩
        case measure => simp [intOf]
    · skip
      have DS := hide (fun (W : World) (h : Below wq.heap.size wq W) => dustSum_x X2 _ X2c xc Y0 _ Y0c ya X3 _ X3c xd Y2 _ Y2c yc W (carry (carry Xq2 hbq) h) (carry (carry Yq0 hbq) h) (carry (carry Xq3 hbq) h) (carry (carry Yq2 hbq) h) zxc.out zya.out zxd.out zyc.out mc SC.out)
      go_upto_region 15 with (fail)
      have W1 : IntKind.i64.wrap 1 = 1 := rfl
      have W2 : IntKind.i64.wrap 2 = 2 := rfl
      have W3 : IntKind.i64.wrap 3 = 3 := rfl
      go_region_held3 (fun W => Below wq.heap.size wq W) (first | exact (Below.refl _ _).drew | (with_reducible assumption) | exact below_new ‹Below wq.heap.size wq _› (Nat.le_refl _) _ | (refine below_set (below_set (below_set (below_set (by assumption) (by omega) _) (by omega) _) (by omega) _) (by omega) _)) ((go_at_call 37; refine (DS.out _ ‹Below wq.heap.size wq _›).mono ?_; rintro e w20 ⟨A20, c20, rfl, r20, hb20⟩; have hS := below_step ‹Below wq.heap.size wq _› hb20 (Below.size ‹Below wq.heap.size wq _›)))
      all_goals
        have hb19 : Below wq.heap.size wq w20 := ‹Below wq.heap.size wq w20›
        have hbn := below_next hbq hb19
        clear cX cY cP DS hb20 W1 W2 W3
        (try clear hS); (try clear hS)
        have cP2 := (bP.below hbn bP.lt).cell
        (try go_wp2_with fail)
        refine (same_true _ _ _ mc _ _ _ _ r20 (carry Pq2 hbn) (by omega) (by omega)).mono ?_
        rintro e w21 ⟨rfl, hb21⟩
        have hbn2 := below_next hbn hb21
        clear cP2
        go_wp2_with fail
        go_roundw
        case rel => exact ⟨2 + 1, by omega, rfl, hbn2⟩
        case measure => simp [intOf]
    · skip
      have DS := hide (fun (W : World) (h : Below wq.heap.size wq W) => dustSum_x X2 _ X2c xc Y1 _ Y1c yb X3 _ X3c xd Y3 _ Y3c yd W (carry (carry Xq2 hbq) h) (carry (carry Yq1 hbq) h) (carry (carry Xq3 hbq) h) (carry (carry Yq3 hbq) h) zxc.out zyb.out zxd.out zyd.out md SD.out)
      go_upto_region 15 with (fail)
      have W1 : IntKind.i64.wrap 1 = 1 := rfl
      have W2 : IntKind.i64.wrap 2 = 2 := rfl
      have W3 : IntKind.i64.wrap 3 = 3 := rfl
      go_region_held3 (fun W => Below wq.heap.size wq W) (first | exact (Below.refl _ _).drew | (with_reducible assumption) | exact below_new ‹Below wq.heap.size wq _› (Nat.le_refl _) _ | (refine below_set (below_set (below_set (below_set (by assumption) (by omega) _) (by omega) _) (by omega) _) (by omega) _)) ((go_at_call 37; refine (DS.out _ ‹Below wq.heap.size wq _›).mono ?_; rintro e w20 ⟨A20, c20, rfl, r20, hb20⟩; have hS := below_step ‹Below wq.heap.size wq _› hb20 (Below.size ‹Below wq.heap.size wq _›)))
      all_goals
        have hb19 : Below wq.heap.size wq w20 := ‹Below wq.heap.size wq w20›
        have hbn := below_next hbq hb19
        clear cX cY cP DS hb20 W1 W2 W3
        (try clear hS); (try clear hS)
        have cP2 := (bP.below hbn bP.lt).cell
        (try go_wp2_with fail)
        refine (same_true _ _ _ md _ _ _ _ r20 (carry Pq3 hbn) (by omega) (by omega)).mono ?_
        rintro e w21 ⟨rfl, hb21⟩
        have hbn2 := below_next hbn hb21
        clear cP2
        go_wp2_with fail
        go_roundw
        case rel => exact ⟨3 + 1, by omega, rfl, hbn2⟩
        case measure => simp [intOf]
    · clear cX cY cP kXq kYq kPq
      have hbz := below_next hbw hbq
      have f4 : Reads wq wq.heap.size 1 X4 F.length (ints F) := carry Xq4 hbq
      have h4 : Reads wq wq.heap.size 1 Y4 K.length (ints K) := carry Yq4 hbq
      have lF : F.length ≤ 100000 := by have := seq_len ZFK.out.ea; omega
      have lK : K.length ≤ 100000 := by have := seq_len ZFK.out.eb; omega
      go_upto_region 19 with (fail)
      go_wp2_with (at_builtin; first
        | (refine wpList_copied wq rfl (.tmp 149) (.tmp 150) 55 (by rfl) 3 (.int .i64 0) 1 8 Tryd.underlying55 info_int rfl (by decide) (by decide) (by rfl) X4 F.length X4c (ints F) (by rfl) f4 (ints_one _) lF ?_; intro A20 c20 w20 r20 hb20)
        | (refine wpList_copied w20 rfl (.tmp 152) (.tmp 153) 55 (by rfl) 3 (.int .i64 0) 1 8 Tryd.underlying55 info_int rfl (by decide) (by decide) (by rfl) Y4 K.length Y4c (ints K) (by rfl) (carry h4 hb20) (ints_one _) lK ?_; intro A21 c21 w21 r21 hb21))
      refine (Convolve_x A20 F.length c20 F A21 K.length c21 K w21 (carry r20 hb21) r21 ZFK.out D D.length ED.out EDl.out).mono ?_
      rintro e w22 ⟨A22, c22, rfl, r22, hb22⟩
      have hbn := below_next hbq (by repeat (first | with_reducible assumption | exact Below.refl _ _ | refine below_next (by with_reducible assumption) ?_))
      clear f4 h4 hbz
      have hbn0 : Below w19.heap.size w19 w22 := (by repeat (first | with_reducible assumption | exact Below.refl _ _ | refine below_next (by with_reducible assumption) ?_))
      have q22 := carry Pq4 hbn0
      go_wp2_with fail
      refine (same_true _ _ _ D _ _ _ _ r22 q22 (by omega) (by omega)).mono ?_
      rintro e w23 ⟨rfl, hbw23⟩
      go_wp2_with fail
      refine (same_true _ _ _ D _ _ _ _ (carry Vq4 (by repeat (first | with_reducible assumption | exact Below.refl _ _ | refine below_next (by with_reducible assumption) ?_))) (carry Pq4 (by repeat (first | with_reducible assumption | exact Below.refl _ _ | refine below_next (by with_reducible assumption) ?_))) (by omega) (by omega)).mono ?_
      rintro e w24 ⟨rfl, hbw24⟩
      have cP := (carryK (w' := w24) bP (by repeat (first | with_reducible assumption | exact Below.refl _ _ | refine below_next (by with_reducible assumption) ?_))).cell
      have cV := (carryK (w' := w24) bV (by repeat (first | with_reducible assumption | exact Below.refl _ _ | refine below_next (by with_reducible assumption) ?_))).cell
      go_wp2_with fail
      clear cP cV
      refine (same_true _ _ _ md _ _ _ _ (carry Vq0 (by repeat (first | with_reducible assumption | exact Below.refl _ _ | refine below_next (by with_reducible assumption) ?_))) (carry Pq3 (by repeat (first | with_reducible assumption | exact Below.refl _ _ | refine below_next (by with_reducible assumption) ?_))) (by omega) (by omega)).mono ?_
      rintro e w25 ⟨rfl, hbw25⟩
      have cP := (carryK (w' := w25) bP (by repeat (first | with_reducible assumption | exact Below.refl _ _ | refine below_next (by with_reducible assumption) ?_))).cell
      have cV := (carryK (w' := w25) bV (by repeat (first | with_reducible assumption | exact Below.refl _ _ | refine below_next (by with_reducible assumption) ?_))).cell
      go_wp2_with fail
      clear cP cV
      refine (same_true _ _ _ ma _ _ _ _ (carry Vq3 (by repeat (first | with_reducible assumption | exact Below.refl _ _ | refine below_next (by with_reducible assumption) ?_))) (carry Pq0 (by repeat (first | with_reducible assumption | exact Below.refl _ _ | refine below_next (by with_reducible assumption) ?_))) (by omega) (by omega)).mono ?_
      rintro e w26 ⟨rfl, hbw26⟩
      have cP := (carryK (w' := w26) bP (by repeat (first | with_reducible assumption | exact Below.refl _ _ | refine below_next (by with_reducible assumption) ?_))).cell
      have cV := (carryK (w' := w26) bV (by repeat (first | with_reducible assumption | exact Below.refl _ _ | refine below_next (by with_reducible assumption) ?_))).cell
      go_wp2_with fail
      clear cP cV
      refine (same_true _ _ _ mb _ _ _ _ (carry Vq1 (by repeat (first | with_reducible assumption | exact Below.refl _ _ | refine below_next (by with_reducible assumption) ?_))) (carry Pq1 (by repeat (first | with_reducible assumption | exact Below.refl _ _ | refine below_next (by with_reducible assumption) ?_))) (by omega) (by omega)).mono ?_
      rintro e w27 ⟨rfl, hbw27⟩
      have cP := (carryK (w' := w27) bP (by repeat (first | with_reducible assumption | exact Below.refl _ _ | refine below_next (by with_reducible assumption) ?_))).cell
      have cV := (carryK (w' := w27) bV (by repeat (first | with_reducible assumption | exact Below.refl _ _ | refine below_next (by with_reducible assumption) ?_))).cell
      go_wp2_with fail
      clear cP cV
      refine (same_true _ _ _ mc _ _ _ _ (carry Vq2 (by repeat (first | with_reducible assumption | exact Below.refl _ _ | refine below_next (by with_reducible assumption) ?_))) (carry Pq2 (by repeat (first | with_reducible assumption | exact Below.refl _ _ | refine below_next (by with_reducible assumption) ?_))) (by omega) (by omega)).mono ?_
      rintro e w28 ⟨rfl, hbw28⟩
      have hbf : Below w.heap.size w w28 := (by repeat (first | with_reducible assumption | exact Below.refl _ _ | refine below_next (by with_reducible assumption) ?_))
      have hRa := carry (w' := w28) hR5q (by repeat (first | with_reducible assumption | exact Below.refl _ _ | refine below_next (by with_reducible assumption) ?_))
      have hRb := carry (w' := w28) hR7q (by repeat (first | with_reducible assumption | exact Below.refl _ _ | refine below_next (by with_reducible assumption) ?_))
      clear Pq0 Pq1 Pq2 Pq3 Pq4 Vq0 Vq1 Vq2 Vq3 Vq4 Xq0 Xq1 Xq2 Xq3 Xq4 Yq0 Yq1 Yq2 Yq3 Yq4 bP bX bY bV hbw23 hbw24 hbw25 hbw26 hbw27 hbw28 q22 hbn0 hbn
      have um : u % 8 < 8 := Int.emod_lt_of_pos _ (by omega)
      have u0 : 0 ≤ u % 8 := Int.emod_nonneg _ (by omega)
      go_upto_region 23 with (fail)
      obtain ⟨f, hf⟩ : ∃ f, 1 + u % 8 = f := ⟨_, rfl⟩
      have f1 : 1 ≤ f := by omega
      have f8 : f ≤ 8 := by omega
      rw [hf]
      clear hf um u0
      have HAT := hide (at_ofD HJ.out f1 f8)
      have HATR := hide (at_ofD HJR.out f1 f8)
      have hrv := chn_rev f (l ++ r)
      have HA := hide (congrArg Mat.a hrv)
      have HCC := hide (congrArg Mat.c hrv)
      clear hrv
      by_cases hzz : (chn f .id (l ++ r)).c = .zero
      · have HZ := hide hzz
        have HZR := hide (HCC.out.trans hzz)
        clear hzz
        go_wp2_with fail
        refine ((input_pole (l ++ r) f A5 N d5 _ (hC.carry (by repeat (first | with_reducible assumption | exact Below.refl _ _ | refine below_next (by with_reducible assumption) ?_))) HAT.out (by omega) (carry hRa (by repeat (first | with_reducible assumption | exact Below.refl _ _ | refine below_next (by with_reducible assumption) ?_))) HZ.out)).mono ?_
        rintro e w31 ⟨rfl, hb31⟩
        go_upto_region 24 with (fail)
        obtain ⟨w32, e32, hb32, hz32, kA⟩ := box1 w31 #[.int .i64 0, .int .i64 0, .int .i64 0, .int .i64 0] 32
        rw [← e32]; clear e32
        go_wp2_with fail
        refine ((input_pole (l ++ r).reverse f A7 N c7 _ (hC.carry (by repeat (first | with_reducible assumption | exact Below.refl _ _ | refine below_next (by with_reducible assumption) ?_))) HATR.out (by omega) (carry hRb (by repeat (first | with_reducible assumption | exact Below.refl _ _ | refine below_next (by with_reducible assumption) ?_))) HZR.out)).mono ?_
        rintro e w33 ⟨rfl, hb33⟩
        go_upto_region 25 with (fail)
        obtain ⟨w34, e34, hb34, hz34, kB⟩ := box1 w33 #[.int .i64 0, .int .i64 0, .int .i64 0, .int .i64 0] 32
        rw [← e34]; clear e34
        have cA := (carryK (w' := w34) kA (by repeat (first | with_reducible assumption | exact Below.refl _ _ | refine below_next (by with_reducible assumption) ?_))).cell
        have cB := (carryK (w' := w34) kB (by repeat (first | with_reducible assumption | exact Below.refl _ _ | refine below_next (by with_reducible assumption) ?_))).cell
        go_wp2_with fail
        refine (tee_any _ (hC.carry (by repeat (first | with_reducible assumption | exact Below.refl _ _ | refine below_next (by with_reducible assumption) ?_)))).mono ?_
        rintro e wz ⟨rfl, hbz2⟩
        clear cA cB
        go_wp2_with fail
        go_ret
        exact ⟨rfl, (by repeat (first | with_reducible assumption | exact Below.refl _ _ | refine below_next (by with_reducible assumption) ?_))⟩
      · obtain ⟨p, hp⟩ : ∃ p, (chn f .id (l ++ r)).a = p := ⟨_, rfl⟩
        obtain ⟨q, hq⟩ : ∃ q, (chn f .id (l ++ r)).d = q := ⟨_, rfl⟩
        obtain ⟨v, hv⟩ : ∃ v, (chn f .id (l ++ r)).c = v := ⟨_, rfl⟩
        have HZ : Hid (¬ v = .zero) := hv ▸ hzz
        have HP := hide hp
        have HV := hide hv
        have HPR := hide (HA.out.trans hq)
        have HVR := hide (HCC.out.trans hv)
        clear hzz hp hq hv
        go_wp2_with fail
        refine ((input_quo (l ++ r) f A5 N d5 _ (hC.carry (by repeat (first | with_reducible assumption | exact Below.refl _ _ | refine below_next (by with_reducible assumption) ?_))) HAT.out (by omega) (carry hRa (by repeat (first | with_reducible assumption | exact Below.refl _ _ | refine below_next (by with_reducible assumption) ?_))) p v HP.out HV.out HZ.out)).mono ?_
        rintro e w31 ⟨rfl, hb31⟩
        go_upto_region 24 with (fail)
        obtain ⟨w32, e32, hb32, hz32, kA⟩ := box1 w31 #[.int .i64 p.re, .int .i64 p.im, .int .i64 v.re, .int .i64 v.im] 32
        rw [← e32]; clear e32
        go_wp2_with fail
        refine ((input_quo (l ++ r).reverse f A7 N c7 _ (hC.carry (by repeat (first | with_reducible assumption | exact Below.refl _ _ | refine below_next (by with_reducible assumption) ?_))) HATR.out (by omega) (carry hRb (by repeat (first | with_reducible assumption | exact Below.refl _ _ | refine below_next (by with_reducible assumption) ?_))) q v HPR.out HVR.out HZ.out)).mono ?_
        rintro e w33 ⟨rfl, hb33⟩
        go_upto_region 25 with (fail)
        obtain ⟨w34, e34, hb34, hz34, kB⟩ := box1 w33 #[.int .i64 q.re, .int .i64 q.im, .int .i64 v.re, .int .i64 v.im] 32
        rw [← e34]; clear e34
        have cA := (carryK (w' := w34) kA (by repeat (first | with_reducible assumption | exact Below.refl _ _ | refine below_next (by with_reducible assumption) ?_))).cell
        have cB := (carryK (w' := w34) kB (by repeat (first | with_reducible assumption | exact Below.refl _ _ | refine below_next (by with_reducible assumption) ?_))).cell
        go_wp2_with fail
        refine (tee_any _ (hC.carry (by repeat (first | with_reducible assumption | exact Below.refl _ _ | refine below_next (by with_reducible assumption) ?_)))).mono ?_
        rintro e wz ⟨rfl, hbz2⟩
        clear cA cB
        go_wp2_with fail
        go_ret
        exact ⟨rfl, (by repeat (first | with_reducible assumption | exact Below.refl _ _ | refine below_next (by with_reducible assumption) ?_))⟩
theorem lawRws_any (A : Option Addr) (n c : Nat) (l : List El) (B : Option Addr) (m d : Nat) (r : List El) (u : Int) (w : World) (hC : Con w) (hR : Reads w w.heap.size 3 A n (els l)) (hS : Reads w w.heap.size 3 B m (els r)) (hu : 0 ≤ u ∧ u ≤ 255) :
    Calls Tryd.prog 6 #[.slice A n c, .slice B m d, .int .u8 u] w fun e w' => e = .returned (.bool true) ∧ Below w.heap.size w w' := by
  by_cases hn : 2 < n
  · exact lawRws_long1 A n c l B m d r u w hC hR hS hn
  have hn : n ≤ 2 := by omega
  by_cases hm : 2 < m
  · exact lawRws_long2 A n c l B m d r u w hC hR hS hn hm
  have hm : m ≤ 2 := by omega
  by_cases h1 : ladErr l = 0
  · by_cases h2 : ladErr r = 0
    · exact lawRws_good A n c l B m d r u w hC hR hS hu hn hm h1 h2
    · exact lawRws_bad2 A n c l B m d r u w hC hR hS hn hm (by rw [h1]; rfl) (by simpa using h2)
  · exact lawRws_bad1 A n c l B m d r u w hC hR hS hn hm (by simpa using h1)
end Go.Proofs.YthlnmoecmicofaaDoor
