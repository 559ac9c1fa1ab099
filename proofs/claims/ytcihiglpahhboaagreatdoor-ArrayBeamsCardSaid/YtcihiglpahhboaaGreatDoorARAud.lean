/- CheckAudience, Steer, Score, Phased, power4, Best of the reference. -/
import Derived.Test.YtcihiglpahhboaaGreatDoorARPrs
import Derived.Test.YtcihiglpahhboaaGreatDoorARMir
import Derived.Test.YtcihiglpahhboaaGreatDoorBaseB
import Derived.Test.YtcihiglpahhboaaGreatDoorASte
namespace Go.Proofs.YtcihiglpahhboaaGreatDoor
open Go.RowKit Go.Shelf
set_option maxRecDepth 100000
theorem au_some (a : Au) {k : Nat} (hk : k < 8) : a.l[k]? = some (a.l.getD k 0) := by
  rw [List.getD_eq_getElem?_getD, List.getElem?_eq_getElem (show k < a.l.length from hk)]; rfl
set_option maxHeartbeats 2000000 in
theorem rCheckAudience_any (a : Au) (w : World) :
    Calls Tryz.prog 42 #[.agg #[.int .i64 a.a0, .int .i64 a.a1, .int .i64 a.a2, .int .i64 a.a3, .int .i64 a.a4, .int .i64 a.a5, .int .i64 a.a6, .int .i64 a.a7]] w fun e w' => e = .returned (.int .i64 (auE a)) ∧ Below w.heap.size w w' := by
  go_enter Tryz.func42, Tryz.ntmps42
  go_upto_region 1 with (fail)
  obtain ⟨w1, e1, hb1, hz1, k0⟩ := box1 w #[.int .i64 a.a0, .int .i64 a.a1, .int .i64 a.a2, .int .i64 a.a3, .int .i64 a.a4, .int .i64 a.a5, .int .i64 a.a6, .int .i64 a.a7] 64
  rw [← e1]; clear e1
  go_wp2_with fail
  go_loopw [3] (fun i wr => ∃ k : Nat, k ≤ 8 ∧ i = .int .i64 k ∧ Hid (zeros (a.l.map fun n => rng n (-1000) 1000) k) ∧ Blk wr w.heap.size 64 #[.int .i64 a.a0, .int .i64 a.a1, .int .i64 a.a2, .int .i64 a.a3, .int .i64 a.a4, .int .i64 a.a5, .int .i64 a.a6, .int .i64 a.a7] ∧ Below w.heap.size w wr) (fun i _ => 8 - (intOf i).toNat)
  case atStart => exact ⟨0, by omega, rfl, by intro y hy; simp at hy, k0, hb1⟩
  case round =>
    rename World => wo
    clear k0 hb1
    obtain ⟨k, hk, rfl, HZ, kP, hb⟩ := hrel
    by_cases hlt : k < 8
    · have hki : (k : Int) < 8 := by omega
      have i0 := au_cell hlt kP
      have hx : (a.l.map fun n => rng n (-1000) 1000)[k]? = some (rng (a.l.getD k 0) (-1000) 1000) := by rw [List.getElem?_map, au_some a hlt]; rfl
      obtain ⟨z, ez⟩ : ∃ z, a.l.getD k 0 = z := ⟨_, rfl⟩
      rw [ez] at i0 hx
      have HX := hide hx
      clear hx ez
      by_cases h0 : rng z (-1000) 1000 = 0
      · have t0 : (rng z (-1000) 1000 != 0) = false := by rw [h0]; rfl
        have H0 := hide h0
        clear h0
        go_wp2_with (go_at_call 91; refine (checkRange_any _ _ _ _).mono ?_; rintro e W' ⟨rfl, rfl⟩)
        go_roundw
        case rel => exact ⟨k + 1, by omega, by go_num, zeros_succ HZ.out HX.out (by rw [H0.out]; rfl), kP, hb⟩
        case measure => simp [intOf]; omega
      · have t0 : (rng z (-1000) 1000 != 0) = true := by simpa using h0
        have hh : auE a = rng z (-1000) 1000 := fnz_hit HX.out HZ.out (by simpa using h0)
        have HH := hide hh
        clear h0 hh
        go_wp2_with (go_at_call 91; refine (checkRange_any _ _ _ _).mono ?_; rintro e W' ⟨rfl, rfl⟩)
        go_ret
        exact ⟨by rw [HH.out]; rfl, hb⟩
    · obtain rfl : k = 8 := by omega
      have hh : auE a = 0 := zeros_end HZ.out (by simp [Au.l])
      have HH := hide hh
      clear hh
      go_wp2_with fail
      go_ret
      exact ⟨by rw [HH.out]; rfl, hb⟩
set_option maxHeartbeats 4000000 in
theorem rSteer_any (A : Option Addr) (m c : Nat) (l : List Src) (d : Nat) (w : World) (hd : d < 8) (hok : LOk l) (hR : Reads w w.heap.size 4 A m (srcs l)) :
    Calls Tryz.prog 43 #[.slice A m c, .int .i64 (d : Int)] w fun e w' => ∃ v, e = .returned v ∧ w'.ownsRow w.heap.size 78 4 v m (srcs (l.map (str d))) ∧ Below w.heap.size w w' := by
  have HL := hide (srcs_reads_len hR)
  have hm16 : m ≤ 16 := by rw [← HL.out]; exact hok.len
  have HO := hide hok
  clear hok
  go_enter Tryz.func43, Tryz.ntmps43
  go_wp2_with fail
  go_loopw [5, 6] (fun o i wr => ∃ k : Nat, k ≤ m ∧ i = .int .i64 k ∧ wr.ownsRow w.heap.size 78 4 o k (srcs ((l.take k).map (str d))) ∧ Below w.heap.size w wr) (fun _ i _ => m - (intOf i).toNat)
  case atStart => exact ⟨0, by omega, rfl, World.ownsRow_nil _ _ _ _, Below.refl _ _⟩
  case round =>
    rename World => wo
    obtain ⟨k, hk, rfl, ho, hb⟩ := hrel
    by_cases hlt : k < m
    · obtain ⟨ad, s, rfl, _, hx, hc⟩ := src_hit (carry hR hb) hlt (Nat.le_refl _)
      obtain ⟨d0, d1, d2, d3⟩ := hc wo (Below.refl _ _)
      have hs := HO.out.all s (List.mem_of_getElem? hx)
      have hp := pth_in hs d
      obtain ⟨p, ep⟩ : ∃ p, pth s d = p := ⟨_, rfl⟩
      obtain ⟨q, eq⟩ : ∃ q, -p = q := ⟨_, rfl⟩
      obtain ⟨r, er⟩ : ∃ r, q % 4 = r := ⟨_, rfl⟩
      rw [ep] at hp
      have r1 : wrap64 (-p) = q := by rw [← eq]; unfold wrap64; omega
      have r2 := tmod4_1 q
      have r3 := tmod4_2 q
      rw [er] at r3
      have r4 : wrap64 (r + 2) = r + 2 := by unfold wrap64; omega
      have r5 : (r + 2).tmod 4 = (r + 2) % 4 := Int.tmod_eq_emod_of_nonneg (by omega)
      have EST : Hid (str d s = ⟨s.x, s.y, s.g, if s.g < 0 then (r + 2) % 4 else r⟩) := by show _ = _; unfold str; rw [ep, eq, er]
      have HP := hide ep
      have HS := hide hs
      have HX := hide hx
      have A1 : k + 1 ≤ maxLen := by unfold maxLen; omega
      have A2 : (k + 1) * 32 ≤ 140737488355328 := by omega
      clear hx hs hc ep eq er hp
      go_upto_region 6 with (fail)
      obtain ⟨w4, e4, hb4, hz4, k4⟩ := box1 wo #[.int .i64 s.x, .int .i64 s.y, .int .i64 s.g, .int .i64 s.p] 78
      rw [← e4]; clear e4 d0 d1 d2 d3
      have c4 := k4.cell
      have ho4 := row_below ho hb4
      have hnr : _ ≠ some wo.heap.size := fun e => Nat.lt_irrefl _ (ho.lt _ e).2
      have hbw4 := below_next hb hb4
      have hwo : w.heap.size ≤ wo.heap.size := hb.size
      clear ho hb
      go_wp2_with fail
      refine (rPath_any s d hd HS.out _).mono ?_
      rintro e w5 ⟨rfl, hb5⟩
      rw [HP.out]
      have k5 := carryK k4 hb5
      have ho5 := row_below ho4 hb5
      have hbw5 := below_next hbw4 hb5
      clear k4 c4 ho4 hbw4 hb4 hb5
      have c5 := k5.cell
      have f5 := k5.frozen
      by_cases hg : s.g < 0
      · have EST2 : Hid (str d s = ⟨s.x, s.y, s.g, (r + 2) % 4⟩) := by show _ = _; rw [EST.out, if_pos hg]
        go_upto_region 7 with (fail)
        have k6 : Blk _ wo.heap.size 78 #[.int .i64 s.x, .int .i64 s.y, .int .i64 s.g, .int .i64 r] := k5.set_ 3 (.int .i64 r)
        have ho6 := ownsRow_setCell_other (a := ⟨wo.heap.size, 3, none⟩) ho5 hnr (.int .i64 r)
        have hb6 := below_set hbw5 hwo (i := 3) (.int .i64 r)
        clear c5 f5 k5 ho5 hbw5
        generalize World.setCell _ _ _ = V at k6 ho6 hb6 ⊢
        have c6 := k6.cell
        have f6 := k6.frozen
        go_upto_region 9 with (fail)
        have k7 : Blk (V.setCell ⟨wo.heap.size, 3, none⟩ (.int .i64 ((r + 2) % 4))) wo.heap.size 78 #[.int .i64 (str d s).x, .int .i64 (str d s).y, .int .i64 (str d s).g, .int .i64 (str d s).p] := by rw [EST2.out]; exact k6.set_ 3 (.int .i64 ((r + 2) % 4))
        have ho7 := ownsRow_setCell_other (a := ⟨wo.heap.size, 3, none⟩) ho6 hnr (.int .i64 ((r + 2) % 4))
        have hb7 := below_set hb6 hwo (i := 3) (.int .i64 ((r + 2) % 4))
        clear c6 f6 k6 ho6 hb6
        generalize World.setCell _ _ _ = V at k7 ho7 hb7 ⊢
        have k6 := k7
        have ho6 := ho7
        have hb6 := hb7
        clear k7 ho7 hb7
        have c5 := k6.cell
        go_wp2_with (at_builtin; refine wpList_push _ rfl (.tmp 34) (.tmp 36) _ rfl w.heap.size 78 _ 4 32 Tryz.underlying22 info_srcR rfl (by decide) _ k _ rfl (ho6.alloc _) V.heap.size (srcCells (str d s)) rfl rfl (src_new1 V (str d s) _) (one_src _) A1 A2 (le_alloc hb6.size _) ?_; intro v1 w8 ho8 hb8)
        go_roundw
        case rel => exact ⟨k + 1, by omega, by go_num, by rw [srcs_map_snoc _ HX.out]; exact ho8, (hb6.alloc hb6.size _).trans hb8⟩
        case measure => simp [intOf]; omega
      · have EST2 : Hid (str d s = ⟨s.x, s.y, s.g, r⟩) := by show _ = _; rw [EST.out, if_neg hg]
        go_upto_region 7 with (fail)
        have k6 : Blk (w5.setCell ⟨wo.heap.size, 3, none⟩ (.int .i64 r)) wo.heap.size 78 #[.int .i64 (str d s).x, .int .i64 (str d s).y, .int .i64 (str d s).g, .int .i64 (str d s).p] := by rw [EST2.out]; exact k5.set_ 3 (.int .i64 r)
        have ho6 := ownsRow_setCell_other (a := ⟨wo.heap.size, 3, none⟩) ho5 hnr (.int .i64 r)
        have hb6 := below_set hbw5 hwo (i := 3) (.int .i64 r)
        clear c5 f5 k5 ho5 hbw5
        generalize World.setCell _ _ _ = V at k6 ho6 hb6 ⊢
        have eg : (str d s).g = s.g := by rw [EST2.out]
        have c6 : V.cell? ⟨wo.heap.size, 2, none⟩ = some (.int .i64 s.g) := by rw [k6.cell]; simp [eg]
        have EG := hide eg
        clear eg
        go_upto_region 9 with (fail)
        clear c6
        have c5 := k6.cell
        go_wp2_with (at_builtin; refine wpList_push _ rfl (.tmp 34) (.tmp 36) _ rfl w.heap.size 78 _ 4 32 Tryz.underlying22 info_srcR rfl (by decide) _ k _ rfl (ho6.alloc _) V.heap.size (srcCells (str d s)) rfl rfl (src_new1 V (str d s) _) (one_src _) A1 A2 (le_alloc hb6.size _) ?_; intro v1 w8 ho8 hb8)
        go_roundw
        case rel => exact ⟨k + 1, by omega, by go_num, by rw [srcs_map_snoc _ HX.out]; exact ho8, (hb6.alloc hb6.size _).trans hb8⟩
        case measure => simp [intOf]; omega
    · obtain rfl : k = m := by omega
      rw [List.take_of_length_le (by rw [HL.out]; omega)] at ho
      go_wp2_with fail
      go_ret
      exact ⟨_, rfl, ho, hb⟩
set_option maxHeartbeats 4000000 in
theorem rScore_any (A : Option Addr) (m c : Nat) (l : List Src) (a : Au) (w : World) (hok : LOk l) (ha : ∀ k, -1000 ≤ a.l.getD k 0 ∧ a.l.getD k 0 ≤ 1000) (hR : Reads w w.heap.size 4 A m (srcs l)) :
    Calls Tryz.prog 44 #[.slice A m c, .agg #[.int .i64 a.a0, .int .i64 a.a1, .int .i64 a.a2, .int .i64 a.a3, .int .i64 a.a4, .int .i64 a.a5, .int .i64 a.a6, .int .i64 a.a7]] w fun e w' => e = .returned (.int .i64 (scr l a.l)) ∧ Below w.heap.size w w' := by
  have HO := hide hok
  have HA := hide ha
  clear hok ha
  go_enter Tryz.func44, Tryz.ntmps44
  go_upto_region 1 with (fail)
  obtain ⟨w1, e1, hb1, hz1, k0⟩ := box1 w #[.int .i64 a.a0, .int .i64 a.a1, .int .i64 a.a2, .int .i64 a.a3, .int .i64 a.a4, .int .i64 a.a5, .int .i64 a.a6, .int .i64 a.a7] 64
  rw [← e1]; clear e1
  go_wp2_with fail
  go_loopw [5, 6] (fun s i wr => ∃ k : Nat, k ≤ 8 ∧ i = .int .i64 k ∧ s = .int .i64 (scrK l a.l k) ∧ Blk wr w.heap.size 64 #[.int .i64 a.a0, .int .i64 a.a1, .int .i64 a.a2, .int .i64 a.a3, .int .i64 a.a4, .int .i64 a.a5, .int .i64 a.a6, .int .i64 a.a7] ∧ Below w.heap.size w wr) (fun _ i _ => 8 - (intOf i).toNat)
  case atStart => exact ⟨0, by omega, rfl, rfl, k0, hb1⟩
  case round =>
    rename World => wo
    clear k0 hb1
    obtain ⟨k, hk, rfl, rfl, kA, hb⟩ := hrel
    by_cases hlt : k < 8
    · have hki : (k : Int) < 8 := by omega
      have hin := scrK_in HO.out HA.out k
      have hin2 := scrK_in HO.out HA.out (k + 1)
      have hsq := prs_sq HO.out k
      have hstep := scrK_succ l a.l k
      have ha2 := HA.out k
      obtain ⟨S, hS⟩ : ∃ S, scrK l a.l k = S := ⟨_, rfl⟩
      rw [hS] at hin hstep
      have HSS := hide hS
      rw [HSS.out]
      have i0 := au_cell hlt kA
      obtain ⟨y, hy⟩ : ∃ y, a.l.getD k 0 = y := ⟨_, rfl⟩
      rw [hy] at hstep ha2 i0
      have c0 : ∀ x, (over wo.heap.size wo x).cell? ⟨w.heap.size, k, none⟩ = some (.int .i64 y) := fun x => ((over_below _ _ _).cell (p := ⟨w.heap.size, k, none⟩) kA.lt).trans i0
      obtain ⟨q, hq⟩ : ∃ q, (prs l k).sq = q := ⟨_, rfl⟩
      rw [hq] at hstep hsq
      have hm1 : wrap64 (y * q) = y * q := by
        have h1 : y * q ≤ 1000 * q := Int.mul_le_mul_of_nonneg_right (by omega) (by omega)
        have h2 : -1000 * q ≤ y * q := Int.mul_le_mul_of_nonneg_right (by omega) (by omega)
        unfold wrap64; omega
      have hm2 : wrap64 (S + y * q) = S + y * q := by
        rw [hstep] at hin2
        unfold wrap64; omega
      have hwq : wr q = q := wr_in (by omega)
      have HST := hide hstep
      have HC : Hid (∀ W, Calls Tryz.prog 63 #[.agg #[.int .i64 (prs l k).re, .int .i64 (prs l k).im]] W fun e W' => e = .returned (.int .i64 q) ∧ Below W.heap.size W W') := fun W => by
        have := rSquare_any (prs l k) W
        rw [hq, hwq] at this
        exact this
      clear hS hy hq hin hin2 hsq hstep ha2 hwq i0
      go_upto_region 5 with (fail)
      refine wp_region_part 11 wo.heap.size (by kernel_rfl) (by kernel_rfl) ?_; simp only [List.take_succ_cons, List.take_zero, List.drop_succ_cons, List.drop_zero]; (repeat (first | go_big_quiet_step (first | (go_at_call 61; exact over_call (Nat.le_refl _) (rPressure_any A m c l k _ hlt HO.out (carry (carry hR hb) (over_below _ _ _)))) | (go_at_call 63; exact over_call (Nat.le_refl _) (HC.out _))) | quiet_step (first | (go_at_call 61; exact over_call (Nat.le_refl _) (rPressure_any A m c l k _ hlt HO.out (carry (carry hR hb) (over_below _ _ _)))) | (go_at_call 63; exact over_call (Nat.le_refl _) (HC.out _))))); refine wpQuiet_nil ?_; rintro W ⟨x, rfl⟩
      have hbY := over_below wo.heap.size wo x
      generalize over wo.heap.size wo x = Y at hbY ⊢
      clear c0
      have kAY := carryK kA hbY
      have hbwY := below_next hb hbY
      clear kA hb hbY
      go_wp2_with fail
      go_roundw
      case rel => exact ⟨k + 1, by omega, by go_num, by rw [HST.out, hm2], kAY, hbwY⟩
      case measure => simp [intOf]; omega
    · obtain rfl : k = 8 := by omega
      go_wp2_with fail
      go_ret
      exact ⟨rfl, hb⟩
/-! ### Phases -/
structure RowR (W : World) (A : Option Addr) (n B : Nat) (l : List Src) : Prop where
  len : l.length = n
  blk : 0 < n → ∃ g sp, A = some ⟨g, 0, none⟩ ∧ B ≤ g ∧ Blk W g 78 (srcs l ++ sp).toArray
theorem RowR.reads {W : World} {A : Option Addr} {n B : Nat} {l : List Src} (h : RowR W A n B l) : Reads W W.heap.size 4 A n (srcs l) := by
  refine ⟨by rw [srcs_len, h.len], fun hn => ?_⟩
  obtain ⟨g, sp, rfl, _, hk⟩ := h.blk hn
  refine ⟨_, rfl, hk.lt, fun j u hu => ?_⟩
  have : (⟨g, 0, none⟩ : Addr).add j = ⟨g, j, none⟩ := by unfold Addr.add; split <;> simp_all
  rw [this, hk.cell, List.getElem?_toArray, List.getElem?_append_left (List.getElem?_eq_some_iff.1 hu).1]
  exact hu
theorem RowR.of_own {W : World} {B n : Nat} {v : Value} {l : List Src} (h : W.ownsRow B 78 4 v n (srcs l)) (hl : l.length = n) : ∃ A c, v = .slice A n c ∧ RowR W A n B l := by
  rcases h.2 with ⟨rfl, rfl⟩ | ⟨g, cap, cur, rfl, hg, hh, hcap, hmx, hcs, htk⟩
  · exact ⟨none, 0, rfl, hl, fun hn => by omega⟩
  · refine ⟨_, cap, rfl, hl, fun _ => ?_⟩
    have e : (srcs l ++ cur.toList.drop (n * 4)).toArray = cur := by rw [← htk, List.take_append_drop]
    exact ⟨g, cur.toList.drop (n * 4), rfl, hg, by rw [e]; exact hh⟩
set_option maxHeartbeats 4000000 in
theorem rPhased_any (A : Option Addr) (m c : Nat) (l : List Src) (N : Nat) (w : World) (hm : m ≤ 16) (hN : N ≤ 1000000000) (hR : Reads w w.heap.size 4 A m (srcs l)) :
    Calls Tryz.prog 106 #[.slice A m c, .int .i64 (N : Int)] w fun e w' => ∃ A' c', e = .returned (.slice A' m c') ∧ Reads w' w'.heap.size 4 A' m (srcs (ph l N)) ∧ Below w.heap.size w w' := by
  have HL := hide (srcs_reads_len hR)
  go_enter Tryz.func106, Tryz.ntmps106
  go_wp2_with (at_builtin; refine wpList_copiedO w rfl (.tmp 7) (.tmp 8) 22 (by rfl) 78 _ 4 32 Tryz.underlying22 info_srcR rfl (by decide) (by decide) (by rfl) A m c (srcs l) (by rfl) hR (srcs_one _) (by omega) ?_; intro v8 w2 ho2 hb2; obtain ⟨A2, c2, rfl, row2⟩ := RowR.of_own ho2 HL.out; clear ho2)
  go_loopw [1, 6] (fun u i wr => ∃ k M : Nat, k ≤ m ∧ i = .int .i64 ((m : Int) - 1 - (k : Int)) ∧ u = .int .i64 (M : Int) ∧ Hid (M = N / 4 ^ k) ∧ RowR wr A2 m w.heap.size (mix l (ph l N) (m - k)) ∧ Below w.heap.size w wr) (fun _ i _ => (intOf i + 1).toNat)
  case atStart =>
    refine ⟨0, N, by omega, by simp, rfl, ?_, ?_, hb2⟩
    · show N = N / 4 ^ 0
      simp
    · have e : mix l (ph l N) (m - 0) = l := mix_all (ph_len l N).symm (by rw [ph_len, HL.out]; omega)
      rw [e]; exact row2
  case round =>
    rename World => wo
    obtain ⟨k, M, hk, rfl, rfl, HM, kR, hb⟩ := hrel
    clear row2 hb2
    by_cases hlt : k < m
    · obtain ⟨j, hj⟩ : ∃ j, m - k = j + 1 := ⟨m - k - 1, by omega⟩
      have ej : (m : Int) - 1 - (k : Int) = (j : Int) := by omega
      rw [hj] at kR
      rw [ej]
      obtain ⟨g, sp, rfl, hBg, kB⟩ := kR.blk (by omega)
      have hjl : j < l.length := by rw [HL.out]; omega
      obtain ⟨s, hs⟩ : ∃ s, l[j]? = some s := ⟨_, List.getElem?_eq_getElem hjl⟩
      have hmx : (mix l (ph l N) (j + 1))[j]? = some s := by rw [mix_at (ph_len l N).symm, if_pos (by omega)]; exact hs
      have hin : (ph l N)[j]? = some (s.at ((M : Int) % 4)) := by
        have hh := ph_at (n := N) hs
        rw [show l.length - 1 - j = k by rw [HL.out]; omega, ← HM.out] at hh
        exact hh
      obtain ⟨d0, d1, d2, d3⟩ := blk_hitS kB hmx
      have f3 := kB.frozen (j * 4 + 3)
      have kX := blk_srcS (s' := s.at ((M : Int) % 4)) (j := 3) (v := .int .i64 ((M : Int) % 4)) kB hmx (by omega) rfl
      rw [mix_back (ph_len l N).symm hin] at kX
      have hX : Below w.heap.size w (wo.setCell ⟨g, j * 4 + 3, none⟩ (.int .i64 ((M : Int) % 4))) := below_set hb hBg _
      have hlen : (mix l (ph l N) j).length = m := by rw [mix_len (ph_len l N).symm, ph_len, HL.out]
      have hRow : RowR (wo.setCell ⟨g, j * 4 + 3, none⟩ (.int .i64 ((M : Int) % 4))) (some ⟨g, 0, none⟩) m w.heap.size (mix l (ph l N) j) := ⟨hlen, fun _ => ⟨g, sp, rfl, hBg, kX⟩⟩
      have ha : (⟨g, 0, none⟩ : Addr).add (j * 4) = ⟨g, j * 4, none⟩ := by unfold Addr.add; split <;> simp_all
      have g1 : (0 : Int) ≤ (j : Int) := by omega
      have g2 : (j : Int) < (m : Int) := by omega
      have hMb : M ≤ 1000000000 := by rw [HM.out]; exact Nat.le_trans (Nat.div_le_self _ _) hN
      have HJ := hide hj
      have HRow := hide hRow
      have HX := hide hX
      clear hmx hin kB kX hRow hX hs hj hlen kR hb
      go_wp2_with fail
      go_roundw
      case rel =>
        have ejk : m - (k + 1) = j := by have := HJ.out; omega
        refine ⟨k + 1, M / 4, by omega, by rw [show (m : Int) - 1 - ((k + 1 : Nat) : Int) = (j : Int) - 1 by omega], by go_num, ?_, by rw [ejk]; exact HRow.out, HX.out⟩
        show M / 4 = N / 4 ^ (k + 1)
        rw [HM.out, Nat.div_div_eq_div_mul, Nat.pow_succ]
      case measure => simp [intOf]
    · obtain rfl : k = m := by omega
      have em : (k : Int) - 1 - (k : Int) = -1 := by omega
      rw [em]
      rw [show k - k = 0 by omega, mix_zero] at kR
      go_wp2_with fail
      go_ret
      exact ⟨A2, c2, rfl, kR.reads, hb⟩
set_option maxHeartbeats 1000000 in
theorem rPower4_any (n : Nat) (w : World) (hn : n ≤ 16) :
    Calls Tryz.prog 107 #[.int .i64 (n : Int)] w fun e w' => e = .returned (.int .i64 ((4 ^ n : Nat) : Int)) ∧ w = w' := by
  go_enter Tryz.func107, Tryz.ntmps107
  go_wp2_with fail
  go_loopw [3, 4] (fun o i wr => ∃ k p : Nat, k ≤ n ∧ i = .int .i64 k ∧ o = .int .i64 (p : Int) ∧ Hid (p = 4 ^ k) ∧ w = wr) (fun _ i _ => n - (intOf i).toNat)
  case atStart => exact ⟨0, 1, by omega, rfl, rfl, rfl, rfl⟩
  case round =>
    obtain ⟨k, p, hk, rfl, rfl, HP, rfl⟩ := hrel
    by_cases hlt : k < n
    · have hp : p ≤ 4 ^ 16 := by rw [HP.out]; exact Nat.pow_le_pow_right (by decide) (by omega)
      have h4 : wrap64 (4 * (p : Int)) = ((4 * p : Nat) : Int) := by
        have : (4 : Nat) ^ 16 = 4294967296 := by decide
        unfold wrap64; omega
      clear hp
      go_wp2_with fail
      go_roundw
      case rel =>
        first
          | exact ⟨k + 1, 4 * p, by omega, by go_num, by go_num, by show 4 * p = 4 ^ (k + 1); rw [HP.out, Nat.pow_succ, Nat.mul_comm], trivial⟩
          | exact ⟨k + 1, 4 * p, by omega, by go_num, by go_num, by show 4 * p = 4 ^ (k + 1); rw [HP.out, Nat.pow_succ, Nat.mul_comm], rfl⟩
      case measure => simp [intOf]; omega
    · obtain rfl : k = n := by omega
      go_wp2_with fail
      go_ret
      exact ⟨by rw [HP.out]; rfl, rfl⟩
set_option maxHeartbeats 4000000 in
theorem rBest_any (A : Option Addr) (m c : Nat) (l : List Src) (a : Au) (w : World) (hok : LOk l) (h6 : m ≤ 6) (ha : ∀ k, -1000 ≤ a.l.getD k 0 ∧ a.l.getD k 0 ≤ 1000) (hR : Reads w w.heap.size 4 A m (srcs l)) :
    Calls Tryz.prog 45 #[.slice A m c, .agg #[.int .i64 a.a0, .int .i64 a.a1, .int .i64 a.a2, .int .i64 a.a3, .int .i64 a.a4, .int .i64 a.a5, .int .i64 a.a6, .int .i64 a.a7]] w fun e w' => ∃ A' c', e = .returned (.tuple #[.slice A' m c', .int .i64 (scr (bst l a.l) a.l)]) ∧ Reads w' w'.heap.size 4 A' m (srcs (bst l a.l)) ∧ Below w.heap.size w w' := by
  have HL := hide (srcs_reads_len hR)
  have HO := hide hok
  have HA := hide ha
  obtain ⟨F, hF⟩ : ∃ F, 4 ^ m = F := ⟨_, rfl⟩
  have hF1 : 0 < F := by rw [← hF]; exact Nat.pos_of_ne_zero (by simp)
  have hF2 : F ≤ 4096 := by rw [← hF]; exact Nat.pow_le_pow_right (n := 4) (by decide) h6
  have HP : Hid (∀ W, Calls Tryz.prog 107 #[.int .i64 (m : Int)] W fun e W' => e = .returned (.int .i64 (F : Int)) ∧ W = W') := fun W => by
    have := rPower4_any m W (by omega)
    rw [hF] at this
    exact this
  have HB : Hid (bst l a.l = ph l (bstN l a.l (F - 1))) := by show _ = _; unfold bst; rw [HL.out, hF]
  clear hok ha hF
  go_enter Tryz.func45, Tryz.ntmps45
  go_upto_region 1 with (fail)
  obtain ⟨w1, e1, hb1, hz1, k0⟩ := box1 w #[.int .i64 a.a0, .int .i64 a.a1, .int .i64 a.a2, .int .i64 a.a3, .int .i64 a.a4, .int .i64 a.a5, .int .i64 a.a6, .int .i64 a.a7] 64
  rw [← e1]; clear e1
  go_wp2_with fail
  refine (rPhased_any A m c l 0 _ (by omega) (by omega) (carry hR hb1)).mono ?_
  rintro e w2 ⟨A2, c2, rfl, hR2, hb2⟩
  have k2 := carryK k0 hb2
  have hb02 : Below w.heap.size w w2 := (by repeat (first | with_reducible assumption | exact Below.refl _ _ | refine below_next (by with_reducible assumption) ?_))
  have c0 := k2.cell
  clear k0 hb1 hb2
  go_wp2_with fail
  refine (rScore_any A2 m c2 (ph l 0) a _ (ph_ok HO.out 0) HA.out hR2).mono ?_
  rintro e w3 ⟨rfl, hb3⟩
  have k3 := carryK k2 hb3
  have hR3 := carry hR2 hb3
  have hb03 := below_next hb02 hb3
  clear k2 c0 hR2 hb02 hb3
  go_wp2_with fail
  go_loopw [6, 7, 8] (fun o s i wr => ∃ N : Nat, N + 1 ≤ F ∧ i = .int .i64 ((N : Int) + 1) ∧ s = .int .i64 (scr (ph l (bstN l a.l N)) a.l) ∧ (∃ A' c', o = .slice A' m c' ∧ Reads wr wr.heap.size 4 A' m (srcs (ph l (bstN l a.l N)))) ∧ Blk wr w.heap.size 64 #[.int .i64 a.a0, .int .i64 a.a1, .int .i64 a.a2, .int .i64 a.a3, .int .i64 a.a4, .int .i64 a.a5, .int .i64 a.a6, .int .i64 a.a7] ∧ Below w.heap.size w wr) (fun _ _ i _ => F - (intOf i).toNat)
  case atStart => exact ⟨0, hF1, rfl, rfl, ⟨A2, c2, rfl, hR3⟩, k3, hb03⟩
  case round =>
    rename World => wo
    clear hR3 k3 hb03
    obtain ⟨N, hN, rfl, rfl, ⟨A4, c4, rfl, hR4⟩, kA, hb⟩ := hrel
    by_cases hlt : N + 1 < F
    · have hlt' : (N : Int) + 1 < (F : Int) := by omega
      have HPH : Hid (∀ W, Reads W W.heap.size 4 A m (srcs l) → Calls Tryz.prog 106 #[.slice A m c, .int .i64 ((N : Int) + 1)] W fun e W' => ∃ A' c', e = .returned (.slice A' m c') ∧ Reads W' W'.heap.size 4 A' m (srcs (ph l (N + 1))) ∧ Below W.heap.size W W') := fun W h => by
        have := rPhased_any A m c l (N + 1) W (by omega) (by omega) h
        exact this
      go_wp2_with (go_at_call 107; refine (HP.out _).mono ?_; rintro e W' ⟨rfl, rfl⟩)
      refine (HPH.out _ (carry hR hb)).mono ?_
      rintro e w5 ⟨A5, c5, rfl, hR5, hb5⟩
      have k5 := carryK kA hb5
      have hR45 := carry hR4 hb5
      have hb05 := below_next hb hb5
      have cA := k5.cell
      clear kA hR4 hb hb5
      go_wp2_with fail
      refine (rScore_any A5 m c5 (ph l (N + 1)) a _ (ph_ok HO.out (N + 1)) HA.out hR5).mono ?_
      rintro e w6 ⟨rfl, hb6⟩
      have k6 := carryK k5 hb6
      have hR46 := carry hR45 hb6
      have hR56 := carry hR5 hb6
      have hb06 := below_next hb05 hb6
      clear k5 cA hR45 hR5 hb05 hb6
      obtain ⟨S, hS⟩ : ∃ S, scr (ph l (bstN l a.l N)) a.l = S := ⟨_, rfl⟩
      obtain ⟨S', hS'⟩ : ∃ S', scr (ph l (N + 1)) a.l = S' := ⟨_, rfl⟩
      rw [hS, hS']
      by_cases hc : S < S'
      · have e1 : bstN l a.l (N + 1) = N + 1 := by show (if scr (ph l (bstN l a.l N)) a.l < scr (ph l (N + 1)) a.l then N + 1 else bstN l a.l N) = _; rw [hS, hS', if_pos hc]
        have E1 := hide e1
        have ES' := hide hS'
        have cA := k6.cell
        clear e1 hS hS'
        go_wp2_with fail
        refine (rScore_any A5 m c5 (ph l (N + 1)) a _ (ph_ok HO.out (N + 1)) HA.out hR56).mono ?_
        rintro e w7 ⟨rfl, hb7⟩
        have k7 := carryK k6 hb7
        have hR57 := carry hR56 hb7
        have hb07 := below_next hb06 hb7
        clear k6 cA hR46 hR56 hb06 hb7
        go_wp2_with fail
        go_roundw
        case rel => exact ⟨N + 1, by omega, by go_num, by rw [E1.out], ⟨A5, c5, rfl, by rw [E1.out]; exact hR57⟩, k7, hb07⟩
        case measure => simp [intOf]; omega
      · have e1 : bstN l a.l (N + 1) = bstN l a.l N := by show (if scr (ph l (bstN l a.l N)) a.l < scr (ph l (N + 1)) a.l then N + 1 else bstN l a.l N) = _; rw [hS, hS', if_neg hc]
        have E1 := hide e1
        have ES := hide hS
        clear e1 hS hS'
        go_wp2_with fail
        go_roundw
        case rel => exact ⟨N + 1, by omega, by go_num, by rw [E1.out, ES.out], ⟨A4, c4, rfl, by rw [E1.out]; exact hR46⟩, k6, hb06⟩
        case measure => simp [intOf]; omega
    · have hNF : ¬ (N : Int) + 1 < (F : Int) := by omega
      have eb : bst l a.l = ph l (bstN l a.l N) := by rw [HB.out, show F - 1 = N by omega]
      have EB := hide eb
      clear eb
      go_wp2_with (go_at_call 107; refine (HP.out _).mono ?_; rintro e W' ⟨rfl, rfl⟩)
      go_ret2
      exact ⟨A4, c4, by rw [EB.out]; rfl, by rw [EB.out]; exact hR4, hb⟩
end Go.Proofs.YtcihiglpahhboaaGreatDoor
