/- Pattern, Nulls, Directivity of the reference. -/
import Derived.Test.YtcihiglpahhboaaGreatDoorARPrs
import Derived.Test.YtcihiglpahhboaaGreatDoorANul
import Derived.Test.YtcihiglpahhboaaGreatDoorADir
namespace Go.Proofs.YtcihiglpahhboaaGreatDoor
open Go.RowKit Go.Shelf
set_option maxRecDepth 100000
set_option maxHeartbeats 2000000 in
theorem rPattern_any (A : Option Addr) (m c : Nat) (l : List Src) (w : World) (hok : LOk l) (hR : Reads w w.heap.size 4 A m (srcs l)) :
    Calls Tryz.prog 52 #[.slice A m c] w fun e w' => e = .returned (.agg #[.int .i64 (prs l 0).re, .int .i64 (prs l 0).im, .int .i64 (prs l 1).re, .int .i64 (prs l 1).im, .int .i64 (prs l 2).re, .int .i64 (prs l 2).im, .int .i64 (prs l 3).re, .int .i64 (prs l 3).im, .int .i64 (prs l 4).re, .int .i64 (prs l 4).im, .int .i64 (prs l 5).re, .int .i64 (prs l 5).im, .int .i64 (prs l 6).re, .int .i64 (prs l 6).im, .int .i64 (prs l 7).re, .int .i64 (prs l 7).im]) ∧ Below w.heap.size w w' := by
  have HO := hide hok
  clear hok
  go_enter Tryz.func52, Tryz.ntmps52
  go_upto_region 2 with (fail)
  obtain ⟨w1, e1, hb1, hz1, k0, k1⟩ := box2 w #[.int .i64 0, .int .i64 0, .int .i64 0, .int .i64 0, .int .i64 0, .int .i64 0, .int .i64 0, .int .i64 0, .int .i64 0, .int .i64 0, .int .i64 0, .int .i64 0, .int .i64 0, .int .i64 0, .int .i64 0, .int .i64 0] #[.int .i64 0, .int .i64 0, .int .i64 0, .int .i64 0, .int .i64 0, .int .i64 0, .int .i64 0, .int .i64 0, .int .i64 0, .int .i64 0, .int .i64 0, .int .i64 0, .int .i64 0, .int .i64 0, .int .i64 0, .int .i64 0] 55 55
  rw [← e1]; clear e1
  go_wp2_with fail
  go_loopw [4] (fun i wr => ∃ k : Nat, k ≤ 8 ∧ i = .int .i64 k ∧ Blk wr w.heap.size 55 z16 ∧ Blk wr (w.heap.size + 1) 55 (pcs (prs l) k).toArray ∧ Below w.heap.size w wr) (fun i _ => 8 - (intOf i).toNat)
  case atStart => exact ⟨0, by omega, rfl, k0, k1, hb1⟩
  case round =>
    rename World => wo
    clear k0 k1 hb1
    obtain ⟨k, hk, rfl, k0, k1, hb⟩ := hrel
    by_cases hlt : k < 8
    · have hki : (k : Int) < 8 := by omega
      go_wp2_with fail
      refine (rPressure_any A m c l k _ hlt HO.out (carry hR hb)).mono ?_
      rintro e w2 ⟨rfl, hb2⟩
      have k0 := carryK k0 hb2
      have k1 := carryK k1 hb2
      have hbb := below_next hb hb2
      have hl1 := k1.lt
      have f1 := k1.frozen
      obtain ⟨v0, hv0⟩ : ∃ v, w2.cell? ⟨w.heap.size + 1, k * 2, none⟩ = some v := by rw [k1.cell, List.getElem?_toArray]; exact ⟨_, List.getElem?_eq_getElem (by rw [pcs_len]; omega)⟩
      obtain ⟨v1, hv1⟩ : ∃ v, w2.cell? ⟨w.heap.size + 1, k * 2 + 1, none⟩ = some v := by rw [k1.cell, List.getElem?_toArray]; exact ⟨_, List.getElem?_eq_getElem (by rw [pcs_len]; omega)⟩
      go_wp2_with fail
      go_roundw
      case rel => exact ⟨k + 1, by omega, by go_num, (k0.far (p := ⟨w.heap.size + 1, _, none⟩) (by show w.heap.size ≠ w.heap.size + 1; omega) _).far (p := ⟨w.heap.size + 1, _, none⟩) (by show w.heap.size ≠ w.heap.size + 1; omega) _, pcs_set hlt k1, below_set (below_set hbb (by omega) _) (by omega) _⟩
      case measure => simp [intOf]; omega
    · obtain rfl : k = 8 := by omega
      rw [pcs_all] at k1
      have k0 : Blk wo w.heap.size 55 #[.int .i64 0, .int .i64 0, .int .i64 0, .int .i64 0, .int .i64 0, .int .i64 0, .int .i64 0, .int .i64 0, .int .i64 0, .int .i64 0, .int .i64 0, .int .i64 0, .int .i64 0, .int .i64 0, .int .i64 0, .int .i64 0] := k0
      have c1 := k1.cell
      have c0 := k0.cell
      have f0 := k0.frozen
      go_wp2_with fail
      with_reducible refine fins16 55 hb (Nat.le_refl w.heap.size) k0 (fun X hX kX => ?_)
      have cX := kX.cell
      refine bodyPost_ret (v := .agg #[.int .i64 (prs l 0).re, .int .i64 (prs l 0).im, .int .i64 (prs l 1).re, .int .i64 (prs l 1).im, .int .i64 (prs l 2).re, .int .i64 (prs l 2).im, .int .i64 (prs l 3).re, .int .i64 (prs l 3).im, .int .i64 (prs l 4).re, .int .i64 (prs l 4).im, .int .i64 (prs l 5).re, .int .i64 (prs l 5).im, .int .i64 (prs l 6).re, .int .i64 (prs l 6).im, .int .i64 (prs l 7).re, .int .i64 (prs l 7).im]) (by simp [results, Tryz.results52, go_sem, cX]) rfl ?_
      exact ⟨rfl, hX⟩
set_option maxHeartbeats 2000000 in
theorem rNulls_any (A : Option Addr) (m c : Nat) (l : List Src) (w : World) (hok : LOk l) (hR : Reads w w.heap.size 4 A m (srcs l)) :
    Calls Tryz.prog 54 #[.slice A m c] w fun e w' => ∃ v, e = .returned v ∧ w'.ownsRow w.heap.size 3 1 v (nulK l 8).length (ints (nulK l 8)) ∧ Below w.heap.size w w' := by
  have HO := hide hok
  clear hok
  go_enter Tryz.func54, Tryz.ntmps54
  go_wp2_with fail
  go_loopw [3, 4] (fun v i wr => ∃ k : Nat, k ≤ 8 ∧ i = .int .i64 k ∧ wr.ownsRow w.heap.size 3 1 v (nulK l k).length (ints (nulK l k)) ∧ Below w.heap.size w wr) (fun _ i _ => 8 - (intOf i).toNat)
  case atStart => exact ⟨0, by omega, rfl, World.ownsRow_nil _ _ _ _, Below.refl _ _⟩
  case round =>
    rename World => wo
    obtain ⟨k, hk, rfl, ho, hb⟩ := hrel
    by_cases hlt : k < 8
    · have hki : (k : Int) < 8 := by omega
      have hln := nulK_len l k
      have hsu := nulK_succ l k
      have HSU := hide hsu
      clear hsu
      go_wp2_with fail
      refine (rPressure_any A m c l k _ hlt HO.out (carry hR hb)).mono ?_
      rintro e w4 ⟨rfl, hb4⟩
      obtain ⟨z, hz⟩ : ∃ z, prs l k = z := ⟨_, rfl⟩
      have HZ := hide hz
      rw [hz]
      clear hz
      have ho4 := row_below ho hb4
      have hbw4 := below_next hb hb4
      have qz := eqG z .zero
      clear ho hb4
      by_cases h : z = .zero
      · rw [decide_eq_true h] at qz
        have qz' : ∀ W, (binOp .eql 54 (.agg #[.int .i64 z.re, .int .i64 z.im]) (.agg #[.int .i64 0, .int .i64 0])).run Tryz.prog W = .ok (.bool true) W := qz
        have A1 : (nulK l k).length + 1 ≤ maxLen := by unfold maxLen; omega
        have A2 : ((nulK l k).length + 1) * 8 ≤ 140737488355328 := by omega
        have hsz := hbw4.size
        have HH := hide h
        clear h qz
        go_wp2_with (at_builtin; refine wpList_push _ rfl (.tmp 14) (.tmp 16) _ rfl w.heap.size 3 (.int .i64 0) 1 8 Tryz.underlying34 info_int rfl (by decide) _ (nulK l k).length _ rfl (ho4.alloc _) w4.heap.size [.int .i64 (k : Int)] rfl rfl (cell_new1 _ _ _) (one_int _) A1 A2 (le_alloc hsz _) ?_; intro v1 w5 ho5 hb5)
        have hbw5 := (hbw4.alloc hsz (.cells #[.int .i64 (k : Int)] 3)).trans hb5
        have e : nulK l (k + 1) = nulK l k ++ [(k : Int)] := by rw [HSU.out, HZ.out, if_pos HH.out]
        have HE := hide e
        clear e
        go_roundw
        case rel => exact ⟨k + 1, by omega, by go_num, by rw [HE.out, List.length_append, ints_snoc]; exact ho5, hbw5⟩
        case measure => simp [intOf]; omega
      · rw [decide_eq_false h] at qz
        have qz' : ∀ W, (binOp .eql 54 (.agg #[.int .i64 z.re, .int .i64 z.im]) (.agg #[.int .i64 0, .int .i64 0])).run Tryz.prog W = .ok (.bool false) W := qz
        have HH := hide h
        clear h qz
        go_wp2_with fail
        have e : nulK l (k + 1) = nulK l k := by rw [HSU.out, HZ.out, if_neg HH.out, List.append_nil]
        have HE := hide e
        clear e
        go_roundw
        case rel => exact ⟨k + 1, by omega, by go_num, by rw [HE.out]; exact ho4, hbw4⟩
        case measure => simp [intOf]; omega
    · obtain rfl : k = 8 := by omega
      go_wp2_with fail
      go_ret
      exact ⟨_, rfl, ho, hb⟩
theorem prE_is {l : List Src} {k : Nat} (h : LOk l) (hk : k < 8) : prE l (k : Int) = 0 := by
  unfold prE
  rw [fnz_zero]
  intro x hx
  simp only [List.mem_cons, List.not_mem_nil, or_false] at hx
  rcases hx with rfl | rfl
  · exact ok_lst h
  · exact rng_zero.2 ⟨by omega, by omega⟩
set_option maxHeartbeats 4000000 in
theorem rDirectivity_any (A : Option Addr) (m c : Nat) (l : List Src) (d : Nat) (w : World) (hd : d < 8) (hok : LOk l) (hR : Reads w w.heap.size 4 A m (srcs l)) :
    Calls Tryz.prog 55 #[.slice A m c, .int .i64 (d : Int)] w fun e w' => e = .returned (.tuple #[.agg #[.int .i64 (drV l (d : Int)).n, .int .i64 (drV l (d : Int)).d], .int .i64 (drE l (d : Int))]) ∧ Below w.heap.size w w' := by
  have eE : drE l d = if lvK l 8 = 0 then 6 else 0 := by unfold drE; rw [if_pos (prE_is hok hd)]
  have eV : ¬ lvK l 8 = 0 → drV l d = low (8 * (prs l d).sq).toNat (lvK l 8).toNat := fun hl => by
    rw [if_neg hl] at eE
    unfold drV; rw [eE]; rfl
  have eV0 : lvK l 8 = 0 → drV l d = ⟨0, 0⟩ := fun hl => by
    rw [if_pos hl] at eE
    unfold drV; rw [eE]; rfl
  have EE := hide eE
  have EV := hide eV
  have EV0 := hide eV0
  have HO := hide hok
  clear eE eV eV0 hok
  go_enter Tryz.func55, Tryz.ntmps55
  go_upto_region 1 with (fail)
  obtain ⟨w1, e1, hb1, hz1, k0⟩ := box1 w #[.int .i64 0, .int .i64 0] 88
  rw [← e1]; clear e1
  go_wp2_with fail
  go_loopw [6, 7] (fun s i wr => ∃ j : Nat, j ≤ 8 ∧ i = .int .i64 j ∧ s = .int .i64 (lvK l j) ∧ Blk wr w.heap.size 88 #[.int .i64 0, .int .i64 0] ∧ Below w.heap.size w wr) (fun _ i _ => 8 - (intOf i).toNat)
  case atStart => exact ⟨0, by omega, rfl, rfl, k0, hb1⟩
  case round =>
    rename World => wo
    clear k0 hb1
    obtain ⟨j, hj, rfl, rfl, k0, hb⟩ := hrel
    by_cases hlt : j < 8
    · have hji : (j : Int) < 8 := by omega
      have hin := lvK_in HO.out j
      have hsq := prs_sq HO.out j
      have hstep := lvK_succ l j
      obtain ⟨y, hy⟩ : ∃ y, (prs l j).sq = y := ⟨_, rfl⟩
      obtain ⟨S, hS⟩ : ∃ S, lvK l j = S := ⟨_, rfl⟩
      have HSS := hide hS
      rw [hS] at hin hstep
      rw [HSS.out]
      rw [hy] at hsq hstep
      have hw2 : wrap64 (S + y) = S + y := by unfold wrap64; omega
      have hzc : Hid (∀ W, Calls Tryz.prog 63 #[.agg #[.int .i64 (prs l j).re, .int .i64 (prs l j).im]] W fun e W' => e = .returned (.int .i64 y) ∧ Below W.heap.size W W') := fun W => by
        have := rSquare_any (prs l j) W
        rw [hy, wr_in (by omega)] at this
        exact this
      have HST := hide hstep
      clear hS hy hin hsq hstep
      go_wp2_with fail
      refine (rPressure_any A m c l j _ hlt HO.out (carry hR hb)).mono ?_
      rintro e w2 ⟨rfl, hb2⟩
      go_wp2_with fail
      refine (hzc.out _).mono ?_
      rintro e w3 ⟨rfl, hb3⟩
      have k3 := carryK (carryK k0 hb2) hb3
      have hb03 : Below w.heap.size w w3 := (by repeat (first | with_reducible assumption | exact Below.refl _ _ | refine below_next (by with_reducible assumption) ?_))
      clear k0 hb hb2 hb3
      go_wp2_with fail
      go_roundw
      case rel => exact ⟨j + 1, by omega, by go_num, by rw [HST.out, hw2], k3, hb03⟩
      case measure => simp [intOf]; omega
    · obtain rfl : j = 8 := by omega
      by_cases hl : lvK l 8 = 0
      · have t0 : (lvK l 8 == 0) = true := by rw [hl]; rfl
        have H1 : Hid (drE l d = 6) := by show _ = _; rw [EE.out, if_pos hl]
        have H2 := hide (EV0.out hl)
        have cR := k0.cell
        have fR := k0.frozen
        clear hl
        go_wp2_with fail
        have kX := blk2 (u0 := .int .i64 0) (u1 := .int .i64 0) k0
        have hX := below2 (u0 := .int .i64 0) (u1 := .int .i64 0) hb (Nat.le_refl w.heap.size)
        have cX := kX.cell
        clear cR fR
        refine bodyPost_ret (v := .tuple #[.agg #[.int .i64 0, .int .i64 0], .int .i64 6]) (by simp [results, Tryz.results55, go_sem, cX]) rfl ?_
        exact ⟨by rw [H1.out, H2.out], hX⟩
      · have t0 : (lvK l 8 == 0) = false := by simpa using hl
        have H1 : Hid (drE l d = 0) := by show _ = _; rw [EE.out, if_neg hl]
        have hV := EV.out hl
        have hin := lvK_in HO.out 8
        have hsq := prs_sq HO.out d
        obtain ⟨D, hD⟩ : ∃ D : Nat, lvK l 8 = (D : Int) := ⟨(lvK l 8).toNat, by omega⟩
        obtain ⟨q, hq⟩ : ∃ q : Nat, (prs l d).sq = (q : Int) := ⟨(prs l d).sq.toNat, by omega⟩
        have hD0 : 0 < D := by omega
        have hDm : D ≤ 9223372036854775807 := by omega
        have hqm : 8 * q ≤ 9223372036854775807 := by omega
        have hw8 : wrap64 (8 * (q : Int)) = ((8 * q : Nat) : Int) := by unfold wrap64; omega
        rw [hD, hq, show (8 * (q : Int)).toNat = 8 * q by omega, show ((D : Int)).toNat = D from rfl] at hV
        rw [hD] at t0
        have hsc : Hid (∀ W, Calls Tryz.prog 63 #[.agg #[.int .i64 (prs l d).re, .int .i64 (prs l d).im]] W fun e W' => e = .returned (.int .i64 (q : Int)) ∧ Below W.heap.size W W') := fun W => by
          have := rSquare_any (prs l d) W
          rw [hq, wr_in (by omega)] at this
          exact this
        have hlo : Hid (∀ W, Calls Tryz.prog 111 #[.int .i64 ((8 * q : Nat) : Int), .int .i64 (D : Int)] W fun e W' => e = .returned (.agg #[.int .i64 (low (8 * q) D).n, .int .i64 (low (8 * q) D).d]) ∧ Below W.heap.size W W') := fun W => rLowest_any ((8 * q : Nat) : Int) (D : Int) W ⟨by omega, by omega⟩ ⟨by omega, by omega⟩
        have H2 := hide hV
        rw [hD]
        clear hl hV hin hsq hD hq
        go_wp2_with fail
        refine (rPressure_any A m c l d _ hd HO.out (carry hR hb)).mono ?_
        rintro e w2 ⟨rfl, hb2⟩
        go_wp2_with fail
        refine (hsc.out _).mono ?_
        rintro e w3 ⟨rfl, hb3⟩
        go_wp2_with fail
        refine (hlo.out _).mono ?_
        rintro e w4 ⟨rfl, hb4⟩
        have k4 := carryK (carryK (carryK k0 hb2) hb3) hb4
        have hb04 : Below w.heap.size w w4 := (by repeat (first | with_reducible assumption | exact Below.refl _ _ | refine below_next (by with_reducible assumption) ?_))
        have c8 := k4.cell
        have f8 := k4.frozen
        clear hb hb2 hb3 hb4 k0
        go_wp2_with fail
        have kX := blk2 (u0 := .int .i64 (low (8 * q) D).n) (u1 := .int .i64 (low (8 * q) D).d) k4
        have hX := below2 (u0 := .int .i64 (low (8 * q) D).n) (u1 := .int .i64 (low (8 * q) D).d) hb04 (Nat.le_refl w.heap.size)
        have cX := kX.cell
        clear c8 f8
        refine bodyPost_ret (v := .tuple #[.agg #[.int .i64 (low (8 * q) D).n, .int .i64 (low (8 * q) D).d], .int .i64 0]) (by simp [results, Tryz.results55, go_sem, cX]) rfl ?_
        exact ⟨by rw [H1.out, H2.out], hX⟩
end Go.Proofs.YtcihiglpahhboaaGreatDoor
