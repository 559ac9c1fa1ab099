/- The law ArrayProducts: for all arguments it returns true. -/
import Derived.Test.YtcihiglpahhboaaGreatDoorAAwk
import Derived.Test.YtcihiglpahhboaaGreatDoorALawP
import Derived.Test.YtcihiglpahhboaaGreatDoorALawG
import Derived.Test.YtcihiglpahhboaaGreatDoorABksP
import Derived.Test.YtcihiglpahhboaaGreatDoorAPat3
import Derived.Deep.DeepCutAuto
namespace Go.Proofs.YtcihiglpahhboaaGreatDoor
open Go.RowKit Go.Shelf
set_option maxRecDepth 100000
theorem reflPT_in (f : Nat → G) (w : World) : (Op.equalIn 10000 55 (.agg #[.int .i64 (f 0).re, .int .i64 (f 0).im, .int .i64 (f 1).re, .int .i64 (f 1).im, .int .i64 (f 2).re, .int .i64 (f 2).im, .int .i64 (f 3).re, .int .i64 (f 3).im, .int .i64 (f 4).re, .int .i64 (f 4).im, .int .i64 (f 5).re, .int .i64 (f 5).im, .int .i64 (f 6).re, .int .i64 (f 6).im, .int .i64 (f 7).re, .int .i64 (f 7).im]) (.agg #[.int .i64 (f 0).re, .int .i64 (f 0).im, .int .i64 (f 1).re, .int .i64 (f 1).im, .int .i64 (f 2).re, .int .i64 (f 2).im, .int .i64 (f 3).re, .int .i64 (f 3).im, .int .i64 (f 4).re, .int .i64 (f 4).im, .int .i64 (f 5).re, .int .i64 (f 5).im, .int .i64 (f 6).re, .int .i64 (f 6).im, .int .i64 (f 7).re, .int .i64 (f 7).im])).run Tryz.prog w = .ok true w := by
  obtain ⟨i, hi⟩ := info_gaussB
  have c2 : Tryz.prog.cellsOf 54 = 2 := by kernel_rfl
  have g : ∀ z : G, (Op.equalIn 9999 54 (.agg #[.int .i64 z.re, .int .i64 z.im]) (.agg #[.int .i64 z.re, .int .i64 z.im])).run Tryz.prog w = .ok true w := fun z => by rw [gEqD z z w]; simp
  rw [show (10000 : Nat) = 9999 + 1 from rfl, run_equalIn_array w 9999 _ _ Tryz.underlying55 hi, c2]
  simp only [show List.range 8 = [0, 1, 2, 3, 4, 5, 6, 7] from rfl, Op.eqItems, go_sem]
  simp [go_sem]
theorem reflPT_ne (f : Nat → G) (w : World) : (binOp .neq 55 (.agg #[.int .i64 (f 0).re, .int .i64 (f 0).im, .int .i64 (f 1).re, .int .i64 (f 1).im, .int .i64 (f 2).re, .int .i64 (f 2).im, .int .i64 (f 3).re, .int .i64 (f 3).im, .int .i64 (f 4).re, .int .i64 (f 4).im, .int .i64 (f 5).re, .int .i64 (f 5).im, .int .i64 (f 6).re, .int .i64 (f 6).im, .int .i64 (f 7).re, .int .i64 (f 7).im]) (.agg #[.int .i64 (f 0).re, .int .i64 (f 0).im, .int .i64 (f 1).re, .int .i64 (f 1).im, .int .i64 (f 2).re, .int .i64 (f 2).im, .int .i64 (f 3).re, .int .i64 (f 3).im, .int .i64 (f 4).re, .int .i64 (f 4).im, .int .i64 (f 5).re, .int .i64 (f 5).im, .int .i64 (f 6).re, .int .i64 (f 6).im, .int .i64 (f 7).re, .int .i64 (f 7).im])).run Tryz.prog w = .ok (.bool false) w := by
  have hh := reflPT_in f w
  simp only [binOp, Op.equal, Op.maxDepth]
  simp [hh, go_sem]
/-- The pattern of valid sources, by its name. -/
theorem pat_is (F : Nat → G) {s : List Src} (h : LOk s) (hF : prs s = F) (A : Option Addr) (m c : Nat) (W : World) (hR : Reads W W.heap.size 4 A m (srcs s)) (hV : Vr W) (hm : m ≤ 1000000) :
    Calls Tryz.prog 34 #[.slice A m c] W fun e w' => e = .returned (.tuple #[.agg #[.int .i64 (F 0).re, .int .i64 (F 0).im, .int .i64 (F 1).re, .int .i64 (F 1).im, .int .i64 (F 2).re, .int .i64 (F 2).im, .int .i64 (F 3).re, .int .i64 (F 3).im, .int .i64 (F 4).re, .int .i64 (F 4).im, .int .i64 (F 5).re, .int .i64 (F 5).im, .int .i64 (F 6).re, .int .i64 (F 6).im, .int .i64 (F 7).re, .int .i64 (F 7).im], .int .i64 0]) ∧ Below W.heap.size W w' := by
  have := Pattern_any A m c s W hR hV hm
  rw [ptV_ok (ok_lst h), hF, ok_lst h] at this
  exact this
theorem times_is {a b z : G} (ha : a.nrm ≤ 1600) (hb : b.nrm ≤ 1600) (hz : z = a.mul b) (W : World) : Calls Tryz.prog 35 #[.agg #[.int .i64 a.re, .int .i64 a.im], .agg #[.int .i64 b.re, .int .i64 b.im]] W fun e W' => e = .returned (.agg #[.int .i64 z.re, .int .i64 z.im]) ∧ Below W.heap.size W W' := by
  have h1 := rTimes_any a b W
  have h2 := G.nrm_mul a b
  have h3 : a.nrm * b.nrm ≤ 1600 * 1600 := Nat.mul_le_mul ha hb
  rw [G.w_in (by omega), ← hz] at h1
  exact h1
theorem bnO_row {M : Nat} {u v : Int} (h1 : 1 ≤ M) (h2 : M ≤ 9) (hu : -11 ≤ u ∧ u ≤ 11) (hv : -11 ≤ v ∧ v ≤ 11) : bnO (M : Int) u v = (row M u v, 0) := by
  have hb : bnE (M : Int) u v = 0 := by
    unfold bnE
    rw [fnz_zero]
    intro x hx
    simp only [List.mem_cons, List.not_mem_nil, or_false] at hx
    rcases hx with rfl | rfl | rfl
    · exact rng_zero.2 ⟨by omega, by omega⟩
    · exact rng_zero.2 ⟨by omega, by omega⟩
    · exact rng_zero.2 ⟨by omega, by omega⟩
  have hr := ok_lst (row_ok (n := M) h2 hu hv)
  unfold bnO
  rw [if_pos hb, Int.toNat_natCast, hr, vld_ok hr]
theorem rpO_is {l b : List Src} (hl : LOk l) (hb : LOk b) : rpO l b = (vld (rep l b), lstErr (rep l b)) := by
  unfold rpO
  rw [if_pos]
  unfold rpE
  rw [fnz_zero]
  intro x hx
  simp only [List.mem_cons, List.not_mem_nil, or_false] at hx
  rcases hx with rfl | rfl
  · exact ok_lst hl
  · exact ok_lst hb
theorem reads_one (W : World) (s : Src) (t : TypeId) : Reads (W.alloc (.cells #[.int .i64 s.x, .int .i64 s.y, .int .i64 s.g, .int .i64 s.p] t)) (W.alloc (.cells #[.int .i64 s.x, .int .i64 s.y, .int .i64 s.g, .int .i64 s.p] t)).heap.size 4 (some ⟨W.heap.size, 0, none⟩) 1 (srcs [s]) := by
  refine ⟨rfl, fun _ => ⟨_, rfl, by simp, fun j v h => ?_⟩⟩
  have := src_new1 W s t j v h
  have e : (⟨W.heap.size, 0, none⟩ : Addr).add j = ⟨W.heap.size, j, none⟩ := by unfold Addr.add; split <;> simp_all
  rw [e]
  exact this
set_option maxHeartbeats 8000000 in
theorem lawPro_any (A : Option Addr) (m c : Nat) (l : List Src) (A' : Option Addr) (m' c' : Nat) (b : List Src) (n0 n1 n2 : Nat) (w : World) (hR : Reads w w.heap.size 4 A m (srcs l)) (hR' : Reads w w.heap.size 4 A' m' (srcs b)) (h0 : n0 ≤ 255) (h1 : n1 ≤ 255) (h2 : n2 ≤ 255) (hV : Vr w) (hT : Tens w) :
    Calls Tryz.prog 5 #[.slice A m c, .slice A' m' c', .agg #[.int .u8 (n0 : Int), .int .u8 (n1 : Int), .int .u8 (n2 : Int)]] w fun e w' => e = .returned (.bool true) ∧ Below w.heap.size w w' := by
  have HL := hide (srcs_reads_len hR)
  have HL' := hide (srcs_reads_len hR')
  go_enter Tryz.func5, Tryz.ntmps5
  go_upto_region 1 with (fail)
  obtain ⟨w1, e1, hb1, hz1, kN⟩ := box1 w #[.int .u8 (n0 : Int), .int .u8 (n1 : Int), .int .u8 (n2 : Int)] 52
  rw [← e1]; clear e1
  have hR1 := carry hR hb1
  have hR1' := carry hR' hb1
  have hV1 := hV.carry hb1
  have hT1 := tens_below hT hb1 hT.1
  clear hR hR' hV hT hz1
  go_cut [59] from 38 to 58 (fun s59 wx => ∃ t : Bool, s59 = .bool t ∧ Hid (t = false → m ≤ 4 ∧ m' ≤ 4 ∧ LOk l ∧ LOk b) ∧ Below w1.heap.size w1 wx)
  case first =>
    as_aux_lemma =>
      go_wp2_with fail
      refine (awake_any _ hV1 hT1).mono ?_
      rintro e w2 ⟨rfl, hb2⟩
      by_cases h4 : m ≤ 4
      · have g1 : decide ((4 : Int) < (m : Int)) = false := by simp; omega
        have g1' : decide (4 < m) = false := by simp; omega
        by_cases h4' : m' ≤ 4
        · have g2 : decide ((4 : Int) < (m' : Int)) = false := by simp; omega
          have g2' : decide (4 < m') = false := by simp; omega
          go_wp2_with fail
          refine (rCheckSources_any A m c l _ (carry hR1 hb2) (by omega)).mono ?_
          rintro e w3 ⟨rfl, hb3⟩
          by_cases e0 : lstErr l = 0
          · have t0 : (lstErr l != 0) = false := by rw [e0]; rfl
            have E0 := hide e0
            clear e0
            go_wp2_with fail
            refine (rCheckSources_any A' m' c' b _ (carry (carry hR1' hb2) hb3) (by omega)).mono ?_
            rintro e w4 ⟨rfl, hb4⟩
            by_cases e1 : lstErr b = 0
            · have t1 : (lstErr b != 0) = false := by rw [e1]; rfl
              have E1 := hide e1
              clear e1
              go_wp2_with fail
              go_meet
              exact ⟨false, rfl, fun _ => ⟨h4, h4', lst_ok E0.out, lst_ok E1.out⟩, (by repeat (first | with_reducible assumption | exact Below.refl _ _ | refine below_next (by with_reducible assumption) ?_))⟩
            · have t1 : (lstErr b != 0) = true := by simpa using e1
              clear e1
              go_wp2_with fail
              go_meet
              exact ⟨true, rfl, fun h => (by cases h), (by repeat (first | with_reducible assumption | exact Below.refl _ _ | refine below_next (by with_reducible assumption) ?_))⟩
          · have t0 : (lstErr l != 0) = true := by simpa using e0
            clear e0
            go_wp2_with fail
            go_meet
            exact ⟨true, rfl, fun h => (by cases h), (by repeat (first | with_reducible assumption | exact Below.refl _ _ | refine below_next (by with_reducible assumption) ?_))⟩
        · have g2 : decide ((4 : Int) < (m' : Int)) = true := by simp; omega
          have g2' : decide (4 < m') = true := by simp; omega
          go_wp2_with fail
          go_meet
          exact ⟨true, rfl, fun h => (by cases h), hb2⟩
      · have g1 : decide ((4 : Int) < (m : Int)) = true := by simp; omega
        have g1' : decide (4 < m) = true := by simp; omega
        go_wp2_with fail
        go_meet
        exact ⟨true, rfl, fun h => (by cases h), hb2⟩
  case rest =>
    obtain ⟨t, rfl, HH, hb2⟩ := hcut
    rename World => w2
    have hR2 := carry hR1 hb2
    have hR2' := carry hR1' hb2
    have hV2 := hV1.carry hb2
    have hT2 := tens_below hT1 hb2 hT1.1
    have kN2 := carryK kN hb2
    have hb02 := below_next hb1 hb2
    clear hb1 hb2 hR1 hR1' hV1 hT1 kN
    cases t
    case true =>
      go_wp2_with fail
      refine (awake_any _ hV2 hT2).mono ?_
      rintro e w3 ⟨rfl, hb3⟩
      go_wp2_with fail
      go_ret
      exact ⟨rfl, below_next hb02 hb3⟩
    case false =>
      obtain ⟨h4, h4', hok, hok'⟩ := HH.out rfl
      have HO := hide hok
      have HO' := hide hok'
      have hll := HL.out
      have hll' := HL'.out
      have her := rep_err (l := l) (b := b) (by omega) (by omega)
      have e16 : (rep l b).length ≤ 16 := by rw [rep_len]; have : l.length * b.length ≤ 4 * 4 := Nat.mul_le_mul (by omega) (by omega); omega
      have h03 := lst_03 e16
      have hpp : prs (rep b l) = prs (rep l b) := by funext k; rw [prs_rep, prs_rep, G.mul_comm]
      have HR1 := hide (rpO_is hok hok')
      have HR2 := hide (rpO_is hok' hok)
      have HONE : Hid (rpO l [oneS] = (l, 0)) := by
        show _ = _
        rw [rpO_is hok ⟨by simp, fun s hs => by simp at hs; subst hs; exact ⟨by decide, by decide, by decide, by decide, by decide, by decide, by decide, by decide⟩⟩, rep_one hok.all, vld_ok (ok_lst hok), ok_lst hok]
      obtain ⟨F, hF⟩ : ∃ F, prs l = F := ⟨_, rfl⟩
      obtain ⟨H, hH⟩ : ∃ H, prs b = H := ⟨_, rfl⟩
      obtain ⟨C, hC⟩ : ∃ C, prs (rep l b) = C := ⟨_, rfl⟩
      have PF := hide (fun A m c W => pat_is F hok hF A m c W)
      have PH := hide (fun A m c W => pat_is H hok' hH A m c W)
      have HCK : Hid (∀ k, k < 8 → ∀ W, Calls Tryz.prog 35 #[.agg #[.int .i64 (F k).re, .int .i64 (F k).im], .agg #[.int .i64 (H k).re, .int .i64 (H k).im]] W fun e W' => e = .returned (.agg #[.int .i64 (C k).re, .int .i64 (C k).im]) ∧ Below W.heap.size W W') := fun k _ W =>
        times_is (by rw [← hF]; exact prs_in hok k) (by rw [← hH]; exact prs_in hok' k) (by rw [← hC, ← hF, ← hH]; exact prs_rep l b k) W
      obtain ⟨E, hE⟩ : ∃ E, lstErr (rep l b) = E := ⟨_, rfl⟩
      rw [hpp, hC] at hpp
      have HC := hide hC
      have HC2 : Hid (prs (rep b l) = C) := by show _ = _; funext k; rw [← hC, prs_rep, prs_rep, G.mul_comm]
      have HE := hide hE
      have HE2 : Hid (lstErr (rep b l) = E) := by show _ = _; rw [← her, hE]
      rw [hE] at h03
      have H03 := hide h03
      clear hok hok' hll hll' her e16 h03 hpp hF hH hC hE HH
      go_wp2_with fail
      refine (own_any A m c l _ hR2 (by omega)).mono ?_
      rintro e w3 ⟨A3, c3, rfl, hR3, hb3⟩
      go_wp2_with fail
      refine (own_any A' m' c' b _ (carry hR2' hb3) (by omega)).mono ?_
      rintro e w4 ⟨A4, c4, rfl, hR4, hb4⟩
      go_wp2_with fail
      refine (Repeat_any A3 m c3 l A4 m' c4 b _ (carry hR3 hb4) hR4 (by omega) (by omega)).mono ?_
      rintro e w5 ⟨A5, m5, c5, rfl, hR5, hb5⟩
      have q1 : (rpO l b).2 = E := by rw [HR1.out]; exact HE.out
      have q0 : (rpO l b).1 = vld (rep l b) := by rw [HR1.out]
      rw [q1]
      rw [q0] at hR5
      clear q0 q1
      go_wp2_with fail
      refine (own_any A' m' c' b _ (carry hR2' (by repeat (first | with_reducible assumption | exact Below.refl _ _ | refine below_next (by with_reducible assumption) ?_))) (by omega)).mono ?_
      rintro e w6 ⟨A6, c6, rfl, hR6, hb6⟩
      go_wp2_with fail
      refine (own_any A m c l _ (carry hR2 (by repeat (first | with_reducible assumption | exact Below.refl _ _ | refine below_next (by with_reducible assumption) ?_))) (by omega)).mono ?_
      rintro e w7 ⟨A7, c7, rfl, hR7, hb7⟩
      go_wp2_with fail
      refine (Repeat_any A6 m' c6 b A7 m c7 l _ (carry hR6 hb7) hR7 (by omega) (by omega)).mono ?_
      rintro e w8 ⟨A8, m8, c8, rfl, hR8, hb8⟩
      have q1 : (rpO b l).2 = E := by rw [HR2.out]; exact HE2.out
      have q0 : (rpO b l).1 = vld (rep b l) := by rw [HR2.out]
      rw [q1]
      rw [q0] at hR8
      have hR5q := carry hR5 (w' := w8) (by repeat (first | with_reducible assumption | exact Below.refl _ _ | refine below_next (by with_reducible assumption) ?_))
      have hR2q := carry hR2 (w' := w8) (by repeat (first | with_reducible assumption | exact Below.refl _ _ | refine below_next (by with_reducible assumption) ?_))
      have hR2q' := carry hR2' (w' := w8) (by repeat (first | with_reducible assumption | exact Below.refl _ _ | refine below_next (by with_reducible assumption) ?_))
      have kNq := carryK kN2 (w' := w8) (by repeat (first | with_reducible assumption | exact Below.refl _ _ | refine below_next (by with_reducible assumption) ?_))
      have hb2q : Below w2.heap.size w2 w8 := (by repeat (first | with_reducible assumption | exact Below.refl _ _ | refine below_next (by with_reducible assumption) ?_))
      have hVq := hV2.carry hb2q
      have hb0q := below_next hb02 hb2q
      clear q0 q1 hb3 hb4 hb5 hb6 hb7 hb8 hR3 hR4 hR5 hR6 hR7 hR2 hR2' kN2 hV2 hT2 hb02 hb2q
      go_upto_region 5 with (fail)
      go_cut [87] from 77 to 86 (fun s87 wx => s87 = .bool false ∧ w8 = wx)
      case first =>
        by_cases e0 : E = 0
        · have t0 : (E != 0) = false := by rw [e0]; rfl
          clear e0
          go_wp2_with fail
          go_meet
          exact ⟨rfl, rfl⟩
        · have t0 : (E != 0) = true := by simpa using e0
          have t1 : (E != 3) = false := by have := H03.out; simp; omega
          clear e0
          go_wp2_with fail
          go_meet
          exact ⟨rfl, rfl⟩
      case rest =>
      obtain ⟨rfl, rfl⟩ := hcut
      go_wp2_with fail
      refine (own_any A m c l _ hR2q (by omega)).mono ?_
      rintro e w9 ⟨A9, c9, rfl, hR9, hb9⟩
      go_wp2_with fail
      refine (PF.out A9 m c9 _ hR9 (hVq.carry hb9) (by omega)).mono ?_
      rintro e w10 ⟨rfl, hb10⟩
      go_upto_region 8 with (fail)
      obtain ⟨w11, e11, hb11, hz11, kF⟩ := box1 w10 #[.int .i64 (F 0).re, .int .i64 (F 0).im, .int .i64 (F 1).re, .int .i64 (F 1).im, .int .i64 (F 2).re, .int .i64 (F 2).im, .int .i64 (F 3).re, .int .i64 (F 3).im, .int .i64 (F 4).re, .int .i64 (F 4).im, .int .i64 (F 5).re, .int .i64 (F 5).im, .int .i64 (F 6).re, .int .i64 (F 6).im, .int .i64 (F 7).re, .int .i64 (F 7).im] 55
      rw [← e11]; clear e11
      go_wp2_with fail
      refine (own_any A' m' c' b _ (carry hR2q' (by repeat (first | with_reducible assumption | exact Below.refl _ _ | refine below_next (by with_reducible assumption) ?_))) (by omega)).mono ?_
      rintro e w12 ⟨A12, c12, rfl, hR12, hb12⟩
      go_wp2_with fail
      refine (PH.out A12 m' c12 _ hR12 (hVq.carry (by repeat (first | with_reducible assumption | exact Below.refl _ _ | refine below_next (by with_reducible assumption) ?_))) (by omega)).mono ?_
      rintro e w13 ⟨rfl, hb13⟩
      go_upto_region 9 with (fail)
      obtain ⟨w14, e14, hb14, hz14, kH⟩ := box1 w13 #[.int .i64 (H 0).re, .int .i64 (H 0).im, .int .i64 (H 1).re, .int .i64 (H 1).im, .int .i64 (H 2).re, .int .i64 (H 2).im, .int .i64 (H 3).re, .int .i64 (H 3).im, .int .i64 (H 4).re, .int .i64 (H 4).im, .int .i64 (H 5).re, .int .i64 (H 5).im, .int .i64 (H 6).re, .int .i64 (H 6).im, .int .i64 (H 7).re, .int .i64 (H 7).im] 55
      rw [← e14]; clear e14
      have kF4 := carryK kF (w' := w14) (by repeat (first | with_reducible assumption | exact Below.refl _ _ | refine below_next (by with_reducible assumption) ?_))
      have hR5r := carry hR5q (w' := w14) (by repeat (first | with_reducible assumption | exact Below.refl _ _ | refine below_next (by with_reducible assumption) ?_))
      have hR8r := carry hR8 (w' := w14) (by repeat (first | with_reducible assumption | exact Below.refl _ _ | refine below_next (by with_reducible assumption) ?_))
      have hR2r := carry hR2q (w' := w14) (by repeat (first | with_reducible assumption | exact Below.refl _ _ | refine below_next (by with_reducible assumption) ?_))
      have kNr := carryK kNq (w' := w14) (by repeat (first | with_reducible assumption | exact Below.refl _ _ | refine below_next (by with_reducible assumption) ?_))
      have hbqr : Below w8.heap.size w8 w14 := (by repeat (first | with_reducible assumption | exact Below.refl _ _ | refine below_next (by with_reducible assumption) ?_))
      have hVr := hVq.carry hbqr
      have hb0r := below_next hb0q hbqr
      clear kF hR9 hR12 hb9 hb10 hb11 hb12 hb13 hb14 hR5q hR8 hR2q hR2q' kNq hbqr hVq hb0q hz11 hz14
      go_upto_if 107 with (fail)
      go_cut [15, 16, 17, 18, 19] from 106 to 147 (fun _ _ _ _ _ wx => Below w14.heap.size w14 wx)
      case first =>
        as_aux_lemma =>
          by_cases e0 : E = 0
          · have t0 : (E == 0) = true := by rw [e0]; rfl
            have hk1 := lst_ok (HE.out.trans e0)
            have hk2 := lst_ok (HE2.out.trans e0)
            rw [vld_ok (ok_lst hk1)] at hR5r
            rw [vld_ok (ok_lst hk2)] at hR8r
            have L5 : m5 ≤ 16 := by have := srcs_reads_len hR5r; have := hk1.len; omega
            have L8 : m8 ≤ 16 := by have := srcs_reads_len hR8r; have := hk2.len; omega
            have PC1 := hide (fun A m c W => pat_is C hk1 HC.out A m c W)
            have PC2 := hide (fun A m c W => pat_is C hk2 HC2.out A m c W)
            clear e0 hk1 hk2
            go_wp2_with (at_builtin; refine wpList_copied w14 rfl (.tmp 109) (.tmp 110) 26 (by rfl) 60 _ 4 32 Tryz.underlying26 info_src rfl (by decide) (by decide) (by rfl) A5 m5 c5 (srcs (rep l b)) (by rfl) hR5r (srcs_one _) (by omega) ?_; intro A15 c15 w15 hR15 hb15)
            refine (PC1.out A15 m5 c15 _ hR15 (hVr.carry hb15) (by omega)).mono ?_
            rintro e w16 ⟨rfl, hb16⟩
            go_upto_region 13 with (fail)
            obtain ⟨w17, e17, hb17, hz17, kC⟩ := box1 w16 #[.int .i64 (C 0).re, .int .i64 (C 0).im, .int .i64 (C 1).re, .int .i64 (C 1).im, .int .i64 (C 2).re, .int .i64 (C 2).im, .int .i64 (C 3).re, .int .i64 (C 3).im, .int .i64 (C 4).re, .int .i64 (C 4).im, .int .i64 (C 5).re, .int .i64 (C 5).im, .int .i64 (C 6).re, .int .i64 (C 6).im, .int .i64 (C 7).re, .int .i64 (C 7).im] 55
            rw [← e17]; clear e17
            have hR8s := carry hR8r (w' := w17) (by repeat (first | with_reducible assumption | exact Below.refl _ _ | refine below_next (by with_reducible assumption) ?_))
            go_wp2_with (at_builtin; refine wpList_copied w17 rfl (.tmp 116) (.tmp 117) 26 (by rfl) 60 _ 4 32 Tryz.underlying26 info_src rfl (by decide) (by decide) (by rfl) A8 m8 c8 (srcs (rep b l)) (by rfl) hR8s (srcs_one _) (by omega) ?_; intro A18 c18 w18 hR18 hb18)
            refine (PC2.out A18 m8 c18 _ hR18 (hVr.carry (by repeat (first | with_reducible assumption | exact Below.refl _ _ | refine below_next (by with_reducible assumption) ?_))) (by omega)).mono ?_
            rintro e w19 ⟨rfl, hb19⟩
            go_upto_region 14 with (fail)
            obtain ⟨w20, e20, hb20, hz20, kC2⟩ := box1 w19 #[.int .i64 (C 0).re, .int .i64 (C 0).im, .int .i64 (C 1).re, .int .i64 (C 1).im, .int .i64 (C 2).re, .int .i64 (C 2).im, .int .i64 (C 3).re, .int .i64 (C 3).im, .int .i64 (C 4).re, .int .i64 (C 4).im, .int .i64 (C 5).re, .int .i64 (C 5).im, .int .i64 (C 6).re, .int .i64 (C 6).im, .int .i64 (C 7).re, .int .i64 (C 7).im] 55
            rw [← e20]; clear e20
            have kC20 := carryK kC (w' := w20) (by repeat (first | with_reducible assumption | exact Below.refl _ _ | refine below_next (by with_reducible assumption) ?_))
            have kF20 := carryK kF4 (w' := w20) (by repeat (first | with_reducible assumption | exact Below.refl _ _ | refine below_next (by with_reducible assumption) ?_))
            have kH20 := carryK kH (w' := w20) (by repeat (first | with_reducible assumption | exact Below.refl _ _ | refine below_next (by with_reducible assumption) ?_))
            have hb20a : Below w14.heap.size w14 w20 := (by repeat (first | with_reducible assumption | exact Below.refl _ _ | refine below_next (by with_reducible assumption) ?_))
            clear kC hR15 hR18 hb15 hb16 hb17 hb18 hb19 hb20 hR8s hz17 hz20
            have qn := reflPT_ne C
            have cA := kC20.cell
            have cB := kC2.cell
            go_wp2_with fail
            clear qn cA cB
            go_loopw [133] (fun i wr => ∃ k : Nat, k ≤ 8 ∧ i = .int .i64 k ∧ Below w20.heap.size w20 wr) (fun i _ => 8 - (intOf i).toNat)
            case atStart => exact ⟨0, by omega, rfl, Below.refl _ _⟩
            case round =>
              rename World => wr
              obtain ⟨k, hk, rfl, hbr⟩ := hrel
              by_cases hlt : k < 8
              · have hki : (k : Int) < 8 := by omega
                obtain ⟨p0, p1⟩ := pcs_blk hlt (carryK kC20 hbr)
                obtain ⟨p2, p3⟩ := pcs_blk hlt (carryK kF20 hbr)
                obtain ⟨p4, p5⟩ := pcs_blk hlt (carryK kH20 hbr)
                have lC := (carryK kC20 hbr).lt
                have lF := (carryK kF20 hbr).lt
                have lH := (carryK kH20 hbr).lt
                have htm := HCK.out k hlt
                obtain ⟨z, ez⟩ : ∃ z, C k = z := ⟨_, rfl⟩
                obtain ⟨a, ea⟩ : ∃ a, F k = a := ⟨_, rfl⟩
                obtain ⟨b', eb⟩ : ∃ b', H k = b' := ⟨_, rfl⟩
                rw [ez] at p0 p1 htm
                rw [ea] at p2 p3 htm
                rw [eb] at p4 p5 htm
                have r0 : ∀ x, (over wr.heap.size wr x).cell? ⟨w16.heap.size, k * 2, none⟩ = some (.int .i64 z.re) := fun x => ((over_below _ _ _).cell (p := ⟨w16.heap.size, k * 2, none⟩) lC).trans p0
                have r1 : ∀ x, (over wr.heap.size wr x).cell? ⟨w16.heap.size, k * 2 + 1, none⟩ = some (.int .i64 z.im) := fun x => ((over_below _ _ _).cell (p := ⟨w16.heap.size, k * 2 + 1, none⟩) lC).trans p1
                have r2 : ∀ x, (over wr.heap.size wr x).cell? ⟨w10.heap.size, k * 2, none⟩ = some (.int .i64 a.re) := fun x => ((over_below _ _ _).cell (p := ⟨w10.heap.size, k * 2, none⟩) lF).trans p2
                have r3 : ∀ x, (over wr.heap.size wr x).cell? ⟨w10.heap.size, k * 2 + 1, none⟩ = some (.int .i64 a.im) := fun x => ((over_below _ _ _).cell (p := ⟨w10.heap.size, k * 2 + 1, none⟩) lF).trans p3
                have r4 : ∀ x, (over wr.heap.size wr x).cell? ⟨w13.heap.size, k * 2, none⟩ = some (.int .i64 b'.re) := fun x => ((over_below _ _ _).cell (p := ⟨w13.heap.size, k * 2, none⟩) lH).trans p4
                have r5 : ∀ x, (over wr.heap.size wr x).cell? ⟨w13.heap.size, k * 2 + 1, none⟩ = some (.int .i64 b'.im) := fun x => ((over_below _ _ _).cell (p := ⟨w13.heap.size, k * 2 + 1, none⟩) lH).trans p5
                have HTK := hide htm
                have qz := reflG_ne z
                clear p0 p1 p2 p3 p4 p5 ez ea eb lC lF lH htm
                go_upto_region 19 with (fail)
                refine wp_region_over wr.heap.size (by kernel_rfl) (by kernel_rfl) ?_; (repeat (first | go_big_quiet_step ((go_at_call 35; exact over_call (Nat.le_refl _) (HTK.out _))) | quiet_step ((go_at_call 35; exact over_call (Nat.le_refl _) (HTK.out _))))); refine wpQuiet_nil ?_; rintro W ⟨x, rfl⟩
                have hbY := over_below wr.heap.size wr x
                generalize over wr.heap.size wr x = Y at hbY ⊢
                clear r0 r1 r2 r3 r4 r5 qz
                go_wp2_with fail
                go_roundw
                case rel => exact ⟨k + 1, by omega, by go_num, below_next hbr hbY⟩
                case measure => simp [intOf]; omega
              · obtain rfl : k = 8 := by omega
                go_wp2_with fail
                go_meet
                exact below_next hb20a hbr
          · have t0 : (E == 0) = false := by simpa using e0
            clear e0
            go_wp2_with fail
            go_meet
            exact Below.refl _ _
      case rest =>
      have hb15 := hcut
      rename World => w15
      have hR2s := carry hR2r hb15
      have hVs := hVr.carry hb15
      have kNs := carryK kNr hb15
      have hb0s := below_next hb0r hb15
      clear hcut hb15 hR5r hR8r hR2r hVr kNr hb0r kF4 kH
      go_wp2_with fail
      refine (own_any A m c l _ hR2s (by omega)).mono ?_
      rintro e w16 ⟨A16, c16, rfl, hR16, hb16⟩
      go_wp2_with fail
      obtain ⟨w17, e17, hb17, hz17, kO⟩ := box1 w16 #[.int .i64 0, .int .i64 0, .int .i64 1, .int .i64 0] 60
      rw [← e17]; clear e17
      refine (Repeat_any A16 m c16 l (some ⟨w16.heap.size, 0, none⟩) 1 1 [oneS] _ (carry hR16 hb17) (blkS (l := [oneS]) kO rfl) (by omega) (by omega)).mono ?_
      rintro e w18 ⟨A18, m18, c18, rfl, hR18, hb18⟩
      have hR18 : Reads w18 w18.heap.size 4 A18 m18 (srcs l) := by rw [HONE.out] at hR18; exact hR18
      have q1 : (rpO l [oneS]).2 = 0 := by rw [HONE.out]
      rw [q1]
      clear q1
      have L18 : m18 ≤ 16 := by have := srcs_reads_len hR18; have := HO.out.len; omega
      go_wp2_with fail
      refine (told_any A18 m18 c18 l _ hR18 (by omega)).mono ?_
      rintro e w19 ⟨A19, c19, rfl, hR19, hb19⟩
      go_wp2_with fail
      refine (rSame_any A19 m18 c19 l A m c l _ hR19 (carry hR2s (by repeat (first | with_reducible assumption | exact Below.refl _ _ | refine below_next (by with_reducible assumption) ?_))) (by omega) (by omega)).mono ?_
      rintro e w20 ⟨rfl, hb20⟩
      rw [decide_eq_true rfl]
      have kNt := carryK kNs (w' := w20) (by repeat (first | with_reducible assumption | exact Below.refl _ _ | refine below_next (by with_reducible assumption) ?_))
      have hbst : Below w15.heap.size w15 w20 := (by repeat (first | with_reducible assumption | exact Below.refl _ _ | refine below_next (by with_reducible assumption) ?_))
      have hVt := hVs.carry hbst
      have hb0t := below_next hb0s hbst
      clear hR16 hR18 hR19 hb16 hb17 hb18 hb19 hb20 hR2s hVs kNs hb0s hbst kO hz17
      go_upto_region 25 with (fail)
      go_cut [22, 23, 24] from 165 to 179 (fun sa sb sc wx => sa = .int .i64 ((1 + n0 % 8 : Nat) : Int) ∧ sb = .int .i64 (((n1 % 23 : Nat) : Int) - 11) ∧ sc = .int .i64 (((n2 % 23 : Nat) : Int) - 11) ∧ Below w20.heap.size w20 wx)
      case first =>
        as_aux_lemma =>
          have cN := over_blk kNt kNt.lt
          refine wp_region_over w20.heap.size (by kernel_rfl) (by kernel_rfl) ?_; (repeat (first | go_big_quiet_step (fail) | quiet_step (fail))); refine wpQuiet_nil ?_; rintro W ⟨x, rfl⟩
          have hbY := over_below w20.heap.size w20 x
          generalize over w20.heap.size w20 x = Y at hbY ⊢
          clear cN
          (try go_wp2_with fail)
          go_meet
          exact ⟨by go_num, by go_num, by go_num, hbY⟩
      case rest =>
      obtain ⟨rfl, rfl, rfl, hb21⟩ := hcut
      rename World => w21
      have hVu := hVt.carry hb21
      have hb0u := below_next hb0t hb21
      clear hVt hb0t hb21 kNt HL HL' HO HO' HR1 HR2 HONE PF PH HCK HC HC2 HE HE2 H03 L18
      obtain ⟨M, hM⟩ : ∃ M, 1 + n0 % 8 = M := ⟨_, rfl⟩
      obtain ⟨u, hu⟩ : ∃ u : Int, ((n1 % 23 : Nat) : Int) - 11 = u := ⟨_, rfl⟩
      obtain ⟨v, hv⟩ : ∃ v : Int, ((n2 % 23 : Nat) : Int) - 11 = v := ⟨_, rfl⟩
      have M1 : 1 ≤ M := by omega
      have M8 : M ≤ 8 := by omega
      have u1 : -11 ≤ u ∧ u ≤ 11 := by omega
      have v1 : -11 ≤ v ∧ v ≤ 11 := by omega
      rw [hM, hu, hv]
      clear hM hu hv
      as_aux_lemma =>
        obtain ⟨F1, hF⟩ : ∃ F, prs (row M u v) = F := ⟨_, rfl⟩
        obtain ⟨H1, hH⟩ : ∃ H, prs (row 2 u v) = H := ⟨_, rfl⟩
        obtain ⟨C1, hC⟩ : ∃ C, prs (row (M + 1) u v) = C := ⟨_, rfl⟩
        have k1 := row_ok (n := M) (by omega) u1 v1
        have k2 := row_ok (n := 2) (by omega) u1 v1
        have k3 := row_ok (n := M + 1) (by omega) u1 v1
        have P1 := hide (fun A m c W => pat_is F1 k1 hF A m c W)
        have P2 := hide (fun A m c W => pat_is H1 k2 hH A m c W)
        have P3 := hide (fun A m c W => pat_is C1 k3 hC A m c W)
        have HCK : Hid (∀ k, k < 8 → ∀ W, Calls Tryz.prog 35 #[.agg #[.int .i64 (F1 k).re, .int .i64 (F1 k).im], .agg #[.int .i64 (H1 k).re, .int .i64 (H1 k).im]] W fun e W' => e = .returned (.agg #[.int .i64 (C1 k).re, .int .i64 (C1 k).im]) ∧ Below W.heap.size W W') := fun k _ W =>
          times_is (by rw [← hF]; exact prs_in k1 k) (by rw [← hH]; exact prs_in k2 k) (by rw [← hC, ← hF, ← hH]; exact prs_row_two M1 (by omega) u v k) W
        have HB1 : Hid (∀ W, Calls Tryz.prog 21 #[.int .i64 (M : Int), .int .i64 u, .int .i64 v] W fun e w' => OutS W (row M u v) 0 e w') := fun W => by
          have := Binomial_any (M : Int) u v W
          rw [bnO_row M1 (by omega) u1 v1] at this
          exact this
        have HB2 : Hid (∀ W, Calls Tryz.prog 21 #[.int .i64 ((M : Int) + 1), .int .i64 u, .int .i64 v] W fun e w' => OutS W (row (M + 1) u v) 0 e w') := fun W => by
          have := Binomial_any ((M + 1 : Nat) : Int) u v W
          rw [bnO_row (by omega) (by omega) u1 v1] at this
          exact this
        have HB3 : Hid (∀ W, Calls Tryz.prog 21 #[.int .i64 2, .int .i64 u, .int .i64 v] W fun e w' => OutS W (row 2 u v) 0 e w') := fun W => by
          have := Binomial_any ((2 : Nat) : Int) u v W
          rw [bnO_row (by omega) (by omega) u1 v1] at this
          exact this
        clear hF hH hC k1 k2 k3 u1 v1
        go_wp2_with fail
        refine (HB1.out _).mono ?_
        rintro e w22 ⟨A22, n22, c22, rfl, hR22, hb22⟩
        go_wp2_with fail
        refine (HB2.out _).mono ?_
        rintro e w23 ⟨A23, n23, c23, rfl, hR23, hb23⟩
        go_wp2_with fail
        refine (HB3.out _).mono ?_
        rintro e w24 ⟨A24, n24, c24, rfl, hR24, hb24⟩
        have L22 : n22 ≤ 16 := by have := srcs_reads_len hR22; rw [row_len] at this; omega
        obtain rfl : n23 = M + 1 := by have := srcs_reads_len hR23; rw [row_len] at this; omega
        have L24 : n24 ≤ 16 := by have := srcs_reads_len hR24; rw [row_len] at this; omega
        have hR22b := carry hR22 (w' := w24) (by repeat (first | with_reducible assumption | exact Below.refl _ _ | refine below_next (by with_reducible assumption) ?_))
        go_wp2_with (at_builtin; refine wpList_copied w24 rfl (.tmp 202) (.tmp 203) 26 (by rfl) 60 _ 4 32 Tryz.underlying26 info_src rfl (by decide) (by decide) (by rfl) A22 n22 c22 (srcs (row M u v)) (by rfl) hR22b (srcs_one _) (by omega) ?_; intro A25 c25 w25 hR25 hb25)
        refine (P1.out A25 n22 c25 _ hR25 (hVu.carry (by repeat (first | with_reducible assumption | exact Below.refl _ _ | refine below_next (by with_reducible assumption) ?_))) (by omega)).mono ?_
        rintro e w26 ⟨rfl, hb26⟩
        go_upto_region 30 with (fail)
        obtain ⟨w27, e27, hb27, hz27, kU⟩ := box1 w26 #[.int .i64 (F1 0).re, .int .i64 (F1 0).im, .int .i64 (F1 1).re, .int .i64 (F1 1).im, .int .i64 (F1 2).re, .int .i64 (F1 2).im, .int .i64 (F1 3).re, .int .i64 (F1 3).im, .int .i64 (F1 4).re, .int .i64 (F1 4).im, .int .i64 (F1 5).re, .int .i64 (F1 5).im, .int .i64 (F1 6).re, .int .i64 (F1 6).im, .int .i64 (F1 7).re, .int .i64 (F1 7).im] 55
        rw [← e27]; clear e27
        have hR23b := carry hR23 (w' := w27) (by repeat (first | with_reducible assumption | exact Below.refl _ _ | refine below_next (by with_reducible assumption) ?_))
        go_wp2_with (at_builtin; refine wpList_copied w27 rfl (.tmp 209) (.tmp 210) 26 (by rfl) 60 _ 4 32 Tryz.underlying26 info_src rfl (by decide) (by decide) (by rfl) A23 (M + 1) c23 (srcs (row (M + 1) u v)) (by rfl) hR23b (srcs_one _) (by omega) ?_; intro A28 c28 w28 hR28 hb28)
        refine (P3.out A28 (M + 1) c28 _ hR28 (hVu.carry (by repeat (first | with_reducible assumption | exact Below.refl _ _ | refine below_next (by with_reducible assumption) ?_))) (by omega)).mono ?_
        rintro e w29 ⟨rfl, hb29⟩
        go_upto_region 31 with (fail)
        obtain ⟨w30, e30, hb30, hz30, kV⟩ := box1 w29 #[.int .i64 (C1 0).re, .int .i64 (C1 0).im, .int .i64 (C1 1).re, .int .i64 (C1 1).im, .int .i64 (C1 2).re, .int .i64 (C1 2).im, .int .i64 (C1 3).re, .int .i64 (C1 3).im, .int .i64 (C1 4).re, .int .i64 (C1 4).im, .int .i64 (C1 5).re, .int .i64 (C1 5).im, .int .i64 (C1 6).re, .int .i64 (C1 6).im, .int .i64 (C1 7).re, .int .i64 (C1 7).im] 55
        rw [← e30]; clear e30
        have hR24b := carry hR24 (w' := w30) (by repeat (first | with_reducible assumption | exact Below.refl _ _ | refine below_next (by with_reducible assumption) ?_))
        go_wp2_with (at_builtin; refine wpList_copied w30 rfl (.tmp 216) (.tmp 217) 26 (by rfl) 60 _ 4 32 Tryz.underlying26 info_src rfl (by decide) (by decide) (by rfl) A24 n24 c24 (srcs (row 2 u v)) (by rfl) hR24b (srcs_one _) (by omega) ?_; intro A31 c31 w31 hR31 hb31)
        refine (P2.out A31 n24 c31 _ hR31 (hVu.carry (by repeat (first | with_reducible assumption | exact Below.refl _ _ | refine below_next (by with_reducible assumption) ?_))) (by omega)).mono ?_
        rintro e w32 ⟨rfl, hb32⟩
        go_upto_region 32 with (fail)
        obtain ⟨w33, e33, hb33, hz33, kW⟩ := box1 w32 #[.int .i64 (H1 0).re, .int .i64 (H1 0).im, .int .i64 (H1 1).re, .int .i64 (H1 1).im, .int .i64 (H1 2).re, .int .i64 (H1 2).im, .int .i64 (H1 3).re, .int .i64 (H1 3).im, .int .i64 (H1 4).re, .int .i64 (H1 4).im, .int .i64 (H1 5).re, .int .i64 (H1 5).im, .int .i64 (H1 6).re, .int .i64 (H1 6).im, .int .i64 (H1 7).re, .int .i64 (H1 7).im] 55
        rw [← e33]; clear e33
        have kU3 := carryK kU (w' := w33) (by repeat (first | with_reducible assumption | exact Below.refl _ _ | refine below_next (by with_reducible assumption) ?_))
        have kV3 := carryK kV (w' := w33) (by repeat (first | with_reducible assumption | exact Below.refl _ _ | refine below_next (by with_reducible assumption) ?_))
        have hb033 : Below w.heap.size w w33 := (by repeat (first | with_reducible assumption | exact Below.refl _ _ | refine below_next (by with_reducible assumption) ?_))
        clear kU kV hR22 hR23 hR24 hR25 hR28 hR31 hR22b hR23b hR24b hb22 hb23 hb24 hb25 hb26 hb27 hb28 hb29 hb30 hb31 hb32 hb33 hb0u hVu hz27 hz30 hz33 P1 P2 P3 HB1 HB2 HB3
        go_wp2_with fail
        go_loopw [251] (fun i wr => ∃ k : Nat, k ≤ 8 ∧ i = .int .i64 k ∧ Below w33.heap.size w33 wr) (fun i _ => 8 - (intOf i).toNat)
        case atStart => exact ⟨0, by omega, rfl, Below.refl _ _⟩
        case round =>
          rename World => wr
          obtain ⟨k, hk, rfl, hbr⟩ := hrel
          by_cases hlt : k < 8
          · have hki : (k : Int) < 8 := by omega
            obtain ⟨p0, p1⟩ := pcs_blk hlt (carryK kV3 hbr)
            obtain ⟨p2, p3⟩ := pcs_blk hlt (carryK kU3 hbr)
            obtain ⟨p4, p5⟩ := pcs_blk hlt (carryK kW hbr)
            have lC := (carryK kV3 hbr).lt
            have lF := (carryK kU3 hbr).lt
            have lH := (carryK kW hbr).lt
            have htm := HCK.out k hlt
            obtain ⟨z, ez⟩ : ∃ z, C1 k = z := ⟨_, rfl⟩
            obtain ⟨a, ea⟩ : ∃ a, F1 k = a := ⟨_, rfl⟩
            obtain ⟨b', eb⟩ : ∃ b', H1 k = b' := ⟨_, rfl⟩
            rw [ez] at p0 p1 htm
            rw [ea] at p2 p3 htm
            rw [eb] at p4 p5 htm
            have r0 : ∀ x, (over wr.heap.size wr x).cell? ⟨w29.heap.size, k * 2, none⟩ = some (.int .i64 z.re) := fun x => ((over_below _ _ _).cell (p := ⟨w29.heap.size, k * 2, none⟩) lC).trans p0
            have r1 : ∀ x, (over wr.heap.size wr x).cell? ⟨w29.heap.size, k * 2 + 1, none⟩ = some (.int .i64 z.im) := fun x => ((over_below _ _ _).cell (p := ⟨w29.heap.size, k * 2 + 1, none⟩) lC).trans p1
            have r2 : ∀ x, (over wr.heap.size wr x).cell? ⟨w26.heap.size, k * 2, none⟩ = some (.int .i64 a.re) := fun x => ((over_below _ _ _).cell (p := ⟨w26.heap.size, k * 2, none⟩) lF).trans p2
            have r3 : ∀ x, (over wr.heap.size wr x).cell? ⟨w26.heap.size, k * 2 + 1, none⟩ = some (.int .i64 a.im) := fun x => ((over_below _ _ _).cell (p := ⟨w26.heap.size, k * 2 + 1, none⟩) lF).trans p3
            have r4 : ∀ x, (over wr.heap.size wr x).cell? ⟨w32.heap.size, k * 2, none⟩ = some (.int .i64 b'.re) := fun x => ((over_below _ _ _).cell (p := ⟨w32.heap.size, k * 2, none⟩) lH).trans p4
            have r5 : ∀ x, (over wr.heap.size wr x).cell? ⟨w32.heap.size, k * 2 + 1, none⟩ = some (.int .i64 b'.im) := fun x => ((over_below _ _ _).cell (p := ⟨w32.heap.size, k * 2 + 1, none⟩) lH).trans p5
            have HTK := hide htm
            have qz := reflG_ne z
            clear p0 p1 p2 p3 p4 p5 ez ea eb lC lF lH htm
            go_upto_region 37 with (fail)
            refine wp_region_over wr.heap.size (by kernel_rfl) (by kernel_rfl) ?_; (repeat (first | go_big_quiet_step ((go_at_call 35; exact over_call (Nat.le_refl _) (HTK.out _))) | quiet_step ((go_at_call 35; exact over_call (Nat.le_refl _) (HTK.out _))))); refine wpQuiet_nil ?_; rintro W ⟨x, rfl⟩
            have hbY := over_below wr.heap.size wr x
            generalize over wr.heap.size wr x = Y at hbY ⊢
            clear r0 r1 r2 r3 r4 r5 qz
            go_wp2_with fail
            go_roundw
            case rel => exact ⟨k + 1, by omega, by go_num, below_next hbr hbY⟩
            case measure => simp [intOf]; omega
          · obtain rfl : k = 8 := by omega
            go_wp2_with fail
            go_ret
            exact ⟨rfl, below_next hb033 hbr⟩
end Go.Proofs.YtcihiglpahhboaaGreatDoor
