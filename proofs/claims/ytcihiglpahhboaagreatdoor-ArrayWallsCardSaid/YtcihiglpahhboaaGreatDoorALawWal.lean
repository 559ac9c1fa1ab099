/- The law ArrayWalls: for all arguments it returns true. -/
import Derived.Test.YtcihiglpahhboaaGreatDoorAAwk
import Derived.Test.YtcihiglpahhboaaGreatDoorALawP
import Derived.Test.YtcihiglpahhboaaGreatDoorALawG
import Derived.Test.YtcihiglpahhboaaGreatDoorABksP
import Derived.Test.YtcihiglpahhboaaGreatDoorATurn
import Derived.Test.YtcihiglpahhboaaGreatDoorSplitA
import Derived.Test.YtcihiglpahhboaaGreatDoorAPat3
import Derived.Test.YtcihiglpahhboaaGreatDoorARMir
import Derived.Test.YtcihiglpahhboaaGreatDoorASymP
import Derived.Test.YtcihiglpahhboaaGreatDoorAStp
import Derived.Deep.DeepCutAuto
namespace Go.Proofs.YtcihiglpahhboaaGreatDoor
open Go.RowKit Go.Shelf
set_option maxRecDepth 100000
/-- The pattern of valid sources, by its name. -/
theorem patW_is (F : Nat → G) {s : List Src} (h : LOk s) (hF : prs s = F) (A : Option Addr) (m c : Nat) (W : World) (hR : Reads W W.heap.size 4 A m (srcs s)) (hV : Vr W) (hm : m ≤ 1000000) :
    Calls Tryz.prog 34 #[.slice A m c] W fun e w' => e = .returned (.tuple #[.agg #[.int .i64 (F 0).re, .int .i64 (F 0).im, .int .i64 (F 1).re, .int .i64 (F 1).im, .int .i64 (F 2).re, .int .i64 (F 2).im, .int .i64 (F 3).re, .int .i64 (F 3).im, .int .i64 (F 4).re, .int .i64 (F 4).im, .int .i64 (F 5).re, .int .i64 (F 5).im, .int .i64 (F 6).re, .int .i64 (F 6).im, .int .i64 (F 7).re, .int .i64 (F 7).im], .int .i64 0]) ∧ Below W.heap.size W w' := by
  have := Pattern_any A m c s W hR hV hm
  rw [ptV_ok (ok_lst h), hF, ok_lst h] at this
  exact this
theorem symW_is {s : List Src} (S : List Nat) (h : LOk s) (hS : sym s = S) (A : Option Addr) (m c : Nat) (W : World) (hR : Reads W W.heap.size 4 A m (srcs s)) (hV : Vr W) (hm : m ≤ 1000000) :
    Calls Tryz.prog 28 #[.slice A m c] W fun e w' => ∃ A' n' c', e = .returned (.tuple #[.slice A' n' c', .int .i64 0]) ∧ Reads w' w'.heap.size 1 A' n' (ints (S.map (fun n : Nat => (n : Int)))) ∧ Below W.heap.size W w' := by
  have := Symmetries_any A m c s W hR hV hm
  unfold syO at this
  rw [if_pos (ok_lst h), hS, ok_lst h] at this
  exact this
theorem turnW_is {s : List Src} (h : LOk s) (A : Option Addr) (m c : Nat) (W : World) (hR : Reads W W.heap.size 4 A m (srcs s)) (hm : m ≤ 1000000) :
    Calls Tryz.prog 64 #[.slice A m c, .int .i64 1] W fun e w' => OutS W (s.map trn1) 0 e w' := by
  have := Turn_any A m c s 1 W hR hm
  have e0 : tuE s 1 = 0 := by unfold tuE; rw [ok_lst h]; rfl
  have e1 : trn 1 = trn1 := rfl
  unfold tuO at this
  rw [if_pos e0, e0, show ((1 : Int) % 4).toNat = 1 from rfl, e1] at this
  exact this
theorem miW_is {l : List Src} {u : Int} (h : LOk l) (hu : -100 ≤ u ∧ u ≤ 100) (b : Bool) : miO l u b = (vld (mirL l u b), lstErr (mirL l u b)) := by
  unfold miO
  rw [if_pos]
  unfold miE
  rw [fnz_zero]
  intro x hx
  simp only [List.mem_cons, List.not_mem_nil, or_false] at hx
  rcases hx with rfl | rfl
  · exact ok_lst h
  · exact rng_zero.2 hu
theorem sub_neg_mul (a t b : G) : a.add (t.neg.mul b) = a.sub (t.mul b) := by apply G.ext' <;> simp only [G.add, G.sub, G.neg, G.mul, Int.neg_mul] <;> omega
theorem oth_lt {k : Nat} (h : k < 8) : oth k < 8 := by unfold oth; repeat' split <;> first | omega | skip
theorem oth_index {k : Nat} (hk : k < 8) (W : World) : (Instr.index 64 (.agg #[.int .i64 4, .int .i64 3, .int .i64 2, .int .i64 1, .int .i64 0, .int .i64 7, .int .i64 6, .int .i64 5]) (.int .i64 (k : Int))).run Tryz.prog W = .ok (.int .i64 ((oth k : Nat) : Int)) W := by
  rcases lt8' hk with rfl | rfl | rfl | rfl | rfl | rfl | rfl | rfl <;> kernel_rfl
theorem stepW_is {k : Nat} (hk : k < 8) (W : World) (hV : Vr W) : Calls Tryz.prog 56 #[.int .i64 (k : Int)] W fun e w' => e = .returned (.tuple #[.int .i64 (stx k), .int .i64 (syV k), .int .i64 0]) ∧ Below W.heap.size W w' := by
  have h1 : rng (k : Int) 0 7 = 0 := rng_zero.2 ⟨by omega, by omega⟩
  have h2 : sxV (k : Int) = stx k := by unfold sxV; rw [if_pos h1]; rfl
  have := Step_any (k : Int) W hV
  rw [h1, h2] at this
  exact this
set_option maxHeartbeats 8000000 in
theorem lawWal_any (A : Option Addr) (m c : Nat) (l : List Src) (q x y u : Int) (b : Bool) (w : World) (hR : Reads w w.heap.size 4 A m (srcs l)) (hV : Vr w) (hT : Tens w) :
    Calls Tryz.prog 11 #[.slice A m c, .agg #[.int .i64 q, .int .i64 x, .int .i64 y, .int .i64 u, .bool b]] w fun e w' => e = .returned (.bool true) ∧ Below w.heap.size w w' := by
  have HL := hide (srcs_reads_len hR)
  go_enter Tryz.func11, Tryz.ntmps11
  go_upto_region 1 with (fail)
  obtain ⟨w1, e1, hb1, hz1, kN⟩ := box1 w #[.int .i64 q, .int .i64 x, .int .i64 y, .int .i64 u, .bool b] 107
  rw [← e1]; clear e1
  have hR1 := carry hR hb1
  have hV1 := hV.carry hb1
  have hT1 := tens_below hT hb1 hT.1
  clear hR hV hT hz1
  go_cut [44] from 27 to 43 (fun s44 wx => ∃ t : Bool, s44 = .bool t ∧ Hid (t = false → m ≤ 8 ∧ LOk l ∧ -100 ≤ u ∧ u ≤ 100) ∧ Below w1.heap.size w1 wx)
  case first =>
    as_aux_lemma =>
      go_wp2_with fail
      refine (awake_any _ hV1 hT1).mono ?_
      rintro e w2 ⟨rfl, hb2⟩
      by_cases h4 : m ≤ 8
      · have g1 : decide ((8 : Int) < (m : Int)) = false := by simp; omega
        have g1' : decide (8 < m) = false := by simp; omega
        go_wp2_with fail
        refine (rCheckSources_any A m c l _ (carry hR1 hb2) (by omega)).mono ?_
        rintro e w3 ⟨rfl, hb3⟩
        by_cases e0 : lstErr l = 0
        · have t0 : (lstErr l != 0) = false := by rw [e0]; rfl
          have E0 := hide e0
          have cN := (carryK kN (w' := w3) (by repeat (first | with_reducible assumption | exact Below.refl _ _ | refine below_next (by with_reducible assumption) ?_))).cell
          clear e0
          go_wp2_with fail
          refine (rCheckPlace_any _ _).mono ?_
          rintro e W' ⟨rfl, rfl⟩
          by_cases e1 : rng u (-100) 100 = 0
          · have t1 : (rng u (-100) 100 != 0) = false := by rw [e1]; rfl
            have E1 := hide (rng_zero.1 e1)
            clear e1 cN
            go_wp2_with fail
            go_meet
            exact ⟨false, rfl, fun _ => ⟨h4, lst_ok E0.out, E1.out⟩, (by repeat (first | with_reducible assumption | exact Below.refl _ _ | refine below_next (by with_reducible assumption) ?_))⟩
          · have t1 : (rng u (-100) 100 != 0) = true := by simpa using e1
            clear e1 cN
            go_wp2_with fail
            go_meet
            exact ⟨true, rfl, fun h => (by cases h), (by repeat (first | with_reducible assumption | exact Below.refl _ _ | refine below_next (by with_reducible assumption) ?_))⟩
        · have t0 : (lstErr l != 0) = true := by simpa using e0
          clear e0
          go_wp2_with fail
          go_meet
          exact ⟨true, rfl, fun h => (by cases h), (by repeat (first | with_reducible assumption | exact Below.refl _ _ | refine below_next (by with_reducible assumption) ?_))⟩
      · have g1 : decide ((8 : Int) < (m : Int)) = true := by simp; omega
        have g1' : decide (8 < m) = true := by simp; omega
        go_wp2_with fail
        go_meet
        exact ⟨true, rfl, fun h => (by cases h), hb2⟩
  case rest =>
    obtain ⟨t, rfl, HH, hb2⟩ := hcut
    rename World => w2
    have hR2 := carry hR1 hb2
    have hV2 := hV1.carry hb2
    have hT2 := tens_below hT1 hb2 hT1.1
    have kN2 := carryK kN hb2
    have hb02 := below_next hb1 hb2
    clear hb1 hb2 hR1 hV1 hT1 kN
    cases t
    case true =>
      go_wp2_with fail
      refine (awake_any _ hV2 hT2).mono ?_
      rintro e w3 ⟨rfl, hb3⟩
      go_wp2_with fail
      go_ret
      exact ⟨rfl, below_next hb02 hb3⟩
    case false =>
      obtain ⟨h8, hok, hu⟩ := HH.out rfl
      have HO := hide hok
      have HU := hide hu
      have hll := HL.out
      have hT1 : LOk (l.map trn1) := ⟨by rw [List.length_map]; exact hok.len, fun s hs => by obtain ⟨t, ht, rfl⟩ := List.mem_map.1 hs; exact trn1_ok (hok.all t ht)⟩
      obtain ⟨S, hS⟩ : ∃ S, sym l = S := ⟨_, rfl⟩
      have HS1 := hide (fun A m c W => symW_is S hok hS A m c W)
      have HS2 := hide (fun A m c W => symW_is S hT1 ((sym_turn l).trans hS) A m c W)
      have HSC : Hid (S = [0] ∨ S = [0, 2] ∨ S = [0, 1, 2, 3]) := by show _; rw [← hS]; exact sym_cases l
      have HTU := hide (fun A m c W => turnW_is hok A m c W)
      obtain ⟨E, hE⟩ : ∃ E, lstErr (mirL l u false) = E := ⟨_, rfl⟩
      have hE2 : lstErr (mirL l u true) = E := by rw [← hE]; exact (mir_err (by omega) u).symm
      have e16 : (mirL l u false).length ≤ 16 := by unfold mirL; simp; omega
      have H03 := hide (by have := lst_03 e16; rw [hE] at this; exact this)
      have HE := hide hE
      have HE2 := hide hE2
      have HM1 := hide (miW_is hok hu false)
      have HM2 := hide (miW_is hok hu true)
      clear hok hu hll hT1 hS hE hE2 e16 HH
      go_wp2_with fail
      refine (own_any A m c l _ hR2 (by omega)).mono ?_
      rintro e w3 ⟨A3, c3, rfl, hR3, hb3⟩
      go_wp2_with fail
      refine (HS1.out A3 m c3 _ hR3 (hV2.carry hb3) (by omega)).mono ?_
      rintro e w4 ⟨A4, n4, c4, rfl, hR4, hb4⟩
      go_wp2_with fail
      refine (own_any A m c l _ (carry hR2 (by repeat (first | with_reducible assumption | exact Below.refl _ _ | refine below_next (by with_reducible assumption) ?_))) (by omega)).mono ?_
      rintro e w5 ⟨A5, c5, rfl, hR5, hb5⟩
      go_wp2_with fail
      refine (HTU.out A5 m c5 _ hR5 (by omega)).mono ?_
      rintro e w6 ⟨A6, n6, c6, rfl, hR6, hb6⟩
      have L6 : n6 ≤ 16 := by have h1 := srcs_reads_len hR6; rw [List.length_map] at h1; have := HL.out; omega
      go_wp2_with (at_builtin; refine wpList_copied w6 rfl (.tmp 59) (.tmp 60) 26 (by rfl) 60 _ 4 32 Tryz.underlying26 info_src rfl (by decide) (by decide) (by rfl) A6 n6 c6 (srcs (l.map trn1)) (by rfl) hR6 (srcs_one _) (by omega) ?_; intro A7 c7 w7 hR7 hb7)
      refine (HS2.out A7 n6 c7 _ hR7 (hV2.carry (by repeat (first | with_reducible assumption | exact Below.refl _ _ | refine below_next (by with_reducible assumption) ?_))) (by omega)).mono ?_
      rintro e w8 ⟨A8, n8, c8, rfl, hR8, hb8⟩
      have hR4q := carry hR4 (w' := w8) (by repeat (first | with_reducible assumption | exact Below.refl _ _ | refine below_next (by with_reducible assumption) ?_))
      have hR2q := carry hR2 (w' := w8) (by repeat (first | with_reducible assumption | exact Below.refl _ _ | refine below_next (by with_reducible assumption) ?_))
      have kNq := carryK kN2 (w' := w8) (by repeat (first | with_reducible assumption | exact Below.refl _ _ | refine below_next (by with_reducible assumption) ?_))
      have hb2q : Below w2.heap.size w2 w8 := (by repeat (first | with_reducible assumption | exact Below.refl _ _ | refine below_next (by with_reducible assumption) ?_))
      have hVq := hV2.carry hb2q
      have hb0q := below_next hb02 hb2q
      clear hb3 hb4 hb5 hb6 hb7 hb8 hR3 hR4 hR5 hR6 hR7 hR2 kN2 hV2 hT2 hb02 hb2q L6
      go_upto_region 6 with (fail)
      go_cut [107] from 65 to 106 (fun s107 wx => s107 = .bool false ∧ Below w8.heap.size w8 wx)
      case first =>
        as_aux_lemma =>
          have l4 := reads_len hR4q
          have l8 := reads_len hR8
          have HSI := hide (fun W (h : Below w8.heap.size w8 W) => sameInts_any A4 n4 c4 W.heap.size _ A8 n8 c8 W.heap.size _ W (carry hR4q h) (carry hR8 h) (Nat.le_refl _) (Nat.le_refl _) (by have := HSC.out; simp at l4; rcases this with rfl | rfl | rfl <;> simp at l4 <;> omega) (by have := HSC.out; simp at l8; rcases this with rfl | rfl | rfl <;> simp at l8 <;> omega))
          clear l8
          rcases HSC.out with rfl | rfl | rfl
          · obtain rfl : n4 = 1 := by simpa [ints] using l4.symm
            obtain ⟨ad, x0, rfl, q0, z0, p0⟩ := reads_at hR4q (show 0 < 1 by omega)
            obtain rfl : (0 : Int) = x0 := by simpa using z0
            have r0 := fun W (h : Below w8.heap.size w8 W) => (h.cell (p := ad.add 0) q0).trans p0
            clear l4 z0 p0
            go_wp2_with fail
            refine (HSI.out _ (Below.refl _ _)).mono ?_
            rintro e w9 ⟨rfl, hb9⟩
            first | rw [decide_eq_true rfl] | rw [decide_eq_true trivial]
            have r0 : w9.cell? ad = some (.int .i64 0) := by have := r0 _ hb9; rw [show ad.add 0 = ad by simp [Addr.add]] at this; exact this
            go_wp2_with fail
            go_meet
            exact ⟨rfl, hb9⟩
          · obtain rfl : n4 = 2 := by simpa [ints] using l4.symm
            obtain ⟨ad, x0, rfl, q0, z0, p0⟩ := reads_at hR4q (show 0 < 2 by omega)
            obtain ⟨ad1, x1, e1, q1, z1, p1⟩ := reads_at hR4q (show 1 < 2 by omega)
            obtain rfl : ad = ad1 := by simpa using e1
            obtain rfl : (0 : Int) = x0 := by simpa using z0
            obtain rfl : (2 : Int) = x1 := by simpa using z1
            have r0 := fun W (h : Below w8.heap.size w8 W) => (h.cell (p := ad.add 0) q0).trans p0
            have r1 := fun W (h : Below w8.heap.size w8 W) => (h.cell (p := ad.add 1) q1).trans p1
            clear l4 z0 p0 z1 p1 e1
            go_wp2_with fail
            refine (HSI.out _ (Below.refl _ _)).mono ?_
            rintro e w9 ⟨rfl, hb9⟩
            first | rw [decide_eq_true rfl] | rw [decide_eq_true trivial]
            have r0 : w9.cell? ad = some (.int .i64 0) := by have := r0 _ hb9; rw [show ad.add 0 = ad by simp [Addr.add]] at this; exact this
            have r1 : w9.cell? ⟨ad.block, ad.off + 1, none⟩ = some (.int .i64 2) := by have := r1 _ hb9; rw [← add_off ad 1 (by omega)] at this; exact this
            go_wp2_with fail
            go_meet
            exact ⟨rfl, hb9⟩
          · obtain rfl : n4 = 4 := by simpa [ints] using l4.symm
            obtain ⟨ad, x0, rfl, q0, z0, p0⟩ := reads_at hR4q (show 0 < 4 by omega)
            obtain rfl : (0 : Int) = x0 := by simpa using z0
            have r0 := fun W (h : Below w8.heap.size w8 W) => (h.cell (p := ad.add 0) q0).trans p0
            clear l4 z0 p0
            go_wp2_with fail
            refine (HSI.out _ (Below.refl _ _)).mono ?_
            rintro e w9 ⟨rfl, hb9⟩
            first | rw [decide_eq_true rfl] | rw [decide_eq_true trivial]
            have r0 : w9.cell? ad = some (.int .i64 0) := by have := r0 _ hb9; rw [show ad.add 0 = ad by simp [Addr.add]] at this; exact this
            go_wp2_with fail
            go_meet
            exact ⟨rfl, hb9⟩
      case rest =>
      obtain ⟨rfl, hb9⟩ := hcut
      rename World => w9
      have hR9 := carry hR2q hb9
      have kN9 := carryK kNq hb9
      have hV9 := hVq.carry hb9
      have hb09 := below_next hb0q hb9
      clear hb9 hR2q kNq hVq hb0q hR4q hR8 HS1 HS2 HSC HTU
      go_upto_region 8 with (fail)
      go_cut [11, 12] from 108 to 115 (fun sa sb wx => ∃ (Ax : Option Addr) (nx cx : Nat), sa = .slice Ax nx cx ∧ sb = .int .i64 ((miO l u false).2) ∧ Reads wx wx.heap.size 4 Ax nx (srcs ((miO l u false).1)) ∧ Below w9.heap.size w9 wx)
      case first =>
        have cN := fun i W (h : Below w9.heap.size w9 W) => (carryK kN9 h).cell i
        go_region_held3 (fun W => Below w9.heap.size w9 W) (first | exact (Below.refl _ _).drew | (with_reducible assumption) | exact below_new ‹Below w9.heap.size w9 _› (Nat.le_refl _) _ | (refine below_set (below_set (below_set (below_set (by assumption) (by omega) _) (by omega) _) (by omega) _) (by omega) _)) (first | (go_at_call 20; refine (own_any A m c l _ (carry hR9 ‹Below w9.heap.size w9 _›) (by omega)).mono ?_; rintro e W1 ⟨A1, c1, rfl, hR1, hbW⟩; have hS := below_step ‹Below w9.heap.size w9 _› hbW (Below.size ‹Below w9.heap.size w9 _›)) | (go_at_call 66; refine (Mirror_any A1 m c1 l u false _ hR1 (by omega)).mono ?_; rintro e W2 ⟨Ay, ny, cy, rfl, hRy, hbY⟩; have hS2 := below_step ‹Below w9.heap.size w9 _› hbY (Below.size ‹Below w9.heap.size w9 _›)))
        all_goals
          (try go_wp2_with fail)
          go_meet
          exact ⟨Ay, ny, cy, rfl, rfl, hRy, by with_reducible assumption⟩
      case rest =>
      obtain ⟨A10, m10, c10, rfl, rfl, hR10, hb10⟩ := hcut
      rename World => w10
      have hR9b := carry hR9 (w' := w10) (by repeat (first | with_reducible assumption | exact Below.refl _ _ | refine below_next (by with_reducible assumption) ?_))
      have kN10 := carryK kN9 (w' := w10) (by repeat (first | with_reducible assumption | exact Below.refl _ _ | refine below_next (by with_reducible assumption) ?_))
      go_upto_region 9 with (fail)
      go_cut [13, 14] from 116 to 123 (fun sa sb wx => ∃ (Ax : Option Addr) (nx cx : Nat), sa = .slice Ax nx cx ∧ sb = .int .i64 ((miO l u true).2) ∧ Reads wx wx.heap.size 4 Ax nx (srcs ((miO l u true).1)) ∧ Below w10.heap.size w10 wx)
      case first =>
        have cN := fun i W (h : Below w10.heap.size w10 W) => (carryK kN10 h).cell i
        go_region_held3 (fun W => Below w10.heap.size w10 W) (first | exact (Below.refl _ _).drew | (with_reducible assumption) | exact below_new ‹Below w10.heap.size w10 _› (Nat.le_refl _) _ | (refine below_set (below_set (below_set (below_set (by assumption) (by omega) _) (by omega) _) (by omega) _) (by omega) _)) (first | (go_at_call 20; refine (own_any A m c l _ (carry hR9b ‹Below w10.heap.size w10 _›) (by omega)).mono ?_; rintro e W1 ⟨A1, c1, rfl, hR1, hbW⟩; have hS := below_step ‹Below w10.heap.size w10 _› hbW (Below.size ‹Below w10.heap.size w10 _›)) | (go_at_call 66; refine (Mirror_any A1 m c1 l u true _ hR1 (by omega)).mono ?_; rintro e W2 ⟨Ay, ny, cy, rfl, hRy, hbY⟩; have hS2 := below_step ‹Below w10.heap.size w10 _› hbY (Below.size ‹Below w10.heap.size w10 _›)))
        all_goals
          (try go_wp2_with fail)
          go_meet
          exact ⟨Ay, ny, cy, rfl, rfl, hRy, by with_reducible assumption⟩
      case rest =>
      obtain ⟨A11, m11, c11, rfl, rfl, hR11, hb11⟩ := hcut
      rename World => w11
      have q1 : (miO l u false).2 = E := by rw [HM1.out]; exact HE.out
      have q0 : (miO l u false).1 = vld (mirL l u false) := by rw [HM1.out]
      have q3 : (miO l u true).2 = E := by rw [HM2.out]; exact HE2.out
      have q2 : (miO l u true).1 = vld (mirL l u true) := by rw [HM2.out]
      rw [q1, q3]
      rw [q0] at hR10
      rw [q2] at hR11
      have hR10q := carry hR10 (w' := w11) (by repeat (first | with_reducible assumption | exact Below.refl _ _ | refine below_next (by with_reducible assumption) ?_))
      have hR2r := carry hR9b (w' := w11) (by repeat (first | with_reducible assumption | exact Below.refl _ _ | refine below_next (by with_reducible assumption) ?_))
      have kNr := carryK kN10 (w' := w11) (by repeat (first | with_reducible assumption | exact Below.refl _ _ | refine below_next (by with_reducible assumption) ?_))
      have hb9r : Below w9.heap.size w9 w11 := (by repeat (first | with_reducible assumption | exact Below.refl _ _ | refine below_next (by with_reducible assumption) ?_))
      have hVr := hV9.carry hb9r
      have hb0r := below_next hb09 hb9r
      clear q0 q1 q2 q3 hb10 hb11 hb9r hR10 hR9 hR9b kN9 kN10 hV9 hb09
      go_upto_region 10 with (fail)
      go_cut [134] from 124 to 133 (fun s wx => s = .bool false ∧ w11 = wx)
      case first =>
        by_cases e0 : E = 0
        · have t0 : (E != 0) = false := by rw [e0]; rfl
          clear e0
          go_wp2_with fail
          go_meet
          exact ⟨rfl, rfl⟩
        · have t0 : (E != 0) = true := by simpa using e0
          have t1 : (E != 3) = false := by have := H03.out; simp; omega
          clear e0
          go_wp2_with fail
          go_meet
          exact ⟨rfl, rfl⟩
      case rest =>
      obtain ⟨rfl, rfl⟩ := hcut
      by_cases e0 : E = 0
      case neg =>
        have t0 : (E != 0) = true := by simpa using e0
        clear e0
        go_wp2_with fail
        go_ret
        exact ⟨rfl, hb0r⟩
      case pos =>
      have t0 : (E != 0) = false := by rw [e0]; rfl
      have hk1 := lst_ok (HE.out.trans e0)
      have hk2 := lst_ok (HE2.out.trans e0)
      have hok := HO.out
      rw [vld_ok (ok_lst hk1)] at hR10q
      rw [vld_ok (ok_lst hk2)] at hR11
      have L10 : m10 ≤ 16 := by have := srcs_reads_len hR10q; have := hk1.len; omega
      have L11 : m11 ≤ 16 := by have := srcs_reads_len hR11; have := hk2.len; omega
      obtain ⟨F, hF⟩ : ∃ F, prs l = F := ⟨_, rfl⟩
      obtain ⟨U, hU⟩ : ∃ U, prs (mirL l u false) = U := ⟨_, rfl⟩
      obtain ⟨V, hVV⟩ : ∃ V, prs (mirL l u true) = V := ⟨_, rfl⟩
      have PF := hide (fun A m c W => patW_is F hok hF A m c W)
      have PU := hide (fun A m c W => patW_is U hk1 hU A m c W)
      have PV := hide (fun A m c W => patW_is V hk2 hVV A m c W)
      have hUm : ∀ k, k < 8 → U k = (F k).add ((turnI (2 * u * stx k)).mul (F (oth k))) := fun k hk => by
        rw [← hU, ← hF]
        have := prs_mir u l hk false
        simpa [mirL] using this
      have hVm : ∀ k, k < 8 → V k = (F k).sub ((turnI (2 * u * stx k)).mul (F (oth k))) := fun k hk => by
        rw [← hVV, ← hF]
        have := prs_mir u l hk true
        simp only [if_true] at this
        rw [sub_neg_mul] at this
        exact this
      have HQT : Hid (∀ k, k < 8 → ∀ W, Calls Tryz.prog 72 #[.agg #[.int .i64 (F (oth k)).re, .int .i64 (F (oth k)).im], .int .i64 (2 * u * stx k)] W fun e W' => e = .returned (.agg #[.int .i64 ((turnI (2 * u * stx k)).mul (F (oth k))).re, .int .i64 ((turnI (2 * u * stx k)).mul (F (oth k))).im]) ∧ Below W.heap.size W W') := fun k hk W =>
        qTurn_any (F (oth k)) (2 * u * stx k) W (by rw [← hF]; have := prs_in hok (oth k); omega)
      have HPL : Hid (∀ k, k < 8 → ∀ W, Calls Tryz.prog 73 #[.agg #[.int .i64 (F k).re, .int .i64 (F k).im], .agg #[.int .i64 ((turnI (2 * u * stx k)).mul (F (oth k))).re, .int .i64 ((turnI (2 * u * stx k)).mul (F (oth k))).im]] W fun e W' => e = .returned (.agg #[.int .i64 (U k).re, .int .i64 (U k).im]) ∧ Below W.heap.size W W') := fun k hk W => by
        have := rPlus_any (F k) ((turnI (2 * u * stx k)).mul (F (oth k))) W
        rw [← hUm k hk, G.w_in (by rw [← hU]; have := prs_in hk1 k; omega)] at this
        exact this
      have HLS : Hid (∀ k, k < 8 → ∀ W, Calls Tryz.prog 74 #[.agg #[.int .i64 (F k).re, .int .i64 (F k).im], .agg #[.int .i64 ((turnI (2 * u * stx k)).mul (F (oth k))).re, .int .i64 ((turnI (2 * u * stx k)).mul (F (oth k))).im]] W fun e W' => e = .returned (.agg #[.int .i64 (V k).re, .int .i64 (V k).im]) ∧ Below W.heap.size W W') := fun k hk W => by
        have := rLess_any (F k) ((turnI (2 * u * stx k)).mul (F (oth k))) W
        rw [← hVm k hk, G.w_in (by rw [← hVV]; have := prs_in hk2 k; omega)] at this
        exact this
      have HU2 : Hid ((U 2).re = 2 * (F 2).re ∧ (U 2).im = 2 * (F 2).im) := by
        show _ ∧ _
        rw [hUm 2 (by omega)]
        have : turnI (2 * u * stx 2) = .one := by rw [show stx 2 = 0 from rfl, Int.mul_zero]; rfl
        rw [this, G.one_mul]
        simp only [G.add, oth]
        simp
        omega
      have HV2 : Hid ((V 2).re = 0 ∧ (V 2).im = 0) := by
        show _ ∧ _
        rw [hVm 2 (by omega)]
        have : turnI (2 * u * stx 2) = .one := by rw [show stx 2 = 0 from rfl, Int.mul_zero]; rfl
        rw [this, G.one_mul]
        simp only [G.sub, oth]
        simp
      have HV6 : Hid ((V 6).re = 0 ∧ (V 6).im = 0) := by
        show _ ∧ _
        rw [hVm 6 (by omega)]
        have : turnI (2 * u * stx 6) = .one := by rw [show stx 6 = 0 from rfl, Int.mul_zero]; rfl
        rw [this, G.one_mul]
        simp only [G.sub, oth]
        simp
      have HF2 : Hid (-1600 ≤ (F 2).re ∧ (F 2).re ≤ 1600 ∧ -1600 ≤ (F 2).im ∧ (F 2).im ≤ 1600) := by
        show _ ∧ _
        have := prs_in hok 2
        rw [hF] at this
        unfold G.nrm at this
        omega
      clear e0 hk1 hk2 hok hF hU hVV hUm hVm
      go_wp2_with fail
      refine (own_any A m c l _ hR2r (by omega)).mono ?_
      rintro e w12 ⟨A12, c12, rfl, hR12, hb12⟩
      go_wp2_with fail
      refine (PF.out A12 m c12 _ hR12 (hVr.carry hb12) (by omega)).mono ?_
      rintro e w13 ⟨rfl, hb13⟩
      go_upto_region 15 with (fail)
      obtain ⟨w14, e14, hb14, hz14, kF⟩ := box1 w13 #[.int .i64 (F 0).re, .int .i64 (F 0).im, .int .i64 (F 1).re, .int .i64 (F 1).im, .int .i64 (F 2).re, .int .i64 (F 2).im, .int .i64 (F 3).re, .int .i64 (F 3).im, .int .i64 (F 4).re, .int .i64 (F 4).im, .int .i64 (F 5).re, .int .i64 (F 5).im, .int .i64 (F 6).re, .int .i64 (F 6).im, .int .i64 (F 7).re, .int .i64 (F 7).im] 55
      rw [← e14]; clear e14
      have hR10s := carry hR10q (w' := w14) (by repeat (first | with_reducible assumption | exact Below.refl _ _ | refine below_next (by with_reducible assumption) ?_))
      go_wp2_with (at_builtin; refine wpList_copied w14 rfl (.tmp 144) (.tmp 145) 26 (by rfl) 60 _ 4 32 Tryz.underlying26 info_src rfl (by decide) (by decide) (by rfl) A10 m10 c10 (srcs (mirL l u false)) (by rfl) hR10s (srcs_one _) (by omega) ?_; intro A15 c15 w15 hR15 hb15)
      refine (PU.out A15 m10 c15 _ hR15 (hVr.carry (by repeat (first | with_reducible assumption | exact Below.refl _ _ | refine below_next (by with_reducible assumption) ?_))) (by omega)).mono ?_
      rintro e w16 ⟨rfl, hb16⟩
      go_upto_region 16 with (fail)
      obtain ⟨w17, e17, hb17, hz17, kU⟩ := box1 w16 #[.int .i64 (U 0).re, .int .i64 (U 0).im, .int .i64 (U 1).re, .int .i64 (U 1).im, .int .i64 (U 2).re, .int .i64 (U 2).im, .int .i64 (U 3).re, .int .i64 (U 3).im, .int .i64 (U 4).re, .int .i64 (U 4).im, .int .i64 (U 5).re, .int .i64 (U 5).im, .int .i64 (U 6).re, .int .i64 (U 6).im, .int .i64 (U 7).re, .int .i64 (U 7).im] 55
      rw [← e17]; clear e17
      have hR11s := carry hR11 (w' := w17) (by repeat (first | with_reducible assumption | exact Below.refl _ _ | refine below_next (by with_reducible assumption) ?_))
      go_wp2_with (at_builtin; refine wpList_copied w17 rfl (.tmp 151) (.tmp 152) 26 (by rfl) 60 _ 4 32 Tryz.underlying26 info_src rfl (by decide) (by decide) (by rfl) A11 m11 c11 (srcs (mirL l u true)) (by rfl) hR11s (srcs_one _) (by omega) ?_; intro A18 c18 w18 hR18 hb18)
      refine (PV.out A18 m11 c18 _ hR18 (hVr.carry (by repeat (first | with_reducible assumption | exact Below.refl _ _ | refine below_next (by with_reducible assumption) ?_))) (by omega)).mono ?_
      rintro e w19 ⟨rfl, hb19⟩
      go_upto_region 17 with (fail)
      obtain ⟨w20, e20, hb20, hz20, kV⟩ := box1 w19 #[.int .i64 (V 0).re, .int .i64 (V 0).im, .int .i64 (V 1).re, .int .i64 (V 1).im, .int .i64 (V 2).re, .int .i64 (V 2).im, .int .i64 (V 3).re, .int .i64 (V 3).im, .int .i64 (V 4).re, .int .i64 (V 4).im, .int .i64 (V 5).re, .int .i64 (V 5).im, .int .i64 (V 6).re, .int .i64 (V 6).im, .int .i64 (V 7).re, .int .i64 (V 7).im] 55
      rw [← e20]; clear e20
      obtain ⟨gP, hgP⟩ : ∃ g, w13.heap.size = g := ⟨_, rfl⟩
      obtain ⟨gU, hgU⟩ : ∃ g, w16.heap.size = g := ⟨_, rfl⟩
      obtain ⟨gV, hgV⟩ : ∃ g, w19.heap.size = g := ⟨_, rfl⟩
      rw [hgP] at kF ⊢
      rw [hgU] at kU ⊢
      rw [hgV] at kV ⊢
      have kP20 := carryK kF (w' := w20) (by repeat (first | with_reducible assumption | exact Below.refl _ _ | refine below_next (by with_reducible assumption) ?_))
      have kU20 := carryK kU (w' := w20) (by repeat (first | with_reducible assumption | exact Below.refl _ _ | refine below_next (by with_reducible assumption) ?_))
      have kN20 := carryK kNr (w' := w20) (by repeat (first | with_reducible assumption | exact Below.refl _ _ | refine below_next (by with_reducible assumption) ?_))
      have hb020 : Below w11.heap.size w11 w20 := (by repeat (first | with_reducible assumption | exact Below.refl _ _ | refine below_next (by with_reducible assumption) ?_))
      have hV20 := hVr.carry hb020
      have hb020 := below_next hb0r hb020
      clear kF kU kNr hVr hb0r hgP hgU hgV hR12 hR15 hR18 hb12 hb13 hb14 hb15 hb16 hb17 hb18 hb19 hb20 hR10q hR10s hR11 hR11s hz14 hz17 hz20 hR2r PF PU PV L10 L11 HE HE2 HM1 HM2 H03 t0
      go_wp2_with fail
      go_loopw [168] (fun i wr => ∃ k : Nat, k ≤ 8 ∧ i = .int .i64 k ∧ Below w20.heap.size w20 wr) (fun i _ => 8 - (intOf i).toNat)
      case atStart => exact ⟨0, by omega, rfl, Below.refl _ _⟩
      case round =>
        rename World => wr
        obtain ⟨k, hk, rfl, hbr⟩ := hrel
        by_cases hlt : k < 8
        · have hki : (k : Int) < 8 := by omega
          have ri := oth_index hlt
          have HQk := hide (HQT.out k hlt)
          have HPk := hide (HPL.out k hlt)
          have HLk := hide (HLS.out k hlt)
          obtain ⟨o, ho⟩ : ∃ o, oth k = o := ⟨_, rfl⟩
          have ho8 : o < 8 := by rw [← ho]; exact oth_lt hlt
          rw [ho] at ri HQk HPk HLk
          have hoi : (o : Int) < 8 := by omega
          go_wp2_with fail
          refine (stepW_is hlt _ (hV20.carry hbr)).mono ?_
          rintro e ws ⟨rfl, hbs⟩
          obtain ⟨sx, hsx⟩ : ∃ sx, stx k = sx := ⟨_, rfl⟩
          have hsx1 : -1 ≤ sx ∧ sx ≤ 1 := by rw [← hsx]; exact stx_in k
          rw [hsx] at HQk HPk HLk ⊢
          obtain ⟨z, hz⟩ : ∃ z, F o = z := ⟨_, rfl⟩
          obtain ⟨a, ha⟩ : ∃ a, F k = a := ⟨_, rfl⟩
          obtain ⟨U1, hU1⟩ : ∃ a, U k = a := ⟨_, rfl⟩
          obtain ⟨V1, hV1⟩ : ∃ a, V k = a := ⟨_, rfl⟩
          obtain ⟨zq, hzq⟩ : ∃ q, (turnI (2 * u * sx)).mul z = q := ⟨_, rfl⟩
          rw [hz, hzq] at HQk HPk HLk
          rw [ha] at HPk HLk
          rw [hU1] at HPk
          rw [hV1] at HLk
          have hbrs := below_next hbr hbs
          have tw1 : wrap64 (2 * u) = 2 * u := by have := HU.out; unfold wrap64; omega
          have tw2 : wrap64 (2 * u * sx) = 2 * u * sx := by
            have := HU.out
            have := mul_step (a := 2 * u) hsx1
            unfold wrap64; omega
          clear hsx1 hsx hzq ri
          go_upto_region 23 with (fail)
          refine wp_region_alloc1 9 (af := ?af1) (t1 := 54) (cs1 := #[.int .i64 0, .int .i64 0]) (by kernel_rfl) (by kernel_rfl) (by kernel_rfl) rfl ⟨rfl, rfl, fun _ _ => by kernel_rfl⟩ (by kernel_rfl) ?q1n ?q2n
          case q1n =>
            intro W0 hW0
            have kk := carryK (w' := W0) (carryK kP20 hbrs) hW0
            obtain ⟨p0, p1⟩ := pcs_blk ho8 kk
            rw [hz] at p0 p1
            have r0 : ∀ x, (over W0.heap.size W0 x).cell? ⟨gP, o * 2, none⟩ = some (.int .i64 z.re) := fun x => ((over_below _ _ _).cell (p := ⟨gP, o * 2, none⟩) kk.lt).trans p0
            have r1 : ∀ x, (over W0.heap.size W0 x).cell? ⟨gP, o * 2 + 1, none⟩ = some (.int .i64 z.im) := fun x => ((over_below _ _ _).cell (p := ⟨gP, o * 2 + 1, none⟩) kk.lt).trans p1
            have kn := carryK (w' := W0) (carryK kN20 hbrs) hW0
            have cN := over_blk kn kn.lt
            clear p0 p1 kk kn
            simp only [List.take_succ_cons, List.take_zero]
            (repeat (first | go_big_quiet_step (first | (go_at_call 72; with_reducible first | exact over_call (Nat.le_refl _) (HQk.out _)))))
            refine wpQuiet_nil ?_
            rfl
          intro gS Y hgS hbY kS0
          simp only [List.drop_succ_cons, List.drop_zero, Act.put, List.setIfInBounds_toArray, List.set_cons_succ, List.set_cons_zero]
          have cS0 := kS0.cell
          have fS0 := kS0.frozen
          go_upto_region 24 with (fail)
          have kS : Blk _ gS 54 #[.int .i64 zq.re, .int .i64 zq.im] := blk2 (u0 := .int .i64 zq.re) (u1 := .int .i64 zq.im) kS0
          have hbN := below2 (u0 := .int .i64 zq.re) (u1 := .int .i64 zq.im) hbY hgS
          clear cS0 fS0 kS0 hbY
          generalize World.setCell _ _ _ = X at kS hbN ⊢
          have hbX := below_next hbrs hbN
          obtain ⟨p0, p1⟩ := pcs_blk hlt (carryK kP20 hbX)
          obtain ⟨p2, p3⟩ := pcs_blk hlt (carryK kU20 hbX)
          obtain ⟨p4, p5⟩ := pcs_blk hlt (carryK kV hbX)
          rw [ha] at p0 p1
          rw [hU1] at p2 p3
          rw [hV1] at p4 p5
          have r0 : ∀ x, (over X.heap.size X x).cell? ⟨gP, k * 2, none⟩ = some (.int .i64 a.re) := fun x => ((over_below _ _ _).cell (p := ⟨gP, k * 2, none⟩) (carryK kP20 hbX).lt).trans p0
          have r1 : ∀ x, (over X.heap.size X x).cell? ⟨gP, k * 2 + 1, none⟩ = some (.int .i64 a.im) := fun x => ((over_below _ _ _).cell (p := ⟨gP, k * 2 + 1, none⟩) (carryK kP20 hbX).lt).trans p1
          have r2 : ∀ x, (over X.heap.size X x).cell? ⟨gU, k * 2, none⟩ = some (.int .i64 U1.re) := fun x => ((over_below _ _ _).cell (p := ⟨gU, k * 2, none⟩) (carryK kU20 hbX).lt).trans p2
          have r3 : ∀ x, (over X.heap.size X x).cell? ⟨gU, k * 2 + 1, none⟩ = some (.int .i64 U1.im) := fun x => ((over_below _ _ _).cell (p := ⟨gU, k * 2 + 1, none⟩) (carryK kU20 hbX).lt).trans p3
          have r4 : ∀ x, (over X.heap.size X x).cell? ⟨gV, k * 2, none⟩ = some (.int .i64 V1.re) := fun x => ((over_below _ _ _).cell (p := ⟨gV, k * 2, none⟩) (carryK kV hbX).lt).trans p4
          have r5 : ∀ x, (over X.heap.size X x).cell? ⟨gV, k * 2 + 1, none⟩ = some (.int .i64 V1.im) := fun x => ((over_below _ _ _).cell (p := ⟨gV, k * 2 + 1, none⟩) (carryK kV hbX).lt).trans p5
          have rS := over_blk kS kS.lt
          have qu := reflG_ne U1
          have qv := reflG_ne V1
          clear p0 p1 p2 p3 p4 p5 hbs hbrs hbN ha hz hU1 hV1 tw1 tw2
          refine wp_region_over X.heap.size (by kernel_rfl) (by kernel_rfl) ?_; (repeat (first | go_big_quiet_step (first | (go_at_call 73; exact over_call (Nat.le_refl _) (HPk.out _)) | (go_at_call 74; exact over_call (Nat.le_refl _) (HLk.out _))) | quiet_step (first | (go_at_call 73; exact over_call (Nat.le_refl _) (HPk.out _)) | (go_at_call 74; exact over_call (Nat.le_refl _) (HLk.out _))))); refine wpQuiet_nil ?_; rintro W ⟨x, rfl⟩
          have hbY := over_below X.heap.size X x
          generalize over X.heap.size X x = Y at hbY ⊢
          clear r0 r1 r2 r3 r4 r5 rS qu qv
          go_wp2_with fail
          go_roundw
          case rel => exact ⟨k + 1, by omega, by go_num, below_next hbX hbY⟩
          case measure => simp [intOf]; omega
        · obtain rfl : k = 8 := by omega
          obtain ⟨p0, p1⟩ := pcs_blk (show 2 < 8 by omega) (carryK kP20 hbr)
          obtain ⟨p2, p3⟩ := pcs_blk (show 2 < 8 by omega) (carryK kU20 hbr)
          obtain ⟨p4, p5⟩ := pcs_blk (show 2 < 8 by omega) (carryK kV hbr)
          obtain ⟨p6, p7⟩ := pcs_blk (show 6 < 8 by omega) (carryK kV hbr)
          rw [HU2.out.1] at p2
          rw [HU2.out.2] at p3
          rw [HV2.out.1] at p4
          rw [HV2.out.2] at p5
          rw [HV6.out.1] at p6
          rw [HV6.out.2] at p7
          have hf := HF2.out
          obtain ⟨f, hf0⟩ : ∃ f, (F 2).re = f := ⟨_, rfl⟩
          obtain ⟨g, hg0⟩ : ∃ f, (F 2).im = f := ⟨_, rfl⟩
          rw [hf0] at p0 p2 hf
          rw [hg0] at p1 p3 hf
          have tw1 : wrap64 (2 * f) = 2 * f := by unfold wrap64; omega
          have tw2 : wrap64 (2 * g) = 2 * g := by unfold wrap64; omega
          have qe : ∀ w, (binOp .eql 54 (.agg #[.int .i64 (2 * f), .int .i64 (2 * g)]) (.agg #[.int .i64 (2 * f), .int .i64 (2 * g)])).run Tryz.prog w = .ok (.bool true) w := reflG_eq ⟨2 * f, 2 * g⟩
          have qz : ∀ w, (binOp .eql 54 (.agg #[.int .i64 0, .int .i64 0]) (.agg #[.int .i64 0, .int .i64 0])).run Tryz.prog w = .ok (.bool true) w := reflG_eq ⟨0, 0⟩
          clear hf hf0 hg0
          go_wp2_with fail
          go_ret
          exact ⟨rfl, below_next hb020 hbr⟩
end Go.Proofs.YtcihiglpahhboaaGreatDoor
