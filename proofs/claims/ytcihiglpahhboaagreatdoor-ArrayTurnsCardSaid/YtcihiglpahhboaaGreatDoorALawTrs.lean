/- The law ArrayTurns: for all arguments it returns true. -/
import Derived.Test.YtcihiglpahhboaaGreatDoorAAwk
import Derived.Test.YtcihiglpahhboaaGreatDoorALawP
import Derived.Test.YtcihiglpahhboaaGreatDoorALawG
import Derived.Test.YtcihiglpahhboaaGreatDoorABksP
import Derived.Test.YtcihiglpahhboaaGreatDoorATurn
import Derived.Test.YtcihiglpahhboaaGreatDoorSplitA
import Derived.Test.YtcihiglpahhboaaGreatDoorAPat3
import Derived.Test.YtcihiglpahhboaaGreatDoorALawPro
import Derived.Test.YtcihiglpahhboaaGreatDoorARSym
import Derived.Test.YtcihiglpahhboaaGreatDoorASymP
import Derived.Test.YtcihiglpahhboaaGreatDoorAStp
import Derived.Deep.DeepCutAuto
namespace Go.Proofs.YtcihiglpahhboaaGreatDoor
open Go.RowKit Go.Shelf
set_option maxRecDepth 100000
theorem turnT_is {s : List Src} (h : LOk s) (A : Option Addr) (m c : Nat) (W : World) (hR : Reads W W.heap.size 4 A m (srcs s)) (hm : m ≤ 1000000) :
    Calls Tryz.prog 64 #[.slice A m c, .int .i64 1] W fun e w' => OutS W (s.map trn1) 0 e w' := by
  have := Turn_any A m c s 1 W hR hm
  have e0 : tuE s 1 = 0 := by unfold tuE; rw [ok_lst h]; rfl
  have e1 : trn 1 = trn1 := rfl
  unfold tuO at this
  rw [if_pos e0, e0, show ((1 : Int) % 4).toNat = 1 from rfl, e1] at this
  exact this
theorem shT_is {l : List Src} {x y : Int} (h : LOk l) (hx : -100 ≤ x ∧ x ≤ 100) (hy : -100 ≤ y ∧ y ≤ 100) : shO l x y = (vld (l.map (shf x y)), lstErr (l.map (shf x y))) := by
  unfold shO
  rw [if_pos]
  unfold shE
  rw [fnz_zero]
  intro z hz
  simp only [List.mem_cons, List.not_mem_nil, or_false] at hz
  rcases hz with rfl | rfl | rfl
  · exact ok_lst h
  · exact rng_zero.2 hx
  · exact rng_zero.2 hy
theorem pathT_is {x y : Int} (hx : -100 ≤ x ∧ x ≤ 100) (hy : -100 ≤ y ∧ y ≤ 100) {k : Nat} (hk : k < 8) (W : World) (hV : Vr W) :
    Calls Tryz.prog 57 #[.agg #[.int .i64 x, .int .i64 y, .int .i64 0, .int .i64 0], .int .i64 (k : Int)] W fun e w' => e = .returned (.tuple #[.int .i64 (x * stx k + y * sty k), .int .i64 0]) ∧ Below W.heap.size W w' := by
  have hs : (⟨x, y, 0, 0⟩ : Src).err = 0 := Src.err_iff.2 ⟨hx.1, hx.2, hy.1, hy.2, (show (-100 : Int) ≤ 0 by decide), (show (0 : Int) ≤ 100 by decide), (show (0 : Int) ≤ 0 by decide), (show (0 : Int) ≤ 3 by decide)⟩
  have hr : rng (k : Int) 0 7 = 0 := rng_zero.2 ⟨by omega, by omega⟩
  have he : pnE ⟨x, y, 0, 0⟩ (k : Int) = 0 := by unfold pnE; rw [hs, hr]; rfl
  have hv : pnV ⟨x, y, 0, 0⟩ (k : Int) = x * stx k + y * sty k := by unfold pnV; rw [if_pos he]; rfl
  have := Path_any ⟨x, y, 0, 0⟩ (k : Int) W hV
  rw [he, hv] at this
  exact this
theorem nrmT_is {s : List Src} (h : LOk s) (A : Option Addr) (m c : Nat) (W : World) (hR : Reads W W.heap.size 4 A m (srcs s)) (hV : Vr W) (hm : m ≤ 1000000) :
    Calls Tryz.prog 27 #[.slice A m c] W fun e w' => OutS W ((nrm s).map asS) 0 e w' := by
  have := Normal_any A m c s W hR hV hm
  unfold nmO at this
  rw [if_pos (ok_lst h), ok_lst h] at this
  exact this.mono fun _ _ h => h.1
theorem mod8_T (k : Nat) (h : k < 8) : ((k : Int) + 2).tmod 8 = (((k + 2) % 8 : Nat) : Int) := by rw [Int.tmod_eq_emod_of_nonneg (by omega)]; omega
theorem halfT {g : Int} (h : -100 ≤ g ∧ g ≤ 100) : wrap64 (g.tdiv 2) = g.tdiv 2 ∧ wrap64 (g - g.tdiv 2) = g - g.tdiv 2 := by
  obtain ⟨a, b⟩ := half_in h
  generalize g.tdiv 2 = d at *
  unfold wrap64
  omega
/-- The head of a row of one's own, and its gain turned. -/
theorem own_headT {W : World} {B n : Nat} {v : Value} {s : Src} {r : List Src} (h : W.ownsRow B 60 4 v n (srcs (s :: r))) :
    ∃ g cap cur, v = .slice (some ⟨g, 0, none⟩) n cap ∧ B ≤ g ∧ 0 < n ∧ Blk W g 60 cur ∧
      (W.cell? ⟨g, 0, none⟩ = some (.int .i64 s.x) ∧ W.cell? ⟨g, 1, none⟩ = some (.int .i64 s.y) ∧ W.cell? ⟨g, 2, none⟩ = some (.int .i64 s.g) ∧ W.cell? ⟨g, 3, none⟩ = some (.int .i64 s.p)) ∧
      ∀ W' u, Blk W' g 60 (cur.setIfInBounds 2 (.int .i64 u)) → W'.ownsRow B 60 4 v n (srcs (⟨s.x, s.y, u, s.p⟩ :: r)) := by
  obtain ⟨hl, h2⟩ := h
  have hl4 : (srcs (s :: r)).length = 4 * (r.length + 1) := by rw [srcs_len]; simp; omega
  rcases h2 with ⟨_, rfl⟩ | ⟨g, cap, cur, rfl, hg, hb, hc, hm, hz, ht⟩
  · rw [hl4] at hl; omega
  · have hk : Blk W g 60 cur := hb
    have hn : 0 < n := by omega
    have hcur : ∀ i, i < 4 → cur[i]? = (srcCells s)[i]? := fun i hi => by
      have e : (cur.toList.take (n * 4))[i]? = (srcs (s :: r))[i]? := by rw [ht]
      rw [List.getElem?_take_of_lt (by omega), Array.getElem?_toList] at e
      rw [e]
      show (srcCells s ++ srcs r)[i]? = _
      rw [List.getElem?_append_left (by show i < 4; exact hi)]
    refine ⟨g, cap, cur, rfl, hg, hn, hk, ⟨?_, ?_, ?_, ?_⟩, ?_⟩
    · rw [hk.cell, hcur 0 (by omega)]; rfl
    · rw [hk.cell, hcur 1 (by omega)]; rfl
    · rw [hk.cell, hcur 2 (by omega)]; rfl
    · rw [hk.cell, hcur 3 (by omega)]; rfl
    · intro W' u hk'
      refine ⟨by rw [← hl]; rw [srcs_len, srcs_len]; simp, .inr ⟨g, cap, _, rfl, hg, hk', hc, hm, by rw [Array.size_setIfInBounds]; exact hz, ?_⟩⟩
      rw [Array.toList_setIfInBounds, List.take_set, ht]
      show (srcCells s ++ srcs r).set 2 (.int .i64 u) = srcCells ⟨s.x, s.y, u, s.p⟩ ++ srcs r
      rw [List.set_append_left _ _ (by show 2 < 4; omega)]
      rfl
theorem asS_getT {L : List Wt} {k : Nat} {s : Src} (h : (L.map asS)[k]? = some s) : ∃ a, L[k]? = some a ∧ s = asS a := by
  rw [List.getElem?_map] at h
  cases hq : L[k]? with
  | none => rw [hq] at h; cases h
  | some a => rw [hq] at h; exact ⟨a, rfl, by simpa using h.symm⟩
theorem rev_at {l : List Src} {n k : Nat} {s : Src} (hl : l.length = n) (hk : k < n) (h : l[n - 1 - k]? = some s) : l.reverse[k]? = some s := by
  rw [List.getElem?_reverse (by omega), hl]; exact h
theorem apart_cons {l : List Src} {s : Src} {r : List Src} (h : l.reverse = s :: r) : apart l = ⟨s.x, s.y, s.g.tdiv 2, s.p⟩ :: r ++ [⟨s.x, s.y, s.g - s.g.tdiv 2, s.p⟩] := by
  unfold apart
  rw [h]
set_option maxHeartbeats 8000000 in
theorem lawTrs_any (A : Option Addr) (m c : Nat) (l : List Src) (q x y u : Int) (b : Bool) (w : World) (hR : Reads w w.heap.size 4 A m (srcs l)) (hV : Vr w) (hT : Tens w) :
    Calls Tryz.prog 14 #[.slice A m c, .agg #[.int .i64 q, .int .i64 x, .int .i64 y, .int .i64 u, .bool b]] w fun e w' => e = .returned (.bool true) ∧ Below w.heap.size w w' := by
  have HL := hide (srcs_reads_len hR)
  go_enter Tryz.func14, Tryz.ntmps14
  go_upto_region 1 with (fail)
  obtain ⟨w1, e1, hb1, hz1, kN⟩ := box1 w #[.int .i64 q, .int .i64 x, .int .i64 y, .int .i64 u, .bool b] 107
  rw [← e1]; clear e1
  have hR1 := carry hR hb1
  have hV1 := hV.carry hb1
  have hT1 := tens_below hT hb1 hT.1
  clear hR hV hT hz1
  go_cut [54] from 31 to 53 (fun s54 wx => ∃ t : Bool, s54 = .bool t ∧ Hid (t = false → m ≤ 8 ∧ LOk l ∧ (-100 ≤ x ∧ x ≤ 100) ∧ (-100 ≤ y ∧ y ≤ 100)) ∧ Below w1.heap.size w1 wx)
  case first =>
    as_aux_lemma =>
      go_wp2_with fail
      refine (awake_any _ hV1 hT1).mono ?_
      rintro e w2 ⟨rfl, hb2⟩
      go_wp2_with fail
      refine (short_any _ _ _ _ _).mono ?_
      rintro e W' ⟨rfl, rfl⟩
      by_cases h4 : shrt m 8 = true
      · rw [h4]
        have h8 : m ≤ 8 ∨ m = 17 := by unfold shrt at h4; simp at h4; omega
        clear h4
        go_wp2_with fail
        refine (rCheckSources_any A m c l _ (carry hR1 hb2) (by omega)).mono ?_
        rintro e w3 ⟨rfl, hb3⟩
        by_cases e0 : lstErr l = 0
        · have t0 : (lstErr l != 0) = false := by rw [e0]; rfl
          have E0 := hide e0
          have cN := (carryK kN (w' := w3) (by repeat (first | with_reducible assumption | exact Below.refl _ _ | refine below_next (by with_reducible assumption) ?_))).cell
          clear e0
          go_wp2_with fail
          refine (rCheckPlace_any _ _).mono ?_
          rintro e W' ⟨rfl, rfl⟩
          by_cases e1 : rng x (-100) 100 = 0
          · have t1 : (rng x (-100) 100 != 0) = false := by rw [e1]; rfl
            have E1 := hide (rng_zero.1 e1)
            clear e1
            go_wp2_with fail
            refine (rCheckPlace_any _ _).mono ?_
            rintro e W' ⟨rfl, rfl⟩
            by_cases e2 : rng y (-100) 100 = 0
            · have t2 : (rng y (-100) 100 != 0) = false := by rw [e2]; rfl
              have E2 := hide (rng_zero.1 e2)
              clear e2 cN
              go_wp2_with fail
              go_meet
              exact ⟨false, rfl, fun _ => ⟨by have := (lst_ok E0.out).len; have := HL.out; omega, lst_ok E0.out, E1.out, E2.out⟩, (by repeat (first | with_reducible assumption | exact Below.refl _ _ | refine below_next (by with_reducible assumption) ?_))⟩
            · have t2 : (rng y (-100) 100 != 0) = true := by simpa using e2
              clear e2 cN
              go_wp2_with fail
              go_meet
              exact ⟨true, rfl, fun h => (by cases h), (by repeat (first | with_reducible assumption | exact Below.refl _ _ | refine below_next (by with_reducible assumption) ?_))⟩
          · have t1 : (rng x (-100) 100 != 0) = true := by simpa using e1
            clear e1 cN
            go_wp2_with fail
            go_meet
            exact ⟨true, rfl, fun h => (by cases h), (by repeat (first | with_reducible assumption | exact Below.refl _ _ | refine below_next (by with_reducible assumption) ?_))⟩
        · have t0 : (lstErr l != 0) = true := by simpa using e0
          clear e0
          go_wp2_with fail
          go_meet
          exact ⟨true, rfl, fun h => (by cases h), (by repeat (first | with_reducible assumption | exact Below.refl _ _ | refine below_next (by with_reducible assumption) ?_))⟩
      · have h4 : shrt m 8 = false := by simpa using h4
        rw [h4]
        clear h4
        go_wp2_with fail
        go_meet
        exact ⟨true, rfl, fun h => (by cases h), hb2⟩
  case rest =>
    obtain ⟨t, rfl, HH, hb2⟩ := hcut
    rename World => w2
    have hR2 := carry hR1 hb2
    have hV2 := hV1.carry hb2
    have hT2 := tens_below hT1 hb2 hT1.1
    have kN2 := carryK kN hb2
    have hb02 := below_next hb1 hb2
    clear hb1 hb2 hR1 hV1 hT1 kN
    cases t
    case true =>
      go_wp2_with fail
      refine (awake_any _ hV2 hT2).mono ?_
      rintro e w3 ⟨rfl, hb3⟩
      go_wp2_with fail
      go_ret
      exact ⟨rfl, below_next hb02 hb3⟩
    case false =>
      obtain ⟨h8, hok, hx, hy⟩ := HH.out rfl
      have HO := hide hok
      have HX := hide hx
      have HY := hide hy
      have hT1 : LOk (l.map trn1) := ⟨by rw [List.length_map]; exact hok.len, fun s hs => by obtain ⟨t, ht, rfl⟩ := List.mem_map.1 hs; exact trn1_ok (hok.all t ht)⟩
      obtain ⟨F, hF⟩ : ∃ F, prs l = F := ⟨_, rfl⟩
      obtain ⟨G1, hG⟩ : ∃ F, prs (l.map trn1) = F := ⟨_, rfl⟩
      have PF := hide (fun A m c W => pat_is F hok hF A m c W)
      have PG := hide (fun A m c W => pat_is G1 hT1 hG A m c W)
      have HGF : Hid (∀ k, k < 8 → G1 ((k + 2) % 8) = F k) := fun k hk => by rw [← hG, ← hF]; exact prs_turn l hk
      have HTU := hide (fun A m c W => turnT_is hok A m c W)
      obtain ⟨E, hE⟩ : ∃ E, lstErr (l.map (shf x y)) = E := ⟨_, rfl⟩
      have H03 := hide (by have := lst_03 (l := l.map (shf x y)) (by rw [List.length_map]; exact hok.len); rw [hE] at this; exact this)
      have HE := hide hE
      have HSH := hide (shT_is hok hx hy)
      have HF := hide hF
      have HP : Hid (∀ A m c W, Reads W W.heap.size 4 A m (srcs (apart l)) → Vr W → m ≤ 1000000 → Calls Tryz.prog 34 #[.slice A m c] W fun e w' => e = .returned (.tuple #[.agg #[.int .i64 (F 0).re, .int .i64 (F 0).im, .int .i64 (F 1).re, .int .i64 (F 1).im, .int .i64 (F 2).re, .int .i64 (F 2).im, .int .i64 (F 3).re, .int .i64 (F 3).im, .int .i64 (F 4).re, .int .i64 (F 4).im, .int .i64 (F 5).re, .int .i64 (F 5).im, .int .i64 (F 6).re, .int .i64 (F 6).im, .int .i64 (F 7).re, .int .i64 (F 7).im], .int .i64 0]) ∧ Below W.heap.size W w') :=
        fun A m c W => pat_is F (apart_ok hok (by have := HL.out; omega)) (by rw [← hF]; funext k; exact apart_prs l k) A m c W
      have HN1 := hide (fun A m c W => nrmT_is hok A m c W)
      have HN2 : Hid (∀ A m c W, Reads W W.heap.size 4 A m (srcs (apart l)) → Vr W → m ≤ 1000000 → Calls Tryz.prog 27 #[.slice A m c] W fun e w' => OutS W ((nrm l).map asS) 0 e w') :=
        fun A m c W => by
          have := nrmT_is (apart_ok hok (by have := HL.out; omega)) A m c W
          rw [apart_nrm] at this
          exact this
      have HNL := hide (nrm_len1000 hok)
      clear hok hx hy hT1 hF hG hE HH
      go_wp2_with fail
      refine (own_any A m c l _ hR2 (by omega)).mono ?_
      rintro e w3 ⟨A3, c3, rfl, hR3, hb3⟩
      go_wp2_with fail
      refine (PF.out A3 m c3 _ hR3 (hV2.carry hb3) (by omega)).mono ?_
      rintro e w4 ⟨rfl, hb4⟩
      go_upto_region 4 with (fail)
      obtain ⟨w5, e5, hb5, hz5, kF⟩ := box1 w4 #[.int .i64 (F 0).re, .int .i64 (F 0).im, .int .i64 (F 1).re, .int .i64 (F 1).im, .int .i64 (F 2).re, .int .i64 (F 2).im, .int .i64 (F 3).re, .int .i64 (F 3).im, .int .i64 (F 4).re, .int .i64 (F 4).im, .int .i64 (F 5).re, .int .i64 (F 5).im, .int .i64 (F 6).re, .int .i64 (F 6).im, .int .i64 (F 7).re, .int .i64 (F 7).im] 55
      rw [← e5]; clear e5
      go_wp2_with fail
      refine (own_any A m c l _ (carry hR2 (by repeat (first | with_reducible assumption | exact Below.refl _ _ | refine below_next (by with_reducible assumption) ?_))) (by omega)).mono ?_
      rintro e w6 ⟨A6, c6, rfl, hR6, hb6⟩
      go_wp2_with fail
      refine (HTU.out A6 m c6 _ hR6 (by omega)).mono ?_
      rintro e w7 ⟨A7, n7, c7, rfl, hR7, hb7⟩
      have L7 : n7 ≤ 16 := by have h1 := srcs_reads_len hR7; rw [List.length_map] at h1; have := HL.out; omega
      go_wp2_with (at_builtin; refine wpList_copied w7 rfl (.tmp 69) (.tmp 70) 26 (by rfl) 60 _ 4 32 Tryz.underlying26 info_src rfl (by decide) (by decide) (by rfl) A7 n7 c7 (srcs (l.map trn1)) (by rfl) hR7 (srcs_one _) (by omega) ?_; intro A8 c8 w8 hR8 hb8)
      refine (PG.out A8 n7 c8 _ hR8 (hV2.carry (by repeat (first | with_reducible assumption | exact Below.refl _ _ | refine below_next (by with_reducible assumption) ?_))) (by omega)).mono ?_
      rintro e w9 ⟨rfl, hb9⟩
      go_upto_region 6 with (fail)
      obtain ⟨w10, e10, hb10, hz10, kG⟩ := box1 w9 #[.int .i64 (G1 0).re, .int .i64 (G1 0).im, .int .i64 (G1 1).re, .int .i64 (G1 1).im, .int .i64 (G1 2).re, .int .i64 (G1 2).im, .int .i64 (G1 3).re, .int .i64 (G1 3).im, .int .i64 (G1 4).re, .int .i64 (G1 4).im, .int .i64 (G1 5).re, .int .i64 (G1 5).im, .int .i64 (G1 6).re, .int .i64 (G1 6).im, .int .i64 (G1 7).re, .int .i64 (G1 7).im] 55
      rw [← e10]; clear e10
      obtain ⟨gP, hgP⟩ : ∃ g, w4.heap.size = g := ⟨_, rfl⟩
      obtain ⟨gT, hgT⟩ : ∃ g, w9.heap.size = g := ⟨_, rfl⟩
      rw [hgP] at kF ⊢
      rw [hgT] at kG ⊢
      have kP10 := carryK kF (w' := w10) (by repeat (first | with_reducible assumption | exact Below.refl _ _ | refine below_next (by with_reducible assumption) ?_))
      have hR10 := carry hR2 (w' := w10) (by repeat (first | with_reducible assumption | exact Below.refl _ _ | refine below_next (by with_reducible assumption) ?_))
      have kN10 := carryK kN2 (w' := w10) (by repeat (first | with_reducible assumption | exact Below.refl _ _ | refine below_next (by with_reducible assumption) ?_))
      have hb210 : Below w2.heap.size w2 w10 := (by repeat (first | with_reducible assumption | exact Below.refl _ _ | refine below_next (by with_reducible assumption) ?_))
      have hV10 := hV2.carry hb210
      have hb010 := below_next hb02 hb210
      clear hb3 hb4 hb5 hb6 hb7 hb8 hb9 hb10 hR2 hR3 hR6 hR7 hR8 kN2 hV2 hT2 hb02 hb210 L7 kF hgP hgT hz5 hz10 PG HTU
      go_wp2_with fail
      go_loopw [85] (fun i wr => ∃ k : Nat, k ≤ 8 ∧ i = .int .i64 k ∧ Below w10.heap.size w10 wr) (fun i _ => 8 - (intOf i).toNat)
      case atStart => exact ⟨0, by omega, rfl, Below.refl _ _⟩
      case round =>
        rename World => wr
        obtain ⟨k, hk, rfl, hbr⟩ := hrel
        by_cases hlt : k < 8
        · have hki : (k : Int) < 8 := by omega
          have tm := mod8_T k hlt
          have tw : wrap64 ((k : Int) + 2) = (k : Int) + 2 := by unfold wrap64; omega
          have hGF := HGF.out k hlt
          obtain ⟨o, ho⟩ : ∃ o, (k + 2) % 8 = o := ⟨_, rfl⟩
          have ho8 : o < 8 := by omega
          rw [ho] at tm hGF
          have hoi : (o : Int) < 8 := by omega
          have tw2 : wrap64 ((o : Nat) : Int) = (o : Int) := by unfold wrap64; omega
          clear ho
          obtain ⟨p0, p1⟩ := pcs_blk hlt (carryK kP10 hbr)
          obtain ⟨p2, p3⟩ := pcs_blk ho8 (carryK kG hbr)
          rw [hGF] at p2 p3
          obtain ⟨a, ha⟩ : ∃ a, F k = a := ⟨_, rfl⟩
          rw [ha] at p0 p1 p2 p3
          have lP := (carryK kP10 hbr).lt
          have lG := (carryK kG hbr).lt
          have r0 : ∀ x, (over wr.heap.size wr x).cell? ⟨gP, k * 2, none⟩ = some (.int .i64 a.re) := fun x => ((over_below _ _ _).cell (p := ⟨gP, k * 2, none⟩) lP).trans p0
          have r1 : ∀ x, (over wr.heap.size wr x).cell? ⟨gP, k * 2 + 1, none⟩ = some (.int .i64 a.im) := fun x => ((over_below _ _ _).cell (p := ⟨gP, k * 2 + 1, none⟩) lP).trans p1
          have r2 : ∀ x, (over wr.heap.size wr x).cell? ⟨gT, o * 2, none⟩ = some (.int .i64 a.re) := fun x => ((over_below _ _ _).cell (p := ⟨gT, o * 2, none⟩) lG).trans p2
          have r3 : ∀ x, (over wr.heap.size wr x).cell? ⟨gT, o * 2 + 1, none⟩ = some (.int .i64 a.im) := fun x => ((over_below _ _ _).cell (p := ⟨gT, o * 2 + 1, none⟩) lG).trans p3
          have qz := reflG_ne a
          clear p0 p1 p2 p3 lP lG hGF ha
          go_upto_region 11 with (fail)
          refine wp_region_over wr.heap.size (by kernel_rfl) (by kernel_rfl) ?_; (repeat (first | go_big_quiet_step (fail) | quiet_step (fail))); refine wpQuiet_nil ?_; rintro W ⟨x, rfl⟩
          have hbY := over_below wr.heap.size wr x
          generalize over wr.heap.size wr x = Y at hbY ⊢
          clear r0 r1 r2 r3 qz
          go_wp2_with fail
          go_roundw
          case rel => exact ⟨k + 1, by omega, by go_num, below_next hbr hbY⟩
          case measure => simp [intOf]; omega
        · have hkk : k = 8 := by omega
          subst hkk
          have hR9 := carry hR10 hbr
          have kN9 := carryK kN10 hbr
          have kP9 := carryK kP10 hbr
          have hV9 := hV10.carry hbr
          have hb09 := below_next hb010 hbr
          clear hR10 kN10 kP10 hV10 hb010 hbr kG HGF hlt hk
          go_upto_region 14 with (fail)
          go_cut [12, 13] from 99 to 107 (fun sa sb wx => ∃ (Ax : Option Addr) (nx cx : Nat), sa = .slice Ax nx cx ∧ sb = .int .i64 ((shO l x y).2) ∧ Reads wx wx.heap.size 4 Ax nx (srcs ((shO l x y).1)) ∧ Below wr.heap.size wr wx)
          case first =>
            have cN := fun i W (h : Below wr.heap.size wr W) => (carryK kN9 h).cell i
            go_region_held3 (fun W => Below wr.heap.size wr W) (first | exact (Below.refl _ _).drew | (with_reducible assumption) | exact below_new ‹Below wr.heap.size wr _› (Nat.le_refl _) _ | (refine below_set (below_set (below_set (below_set (by assumption) (by omega) _) (by omega) _) (by omega) _) (by omega) _)) (first | (go_at_call 20; refine (own_any A m c l _ (carry hR9 ‹Below wr.heap.size wr _›) (by omega)).mono ?_; rintro e W1 ⟨A1, c1, rfl, hR1, hbW⟩; have hS := below_step ‹Below wr.heap.size wr _› hbW (Below.size ‹Below wr.heap.size wr _›)) | (go_at_call 65; refine (Shift_any A1 m c1 l x y _ hR1 (by omega)).mono ?_; rintro e W2 ⟨Ay, ny, cy, rfl, hRy, hbY⟩; have hS2 := below_step ‹Below wr.heap.size wr _› hbY (Below.size ‹Below wr.heap.size wr _›)))
            all_goals
              (try go_wp2_with fail)
              go_meet
              exact ⟨Ay, ny, cy, rfl, rfl, hRy, by with_reducible assumption⟩
          case rest =>
          obtain ⟨A11, m11, c11, rfl, rfl, hR11, hb11⟩ := hcut
          rename World => w11
          have q1 : (shO l x y).2 = E := by rw [HSH.out]; exact HE.out
          have q0 : (shO l x y).1 = vld (l.map (shf x y)) := by rw [HSH.out]
          rw [q1]
          rw [q0] at hR11
          have hRb := carry hR9 hb11
          have kNb := carryK kN9 hb11
          have kPb := carryK kP9 hb11
          have hVb := hV9.carry hb11
          have hb0b := below_next hb09 hb11
          clear q0 q1 hb11 hR9 kN9 kP9 hV9 hb09
          go_upto_if 109 with (fail)
          go_cut [14, 15, 16, 17, 18] from 108 to 158 (fun _ _ _ _ _ wx => Below w11.heap.size w11 wx)
          case first =>
            as_aux_lemma =>
              by_cases e0 : E = 0
              · have t0 : (E == 0) = true := by rw [e0]; rfl
                have hk1 := lst_ok (HE.out.trans e0)
                rw [vld_ok (ok_lst hk1)] at hR11
                have L11 : m11 ≤ 16 := by have := srcs_reads_len hR11; have := hk1.len; omega
                obtain ⟨S, hS⟩ : ∃ S, prs (l.map (shf x y)) = S := ⟨_, rfl⟩
                have PS := hide (fun A m c W => pat_is S hk1 hS A m c W)
                have hSk : ∀ k, S k = (turnI (x * stx k + y * sty k)).mul (F k) := fun k => by rw [← hS, ← HF.out]; exact prs_shift x y l k
                have HQT : Hid (∀ k W, Calls Tryz.prog 72 #[.agg #[.int .i64 (F k).re, .int .i64 (F k).im], .int .i64 (x * stx k + y * sty k)] W fun e W' => e = .returned (.agg #[.int .i64 (S k).re, .int .i64 (S k).im]) ∧ Below W.heap.size W W') := fun k W => by
                  rw [hSk k]
                  exact qTurn_any (F k) _ W (by rw [← HF.out]; have := prs_in HO.out k; omega)
                have HQ1 : Hid (∀ k W, Calls Tryz.prog 63 #[.agg #[.int .i64 (F k).re, .int .i64 (F k).im]] W fun e W' => e = .returned (.int .i64 (F k).sq) ∧ Below W.heap.size W W') := fun k W => by
                  have := rSquare_any (F k) W
                  rw [wr_in (by rw [← HF.out]; have := prs_sq HO.out k; omega)] at this
                  exact this
                have HQ2 : Hid (∀ k W, Calls Tryz.prog 63 #[.agg #[.int .i64 (S k).re, .int .i64 (S k).im]] W fun e W' => e = .returned (.int .i64 (F k).sq) ∧ Below W.heap.size W W') := fun k W => by
                  have := rSquare_any (S k) W
                  rw [hSk k, G.sq_mul, turnI_sq, Int.one_mul, wr_in (by rw [← HF.out]; have := prs_sq HO.out k; omega), ← hSk k] at this
                  exact this
                clear e0 hk1 hS hSk
                go_wp2_with (at_builtin; refine wpList_copied w11 rfl (.tmp 111) (.tmp 112) 26 (by rfl) 60 _ 4 32 Tryz.underlying26 info_src rfl (by decide) (by decide) (by rfl) A11 m11 c11 (srcs (l.map (shf x y))) (by rfl) hR11 (srcs_one _) (by omega) ?_; intro A12 c12 w12 hR12 hb12)
                refine (PS.out A12 m11 c12 _ hR12 (hVb.carry hb12) (by omega)).mono ?_
                rintro e w13 ⟨rfl, hb13⟩
                go_upto_region 17 with (fail)
                obtain ⟨w14, e14, hb14, hz14, kS⟩ := box1 w13 #[.int .i64 (S 0).re, .int .i64 (S 0).im, .int .i64 (S 1).re, .int .i64 (S 1).im, .int .i64 (S 2).re, .int .i64 (S 2).im, .int .i64 (S 3).re, .int .i64 (S 3).im, .int .i64 (S 4).re, .int .i64 (S 4).im, .int .i64 (S 5).re, .int .i64 (S 5).im, .int .i64 (S 6).re, .int .i64 (S 6).im, .int .i64 (S 7).re, .int .i64 (S 7).im] 55
                rw [← e14]; clear e14
                obtain ⟨gS, hgS⟩ : ∃ g, w13.heap.size = g := ⟨_, rfl⟩
                rw [hgS] at kS ⊢
                have kP14 := carryK kPb (w' := w14) (by repeat (first | with_reducible assumption | exact Below.refl _ _ | refine below_next (by with_reducible assumption) ?_))
                have kN14 := carryK kNb (w' := w14) (by repeat (first | with_reducible assumption | exact Below.refl _ _ | refine below_next (by with_reducible assumption) ?_))
                have hb14b : Below w11.heap.size w11 w14 := (by repeat (first | with_reducible assumption | exact Below.refl _ _ | refine below_next (by with_reducible assumption) ?_))
                have hV14 := hVb.carry hb14b
                clear hb12 hb13 hb14 hz14 hR11 hR12 hgS hVb kPb kNb PS
                go_wp2_with fail
                go_loopw [119] (fun i wr => ∃ k : Nat, k ≤ 8 ∧ i = .int .i64 k ∧ Below w14.heap.size w14 wr) (fun i _ => 8 - (intOf i).toNat)
                case atStart => exact ⟨0, by omega, rfl, Below.refl _ _⟩
                case round =>
                  rename World => wt
                  obtain ⟨k, hk, rfl, hbt⟩ := hrel
                  by_cases hlt : k < 8
                  · have hki : (k : Int) < 8 := by omega
                    have cN := (carryK kN14 hbt).cell
                    go_wp2_with fail
                    refine (pathT_is HX.out HY.out hlt _ (hV14.carry hbt)).mono ?_
                    rintro e ws ⟨rfl, hbs⟩
                    have hbts := below_next hbt hbs
                    have htu := HQT.out k
                    have hq1 := HQ1.out k
                    have hq2 := HQ2.out k
                    obtain ⟨n, hn⟩ : ∃ n, x * stx k + y * sty k = n := ⟨_, rfl⟩
                    obtain ⟨a, ha⟩ : ∃ a, F k = a := ⟨_, rfl⟩
                    obtain ⟨z, hz⟩ : ∃ a, S k = a := ⟨_, rfl⟩
                    obtain ⟨p0, p1⟩ := pcs_blk hlt (carryK kP14 hbts)
                    obtain ⟨p2, p3⟩ := pcs_blk hlt (carryK kS hbts)
                    rw [ha] at p0 p1 htu hq1 hq2
                    rw [hz] at p2 p3 htu hq2
                    rw [hn] at htu ⊢
                    have lP := (carryK kP14 hbts).lt
                    have lS := (carryK kS hbts).lt
                    have HTU := hide htu
                    have HA := hide hq1
                    have HB := hide hq2
                    have r0 : ∀ x, (over ws.heap.size ws x).cell? ⟨gP, k * 2, none⟩ = some (.int .i64 a.re) := fun x => ((over_below _ _ _).cell (p := ⟨gP, k * 2, none⟩) lP).trans p0
                    have r1 : ∀ x, (over ws.heap.size ws x).cell? ⟨gP, k * 2 + 1, none⟩ = some (.int .i64 a.im) := fun x => ((over_below _ _ _).cell (p := ⟨gP, k * 2 + 1, none⟩) lP).trans p1
                    have r2 : ∀ x, (over ws.heap.size ws x).cell? ⟨gS, k * 2, none⟩ = some (.int .i64 z.re) := fun x => ((over_below _ _ _).cell (p := ⟨gS, k * 2, none⟩) lS).trans p2
                    have r3 : ∀ x, (over ws.heap.size ws x).cell? ⟨gS, k * 2 + 1, none⟩ = some (.int .i64 z.im) := fun x => ((over_below _ _ _).cell (p := ⟨gS, k * 2 + 1, none⟩) lS).trans p3
                    have qz := reflG_ne z
                    clear p0 p1 p2 p3 lP lS ha hz hn htu hq1 hq2 cN hbs
                    go_upto_region 23 with (fail)
                    refine wp_region_over ws.heap.size (by kernel_rfl) (by kernel_rfl) ?_; (repeat (first | go_big_quiet_step (first | (go_at_call 72; exact over_call (Nat.le_refl _) (HTU.out _)) | (go_at_call 63; with_reducible first | exact over_call (Nat.le_refl _) (HA.out _) | exact over_call (Nat.le_refl _) (HB.out _))) | quiet_step (first | (go_at_call 72; exact over_call (Nat.le_refl _) (HTU.out _)) | (go_at_call 63; with_reducible first | exact over_call (Nat.le_refl _) (HA.out _) | exact over_call (Nat.le_refl _) (HB.out _))))); refine wpQuiet_nil ?_; rintro W ⟨x, rfl⟩
                    have hbY := over_below ws.heap.size ws x
                    generalize over ws.heap.size ws x = Y at hbY ⊢
                    clear r0 r1 r2 r3 qz
                    go_wp2_with fail
                    go_roundw
                    case rel => exact ⟨k + 1, by omega, by go_num, below_next hbts hbY⟩
                    case measure => simp [intOf]; omega
                  · obtain rfl : k = 8 := by omega
                    go_wp2_with fail
                    go_meet
                    exact below_next hb14b hbt
              · have t0 : (E == 0) = false := by simpa using e0
                have t1 : (E != 3) = false := by have := H03.out; simp; omega
                clear e0
                go_wp2_with fail
                go_meet
                exact Below.refl _ _
          case rest =>
          have hb12 := hcut
          rename World => w12
          have hRc := carry hRb hb12
          have kPc := carryK kPb hb12
          have hVc := hVb.carry hb12
          have hb0c := below_next hb0b hb12
          clear hcut hb12 hRb kNb kPb hVb hb0b hR11 H03 HE HSH HX HY
          go_wp2_with fail
          go_loopw [19, 161] (fun v i wr => ∃ k : Nat, k ≤ m ∧ i = .int .i64 k ∧ wr.ownsRow w12.heap.size 60 4 v k (srcs (l.reverse.take k)) ∧ Below w12.heap.size w12 wr) (fun _ i _ => m - (intOf i).toNat)
          case atStart => exact ⟨0, by omega, rfl, by simp [srcs, World.ownsRow_nil], Below.refl _ _⟩
          case round =>
            rename World => wo
            obtain ⟨k, hk, rfl, ho, hb⟩ := hrel
            by_cases hlt : k < m
            · have hr := hRc.below hb
              obtain ⟨ad, s, rfl, _, hx, hc⟩ := src_hit hr (show m - 1 - k < m by omega) hb.size
              have HXX := hide (rev_at HL.out hlt hx)
              have hsz := hb.size
              have A1 : k + 1 ≤ maxLen := by unfold maxLen; omega
              have A2 : (k + 1) * 32 ≤ 140737488355328 := by omega
              obtain ⟨d0, d1, d2, d3⟩ := hc wo (Below.refl _ _)
              have t4 : m - 1 - k < m := by omega
              have t5 : (k : Int) < (m : Int) := by omega
              clear hRc hr hc hx
              go_wp2_with (at_builtin; refine wpList_push _ rfl (.tmp 164) (.tmp 173) _ rfl w12.heap.size 60 _ 4 32 Tryz.underlying26 info_src rfl (by decide) _ k _ rfl (ho.alloc _) wo.heap.size (srcCells s) rfl rfl (src_new1 _ _ _) (one_src _) A1 A2 (le_alloc hsz _) ?_; intro v1 w1 ho1 hb1)
              go_roundw
              case rel =>
                first
                  | exact ⟨k + 1, by omega, by go_num, by rw [srcs_take_succ HXX.out]; exact ho1, (hb.alloc hsz _).trans hb1⟩
                  | (refine ⟨v1, _, _, _, _, _, _, _, _, _, _, _, _, _, _, _, _, ⟨k + 1, by omega, ?_, ?_, (hb.alloc hsz _).trans hb1⟩, rfl⟩
                     · go_num
                     · rw [srcs_take_succ HXX.out]; exact ho1)
              case measure => simp [intOf]; omega
            · have hkk : m = k := by omega
              subst hkk
              rw [List.take_of_length_le (by rw [List.length_reverse, HL.out]; omega)] at ho
              go_upto_if 178 with (fail)
              go_cut [19, 21, 22] from 176 to 199 (fun s19 _ _ wx => ∃ (Ax : Option Addr) (nx cx : Nat), s19 = .slice Ax nx cx ∧ Reads wx wx.heap.size 4 Ax nx (srcs (apart l)) ∧ Below w12.heap.size w12 wx)
              case first =>
                as_aux_lemma =>
                  by_cases m0 : m = 0
                  · have hl0 : l = [] := List.eq_nil_of_length_eq_zero (by rw [HL.out, m0])
                    have HAP : Hid (srcs l.reverse = srcs (apart l)) := by show _ = _; rw [hl0]; rfl
                    rw [HAP.out] at ho
                    clear hl0 hlt hk
                    subst m0
                    obtain ⟨A', c', rfl, hR'⟩ := own_slice ho
                    go_wp2_with fail
                    go_meet
                    exact ⟨A', 0, c', rfl, hR', hb⟩
                  · have g1 : decide ((0 : Int) < (m : Int)) = true := by simp; omega
                    have g1' : decide (0 < m) = true := by simp; omega
                    obtain ⟨s, r, hsr⟩ : ∃ s r, l.reverse = s :: r := by
                      cases hq : l.reverse with
                      | nil => exfalso; have := congrArg List.length hq; rw [List.length_reverse, HL.out] at this; exact m0 this
                      | cons s r => exact ⟨s, r, rfl⟩
                    have HAP := hide (apart_cons hsr)
                    have hsok : s.Ok := HO.out.all s (by rw [← List.mem_reverse, hsr]; simp)
                    obtain ⟨t1, t2⟩ := halfT ⟨hsok.g1, hsok.g2⟩
                    rw [hsr] at ho
                    obtain ⟨g, cap, cur, rfl, hg, hn0, hkb, ⟨d0, d1, d2, d3⟩, hset⟩ := own_headT ho
                    have HSET := hide hset
                    have HC2 : Hid (cur[2]? = some (.int .i64 s.g)) := (hkb.cell 2).symm.trans d2
                    obtain ⟨hf, hhf⟩ : ∃ f, s.g.tdiv 2 = f := ⟨_, rfl⟩
                    replace t1 := t1.trans hhf
                    rw [hhf] at t2
                    have HHF := hide hhf
                    obtain ⟨dd, hdd⟩ : ∃ f, s.g - hf = f := ⟨_, rfl⟩
                    replace t2 := t2.trans hdd
                    have HDD := hide hdd
                    have t3 : (0 : Int) < (m : Int) := by omega
                    clear hsr hsok hset hhf hdd m0 hlt hk ho
                    go_upto_region 37 with (fail)
                    obtain ⟨wA, eA, hbA, hzA, kL⟩ := box1 wo #[.int .i64 s.x, .int .i64 s.y, .int .i64 s.g, .int .i64 s.p] 60
                    rw [← eA]; clear eA
                    have cL := kL.cell
                    have fL := kL.frozen
                    have hkA := carryK hkb hbA
                    clear d0 d1 d2 d3
                    go_upto_region 38 with (fail)
                    have kL2 : Blk (wA.setCell ⟨wo.heap.size, 2, none⟩ (.int .i64 dd)) wo.heap.size 60 #[.int .i64 s.x, .int .i64 s.y, .int .i64 dd, .int .i64 s.p] := by simpa using kL.set_ 2 (.int .i64 dd)
                    have hbB := below_set hbA (Nat.le_refl wo.heap.size) (i := 2) (.int .i64 dd)
                    have hkB := carryK hkb hbB
                    clear cL fL kL hkA
                    generalize World.setCell _ _ _ = wB at kL2 hbB hkB ⊢
                    have fB := hkB.frozen
                    have cB : wB.cell? ⟨g, 2, none⟩ = some (.int .i64 s.g) := (hkB.cell 2).trans HC2.out
                    go_upto_region 39 with (fail)
                    have hne : w12.heap.size ≤ g := hg
                    have hlg := hkb.lt
                    have kL3 := kL2.far (p := ⟨g, 2, none⟩) (by show wo.heap.size ≠ g; omega) (.int .i64 hf)
                    have ho2 := HSET.out _ hf (hkB.set_ 2 (.int .i64 hf))
                    have hbC := below_set (below_next hb hbB) hg (i := 2) (.int .i64 hf)
                    clear fB cB hkB kL2 hbB hkb
                    generalize World.setCell _ _ _ = wC at kL3 ho2 hbC ⊢
                    have cL := kL3.cell
                    have A1 : m + 1 ≤ maxLen := by unfold maxLen; omega
                    have A2 : (m + 1) * 32 ≤ 140737488355328 := by omega
                    go_wp2_with (at_builtin; refine wpList_push _ rfl (.tmp 196) (.tmp 198) _ rfl w12.heap.size 60 _ 4 32 Tryz.underlying26 info_src rfl (by decide) _ m _ rfl (ho2.alloc _) wC.heap.size (srcCells ⟨s.x, s.y, dd, s.p⟩) rfl rfl (src_new1 _ _ _) (one_src _) A1 A2 (le_alloc hbC.size _) ?_; intro v1 w1 ho1 hb1)
                    go_meet
                    obtain ⟨A', c', rfl, hR'⟩ := own_slice ho1
                    refine ⟨A', m + 1, c', rfl, ?_, (hbC.alloc hbC.size _).trans hb1⟩
                    rw [HAP.out, HHF.out, HDD.out, srcs_app]
                    simpa [srcs] using hR'
              case rest =>
              obtain ⟨A13, m13, c13, rfl, hR13, hb13⟩ := hcut
              rename World => w13
              have L13 : m13 ≤ 9 := by
                have h1 := srcs_reads_len hR13
                have h2 : (apart l).length ≤ l.length + 1 := by
                  unfold apart
                  split
                  · simp
                  · rename_i s r e
                    have := congrArg List.length e
                    simp at this ⊢
                    omega
                have := HL.out
                omega
              have hRd := carry hRc hb13
              have kPd := carryK kPc hb13
              have hVd := hVc.carry hb13
              have hb0d := below_next hb0c hb13
              clear hb13 hRc kPc hVc hb0c
              go_wp2_with fail
              refine (own_any A m c l _ hRd (by omega)).mono ?_
              rintro e w14 ⟨A14, c14, rfl, hR14, hb14⟩
              go_wp2_with fail
              refine (HN1.out A14 m c14 _ hR14 (hVd.carry hb14) (by omega)).mono ?_
              rintro e w15 ⟨A15, n15, c15, rfl, hR15, hb15⟩
              have hR13b := carry hR13 (w' := w15) (by repeat (first | with_reducible assumption | exact Below.refl _ _ | refine below_next (by with_reducible assumption) ?_))
              go_wp2_with (at_builtin; refine wpList_copied w15 rfl (.tmp 207) (.tmp 208) 26 (by rfl) 60 _ 4 32 Tryz.underlying26 info_src rfl (by decide) (by decide) (by rfl) A13 m13 c13 (srcs (apart l)) (by rfl) hR13b (srcs_one _) (by omega) ?_; intro A16 c16 w16 hR16 hb16)
              refine (HN2.out A16 m13 c16 _ hR16 (hVd.carry (by repeat (first | with_reducible assumption | exact Below.refl _ _ | refine below_next (by with_reducible assumption) ?_))) (by omega)).mono ?_
              rintro e w17 ⟨A17, n17, c17, rfl, hR17, hb17⟩
              have hR13c := carry hR13 (w' := w17) (by repeat (first | with_reducible assumption | exact Below.refl _ _ | refine below_next (by with_reducible assumption) ?_))
              go_wp2_with (at_builtin; refine wpList_copied w17 rfl (.tmp 214) (.tmp 215) 26 (by rfl) 60 _ 4 32 Tryz.underlying26 info_src rfl (by decide) (by decide) (by rfl) A13 m13 c13 (srcs (apart l)) (by rfl) hR13c (srcs_one _) (by omega) ?_; intro A18 c18 w18 hR18 hb18)
              refine (HP.out A18 m13 c18 _ hR18 (hVd.carry (by repeat (first | with_reducible assumption | exact Below.refl _ _ | refine below_next (by with_reducible assumption) ?_))) (by omega)).mono ?_
              rintro e w19 ⟨rfl, hb19⟩
              go_upto_region 43 with (fail)
              obtain ⟨w20, e20, hb20, hz20, kB⟩ := box1 w19 #[.int .i64 (F 0).re, .int .i64 (F 0).im, .int .i64 (F 1).re, .int .i64 (F 1).im, .int .i64 (F 2).re, .int .i64 (F 2).im, .int .i64 (F 3).re, .int .i64 (F 3).im, .int .i64 (F 4).re, .int .i64 (F 4).im, .int .i64 (F 5).re, .int .i64 (F 5).im, .int .i64 (F 6).re, .int .i64 (F 6).im, .int .i64 (F 7).re, .int .i64 (F 7).im] 55
              rw [← e20]; clear e20
              obtain ⟨gB, hgB⟩ : ∃ g, w19.heap.size = g := ⟨_, rfl⟩
              rw [hgB] at kB ⊢
              have hRw := carry hR15 (w' := w20) (by repeat (first | with_reducible assumption | exact Below.refl _ _ | refine below_next (by with_reducible assumption) ?_))
              have hRv := carry hR17 (w' := w20) (by repeat (first | with_reducible assumption | exact Below.refl _ _ | refine below_next (by with_reducible assumption) ?_))
              have kPe := carryK kPd (w' := w20) (by repeat (first | with_reducible assumption | exact Below.refl _ _ | refine below_next (by with_reducible assumption) ?_))
              have hb0e : Below w13.heap.size w13 w20 := (by repeat (first | with_reducible assumption | exact Below.refl _ _ | refine below_next (by with_reducible assumption) ?_))
              have hb0e := below_next hb0d hb0e
              have L15 : n15 ≤ 16 := by have h1 := srcs_reads_len hR15; rw [List.length_map] at h1; have := HNL.out; omega
              have L17 : n17 ≤ 16 := by have h1 := srcs_reads_len hR17; rw [List.length_map] at h1; have := HNL.out; omega
              clear hb14 hb15 hb16 hb17 hb18 hb19 hb20 hR13 hR13b hR13c hR14 hR15 hR16 hR17 hR18 hRd kPd hVd hb0d hgB hz20 HN1 HN2 HP PF
              as_aux_lemma =>
                go_wp2_with fail
                refine (weights_any A15 n15 c15 _ _ hRw (by omega)).mono ?_
                rintro e w21 ⟨A21, c21, rfl, hR21, hb21⟩
                go_wp2_with fail
                refine (weights_any A17 n17 c17 _ _ (carry hRv hb21) (by omega)).mono ?_
                rintro e w22 ⟨A22, c22, rfl, hR22, hb22⟩
                go_wp2_with fail
                refine (rSameW_any A21 n15 c21 _ A22 n17 c22 _ _ (carry hR21 hb22) hR22 (by omega) (by omega)).mono ?_
                rintro e w23 ⟨rfl, hb23⟩
                rw [decide_eq_true rfl]
                have hbx : Below w20.heap.size w20 w23 := (by repeat (first | with_reducible assumption | exact Below.refl _ _ | refine below_next (by with_reducible assumption) ?_))
                have qn := reflPT_ne F
                have cA := (carryK kPe hbx).cell
                have cB := (carryK kB hbx).cell
                have hRy := carry hRw hbx
                have hb0f := below_next hb0e hbx
                clear hb21 hb22 hb23 hR21 hR22 hRw hRv
                go_wp2_with fail
                clear qn cA cB kPe kB
                go_loopw [245] (fun i wr => ∃ k : Nat, k ≤ n15 ∧ i = .int .i64 k ∧ Below w23.heap.size w23 wr) (fun i _ => n15 - (intOf i).toNat)
                case atStart => exact ⟨0, by omega, rfl, Below.refl _ _⟩
                case round =>
                  rename World => wr
                  obtain ⟨k, hk, rfl, hbr⟩ := hrel
                  by_cases hlt : k < n15
                  · have hki : (k : Int) < (n15 : Int) := by omega
                    have hr := carry hRy hbr
                    obtain ⟨ad, s, rfl, q0, hx, hc⟩ := src_hit hr hlt (Nat.le_refl _)
                    obtain ⟨a, hax, rfl⟩ := asS_getT hx
                    have hne := nrm_ne hax
                    have hz : ∀ w, (binOp .eql 54 (.agg #[.int .i64 a.z.re, .int .i64 a.z.im]) (.agg #[.int .i64 0, .int .i64 0])).run Tryz.prog w = .ok (.bool false) w := fun w => by
                      have := eqG a.z .zero w
                      rw [decide_eq_false hne] at this
                      exact this
                    obtain ⟨d0, d1, d2, d3⟩ := hc wr (Below.refl _ _)
                    simp only [asS] at d0 d1 d2 d3
                    go_upto_region 48 with (fail)
                    obtain ⟨wb, eb, hbb, hzb, kL⟩ := box1 wr #[.int .i64 a.x, .int .i64 a.y, .int .i64 a.z.re, .int .i64 a.z.im] 123
                    rw [← eb]; clear eb
                    have rL := over_blk kL kL.lt
                    have hbB := below_next hbr hbb
                    clear d0 d1 d2 d3
                    by_cases k0 : k = 0
                    · have g1 : decide ((0 : Int) < (k : Int)) = false := by simp; omega
                      have g1' : decide (0 < k) = false := by simp; omega
                      clear k0 hc hx hax hne
                      refine wp_region_over wb.heap.size (by kernel_rfl) (by kernel_rfl) ?_; (repeat (first | go_big_quiet_step (fail) | quiet_step (fail))); refine wpQuiet_nil ?_; rintro W ⟨x, rfl⟩
                      have hbY := over_below wb.heap.size wb x
                      generalize over wb.heap.size wb x = Y at hbY ⊢
                      clear rL hz
                      go_wp2_with fail
                      go_roundw
                      case rel => exact ⟨k + 1, by omega, by go_num, below_next hbB hbY⟩
                      case measure => simp [intOf]; omega
                    · have g1 : decide ((0 : Int) < (k : Int)) = true := by simp; omega
                      have g1' : decide (0 < k) = true := by simp; omega
                      have kp : 0 < k := by omega
                      have kp' : (0 : Int) < (k : Int) := by omega
                      have hj : k = (k - 1) + 1 := by omega
                      obtain ⟨ad', s', e', q1, hx', hc'⟩ := src_hit hr (show k - 1 < n15 by omega) (Nat.le_refl _)
                      obtain rfl : ad = ad' := by simpa using e'
                      obtain ⟨p, hpx, rfl⟩ := asS_getT hx'
                      have hlt' := nrm_next hpx (by rw [← hj]; exact hax)
                      have tj : wrap64 ((k : Int) - 1) = (k : Int) - 1 := by unfold wrap64; omega
                      have tj1 : (k : Int) - 1 < (n15 : Int) := by omega
                      have tj2 : k - 1 < n15 := by omega
                      have r0 : ∀ x, (over wb.heap.size wb x).cell? (ad.add ((k - 1) * 4)) = some (.int .i64 p.x) := fun x => (hc' _ (hbb.trans ((over_below wb.heap.size wb x).mono hbb.size))).1
                      have r1 : ∀ x, (over wb.heap.size wb x).cell? ⟨(ad.add ((k - 1) * 4)).block, (ad.add ((k - 1) * 4)).off + 1, none⟩ = some (.int .i64 p.y) := fun x => (hc' _ (hbb.trans ((over_below wb.heap.size wb x).mono hbb.size))).2.1
                      have hcases : (decide (a.x < p.x) = false ∧ (p.x == a.x) = false) ∨ (decide (a.x < p.x) = false ∧ (p.x == a.x) = true ∧ decide (a.y ≤ p.y) = false) := by
                        unfold Wt.lt at hlt'
                        rcases hlt' with h1 | ⟨h1, h2⟩
                        · left; constructor
                          · simp; omega
                          · simp; omega
                        · right; refine ⟨?_, ?_, ?_⟩
                          · simp; omega
                          · simp; omega
                          · simp; omega
                      clear k0 hc hc' hx hx' hax hpx hne hlt' hj e'
                      rcases hcases with ⟨c1, c2⟩ | ⟨c1, c2, c3⟩
                      · refine wp_region_over wb.heap.size (by kernel_rfl) (by kernel_rfl) ?_; (repeat (first | go_big_quiet_step (fail) | quiet_step (fail))); refine wpQuiet_nil ?_; rintro W ⟨x, rfl⟩
                        have hbY := over_below wb.heap.size wb x
                        generalize over wb.heap.size wb x = Y at hbY ⊢
                        clear rL hz r0 r1
                        go_wp2_with fail
                        go_roundw
                        case rel => exact ⟨k + 1, by omega, by go_num, below_next hbB hbY⟩
                        case measure => simp [intOf]; omega
                      · refine wp_region_over wb.heap.size (by kernel_rfl) (by kernel_rfl) ?_; (repeat (first | go_big_quiet_step (fail) | quiet_step (fail))); refine wpQuiet_nil ?_; rintro W ⟨x, rfl⟩
                        have hbY := over_below wb.heap.size wb x
                        generalize over wb.heap.size wb x = Y at hbY ⊢
                        clear rL hz r0 r1
                        go_wp2_with fail
                        go_roundw
                        case rel => exact ⟨k + 1, by omega, by go_num, below_next hbB hbY⟩
                        case measure => simp [intOf]; omega
                  · go_wp2_with fail
                    go_ret
                    exact ⟨rfl, below_next hb0f hbr⟩
end Go.Proofs.YtcihiglpahhboaaGreatDoor
