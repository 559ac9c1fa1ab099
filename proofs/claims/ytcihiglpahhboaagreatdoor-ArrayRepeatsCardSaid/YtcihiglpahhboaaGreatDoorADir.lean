/- Directivity of the program. -/
import Derived.Test.YtcihiglpahhboaaGreatDoorAPat2
import Derived.Test.YtcihiglpahhboaaGreatDoorALev
import Derived.Test.YtcihiglpahhboaaGreatDoorARat
namespace Go.Proofs.YtcihiglpahhboaaGreatDoor
open Go.RowKit Go.Shelf
set_option maxRecDepth 100000
/-- The sum of the levels of the first k directions. -/
def lvK (l : List Src) (k : Nat) : Int := (List.range k).foldl (fun s j => s + (prs l j).sq) 0
theorem lvK_succ (l : List Src) (k : Nat) : lvK l (k + 1) = lvK l k + (prs l k).sq := by simp [lvK, List.range_succ]
theorem lvK_in {l : List Src} (h : LOk l) (k : Nat) : 0 ≤ lvK l k ∧ lvK l k ≤ 2560000 * (k : Int) := by
  induction k with
  | zero => simp [lvK]
  | succ k ih => rw [lvK_succ]; have := prs_sq h k; omega
theorem lvK_zero {l : List Src} {k : Nat} (h : lvK l k = 0) (hl : LOk l) : ∀ j, j < k → prs l j = .zero := by
  induction k with
  | zero => intro j hj; omega
  | succ k ih =>
    rw [lvK_succ] at h
    have h1 := lvK_in hl k
    have h2 := (prs l k).sq_nn
    intro j hj
    by_cases e : j = k
    · subst e; exact G.sq_zero (by omega)
    · exact ih (by omega) j (by omega)
theorem zero_lvK {l : List Src} {k : Nat} (h : ∀ j, j < k → prs l j = .zero) : lvK l k = 0 := by
  induction k with
  | zero => rfl
  | succ k ih => rw [lvK_succ, ih fun j hj => h j (by omega), h k (by omega)]; rfl
/-- The error of Directivity, and its result. -/
def drE (l : List Src) (d : Int) : Int := if prE l d = 0 then (if lvK l 8 = 0 then 6 else 0) else prE l d
def drV (l : List Src) (d : Int) : Rt := if drE l d = 0 then low (8 * (prs l d.toNat).sq).toNat (lvK l 8).toNat else ⟨0, 0⟩
theorem gauss_eq (a b : G) (w : World) : (Op.equalIn 9999 54 (.agg #[.int .i64 a.re, .int .i64 a.im]) (.agg #[.int .i64 b.re, .int .i64 b.im])).run Tryz.prog w = .ok (decide (a = b)) w := gEqD a b w
theorem info_gauss : ∃ i, Tryz.prog.info? 54 = some i := Option.isSome_iff_exists.1 (by kernel_rfl)
/-- Eight complex integers are all 0, or one is not. -/
theorem eqPT (f : Nat → G) (b : Bool) (hb : (∀ k, k < 8 → f k = .zero) ↔ b = true) (w : World) : (binOp .eql 55 (.agg #[.int .i64 (f 0).re, .int .i64 (f 0).im, .int .i64 (f 1).re, .int .i64 (f 1).im, .int .i64 (f 2).re, .int .i64 (f 2).im, .int .i64 (f 3).re, .int .i64 (f 3).im, .int .i64 (f 4).re, .int .i64 (f 4).im, .int .i64 (f 5).re, .int .i64 (f 5).im, .int .i64 (f 6).re, .int .i64 (f 6).im, .int .i64 (f 7).re, .int .i64 (f 7).im]) (.agg #[.int .i64 ((fun _ => G.zero) 0).re, .int .i64 ((fun _ => G.zero) 0).im, .int .i64 ((fun _ => G.zero) 1).re, .int .i64 ((fun _ => G.zero) 1).im, .int .i64 ((fun _ => G.zero) 2).re, .int .i64 ((fun _ => G.zero) 2).im, .int .i64 ((fun _ => G.zero) 3).re, .int .i64 ((fun _ => G.zero) 3).im, .int .i64 ((fun _ => G.zero) 4).re, .int .i64 ((fun _ => G.zero) 4).im, .int .i64 ((fun _ => G.zero) 5).re, .int .i64 ((fun _ => G.zero) 5).im, .int .i64 ((fun _ => G.zero) 6).re, .int .i64 ((fun _ => G.zero) 6).im, .int .i64 ((fun _ => G.zero) 7).re, .int .i64 ((fun _ => G.zero) 7).im])).run Tryz.prog w = .ok (.bool b) w := by
  have hd : b = (decide (f 0 = .zero) && (decide (f 1 = .zero) && (decide (f 2 = .zero) && (decide (f 3 = .zero) && (decide (f 4 = .zero) && (decide (f 5 = .zero) && (decide (f 6 = .zero) && decide (f 7 = .zero)))))))) := by
    rw [Bool.eq_iff_iff, ← hb]; simp only [decide_eq_true_eq, Bool.and_eq_true]
    constructor
    · intro h; exact ⟨h 0 (by omega), h 1 (by omega), h 2 (by omega), h 3 (by omega), h 4 (by omega), h 5 (by omega), h 6 (by omega), h 7 (by omega)⟩
    · rintro ⟨h0, h1, h2, h3, h4, h5, h6, h7⟩ k hk
      rcases lt8' hk with rfl | rfl | rfl | rfl | rfl | rfl | rfl | rfl <;> assumption
  have hh : (Op.equalIn 10000 55 (.agg #[.int .i64 (f 0).re, .int .i64 (f 0).im, .int .i64 (f 1).re, .int .i64 (f 1).im, .int .i64 (f 2).re, .int .i64 (f 2).im, .int .i64 (f 3).re, .int .i64 (f 3).im, .int .i64 (f 4).re, .int .i64 (f 4).im, .int .i64 (f 5).re, .int .i64 (f 5).im, .int .i64 (f 6).re, .int .i64 (f 6).im, .int .i64 (f 7).re, .int .i64 (f 7).im]) (.agg #[.int .i64 ((fun _ => G.zero) 0).re, .int .i64 ((fun _ => G.zero) 0).im, .int .i64 ((fun _ => G.zero) 1).re, .int .i64 ((fun _ => G.zero) 1).im, .int .i64 ((fun _ => G.zero) 2).re, .int .i64 ((fun _ => G.zero) 2).im, .int .i64 ((fun _ => G.zero) 3).re, .int .i64 ((fun _ => G.zero) 3).im, .int .i64 ((fun _ => G.zero) 4).re, .int .i64 ((fun _ => G.zero) 4).im, .int .i64 ((fun _ => G.zero) 5).re, .int .i64 ((fun _ => G.zero) 5).im, .int .i64 ((fun _ => G.zero) 6).re, .int .i64 ((fun _ => G.zero) 6).im, .int .i64 ((fun _ => G.zero) 7).re, .int .i64 ((fun _ => G.zero) 7).im])).run Tryz.prog w = .ok b w := by
    obtain ⟨i, hi⟩ := info_gauss
    have c2 : Tryz.prog.cellsOf 54 = 2 := by kernel_rfl
    have g : ∀ k, (Op.equalIn 9999 54 (.agg #[.int .i64 (f k).re, .int .i64 (f k).im]) (.agg #[.int .i64 G.zero.re, .int .i64 G.zero.im])).run Tryz.prog w = .ok (decide (f k = .zero)) w := fun k => gEqD (f k) .zero w
    rw [hd, show (10000 : Nat) = 9999 + 1 from rfl, run_equalIn_array w 9999 _ _ Tryz.underlying55 hi, c2]
    simp only [show List.range 8 = [0, 1, 2, 3, 4, 5, 6, 7] from rfl, Op.eqItems, go_sem]
    by_cases h0 : f 0 = .zero
    · by_cases h1 : f 1 = .zero
      · by_cases h2 : f 2 = .zero
        · by_cases h3 : f 3 = .zero
          · by_cases h4 : f 4 = .zero
            · by_cases h5 : f 5 = .zero
              · by_cases h6 : f 6 = .zero
                · by_cases h7 : f 7 = .zero
                  · simp [go_sem, h0, h1, h2, h3, h4, h5, h6, h7]
                  · simp [go_sem, h0, h1, h2, h3, h4, h5, h6, h7]
                    exact fun hr hi => absurd (G.ext' hr hi) h7
                · simp [go_sem, h0, h1, h2, h3, h4, h5, h6]
                  exact fun hr hi => absurd (G.ext' hr hi) h6
              · simp [go_sem, h0, h1, h2, h3, h4, h5]
                exact fun hr hi => absurd (G.ext' hr hi) h5
            · simp [go_sem, h0, h1, h2, h3, h4]
              exact fun hr hi => absurd (G.ext' hr hi) h4
          · simp [go_sem, h0, h1, h2, h3]
            exact fun hr hi => absurd (G.ext' hr hi) h3
        · simp [go_sem, h0, h1, h2]
          exact fun hr hi => absurd (G.ext' hr hi) h2
      · simp [go_sem, h0, h1]
        exact fun hr hi => absurd (G.ext' hr hi) h1
    · simp [go_sem, h0]
      exact fun hr hi => absurd (G.ext' hr hi) h0
  simp only [binOp, Op.equal, Op.maxDepth]
  simp [hh, go_sem]
set_option maxHeartbeats 4000000 in
theorem Directivity_any (A : Option Addr) (m c : Nat) (l : List Src) (d : Int) (w : World) (hR : Reads w w.heap.size 4 A m (srcs l)) (hV : Vr w) (hm : m ≤ 1000000) :
    Calls Tryz.prog 51 #[.slice A m c, .int .i64 d] w fun e w' => e = .returned (.tuple #[.agg #[.int .i64 (drV l d).n, .int .i64 (drV l d).d], .int .i64 (drE l d)]) ∧ Below w.heap.size w w' := by
  by_cases h0 : prE l d = 0
  · obtain ⟨hok, k, hk, rfl⟩ := prE_ok h0
    have t0 : (fnz [lstErr l, rng (k : Int) 0 7] != 0) = false := by rw [show fnz [lstErr l, rng (k : Int) 0 7] = 0 from h0]; rfl
    have eE : drE l k = if lvK l 8 = 0 then 6 else 0 := by unfold drE; rw [if_pos h0]
    have HO := hide hok
    clear h0
    by_cases hl : lvK l 8 = 0
    · have hz := lvK_zero hl hok
      have qz : ∀ W, (binOp .eql 55 (.agg #[.int .i64 (prs l 0).re, .int .i64 (prs l 0).im, .int .i64 (prs l 1).re, .int .i64 (prs l 1).im, .int .i64 (prs l 2).re, .int .i64 (prs l 2).im, .int .i64 (prs l 3).re, .int .i64 (prs l 3).im, .int .i64 (prs l 4).re, .int .i64 (prs l 4).im, .int .i64 (prs l 5).re, .int .i64 (prs l 5).im, .int .i64 (prs l 6).re, .int .i64 (prs l 6).im, .int .i64 (prs l 7).re, .int .i64 (prs l 7).im]) (.agg #[.int .i64 0, .int .i64 0, .int .i64 0, .int .i64 0, .int .i64 0, .int .i64 0, .int .i64 0, .int .i64 0, .int .i64 0, .int .i64 0, .int .i64 0, .int .i64 0, .int .i64 0, .int .i64 0, .int .i64 0, .int .i64 0])).run Tryz.prog W = .ok (.bool true) W := fun W => eqPT (prs l) true ⟨fun _ => rfl, fun _ => hz⟩ W
      rw [if_pos hl] at eE
      have eV : drV l k = ⟨0, 0⟩ := by unfold drV; rw [eE]; rfl
      have EE := hide eE
      have EV := hide eV
      rw [EE.out, EV.out]
      clear hok eE eV hl hz
      go_enter Tryz.func51, Tryz.ntmps51
      go_upto_region 1 with (fail)
      obtain ⟨w1, e1, hb1, hz1, k0⟩ := box1 w #[.int .i64 0, .int .i64 0] 88
      rw [← e1]; clear e1
      go_wp2_with fail
      refine (CheckSources_any A m c l _ (carry hR hb1) (by omega)).mono ?_
      rintro e w2 ⟨rfl, hb2⟩
      go_wp2_with (first | (go_at_call 97; refine (checkDirection_any _ _).mono ?_; rintro e w' ⟨rfl, rfl⟩) | (go_at_call 86; (first | (with_reducible (refine (first_any _ _ _ _ _ _ (reads2 _ _ _ _) (by omega)).mono ?_)) | (with_reducible (refine (first_any _ _ _ _ _ _ (Reads.drew (reads2 _ _ _ _)) (by omega)).mono ?_))); rintro e W' ⟨rfl, rfl⟩))
      obtain ⟨w3, e3⟩ : ∃ w3, w3 = w2.alloc (.cells #[.int .i64 (lstErr l), .int .i64 (rng (k : Int) 0 7)] 27) := ⟨_, rfl⟩
      have hb3 : Below w2.heap.size w2 w3 := by rw [e3]; exact (Below.refl _ _).alloc (Nat.le_refl _) _
      rw [← e3]; clear e3
      refine (pattern_any A m c l _ HO.out (carry hR (by repeat (first | with_reducible assumption | exact Below.refl _ _ | refine below_next (by with_reducible assumption) ?_))) (hV.carry (by repeat (first | with_reducible assumption | exact Below.refl _ _ | refine below_next (by with_reducible assumption) ?_)))).mono ?_
      rintro e w4 ⟨rfl, hb4⟩
      go_upto_region 5 with (fail)
      obtain ⟨w5, e5, hb5, hz5, kP⟩ := box1 w4 #[.int .i64 (prs l 0).re, .int .i64 (prs l 0).im, .int .i64 (prs l 1).re, .int .i64 (prs l 1).im, .int .i64 (prs l 2).re, .int .i64 (prs l 2).im, .int .i64 (prs l 3).re, .int .i64 (prs l 3).im, .int .i64 (prs l 4).re, .int .i64 (prs l 4).im, .int .i64 (prs l 5).re, .int .i64 (prs l 5).im, .int .i64 (prs l 6).re, .int .i64 (prs l 6).im, .int .i64 (prs l 7).re, .int .i64 (prs l 7).im] 55
      rw [← e5]; clear e5
      have cP := kP.cell
      have k5 := carryK k0 (show Below w1.heap.size w1 w5 from (by repeat (first | with_reducible assumption | exact Below.refl _ _ | refine below_next (by with_reducible assumption) ?_)))
      have c5 := k5.cell
      have f5 := k5.frozen
      have hbw : Below w.heap.size w w5 := (by repeat (first | with_reducible assumption | exact Below.refl _ _ | refine below_next (by with_reducible assumption) ?_))
      go_wp2_with fail
      have kX := blk2 (u0 := .int .i64 0) (u1 := .int .i64 0) k5
      have hX := below2 (u0 := .int .i64 0) (u1 := .int .i64 0) hbw (Nat.le_refl w.heap.size)
      have cX := kX.cell
      clear c5 f5 cP qz
      refine bodyPost_ret (v := .tuple #[.agg #[.int .i64 0, .int .i64 0], .int .i64 6]) (by simp [results, Tryz.results51, go_sem, cX]) rfl ?_
      exact ⟨rfl, hX⟩
    · have hnz : ¬ ∀ j, j < 8 → prs l j = .zero := fun h => hl (zero_lvK h)
      have qz : ∀ W, (binOp .eql 55 (.agg #[.int .i64 (prs l 0).re, .int .i64 (prs l 0).im, .int .i64 (prs l 1).re, .int .i64 (prs l 1).im, .int .i64 (prs l 2).re, .int .i64 (prs l 2).im, .int .i64 (prs l 3).re, .int .i64 (prs l 3).im, .int .i64 (prs l 4).re, .int .i64 (prs l 4).im, .int .i64 (prs l 5).re, .int .i64 (prs l 5).im, .int .i64 (prs l 6).re, .int .i64 (prs l 6).im, .int .i64 (prs l 7).re, .int .i64 (prs l 7).im]) (.agg #[.int .i64 0, .int .i64 0, .int .i64 0, .int .i64 0, .int .i64 0, .int .i64 0, .int .i64 0, .int .i64 0, .int .i64 0, .int .i64 0, .int .i64 0, .int .i64 0, .int .i64 0, .int .i64 0, .int .i64 0, .int .i64 0])).run Tryz.prog W = .ok (.bool false) W := fun W => eqPT (prs l) false ⟨fun h => absurd h hnz, fun h => by cases h⟩ W
      rw [if_neg hl] at eE
      have eV : drV l k = low (8 * (prs l k).sq).toNat (lvK l 8).toNat := by unfold drV; rw [eE]; rfl
      have hin := lvK_in hok 8
      have hsq := prs_sq hok k
      obtain ⟨D, hD⟩ : ∃ D : Nat, lvK l 8 = (D : Int) := ⟨(lvK l 8).toNat, by omega⟩
      obtain ⟨q, hq⟩ : ∃ q : Nat, (prs l k).sq = (q : Int) := ⟨(prs l k).sq.toNat, by omega⟩
      have hD0 : 0 < D := by omega
      have hDm : D ≤ 9223372036854775807 := by omega
      have hqm : 8 * q ≤ 9223372036854775807 := by omega
      have hw8 : wrap64 (8 * (q : Int)) = ((8 * q : Nat) : Int) := by unfold wrap64; omega
      rw [hD, hq, show (8 * (q : Int)).toNat = 8 * q by omega, show ((D : Int)).toNat = D from rfl] at eV
      have hsc : Hid (∀ W, Calls Tryz.prog 109 #[.agg #[.int .i64 (prs l k).re, .int .i64 (prs l k).im]] W fun e W' => e = .returned (.int .i64 (q : Int)) ∧ Below W.heap.size W W') := fun W => by
        have := square_any (prs l k) W
        rw [hq, wr_in (by omega)] at this
        exact this
      have HD := hide hD
      have EE := hide eE
      have EV := hide eV
      rw [EE.out, EV.out]
      clear hok eE eV hl hnz hin hsq hD hq
      go_enter Tryz.func51, Tryz.ntmps51
      go_upto_region 1 with (fail)
      obtain ⟨w1, e1, hb1, hz1, k0⟩ := box1 w #[.int .i64 0, .int .i64 0] 88
      rw [← e1]; clear e1
      go_wp2_with fail
      refine (CheckSources_any A m c l _ (carry hR hb1) (by omega)).mono ?_
      rintro e w2 ⟨rfl, hb2⟩
      go_wp2_with (first | (go_at_call 97; refine (checkDirection_any _ _).mono ?_; rintro e w' ⟨rfl, rfl⟩) | (go_at_call 86; (first | (with_reducible (refine (first_any _ _ _ _ _ _ (reads2 _ _ _ _) (by omega)).mono ?_)) | (with_reducible (refine (first_any _ _ _ _ _ _ (Reads.drew (reads2 _ _ _ _)) (by omega)).mono ?_))); rintro e W' ⟨rfl, rfl⟩))
      obtain ⟨w3, e3⟩ : ∃ w3, w3 = w2.alloc (.cells #[.int .i64 (lstErr l), .int .i64 (rng (k : Int) 0 7)] 27) := ⟨_, rfl⟩
      have hb3 : Below w2.heap.size w2 w3 := by rw [e3]; exact (Below.refl _ _).alloc (Nat.le_refl _) _
      rw [← e3]; clear e3
      refine (pattern_any A m c l _ HO.out (carry hR (by repeat (first | with_reducible assumption | exact Below.refl _ _ | refine below_next (by with_reducible assumption) ?_))) (hV.carry (by repeat (first | with_reducible assumption | exact Below.refl _ _ | refine below_next (by with_reducible assumption) ?_)))).mono ?_
      rintro e w4 ⟨rfl, hb4⟩
      go_upto_region 5 with (fail)
      obtain ⟨w5, e5, hb5, hz5, kP⟩ := box1 w4 #[.int .i64 (prs l 0).re, .int .i64 (prs l 0).im, .int .i64 (prs l 1).re, .int .i64 (prs l 1).im, .int .i64 (prs l 2).re, .int .i64 (prs l 2).im, .int .i64 (prs l 3).re, .int .i64 (prs l 3).im, .int .i64 (prs l 4).re, .int .i64 (prs l 4).im, .int .i64 (prs l 5).re, .int .i64 (prs l 5).im, .int .i64 (prs l 6).re, .int .i64 (prs l 6).im, .int .i64 (prs l 7).re, .int .i64 (prs l 7).im] 55
      rw [← e5]; clear e5
      have cP := kP.cell
      have k5 := carryK k0 (show Below w1.heap.size w1 w5 from (by repeat (first | with_reducible assumption | exact Below.refl _ _ | refine below_next (by with_reducible assumption) ?_)))
      have hbw : Below w.heap.size w w5 := (by repeat (first | with_reducible assumption | exact Below.refl _ _ | refine below_next (by with_reducible assumption) ?_))
      clear hb1 hb2 hb3 hb4 hb5 k0
      go_wp2_with fail
      clear qz cP
      go_loopw [8, 28] (fun s i wr => ∃ j : Nat, j ≤ 8 ∧ i = .int .i64 j ∧ s = .int .i64 (lvK l j) ∧ Blk wr w4.heap.size 55 #[.int .i64 (prs l 0).re, .int .i64 (prs l 0).im, .int .i64 (prs l 1).re, .int .i64 (prs l 1).im, .int .i64 (prs l 2).re, .int .i64 (prs l 2).im, .int .i64 (prs l 3).re, .int .i64 (prs l 3).im, .int .i64 (prs l 4).re, .int .i64 (prs l 4).im, .int .i64 (prs l 5).re, .int .i64 (prs l 5).im, .int .i64 (prs l 6).re, .int .i64 (prs l 6).im, .int .i64 (prs l 7).re, .int .i64 (prs l 7).im] ∧ Blk wr w.heap.size 88 #[.int .i64 0, .int .i64 0] ∧ Below w.heap.size w wr) (fun _ i _ => 8 - (intOf i).toNat)
      case atStart => exact ⟨0, by omega, rfl, rfl, kP, k5, hbw⟩
      case round =>
        rename World => wo
        obtain ⟨j, hj, rfl, rfl, kP, k5, hb⟩ := hrel
        clear hbw
        by_cases hlt : j < 8
        · have ri : ∀ W, (Instr.index 55 (.agg #[.int .i64 (prs l 0).re, .int .i64 (prs l 0).im, .int .i64 (prs l 1).re, .int .i64 (prs l 1).im, .int .i64 (prs l 2).re, .int .i64 (prs l 2).im, .int .i64 (prs l 3).re, .int .i64 (prs l 3).im, .int .i64 (prs l 4).re, .int .i64 (prs l 4).im, .int .i64 (prs l 5).re, .int .i64 (prs l 5).im, .int .i64 (prs l 6).re, .int .i64 (prs l 6).im, .int .i64 (prs l 7).re, .int .i64 (prs l 7).im]) (.int .i64 (j : Int))).run Tryz.prog W = .ok (.agg #[.int .i64 (prs l j).re, .int .i64 (prs l j).im]) W := fun W => pat_index (prs l) hlt W
          have hji : (j : Int) < 8 := by omega
          have hin := lvK_in HO.out j
          have hsq := prs_sq HO.out j
          have hstep := lvK_succ l j
          obtain ⟨z, hz⟩ : ∃ z, prs l j = z := ⟨_, rfl⟩
          obtain ⟨S, hS⟩ : ∃ S, lvK l j = S := ⟨_, rfl⟩
          obtain ⟨y, hy⟩ : ∃ y, z.sq = y := ⟨_, rfl⟩
          have HZ := hide hz
          have HSS := hide hS
          rw [hz] at ri hsq hstep
          rw [hS] at hin hstep
          rw [HSS.out]
          rw [hy] at hsq hstep
          have hw2 : wrap64 (S + y) = S + y := by unfold wrap64; omega
          have hzc : Hid (∀ W, Calls Tryz.prog 109 #[.agg #[.int .i64 z.re, .int .i64 z.im]] W fun e W' => e = .returned (.int .i64 y) ∧ Below W.heap.size W W') := fun W => by
            have := square_any z W
            rw [hy, wr_in (by omega)] at this
            exact this
          have HST := hide hstep
          clear hz hS hy hin hsq hstep
          go_upto_region 11 with (fail)
          obtain ⟨w7, e7, hb7, hz7, k7⟩ := box1 wo #[.int .i64 z.re, .int .i64 z.im] 54
          rw [← e7]; clear e7 ri
          have c7 := k7.cell
          have kP7 := carryK kP hb7
          have k57 := carryK k5 hb7
          have hb07 := below_next hb hb7
          clear kP k5 hb7
          go_wp2_with fail
          refine (hzc.out _).mono ?_
          rintro e w8 ⟨rfl, hb8⟩
          clear c7
          have kP8 := carryK kP7 hb8
          have k58 := carryK k57 hb8
          have hb08 := below_next hb07 hb8
          go_wp2_with fail
          go_roundw
          case rel => exact ⟨j + 1, by omega, by go_num, by rw [HST.out, hw2], kP8, k58, hb08⟩
          case measure => simp [intOf]; omega
        · obtain rfl : j = 8 := by omega
          rw [HD.out]
          obtain ⟨p0, p1⟩ := pcs_blk hk kP
          have hki : (k : Int) < 8 := by omega
          go_wp2_with fail
          refine (hsc.out _).mono ?_
          rintro e w7 ⟨rfl, hb7⟩
          clear p0 p1
          have k57 := carryK k5 hb7
          have hb07 := below_next hb hb7
          go_wp2_with fail
          refine (ratio_any (8 * q) D _ hD0 hqm hDm).mono ?_
          rintro e w8 ⟨rfl, hb8⟩
          have k58 := carryK k57 hb8
          have hb08 := below_next hb07 hb8
          have c8 := k58.cell
          have f8 := k58.frozen
          go_wp2_with fail
          have kX := blk2 (u0 := .int .i64 (low (8 * q) D).n) (u1 := .int .i64 (low (8 * q) D).d) k58
          have hX := below2 (u0 := .int .i64 (low (8 * q) D).n) (u1 := .int .i64 (low (8 * q) D).d) hb08 (Nat.le_refl w.heap.size)
          have cX := kX.cell
          clear c8 f8
          refine bodyPost_ret (v := .tuple #[.agg #[.int .i64 (low (8 * q) D).n, .int .i64 (low (8 * q) D).d], .int .i64 0]) (by simp [results, Tryz.results51, go_sem, cX]) rfl ?_
          exact ⟨rfl, hX⟩
  · have eE : drE l d = prE l d := by unfold drE; rw [if_neg h0]
    have eV : drV l d = ⟨0, 0⟩ := by unfold drV; rw [eE, if_neg h0]
    have t0 : (fnz [lstErr l, rng d 0 7] != 0) = true := by simpa using (show ¬ fnz [lstErr l, rng d 0 7] = 0 from h0)
    rw [eE, eV]
    clear h0 eE eV
    go_enter Tryz.func51, Tryz.ntmps51
    go_upto_region 1 with (fail)
    obtain ⟨w1, e1, hb1, hz1, k0⟩ := box1 w #[.int .i64 0, .int .i64 0] 88
    rw [← e1]; clear e1
    go_wp2_with fail
    refine (CheckSources_any A m c l _ (carry hR hb1) (by omega)).mono ?_
    rintro e w2 ⟨rfl, hb2⟩
    have k4 := carryK k0 hb2
    have c4 := k4.cell
    have f4 := k4.frozen
    have hA1 := alloc_cel
    have hA2 := alloc_fro
    have hl4 := k4.lt
    have hbw : Below w.heap.size w w2 := (by repeat (first | with_reducible assumption | exact Below.refl _ _ | refine below_next (by with_reducible assumption) ?_))
    go_wp2_with (first | (go_at_call 97; refine (checkDirection_any _ _).mono ?_; rintro e w' ⟨rfl, rfl⟩) | (go_at_call 86; (first | (with_reducible (refine (first_any _ _ _ _ _ _ (reads2 _ _ _ _) (by omega)).mono ?_)) | (with_reducible (refine (first_any _ _ _ _ _ _ (Reads.drew (reads2 _ _ _ _)) (by omega)).mono ?_))); rintro e W' ⟨rfl, rfl⟩))
    have kX := (blk2 (u0 := .int .i64 0) (u1 := .int .i64 0) k4).alloc (.cells #[.int .i64 (lstErr l), .int .i64 (rng d 0 7)] 27)
    have hX2 := below2 (u0 := .int .i64 0) (u1 := .int .i64 0) hbw (Nat.le_refl w.heap.size)
    have hX := hX2.alloc hX2.size (.cells #[.int .i64 (lstErr l), .int .i64 (rng d 0 7)] 27)
    have cX := kX.cell
    clear c4 f4
    refine bodyPost_ret (v := .tuple #[.agg #[.int .i64 0, .int .i64 0], .int .i64 (prE l d)]) (by simp [results, Tryz.results51, go_sem, cX]; rfl) rfl ?_
    exact ⟨rfl, hX⟩
end Go.Proofs.YtcihiglpahhboaaGreatDoor
