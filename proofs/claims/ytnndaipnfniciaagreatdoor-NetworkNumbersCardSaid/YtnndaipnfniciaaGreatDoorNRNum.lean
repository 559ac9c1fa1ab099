/- The reference's checkPart, CheckQuotient. -/
import Derived.Test.YtnndaipnfniciaaGreatDoorNRImp
import Derived.Test.YtnndaipnfniciaaGreatDoorNNumb
namespace Go.Proofs.YtnndaipnfniciaaGreatDoor
open Go.RowKit Go.Shelf
set_option maxRecDepth 100000
set_option maxHeartbeats 1000000 in
theorem rCheckPart_any (z : G) (w : World) :
    Calls Tryz.prog 91 #[.agg #[.int .i64 z.re, .int .i64 z.im]] w fun e w' => e = .returned (.int .i64 (smE z)) ∧ Below w.heap.size w w' := by
  obtain ⟨E, hE⟩ : ∃ E, fnz [rng z.re (-30000) 30000, rng z.im (-30000) 30000] = E := ⟨_, rfl⟩
  have HE := hide hE
  rw [show smE z = E from hE]
  clear hE
  go_enter Tryz.func91, Tryz.ntmps91
  go_upto_region 1 with (fail)
  obtain ⟨w1, e1, hb1, hz1, k0⟩ := box1 w #[.int .i64 z.re, .int .i64 z.im] 23
  rw [← e1]; clear e1
  have c0 := over_blk k0 k0.lt
  refine wp_region_part 6 w1.heap.size (by kernel_rfl) (by kernel_rfl) ?_; simp only [List.take_succ_cons, List.take_zero, List.drop_succ_cons, List.drop_zero]; (repeat (first | go_big_quiet_step ((go_at_call 93; exact over_same (checkRange_any _ _ _ _))) | quiet_step ((go_at_call 93; exact over_same (checkRange_any _ _ _ _))))); refine wpQuiet_nil ?_; rintro W ⟨x, rfl⟩
  have hbY := over_below w1.heap.size w1 x
  generalize over w1.heap.size w1 x = Y at hbY ⊢
  clear c0
  go_wp2_with ((go_at_call 18; (first | (with_reducible (refine (rFirst_any _ _ _ _ _ _ (reads2 _ _ _ _) (by omega)).mono ?_)) | (with_reducible (refine (rFirst_any _ _ _ _ _ _ (Reads.drew (reads2 _ _ _ _)) (by omega)).mono ?_))); rintro e W' ⟨rfl, rfl⟩))
  go_ret
  exact ⟨by rw [← HE.out]; rfl, (by repeat (first | exact below_next hb1 hbY | exact Below.refl _ _ | refine Below.drew ?_ | refine below_drewN ?_ _ | refine below_set ?_ (by omega) _ | refine below_new ?_ (by omega) _))⟩
set_option maxHeartbeats 1000000 in
theorem rCheckQuotient_any (p : Pr) (w : World) :
    Calls Tryz.prog 17 #[.agg #[.int .i64 p.n.re, .int .i64 p.n.im, .int .i64 p.d.re, .int .i64 p.d.im]] w fun e w' => e = .returned (.int .i64 (numErr p)) ∧ Below w.heap.size w w' := by
  obtain ⟨E, hE⟩ : ∃ E, fnz [smE p.n, smE p.d] = E := ⟨_, rfl⟩
  have HE := hide hE
  have hs : smErr [p.n, p.d] = E := hE
  by_cases h0 : E = 0
  · subst h0
    have t0 : ((0 : Int) != 0) = false := rfl
    by_cases hz : p.d = .zero
    · have HN : Hid (numErr p = 6) := by show numErr p = 6; unfold numErr; rw [hs, if_pos hz]; rfl
      have qz : ∀ W, (binOp .eql 23 (.agg #[.int .i64 p.d.re, .int .i64 p.d.im]) (.agg #[.int .i64 G.zero.re, .int .i64 G.zero.im])).run Tryz.prog W = .ok (.bool true) W := fun W => by rw [eqG, decide_eq_true hz]
      clear hE hs hz
      go_enter Tryz.func17, Tryz.ntmps17
      go_upto_region 1 with (fail)
      obtain ⟨w1, e1, hb1, hz1, k0⟩ := box1 w #[.int .i64 p.n.re, .int .i64 p.n.im, .int .i64 p.d.re, .int .i64 p.d.im] 25
      rw [← e1]; clear e1
      have c0 := over_blk k0 k0.lt
      refine wp_region_part 6 w1.heap.size (by kernel_rfl) (by kernel_rfl) ?_; simp only [List.take_succ_cons, List.take_zero, List.drop_succ_cons, List.drop_zero]; (repeat (first | go_big_quiet_step ((go_at_call 91; first | with_reducible exact over_call (Nat.le_refl _) (rCheckPart_any p.n _) | with_reducible exact over_call (Nat.le_refl _) (rCheckPart_any p.d _))) | quiet_step ((go_at_call 91; first | with_reducible exact over_call (Nat.le_refl _) (rCheckPart_any p.n _) | with_reducible exact over_call (Nat.le_refl _) (rCheckPart_any p.d _))))); refine wpQuiet_nil ?_; rintro W ⟨x, rfl⟩
      have hbY := over_below w1.heap.size w1 x
      generalize over w1.heap.size w1 x = Y at hbY ⊢
      clear c0
      go_upto_region 2 with ((go_at_call 18; (first | (with_reducible (refine (rFirst_any _ _ _ _ _ _ (reads2 _ _ _ _) (by omega)).mono ?_)) | (with_reducible (refine (rFirst_any _ _ _ _ _ _ (Reads.drew (reads2 _ _ _ _)) (by omega)).mono ?_))); rintro e W' ⟨rfl, rfl⟩))
      obtain ⟨w2, e2, hb2, hz2, _⟩ := box1 Y #[.int .i64 (smE p.n), .int .i64 (smE p.d)] 3
      rw [← e2]; clear e2
      rw [HE.out]
      go_upto_region 4 with (fail)
      have kP := carryK (w' := w2) k0 (by repeat (first | with_reducible assumption | exact Below.refl _ _ | refine below_next (by with_reducible assumption) ?_))
      have c0 := over_blk kP kP.lt
      refine wp_region_over w2.heap.size (by kernel_rfl) (by kernel_rfl) ?_; (repeat (first | go_big_quiet_step ((go_at_call 92; with_reducible exact over_call (Nat.le_refl _) (rZero_any _))) | quiet_step ((go_at_call 92; with_reducible exact over_call (Nat.le_refl _) (rZero_any _))))); refine wpQuiet_nil ?_; rintro W ⟨x, rfl⟩
      have hbZ := over_below w2.heap.size w2 x
      generalize over w2.heap.size w2 x = Z at hbZ ⊢
      clear c0 qz
      go_wp2_with fail
      go_ret
      exact ⟨by rw [HN.out]; rfl, (by repeat (first | with_reducible assumption | exact Below.refl _ _ | refine below_next (by with_reducible assumption) ?_))⟩
    · have HN : Hid (numErr p = 0) := by show numErr p = 0; unfold numErr; rw [hs, if_neg hz]; rfl
      have qz : ∀ W, (binOp .eql 23 (.agg #[.int .i64 p.d.re, .int .i64 p.d.im]) (.agg #[.int .i64 G.zero.re, .int .i64 G.zero.im])).run Tryz.prog W = .ok (.bool false) W := fun W => by rw [eqG, decide_eq_false hz]
      clear hE hs hz
      go_enter Tryz.func17, Tryz.ntmps17
      go_upto_region 1 with (fail)
      obtain ⟨w1, e1, hb1, hz1, k0⟩ := box1 w #[.int .i64 p.n.re, .int .i64 p.n.im, .int .i64 p.d.re, .int .i64 p.d.im] 25
      rw [← e1]; clear e1
      have c0 := over_blk k0 k0.lt
      refine wp_region_part 6 w1.heap.size (by kernel_rfl) (by kernel_rfl) ?_; simp only [List.take_succ_cons, List.take_zero, List.drop_succ_cons, List.drop_zero]; (repeat (first | go_big_quiet_step ((go_at_call 91; first | with_reducible exact over_call (Nat.le_refl _) (rCheckPart_any p.n _) | with_reducible exact over_call (Nat.le_refl _) (rCheckPart_any p.d _))) | quiet_step ((go_at_call 91; first | with_reducible exact over_call (Nat.le_refl _) (rCheckPart_any p.n _) | with_reducible exact over_call (Nat.le_refl _) (rCheckPart_any p.d _))))); refine wpQuiet_nil ?_; rintro W ⟨x, rfl⟩
      have hbY := over_below w1.heap.size w1 x
      generalize over w1.heap.size w1 x = Y at hbY ⊢
      clear c0
      go_upto_region 2 with ((go_at_call 18; (first | (with_reducible (refine (rFirst_any _ _ _ _ _ _ (reads2 _ _ _ _) (by omega)).mono ?_)) | (with_reducible (refine (rFirst_any _ _ _ _ _ _ (Reads.drew (reads2 _ _ _ _)) (by omega)).mono ?_))); rintro e W' ⟨rfl, rfl⟩))
      obtain ⟨w2, e2, hb2, hz2, _⟩ := box1 Y #[.int .i64 (smE p.n), .int .i64 (smE p.d)] 3
      rw [← e2]; clear e2
      rw [HE.out]
      go_upto_region 4 with (fail)
      have kP := carryK (w' := w2) k0 (by repeat (first | with_reducible assumption | exact Below.refl _ _ | refine below_next (by with_reducible assumption) ?_))
      have c0 := over_blk kP kP.lt
      refine wp_region_over w2.heap.size (by kernel_rfl) (by kernel_rfl) ?_; (repeat (first | go_big_quiet_step ((go_at_call 92; with_reducible exact over_call (Nat.le_refl _) (rZero_any _))) | quiet_step ((go_at_call 92; with_reducible exact over_call (Nat.le_refl _) (rZero_any _))))); refine wpQuiet_nil ?_; rintro W ⟨x, rfl⟩
      have hbZ := over_below w2.heap.size w2 x
      generalize over w2.heap.size w2 x = Z at hbZ ⊢
      clear c0 qz
      go_wp2_with fail
      go_ret
      exact ⟨by rw [HN.out]; rfl, (by repeat (first | with_reducible assumption | exact Below.refl _ _ | refine below_next (by with_reducible assumption) ?_))⟩
  · have t0 : (E != 0) = true := by simpa using h0
    have HN : Hid (numErr p = E) := by show numErr p = E; unfold numErr; rw [hs]; simp [fnz, h0]
    clear hE hs h0
    go_enter Tryz.func17, Tryz.ntmps17
    go_upto_region 1 with (fail)
    obtain ⟨w1, e1, hb1, hz1, k0⟩ := box1 w #[.int .i64 p.n.re, .int .i64 p.n.im, .int .i64 p.d.re, .int .i64 p.d.im] 25
    rw [← e1]; clear e1
    have c0 := over_blk k0 k0.lt
    refine wp_region_part 6 w1.heap.size (by kernel_rfl) (by kernel_rfl) ?_; simp only [List.take_succ_cons, List.take_zero, List.drop_succ_cons, List.drop_zero]; (repeat (first | go_big_quiet_step ((go_at_call 91; first | with_reducible exact over_call (Nat.le_refl _) (rCheckPart_any p.n _) | with_reducible exact over_call (Nat.le_refl _) (rCheckPart_any p.d _))) | quiet_step ((go_at_call 91; first | with_reducible exact over_call (Nat.le_refl _) (rCheckPart_any p.n _) | with_reducible exact over_call (Nat.le_refl _) (rCheckPart_any p.d _))))); refine wpQuiet_nil ?_; rintro W ⟨x, rfl⟩
    have hbY := over_below w1.heap.size w1 x
    generalize over w1.heap.size w1 x = Y at hbY ⊢
    clear c0
    go_upto_region 2 with ((go_at_call 18; (first | (with_reducible (refine (rFirst_any _ _ _ _ _ _ (reads2 _ _ _ _) (by omega)).mono ?_)) | (with_reducible (refine (rFirst_any _ _ _ _ _ _ (Reads.drew (reads2 _ _ _ _)) (by omega)).mono ?_))); rintro e W' ⟨rfl, rfl⟩))
    obtain ⟨w2, e2, hb2, hz2, _⟩ := box1 Y #[.int .i64 (smE p.n), .int .i64 (smE p.d)] 3
    rw [← e2]; clear e2
    rw [HE.out]
    go_wp2_with fail
    go_ret
    exact ⟨by rw [HN.out]; rfl, (by repeat (first | with_reducible assumption | exact Below.refl _ _ | refine below_next (by with_reducible assumption) ?_))⟩
set_option maxHeartbeats 1000000 in
theorem rCheckPolynomial_any (p : List Int) (A : Option Addr) (m c : Nat) (w : World) (hm : m ≤ 1000000000000) (hR : Reads w w.heap.size 1 A m (ints p)) :
    Calls Tryz.prog 19 #[.slice A m c] w fun e w' => e = .returned (.int .i64 (polErr p)) ∧ Below w.heap.size w w' := by
  have HL := hide (reads_len hR)
  by_cases h6 : 6 < m
  · have HP : Hid (polErr p = 5) := by
      show polErr p = 5
      have : polE p = 5 := by unfold polE; rw [if_pos (by rw [HL.out]; exact h6)]; simp [fnz]
      unfold polErr; rw [this]; rfl
    have g6 : (6 : Int) < (m : Int) := by omega
    clear h6
    go_enter Tryz.func19, Tryz.ntmps19
    go_wp2_with fail
    go_ret
    exact ⟨by rw [HP.out]; rfl, Below.refl _ _⟩
  · have g6 : ¬ (6 : Int) < (m : Int) := by omega
    have hloop : ∀ (hz : polE p = 0), Hid (polErr p = fnz (p.map fun x => rng x (-999999999) 999999999)) := fun hz => by show polErr p = _; unfold polErr; rw [if_pos hz]
    have hE : polE p = if 0 < p.length ∧ co p (p.length - 1) = 0 then 1 else 0 := by
      unfold polE; rw [if_neg (by rw [HL.out]; exact h6)]
      by_cases h : 0 < p.length ∧ co p (p.length - 1) = 0 <;> simp [fnz, h]
    rw [HL.out] at hE
    rcases Nat.eq_zero_or_pos m with h0 | h0
    · have HP := hloop (by rw [hE, if_neg (by omega)])
      have g0 : ¬ (0 : Int) < (m : Int) := by omega
      clear hloop hE h0 h6
      go_enter Tryz.func19, Tryz.ntmps19
      go_wp2_with fail
      go_loopw [3] (fun i wr => ∃ k : Nat, k ≤ m ∧ i = .int .i64 k ∧ (∀ y ∈ (p.map fun x => rng x (-999999999) 999999999).take k, y = 0) ∧ Below w.heap.size w wr) (fun i _ => m - (intOf i).toNat)
      case atStart => exact ⟨0, by omega, rfl, by simp, Below.refl _ _⟩
      case round =>
        rename World => wo
        obtain ⟨k, hk, rfl, hz, hbo⟩ := hrel
        have HZ := hide hz
        clear hz
        by_cases hlt : k < m
        · obtain ⟨ad2, x2, e2, _, hx2, hc2⟩ := reads_at (carry hR hbo) hlt
          cases e2
          have hmp : (p.map fun x => rng x (-999999999) 999999999)[k]? = some (rng x2 (-999999999) 999999999) := by rw [List.getElem?_map, hx2]; rfl
          have HMP := hide hmp
          obtain ⟨E, hE⟩ : ∃ E, rng x2 (-999999999) 999999999 = E := ⟨_, rfl⟩
          rw [hE] at HMP
          have HE := hide hE
          clear hx2 hmp hE
          go_upto_region 9 with (go_at_call 93; refine (checkRange_any _ _ _ _).mono ?_; rintro e W' ⟨rfl, rfl⟩)
          rw [HE.out]
          by_cases he : E = 0
          · have t9 : (E != 0) = false := by simp [he]
            have H9 := hide he
            clear he
            go_wp2_with fail
            go_roundw
            case rel =>
              refine ⟨k + 1, by omega, by go_num, fun y hy => ?_, hbo⟩
              rw [List.take_add_one, HMP.out] at hy
              simp only [List.mem_append, Option.mem_toList, Option.some.injEq] at hy
              rcases hy with hy | hy
              · exact HZ.out y hy
              · have := H9.out; exact hy.symm.trans this
            case measure => simp [intOf]; omega
          · have t9 : (E != 0) = true := by simp [he]
            have hh := fnz_hit HMP.out HZ.out t9
            have HH := hide hh
            clear he hh
            go_wp2_with fail
            go_ret
            exact ⟨by rw [HP.out, HH.out]; rfl, hbo⟩
        · have hh : fnz (p.map fun x => rng x (-999999999) 999999999) = 0 := by
            rw [fnz_zero]
            intro y hy
            exact HZ.out y (by rw [List.take_of_length_le (by rw [List.length_map, HL.out]; omega)]; exact hy)
          have HH := hide hh
          clear hh
          go_wp2_with fail
          go_ret
          exact ⟨by rw [HP.out, HH.out]; rfl, hbo⟩
    · obtain ⟨ad, x', rfl, hB, hx, hcx⟩ := reads_at hR (show m - 1 < m by omega)
      have hk1 : ((m : Int) - 1) = ((m - 1 : Nat) : Int) := by omega
      have g0 : (0 : Int) < (m : Int) := by omega
      by_cases hx0 : x' = 0
      · have HP : Hid (polErr p = 1) := by
          show polErr p = 1
          have : polE p = 1 := by rw [hE, if_pos ⟨h0, by rw [co_get hx]; exact hx0⟩]
          unfold polErr; rw [this]; rfl
        have t1 : (x' == 0) = true := by simpa using hx0
        clear hloop hE h6 hx hx0
        go_enter Tryz.func19, Tryz.ntmps19
        go_wp2_with fail
        go_ret
        exact ⟨by rw [HP.out]; rfl, Below.refl _ _⟩
      · have HP := hloop (by rw [hE, if_neg (fun q => hx0 (by rw [← co_get hx]; exact q.2))])
        have t1 : (x' == 0) = false := by simpa using hx0
        clear hloop hE h6 hx hx0
        go_enter Tryz.func19, Tryz.ntmps19
        go_wp2_with fail
        go_loopw [3] (fun i wr => ∃ k : Nat, k ≤ m ∧ i = .int .i64 k ∧ (∀ y ∈ (p.map fun x => rng x (-999999999) 999999999).take k, y = 0) ∧ Below w.heap.size w wr) (fun i _ => m - (intOf i).toNat)
        case atStart => exact ⟨0, by omega, rfl, by simp, Below.refl _ _⟩
        case round =>
          rename World => wo
          obtain ⟨k, hk, rfl, hz, hbo⟩ := hrel
          have HZ := hide hz
          clear hz
          by_cases hlt : k < m
          · obtain ⟨ad2, x2, e2, _, hx2, hc2⟩ := reads_at (carry hR hbo) hlt
            cases e2
            have hmp : (p.map fun x => rng x (-999999999) 999999999)[k]? = some (rng x2 (-999999999) 999999999) := by rw [List.getElem?_map, hx2]; rfl
            have HMP := hide hmp
            obtain ⟨E, hE⟩ : ∃ E, rng x2 (-999999999) 999999999 = E := ⟨_, rfl⟩
            rw [hE] at HMP
            have HE := hide hE
            clear hx2 hmp hE
            go_upto_region 9 with (go_at_call 93; refine (checkRange_any _ _ _ _).mono ?_; rintro e W' ⟨rfl, rfl⟩)
            rw [HE.out]
            by_cases he : E = 0
            · have t9 : (E != 0) = false := by simp [he]
              have H9 := hide he
              clear he
              go_wp2_with fail
              go_roundw
              case rel =>
                refine ⟨k + 1, by omega, by go_num, fun y hy => ?_, hbo⟩
                rw [List.take_add_one, HMP.out] at hy
                simp only [List.mem_append, Option.mem_toList, Option.some.injEq] at hy
                rcases hy with hy | hy
                · exact HZ.out y hy
                · have := H9.out; exact hy.symm.trans this
              case measure => simp [intOf]; omega
            · have t9 : (E != 0) = true := by simp [he]
              have hh := fnz_hit HMP.out HZ.out t9
              have HH := hide hh
              clear he hh
              go_wp2_with fail
              go_ret
              exact ⟨by rw [HP.out, HH.out]; rfl, hbo⟩
          · have hh : fnz (p.map fun x => rng x (-999999999) 999999999) = 0 := by
              rw [fnz_zero]
              intro y hy
              exact HZ.out y (by rw [List.take_of_length_le (by rw [List.length_map, HL.out]; omega)]; exact hy)
            have HH := hide hh
            clear hh
            go_wp2_with fail
            go_ret
            exact ⟨by rw [HP.out, HH.out]; rfl, hbo⟩
end Go.Proofs.YtnndaipnfniciaaGreatDoor
