/- transformed of the program. -/
import Derived.Test.YtcihiglpahhboaaGreatDoorBaseF
import Derived.Test.YtcihiglpahhboaaGreatDoorPlainA
import Derived.Test.YtcihiglpahhboaaGreatDoorAPress
import Derived.Test.YtcihiglpahhboaaGreatDoorBaseC
namespace Go.Proofs.YtcihiglpahhboaaGreatDoor
open Go.RowKit Go.Shelf
set_option maxRecDepth 100000
/-- Four complex integers. -/
structure F4 where
  a : G
  b : G
  c : G
  d : G
def F4.l (p : F4) : List G := [p.a, p.b, p.c, p.d]
theorem lt4 {k : Nat} (h : k < 4) : k = 0 ∨ k = 1 ∨ k = 2 ∨ k = 3 := by omega
/-- The cells of four complex integers. -/
def qcs (f : Nat → G) : List Value := (List.range 4).flatMap fun j => [.int .i64 (f j).re, .int .i64 (f j).im]
def upd (f : Nat → G) (m : Nat) (v : G) (j : Nat) : G := if j = m then v else f j
theorem qcs_set {W : World} {g : Nat} {t : TypeId} {f : Nat → G} {m : Nat} (hm : m < 4) (v : G) (h : Blk W g t (qcs f).toArray) :
    Blk ((W.setCell ⟨g, m * 2, none⟩ (.int .i64 v.re)).setCell ⟨g, m * 2 + 1, none⟩ (.int .i64 v.im)) g t (qcs (upd f m v)).toArray := by
  have := (h.set_ (m * 2) (.int .i64 v.re)).set_ (m * 2 + 1) (.int .i64 v.im)
  rcases lt4 hm with rfl | rfl | rfl | rfl <;> exact this
theorem qcs_at {W : World} {g : Nat} {t : TypeId} {f : Nat → G} {m : Nat} (hm : m < 4) (h : Blk W g t (qcs f).toArray) : W.cell? ⟨g, m * 2, none⟩ = some (.int .i64 (f m).re) ∧ W.cell? ⟨g, m * 2 + 1, none⟩ = some (.int .i64 (f m).im) := by
  rcases lt4 hm with rfl | rfl | rfl | rfl <;> exact ⟨h.cell _, h.cell _⟩
theorem four_index (p : F4) {k : Nat} (hk : k < 4) (W : World) : (Instr.index 114 (.agg #[.int .i64 p.a.re, .int .i64 p.a.im, .int .i64 p.b.re, .int .i64 p.b.im, .int .i64 p.c.re, .int .i64 p.c.im, .int .i64 p.d.re, .int .i64 p.d.im]) (.int .i64 (k : Int))).run Tryz.prog W = .ok (.agg #[.int .i64 (p.l.getD k .zero).re, .int .i64 (p.l.getD k .zero).im]) W := by
  rcases lt4 hk with rfl | rfl | rfl | rfl <;> kernel_rfl
/-- What is there when k numbers of row m have been added. -/
def trF (sign : Int) (p : F4) (m k : Nat) (j : Nat) : G := if j < m then trP sign p.l j 4 else if j = m then trP sign p.l m k else .zero
theorem trF_upd (sign : Int) (p : F4) (m k : Nat) : upd (trF sign p m k) m (trP sign p.l m (k + 1)) = trF sign p m (k + 1) := by
  funext j
  unfold upd trF
  by_cases h : j = m
  · subst h; simp
  · simp only [h, if_false]
theorem trF_next (sign : Int) (p : F4) (m : Nat) : trF sign p m 4 = trF sign p (m + 1) 0 := by
  funext j
  unfold trF
  by_cases h1 : j < m
  · rw [if_pos h1, if_pos (by omega)]
  · rw [if_neg h1]
    by_cases h2 : j = m
    · subst h2; rw [if_pos rfl, if_pos (by omega)]
    · rw [if_neg h2, if_neg (by omega)]
      split
      · rfl
      · rfl
def trV (sign : Int) (p : F4) : F4 := ⟨trP sign p.l 0 4, trP sign p.l 1 4, trP sign p.l 2 4, trP sign p.l 3 4⟩
theorem sgn_arg {sign : Int} (hs : sign = 1 ∨ sign = -1) {m k : Nat} (hm : m < 4) (hk : k < 4) : wrap64 (wrap64 (sign * (m : Int)) * (k : Int)) = sign * m * k := by
  rcases hs with rfl | rfl <;> rcases lt4 hm with rfl | rfl | rfl | rfl <;> rcases lt4 hk with rfl | rfl | rfl | rfl <;> decide +kernel
set_option maxHeartbeats 4000000 in
theorem transformed_any (p : F4) (sign : Int) (w : World) (hs : sign = 1 ∨ sign = -1) (hB : Bnd p.l 100000000000) (hV : Vr w) :
    Calls Tryz.prog 118 #[.agg #[.int .i64 p.a.re, .int .i64 p.a.im, .int .i64 p.b.re, .int .i64 p.b.im, .int .i64 p.c.re, .int .i64 p.c.im, .int .i64 p.d.re, .int .i64 p.d.im], .int .i64 sign] w fun e w' => e = .returned (.agg #[.int .i64 (trV sign p).a.re, .int .i64 (trV sign p).a.im, .int .i64 (trV sign p).b.re, .int .i64 (trV sign p).b.im, .int .i64 (trV sign p).c.re, .int .i64 (trV sign p).c.im, .int .i64 (trV sign p).d.re, .int .i64 (trV sign p).d.im]) ∧ Below w.heap.size w w' := by
  have HB := hide hB
  have HSG := hide hs
  clear hB hs
  go_enter Tryz.func118, Tryz.ntmps118
  go_upto_region 2 with (fail)
  obtain ⟨w1, e1, hb1, hz1, kI, k0, k1⟩ := box3 w #[.int .i64 p.a.re, .int .i64 p.a.im, .int .i64 p.b.re, .int .i64 p.b.im, .int .i64 p.c.re, .int .i64 p.c.im, .int .i64 p.d.re, .int .i64 p.d.im] #[.int .i64 0, .int .i64 0, .int .i64 0, .int .i64 0, .int .i64 0, .int .i64 0, .int .i64 0, .int .i64 0] #[.int .i64 0, .int .i64 0, .int .i64 0, .int .i64 0, .int .i64 0, .int .i64 0, .int .i64 0, .int .i64 0] 114 114 114
  rw [← e1]; clear e1
  go_wp2_with fail
  go_loopw [9] (fun i wr => ∃ m : Nat, m ≤ 4 ∧ i = .int .i64 m ∧ Blk wr w.heap.size 114 #[.int .i64 p.a.re, .int .i64 p.a.im, .int .i64 p.b.re, .int .i64 p.b.im, .int .i64 p.c.re, .int .i64 p.c.im, .int .i64 p.d.re, .int .i64 p.d.im] ∧ Blk wr (w.heap.size + 1) 114 #[.int .i64 0, .int .i64 0, .int .i64 0, .int .i64 0, .int .i64 0, .int .i64 0, .int .i64 0, .int .i64 0] ∧ Blk wr (w.heap.size + 2) 114 (qcs (trF sign p m 0)).toArray ∧ Below w.heap.size w wr) (fun i _ => 4 - (intOf i).toNat)
  case atStart => exact ⟨0, by omega, rfl, kI, k0, k1, hb1⟩
  case round =>
    rename World => wo
    clear kI k0 k1 hb1
    obtain ⟨m, hm, rfl, kI, k0, k1, hb⟩ := hrel
    by_cases hlt : m < 4
    · have hmi : (m : Int) < 4 := by omega
      have cI := kI.cell
      go_wp2_with fail
      go_loopw [13] (fun i wr => ∃ k : Nat, k ≤ 4 ∧ i = .int .i64 k ∧ Blk wr w.heap.size 114 #[.int .i64 p.a.re, .int .i64 p.a.im, .int .i64 p.b.re, .int .i64 p.b.im, .int .i64 p.c.re, .int .i64 p.c.im, .int .i64 p.d.re, .int .i64 p.d.im] ∧ Blk wr (w.heap.size + 1) 114 #[.int .i64 0, .int .i64 0, .int .i64 0, .int .i64 0, .int .i64 0, .int .i64 0, .int .i64 0, .int .i64 0] ∧ Blk wr (w.heap.size + 2) 114 (qcs (trF sign p m k)).toArray ∧ Below w.heap.size w wr) (fun i _ => 4 - (intOf i).toNat)
      case atStart => exact ⟨0, by omega, rfl, kI, k0, k1, hb⟩
      case round =>
        rename World => wq
        clear kI k0 k1 hb cI
        obtain ⟨k, hk, rfl, kI, k0, k1, hb⟩ := hrel
        by_cases hlt2 : k < 4
        · have hki : (k : Int) < 4 := by omega
          have ri : ∀ W, (Instr.index 114 (.agg #[.int .i64 p.a.re, .int .i64 p.a.im, .int .i64 p.b.re, .int .i64 p.b.im, .int .i64 p.c.re, .int .i64 p.c.im, .int .i64 p.d.re, .int .i64 p.d.im]) (.int .i64 (k : Int))).run Tryz.prog W = .ok (.agg #[.int .i64 (p.l.getD k .zero).re, .int .i64 (p.l.getD k .zero).im]) W := fun W => four_index p hlt2 W
          have hz := HB.out k
          obtain ⟨z, ez⟩ : ∃ z, p.l.getD k .zero = z := ⟨_, rfl⟩
          have hcur := trP_nrm sign HB.out m k
          have hnext := trP_nrm sign HB.out m (k + 1)
          have hstep := trP_succ sign p.l m k
          obtain ⟨q, hq⟩ : ∃ q : Nat, (sign * m * k) % 4 = (q : Int) := ⟨((sign * m * k) % 4).toNat, by omega⟩
          have hq4 : q < 4 := by omega
          have hqi : (q : Int) < 4 := by omega
          have harg := sgn_arg HSG.out hlt hlt2
          have hterm : trm sign p.l m k = z.mul (turnG q) := by
            unfold trm turnI
            rw [hq, ez, G.mul_comm]; rfl
          rw [ez] at ri hz
          rw [hterm] at hstep
          have hmul : (z.mul (turnG q)).nrm ≤ 100000000000 := by
            rw [← hterm]; exact trm_nrm sign HB.out m k
          have hcv : trF sign p m k m = trP sign p.l m k := by unfold trF; rw [if_neg (Nat.lt_irrefl m), if_pos rfl]
          have hup := trF_upd sign p m k
          obtain ⟨C, hC⟩ : ∃ C, trP sign p.l m k = C := ⟨_, rfl⟩
          obtain ⟨C', hC'⟩ : ∃ C', trP sign p.l m (k + 1) = C' := ⟨_, rfl⟩
          rw [hC] at hcv hcur hstep
          rw [hC'] at hstep hnext hup
          have htimes : Hid (∀ W, Calls Tryz.prog 130 #[.agg #[.int .i64 z.re, .int .i64 z.im], .agg #[.int .i64 (turnG q).re, .int .i64 (turnG q).im]] W fun e W' => e = .returned (.agg #[.int .i64 (z.mul (turnG q)).re, .int .i64 (z.mul (turnG q)).im]) ∧ Below W.heap.size W W') := fun W => by
            have := times_any z (turnG q) W
            rw [G.w_in (by omega)] at this
            exact this
          have hplus : Hid (∀ W, Calls Tryz.prog 129 #[.agg #[.int .i64 C.re, .int .i64 C.im], .agg #[.int .i64 (z.mul (turnG q)).re, .int .i64 (z.mul (turnG q)).im]] W fun e W' => e = .returned (.agg #[.int .i64 C'.re, .int .i64 C'.im]) ∧ Below W.heap.size W W') := fun W => by
            have := plus_any C (z.mul (turnG q)) W
            rw [← hstep, G.w_in (by have : (k + 1) * 100000000000 ≤ 4 * 100000000000 := Nat.mul_le_mul (by omega) (Nat.le_refl _); omega)] at this
            exact this
          have HQ := hide hq
          have HUP := hide hup
          obtain ⟨o0, o1⟩ := qcs_at hlt k1
          rw [hcv] at o0 o1
          clear hz ez hcur hnext hstep hterm hmul hup hC hC' hcv hq
          go_upto_region 8 with (fail)
          obtain ⟨w4, e4, hb4, hz4, kz⟩ := box1 wq #[.int .i64 z.re, .int .i64 z.im] 54
          rw [← e4]; clear e4 ri
          have hV4 := hV.carry (below_next hb hb4)
          have cz := over_blk kz kz.lt
          have kI4 := carryK kI hb4
          have k04 := carryK k0 hb4
          have k14 := carryK k1 hb4
          have hbw4 := below_next hb hb4
          have p0 : ∀ x, (over w4.heap.size w4 x).cell? ⟨1, q * 2, none⟩ = some (.int .i64 (turnG q).re) := fun x => ((hV4.carry (over_below _ _ _)).two hq4).1
          have p1 : ∀ x, (over w4.heap.size w4 x).cell? ⟨1, q * 2 + 1, none⟩ = some (.int .i64 (turnG q).im) := fun x => ((hV4.carry (over_below _ _ _)).two hq4).2
          have r0 : ∀ x, (over w4.heap.size w4 x).cell? ⟨w.heap.size + 2, m * 2, none⟩ = some (.int .i64 C.re) := fun x => (((over_below _ _ _).cell (p := ⟨w.heap.size + 2, m * 2, none⟩) k14.lt).trans ((hb4.cell (p := ⟨w.heap.size + 2, m * 2, none⟩) k1.lt).trans o0))
          have r1 : ∀ x, (over w4.heap.size w4 x).cell? ⟨w.heap.size + 2, m * 2 + 1, none⟩ = some (.int .i64 C.im) := fun x => (((over_below _ _ _).cell (p := ⟨w.heap.size + 2, m * 2 + 1, none⟩) k14.lt).trans ((hb4.cell (p := ⟨w.heap.size + 2, m * 2 + 1, none⟩) k1.lt).trans o1))
          clear kI k0 k1 hb o0 o1
          refine wp_region_part 16 w4.heap.size (by kernel_rfl) (by kernel_rfl) ?_; simp only [List.take_succ_cons, List.take_zero, List.drop_succ_cons, List.drop_zero]; (repeat (first | go_big_quiet_step (first | (go_at_call 87; exact over_same (modulo_q _ q HQ.out _)) | (go_at_call 130; exact over_call (Nat.le_refl _) (htimes.out _)) | (go_at_call 129; exact over_call (Nat.le_refl _) (hplus.out _))) | quiet_step (first | (go_at_call 87; exact over_same (modulo_q _ q HQ.out _)) | (go_at_call 130; exact over_call (Nat.le_refl _) (htimes.out _)) | (go_at_call 129; exact over_call (Nat.le_refl _) (hplus.out _))))); refine wpQuiet_nil ?_; rintro W ⟨x, rfl⟩
          have hbY := over_below w4.heap.size w4 x
          generalize over w4.heap.size w4 x = Y at hbY ⊢
          have kIY := carryK kI4 hbY
          have k0Y := carryK k04 hbY
          have k1Y := carryK k14 hbY
          have hbwY := below_next hbw4 hbY
          clear cz p0 p1 r0 r1 harg kI4 k04 k14
          obtain ⟨v0, hv0⟩ : ∃ v, Y.cell? ⟨w.heap.size + 2, m * 2, none⟩ = some v := ⟨_, (qcs_at hlt k1Y).1⟩
          obtain ⟨v1, hv1⟩ : ∃ v, Y.cell? ⟨w.heap.size + 2, m * 2 + 1, none⟩ = some v := ⟨_, (qcs_at hlt k1Y).2⟩
          have f1 := k1Y.frozen
          have kX := qcs_set hlt C' k1Y
          rw [HUP.out] at kX
          have k0X := (k0Y.far (p := ⟨w.heap.size + 2, m * 2, none⟩) (by show w.heap.size + 1 ≠ w.heap.size + 2; omega) (.int .i64 C'.re)).far (p := ⟨w.heap.size + 2, m * 2 + 1, none⟩) (by show w.heap.size + 1 ≠ w.heap.size + 2; omega) (.int .i64 C'.im)
          have kIX := (kIY.far (p := ⟨w.heap.size + 2, m * 2, none⟩) (by show w.heap.size ≠ w.heap.size + 2; omega) (.int .i64 C'.re)).far (p := ⟨w.heap.size + 2, m * 2 + 1, none⟩) (by show w.heap.size ≠ w.heap.size + 2; omega) (.int .i64 C'.im)
          have hX := below_set (below_set hbwY (show w.heap.size ≤ w.heap.size + 2 by omega) (i := m * 2) (.int .i64 C'.re)) (show w.heap.size ≤ w.heap.size + 2 by omega) (i := m * 2 + 1) (.int .i64 C'.im)
          clear kIY k0Y k1Y hbwY
          go_wp2_with fail
          go_roundw
          case rel => exact ⟨k + 1, by omega, by go_num, kIX, k0X, kX, hX⟩
          case measure => simp [intOf]; omega
        · obtain rfl : k = 4 := by omega
          rw [trF_next] at k1
          go_wp2_with fail
          go_roundw
          case rel => exact ⟨m + 1, by omega, by go_num, kI, k0, k1, hb⟩
          case measure => simp [intOf]; omega
    · obtain rfl : m = 4 := by omega
      have k1 : Blk wo (w.heap.size + 2) 114 #[.int .i64 (trV sign p).a.re, .int .i64 (trV sign p).a.im, .int .i64 (trV sign p).b.re, .int .i64 (trV sign p).b.im, .int .i64 (trV sign p).c.re, .int .i64 (trV sign p).c.im, .int .i64 (trV sign p).d.re, .int .i64 (trV sign p).d.im] := k1
      have c1 := k1.cell
      have c0 := k0.cell
      have f0 := k0.frozen
      go_wp2_with fail
      with_reducible refine fins8 114 hb (Nat.le_succ w.heap.size) k0 (fun X hX kX => ?_)
      have cX := kX.cell
      refine bodyPost_ret (v := .agg #[.int .i64 (trV sign p).a.re, .int .i64 (trV sign p).a.im, .int .i64 (trV sign p).b.re, .int .i64 (trV sign p).b.im, .int .i64 (trV sign p).c.re, .int .i64 (trV sign p).c.im, .int .i64 (trV sign p).d.re, .int .i64 (trV sign p).d.im]) (by simp [results, Tryz.results118, go_sem, cX]) rfl ?_
      exact ⟨rfl, hX⟩
end Go.Proofs.YtcihiglpahhboaaGreatDoor
