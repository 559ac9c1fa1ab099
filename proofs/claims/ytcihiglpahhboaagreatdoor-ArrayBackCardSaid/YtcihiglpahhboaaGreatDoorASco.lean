/- checkAudience, score, Score of the program. -/
import Derived.Test.YtcihiglpahhboaaGreatDoorAPat2
import Derived.Test.YtcihiglpahhboaaGreatDoorPlainA
import Derived.Test.YtcihiglpahhboaaGreatDoorBaseM
namespace Go.Proofs.YtcihiglpahhboaaGreatDoor
open Go.RowKit Go.Shelf
set_option maxRecDepth 100000
/-- The error of an audience. -/
def auE (a : Au) : Int := fnz (a.l.map fun n => rng n (-1000) 1000)
theorem auE_ok {a : Au} (h : auE a = 0) : ∀ k, -1000 ≤ a.l.getD k 0 ∧ a.l.getD k 0 ≤ 1000 := by
  unfold auE at h
  rw [fnz_zero] at h
  intro k
  rw [List.getD_eq_getElem?_getD]
  cases hk : a.l[k]? with
  | none => simp
  | some n => exact rng_zero.1 (h _ (List.mem_map.2 ⟨n, List.mem_of_getElem? hk, rfl⟩))
theorem aud1_any (n : Int) (w : World) :
    Calls Tryz.prog 134 #[.int .i64 n] w fun r w' => r = .returned (.int .i64 (rng n (-1000) 1000)) ∧ w = w' := by
  go_enter Tryz.func134, Tryz.ntmps134
  go_wp2_with (go_at_call 89; refine (within_any _ _ _ _).mono ?_; rintro e w' ⟨rfl, rfl⟩)
  go_ret
  exact ⟨rfl, rfl⟩
theorem enters_aud1 : ∀ a W, Sem.run Tryz.prog (callFunc 134 #[a]) W = .ok (.enter 134 #[a]) W := fun _ _ => by kernel_rfl
set_option maxHeartbeats 400000 in
/-- mapped, at a function of numbers that leaves memory alone. -/
theorem mapped_any (f : Nat) (g : Int → Int) (hcf : ∀ a W, Sem.run Tryz.prog (callFunc f #[a]) W = .ok (.enter f #[a]) W) (hf : ∀ x W, Calls Tryz.prog f #[.int .i64 x] W fun r W' => r = .returned (.int .i64 (g x)) ∧ W = W')
    (A : Option Addr) (n c : Nat) (xs : List Int) (w : World) (h : Reads w w.heap.size 1 A n (ints xs)) (hn : n ≤ 1000000000000) :
    Calls Tryz.prog 133 #[.slice A n c, .func (.func f) #[] #[]] w fun r w' => ∃ A' c', r = .returned (.slice A' n c') ∧ Reads w' w'.heap.size 1 A' n (ints (xs.map g)) ∧ Below w.heap.size w w' := by
  have hl := reads_len h
  have HL := hide hl; clear hl
  have HF := hide hf; clear hf
  go_enter Tryz.func133, Tryz.ntmps133
  go_wp2
  go_loopw [5, 10] (fun v i wr => ∃ k : Nat, k ≤ n ∧ i = .int .i64 k ∧ wr.ownsRow w.heap.size 27 1 v k (ints ((xs.take k).map g)) ∧ Below w.heap.size w wr) (fun _ i _ => n - (intOf i).toNat)
  case atStart => exact ⟨0, by omega, rfl, by simp [ints, World.ownsRow_nil], Below.refl _ _⟩
  case round =>
    obtain ⟨k, hk, rfl, ho, hb⟩ := hrel
    by_cases hlt : k < n
    · have hr := h.below hb
      obtain ⟨ad, x, rfl, _, hx, hc⟩ := reads_at hr hlt
      have HX := hide hx; clear hx
      have hsz := hb.size
      have A1 : k + 1 ≤ maxLen := by unfold maxLen; omega
      have A2 : (k + 1) * 8 ≤ 140737488355328 := by omega
      clear h hr
      go_wp2_with fail
      refine (HF.out x _).mono ?_
      rintro e w' ⟨rfl, rfl⟩
      go_wp2_with (at_builtin; refine wpList_push _ rfl (.tmp 14) (.tmp 18) _ rfl w.heap.size 27 (.int .i64 0) 1 8 Tryz.underlying157 info_errno rfl (by decide) _ k _ rfl (ho.alloc _) wr.heap.size [.int .i64 (g x)] rfl rfl (cell_new1 _ _ _) (one_int _) A1 A2 (le_alloc hsz _) ?_; intro v1 w1 ho1 hb1)
      exact ⟨⟨k + 1, by omega, by go_num, by rw [map_snoc g HX.out]; exact ho1, (hb.alloc hsz _).trans hb1⟩, by simp [intOf]; omega⟩
    · go_wp2
      go_ret
      obtain rfl : k = n := by omega
      rw [List.take_of_length_le (by rw [HL.out]; omega)] at ho
      obtain ⟨A', c', rfl, hr⟩ := own_slice ho
      exact ⟨A', c', rfl, hr, hb⟩
theorem checkAudience_any (a : Au) (w : World) :
    Calls Tryz.prog 101 #[.agg #[.int .i64 a.a0, .int .i64 a.a1, .int .i64 a.a2, .int .i64 a.a3, .int .i64 a.a4, .int .i64 a.a5, .int .i64 a.a6, .int .i64 a.a7]] w fun e w' => e = .returned (.int .i64 (auE a)) ∧ Below w.heap.size w w' := by
  go_enter Tryz.func101, Tryz.ntmps101
  go_upto_region 1 with (fail)
  obtain ⟨w1, e1, hb1, hz1, k0⟩ := box1 w #[.int .i64 a.a0, .int .i64 a.a1, .int .i64 a.a2, .int .i64 a.a3, .int .i64 a.a4, .int .i64 a.a5, .int .i64 a.a6, .int .i64 a.a7] 64
  rw [← e1]; clear e1
  have r0 : Reads w1 w1.heap.size 1 (some ⟨w.heap.size, 0, none⟩) 8 (ints a.l) := reads_block (xs := a.l) k0 (Nat.le_refl _) k0.lt
  go_wp2_with fail
  refine (mapped_any _ (fun n => rng n (-1000) 1000) enters_aud1 (fun x W => aud1_any x W) _ 8 8 a.l _ r0 (by omega)).mono ?_
  rintro e w2 ⟨A1, c1, rfl, hR1, hb2⟩
  go_wp2_with (go_at_call 86; with_reducible (refine (first_any _ _ _ _ _ _ hR1 (by omega)).mono ?_); rintro e W' ⟨rfl, rfl⟩)
  go_ret
  exact ⟨rfl, below_next hb1 hb2⟩
theorem au_cell {W : World} {g : Nat} {t : TypeId} {a : Au} {k : Nat} (hk : k < 8) (h : Blk W g t #[.int .i64 a.a0, .int .i64 a.a1, .int .i64 a.a2, .int .i64 a.a3, .int .i64 a.a4, .int .i64 a.a5, .int .i64 a.a6, .int .i64 a.a7]) : W.cell? ⟨g, k, none⟩ = some (.int .i64 (a.l.getD k 0)) := by
  rcases lt8' hk with rfl | rfl | rfl | rfl | rfl | rfl | rfl | rfl <;> exact h.cell _
set_option maxHeartbeats 2000000 in
theorem score_any (A : Option Addr) (m c : Nat) (l : List Src) (a : Au) (w : World) (hok : LOk l) (ha : ∀ k, -1000 ≤ a.l.getD k 0 ∧ a.l.getD k 0 ≤ 1000) (hR : Reads w w.heap.size 4 A m (srcs l)) (hV : Vr w) :
    Calls Tryz.prog 102 #[.slice A m c, .agg #[.int .i64 a.a0, .int .i64 a.a1, .int .i64 a.a2, .int .i64 a.a3, .int .i64 a.a4, .int .i64 a.a5, .int .i64 a.a6, .int .i64 a.a7]] w fun e w' => e = .returned (.int .i64 (scr l a.l)) ∧ Below w.heap.size w w' := by
  have HO := hide hok
  have HA := hide ha
  clear hok ha
  go_enter Tryz.func102, Tryz.ntmps102
  go_upto_region 1 with (fail)
  obtain ⟨w1, e1, hb1, hz1, k0⟩ := box1 w #[.int .i64 a.a0, .int .i64 a.a1, .int .i64 a.a2, .int .i64 a.a3, .int .i64 a.a4, .int .i64 a.a5, .int .i64 a.a6, .int .i64 a.a7] 64
  rw [← e1]; clear e1
  go_wp2_with fail
  refine (pattern_any A m c l _ HO.out (carry hR hb1) (hV.carry hb1)).mono ?_
  rintro e w2 ⟨rfl, hb2⟩
  have hbw2 : Below w.heap.size w w2 := (by repeat (first | with_reducible assumption | exact Below.refl _ _ | refine below_next (by with_reducible assumption) ?_))
  have k2 := carryK k0 hb2
  clear k0 hb1 hb2
  go_wp2_with fail
  go_loopw [5, 10] (fun s i wr => ∃ k : Nat, k ≤ 8 ∧ i = .int .i64 k ∧ s = .int .i64 (scrK l a.l k) ∧ Blk wr w.heap.size 64 #[.int .i64 a.a0, .int .i64 a.a1, .int .i64 a.a2, .int .i64 a.a3, .int .i64 a.a4, .int .i64 a.a5, .int .i64 a.a6, .int .i64 a.a7] ∧ Below w.heap.size w wr) (fun _ i _ => 8 - (intOf i).toNat)
  case atStart => exact ⟨0, by omega, rfl, rfl, k2, hbw2⟩
  case round =>
    rename World => wo
    obtain ⟨k, hk, rfl, rfl, kA, hb⟩ := hrel
    clear hbw2 k2
    by_cases hlt : k < 8
    · have ri : ∀ W, (Instr.index 55 (.agg #[.int .i64 (prs l 0).re, .int .i64 (prs l 0).im, .int .i64 (prs l 1).re, .int .i64 (prs l 1).im, .int .i64 (prs l 2).re, .int .i64 (prs l 2).im, .int .i64 (prs l 3).re, .int .i64 (prs l 3).im, .int .i64 (prs l 4).re, .int .i64 (prs l 4).im, .int .i64 (prs l 5).re, .int .i64 (prs l 5).im, .int .i64 (prs l 6).re, .int .i64 (prs l 6).im, .int .i64 (prs l 7).re, .int .i64 (prs l 7).im]) (.int .i64 (k : Int))).run Tryz.prog W = .ok (.agg #[.int .i64 (prs l k).re, .int .i64 (prs l k).im]) W := fun W => pat_index (prs l) hlt W
      have hki : (k : Int) < 8 := by omega
      have hin := scrK_in HO.out HA.out k
      have hin2 := scrK_in HO.out HA.out (k + 1)
      have hsq := prs_sq HO.out k
      have hstep := scrK_succ l a.l k
      have ha2 := HA.out k
      obtain ⟨z, hz⟩ : ∃ z, prs l k = z := ⟨_, rfl⟩
      have HZ := hide hz
      rw [hz] at ri hsq hstep
      obtain ⟨S, hS⟩ : ∃ S, scrK l a.l k = S := ⟨_, rfl⟩
      rw [hS] at hin hstep
      have HSS := hide hS
      rw [HSS.out]
      obtain ⟨y, hy⟩ : ∃ y, a.l.getD k 0 = y := ⟨_, rfl⟩
      have ac : ∀ W, Blk W w.heap.size 64 #[.int .i64 a.a0, .int .i64 a.a1, .int .i64 a.a2, .int .i64 a.a3, .int .i64 a.a4, .int .i64 a.a5, .int .i64 a.a6, .int .i64 a.a7] → W.cell? ⟨w.heap.size, k, none⟩ = some (.int .i64 y) := fun W h => by rw [← hy]; exact au_cell hlt h
      rw [hy] at hstep ha2
      obtain ⟨q, hq⟩ : ∃ q, z.sq = q := ⟨_, rfl⟩
      rw [hq] at hstep hsq
      have HQ := hide hq
      have hm1 : wrap64 (y * q) = y * q := by
        have h1 : y * q ≤ 1000 * q := Int.mul_le_mul_of_nonneg_right (by omega) (by omega)
        have h2 : -1000 * q ≤ y * q := Int.mul_le_mul_of_nonneg_right (by omega) (by omega)
        unfold wrap64; omega
      have hm2 : wrap64 (S + y * q) = S + y * q := by
        rw [hstep] at hin2
        unfold wrap64; omega
      have hwq : wr q = q := wr_in (by omega)
      have HST := hide hstep
      have HC : Hid (∀ W, Calls Tryz.prog 109 #[.agg #[.int .i64 z.re, .int .i64 z.im]] W fun e W' => e = .returned (.int .i64 q) ∧ Below W.heap.size W W') := fun W => by
        have := square_any z W
        rw [hq, hwq] at this
        exact this
      clear hz hS hy hq hin hin2 hsq hstep ha2 hwq
      go_upto_region 5 with (fail)
      obtain ⟨w4, e4, hb4, hz4, k4⟩ := box1 wo #[.int .i64 z.re, .int .i64 z.im] 54
      rw [← e4]; clear e4 ri
      have kA4 := carryK kA hb4
      have hbw4 := below_next hb hb4
      have c4 := over_blk k4 k4.lt
      have cA : ∀ x, (over w4.heap.size w4 x).cell? ⟨w.heap.size, k, none⟩ = some (.int .i64 y) := fun x => ac _ (carryK kA4 (over_below _ _ _))
      refine wp_region_over w4.heap.size (by kernel_rfl) (by kernel_rfl) ?_; (repeat (first | go_big_quiet_step ((go_at_call 109; exact over_call (Nat.le_refl _) (HC.out _))) | quiet_step ((go_at_call 109; exact over_call (Nat.le_refl _) (HC.out _))))); refine wpQuiet_nil ?_; rintro W ⟨x, rfl⟩
      have hbY := over_below w4.heap.size w4 x
      generalize over w4.heap.size w4 x = Y at hbY ⊢
      clear c4 cA ac
      go_wp2_with fail
      go_roundw
      case rel => exact ⟨k + 1, by omega, by go_num, by rw [HST.out, hm2], carryK kA4 hbY, below_next hbw4 hbY⟩
      case measure => simp [intOf]; omega
    · obtain rfl : k = 8 := by omega
      go_wp2_with fail
      go_ret
      exact ⟨rfl, hb⟩
end Go.Proofs.YtcihiglpahhboaaGreatDoor
