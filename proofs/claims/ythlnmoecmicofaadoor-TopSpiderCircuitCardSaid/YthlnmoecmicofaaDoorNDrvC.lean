/- Drivers: the checks and Impedance. -/
import Derived.Test.YthlnmoecmicofaaDoorNDrv
namespace Go.Proofs.YthlnmoecmicofaaDoor
open Go.RowKit Go.Shelf
set_option maxRecDepth 100000
theorem fin6 {Q : World → Prop} {B : Nat} {v W : World} {g : Nat} {c0 c1 c2 c3 c4 c5 u0 u1 u2 u3 u4 u5 : Value} (t : TypeId) (hB : Below B v W) (hg : B ≤ g) (hk : Blk W g t #[c0, c1, c2, c3, c4, c5]) (h : ∀ X, Below B v X → Blk X g t #[u0, u1, u2, u3, u4, u5] → Q X) :
    Q ((((((W.setCell ⟨g, 0, none⟩ u0).setCell ⟨g, 1, none⟩ u1).setCell ⟨g, 2, none⟩ u2).setCell ⟨g, 3, none⟩ u3).setCell ⟨g, 4, none⟩ u4).setCell ⟨g, 5, none⟩ u5) := by
  have k5 := (((((hk.set_ 0 u0).set_ 1 u1).set_ 2 u2).set_ 3 u3).set_ 4 u4).set_ 5 u5
  exact h _ (below_set (below_set (below_set (below_set (below_set (below_set hB hg _) hg _) hg _) hg _) hg _) hg _) (by simpa using k5)
theorem drCheckW_any (n : Int) (w : World) :
    Calls Tryd.prog 87 #[.int .i64 n] w fun r w' => r = .returned (.int .i64 (rng n 1 8)) ∧ w = w' := by
  go_enter Tryd.func87, Tryd.ntmps87
  go_wp2_with (go_at_call 103; refine (within_dr _ _ _ _).mono ?_; rintro e w' ⟨rfl, rfl⟩)
  go_ret
  exact ⟨rfl, rfl⟩
set_option maxHeartbeats 1000000 in
theorem numbers_any (d : Drv) (w : World) :
    Calls Tryd.prog 102 #[.agg #[.int .i64 d.re, .int .i64 d.le, .int .i64 d.bl, .int .i64 d.ms, .int .i64 d.st, .int .i64 d.ls]] w fun e w' => e = .returned (.agg #[.int .i64 d.re, .int .i64 d.le, .int .i64 d.bl, .int .i64 d.ms, .int .i64 d.st, .int .i64 d.ls]) ∧ Below w.heap.size w w' := by
  go_enter Tryd.func102, Tryd.ntmps102
  go_upto_region 1 with (fail)
  obtain ⟨w1, q1, hb1, hz1, k0, k1⟩ := box2 w #[.int .i64 d.re, .int .i64 d.le, .int .i64 d.bl, .int .i64 d.ms, .int .i64 d.st, .int .i64 d.ls] #[.int .i64 0, .int .i64 0, .int .i64 0, .int .i64 0, .int .i64 0, .int .i64 0] 36 146
  rw [← q1]; clear q1
  have c0 := k0.cell
  have c1 := k1.cell
  have f1 := k1.frozen
  go_wp2_with fail
  with_reducible refine fin6 (B := w.heap.size) (v := w) 146 hb1 (by omega) k1 (fun X hX kX => ?_)
  have cX := kX.cell
  clear c0 c1 f1
  refine bodyPost_ret (v := .agg #[.int .i64 d.re, .int .i64 d.le, .int .i64 d.bl, .int .i64 d.ms, .int .i64 d.st, .int .i64 d.ls]) (by simp [results, Tryd.results102, go_sem, cX]) rfl ?_
  exact ⟨rfl, hX⟩
theorem drFirst_any (A : Option Addr) (n c B : Nat) (xs : List Int) (w : World) (h : Reads w B 1 A n (ints xs)) (hn : n ≤ 1000000000000) :
    Calls Tryd.prog 84 #[.slice A n c] w fun r w' => r = .returned (.int .i64 (fnz xs)) ∧ w = w' := by
  have hl := reads_len h
  have HL := hide hl; clear hl
  go_enter Tryd.func84, Tryd.ntmps84
  go_wp2
  go_loop [7] (fun i => ∃ k : Nat, k ≤ n ∧ i = .int .i64 k ∧ zeros xs k) (fun i => n - (intOf i).toNat)
  case atStart => exact ⟨0, by omega, rfl, by intro y hy; simp at hy⟩
  case round =>
    obtain ⟨k, hk, rfl, hz⟩ := hrel
    by_cases hlt : k < n
    · obtain ⟨ad, x, rfl, _, hx, hc⟩ := reads_at h hlt
      have HX := hide hx; clear hx
      go_wp2
      · go_ret
        exact ⟨by simp; exact (fnz_hit HX.out hz ‹_›).symm, rfl⟩
      · go_round
        case rel => exact ⟨k + 1, by omega, by go_num, zeros_succ hz HX.out ‹_›⟩
        case measure => simp [intOf]; omega
    · go_wp2
      go_ret
      exact ⟨by simp; exact (zeros_end hz (by rw [HL.out]; omega)).symm, rfl⟩
/-- The bounds of a driver's numbers lie where they were laid. -/
def limCells : Array Value := #[.int .i64 1, .int .i64 50, .int .i64 0, .int .i64 10, .int .i64 1, .int .i64 20, .int .i64 1, .int .i64 100, .int .i64 1, .int .i64 5000, .int .i64 1, .int .i64 100]
structure Lim (w : World) : Prop where
  lt : 2 < w.heap.size
  cell : ∀ i : Nat, i < 12 → w.cell? ⟨2, i, none⟩ = limCells[i]?
theorem Lim.carry {w w' : World} (h : Lim w) (hb : Below w.heap.size w w') : Lim w' :=
  ⟨Nat.lt_of_lt_of_le h.lt hb.size, fun i hi => (hb.cell (p := ⟨2, i, none⟩) h.lt).trans (h.cell i hi)⟩
def Drv.nums (d : Drv) : List Int := [d.re, d.le, d.bl, d.ms, d.st, d.ls]
def Drv.errs (d : Drv) : List Int := [rng d.re 1 50, rng d.le 0 10, rng d.bl 1 20, rng d.ms 1 100, rng d.st 1 5000, rng d.ls 1 100]
def Drv.err (d : Drv) : Int := fnz d.errs
set_option maxHeartbeats 4000000 in
theorem drCheckDriver_any (d : Drv) (w : World) (hL : Lim w) :
    Calls Tryd.prog 85 #[.agg #[.int .i64 d.re, .int .i64 d.le, .int .i64 d.bl, .int .i64 d.ms, .int .i64 d.st, .int .i64 d.ls]] w fun e w' => e = .returned (.int .i64 d.err) ∧ Below w.heap.size w w' := by
  go_enter Tryd.func85, Tryd.ntmps85
  go_upto_region 1 with (fail)
  obtain ⟨w1, q1, hb1, hz1, k0⟩ := box1 w #[.int .i64 d.re, .int .i64 d.le, .int .i64 d.bl, .int .i64 d.ms, .int .i64 d.st, .int .i64 d.ls] 36
  rw [← q1]; clear q1
  have c0 := k0.cell
  go_wp2_with (go_at_call 102; refine (numbers_any d _).mono ?_; rintro e w2 ⟨rfl, hb2⟩)
  have hb := below_next hb1 hb2
  clear c0 k0 hb1 hb2 hz1
  go_loopw [8] (fun i wr => ∃ k : Nat, k ≤ 6 ∧ i = .int .i64 k ∧ zeros d.errs k ∧ Below w.heap.size w wr) (fun i _ => 6 - (intOf i).toNat)
  case atStart => exact ⟨0, by omega, rfl, by intro y hy; simp at hy, hb⟩
  case round =>
    obtain ⟨k, hk, rfl, hz, hbr⟩ := hrel
    have hLr := hL.carry hbr
    clear hL hb
    have hc : k = 0 ∨ k = 1 ∨ k = 2 ∨ k = 3 ∨ k = 4 ∨ k = 5 ∨ k = 6 := by omega
    rcases hc with rfl | rfl | rfl | rfl | rfl | rfl | rfl
    · have i0 : ∀ W : World, (Instr.index 146 (.agg #[.int .i64 d.re, .int .i64 d.le, .int .i64 d.bl, .int .i64 d.ms, .int .i64 d.st, .int .i64 d.ls]) (.int .i64 0)).run Tryd.prog W = .ok (.int .i64 d.re) W := fun _ => by kernel_rfl
      have l0 : ∀ W, (over wr.heap.size wr W).cell? ⟨2, 0, none⟩ = some (.int .i64 1) := fun W => ((over_below wr.heap.size wr W).cell (p := ⟨2, 0, none⟩) hLr.lt).trans (hLr.cell 0 (by omega))
      have l1 : ∀ W, (over wr.heap.size wr W).cell? ⟨2, 1, none⟩ = some (.int .i64 50) := fun W => ((over_below wr.heap.size wr W).cell (p := ⟨2, 1, none⟩) hLr.lt).trans (hLr.cell 1 (by omega))
      clear hLr
      go_wp2
      refine wp_region_over wr.heap.size (by kernel_rfl) (by kernel_rfl) ?_; (repeat (first | go_big_quiet_step ((go_at_call 103; exact over_same (within_dr _ _ _ _))) | quiet_step ((go_at_call 103; exact over_same (within_dr _ _ _ _))))); refine wpQuiet_nil ?_; rintro W ⟨x, rfl⟩
      go_wp2
      · go_ret
        exact ⟨by simp; exact (fnz_hit (k := 0) rfl hz ‹_›).symm, below_step hbr (over_below _ _ _) hbr.size⟩
      · go_roundw
        case rel => exact ⟨1, by omega, rfl, zeros_succ (k := 0) hz rfl ‹_›, below_step hbr (over_below _ _ _) hbr.size⟩
        case measure => simp [intOf]
    · have i0 : ∀ W : World, (Instr.index 146 (.agg #[.int .i64 d.re, .int .i64 d.le, .int .i64 d.bl, .int .i64 d.ms, .int .i64 d.st, .int .i64 d.ls]) (.int .i64 1)).run Tryd.prog W = .ok (.int .i64 d.le) W := fun _ => by kernel_rfl
      have l0 : ∀ W, (over wr.heap.size wr W).cell? ⟨2, 2, none⟩ = some (.int .i64 0) := fun W => ((over_below wr.heap.size wr W).cell (p := ⟨2, 2, none⟩) hLr.lt).trans (hLr.cell 2 (by omega))
      have l1 : ∀ W, (over wr.heap.size wr W).cell? ⟨2, 3, none⟩ = some (.int .i64 10) := fun W => ((over_below wr.heap.size wr W).cell (p := ⟨2, 3, none⟩) hLr.lt).trans (hLr.cell 3 (by omega))
      clear hLr
      go_wp2
      refine wp_region_over wr.heap.size (by kernel_rfl) (by kernel_rfl) ?_; (repeat (first | go_big_quiet_step ((go_at_call 103; exact over_same (within_dr _ _ _ _))) | quiet_step ((go_at_call 103; exact over_same (within_dr _ _ _ _))))); refine wpQuiet_nil ?_; rintro W ⟨x, rfl⟩
      go_wp2
      · go_ret
        exact ⟨by simp; exact (fnz_hit (k := 1) rfl hz ‹_›).symm, below_step hbr (over_below _ _ _) hbr.size⟩
      · go_roundw
        case rel => exact ⟨2, by omega, rfl, zeros_succ (k := 1) hz rfl ‹_›, below_step hbr (over_below _ _ _) hbr.size⟩
        case measure => simp [intOf]
    · have i0 : ∀ W : World, (Instr.index 146 (.agg #[.int .i64 d.re, .int .i64 d.le, .int .i64 d.bl, .int .i64 d.ms, .int .i64 d.st, .int .i64 d.ls]) (.int .i64 2)).run Tryd.prog W = .ok (.int .i64 d.bl) W := fun _ => by kernel_rfl
      have l0 : ∀ W, (over wr.heap.size wr W).cell? ⟨2, 4, none⟩ = some (.int .i64 1) := fun W => ((over_below wr.heap.size wr W).cell (p := ⟨2, 4, none⟩) hLr.lt).trans (hLr.cell 4 (by omega))
      have l1 : ∀ W, (over wr.heap.size wr W).cell? ⟨2, 5, none⟩ = some (.int .i64 20) := fun W => ((over_below wr.heap.size wr W).cell (p := ⟨2, 5, none⟩) hLr.lt).trans (hLr.cell 5 (by omega))
      clear hLr
      go_wp2
      refine wp_region_over wr.heap.size (by kernel_rfl) (by kernel_rfl) ?_; (repeat (first | go_big_quiet_step ((go_at_call 103; exact over_same (within_dr _ _ _ _))) | quiet_step ((go_at_call 103; exact over_same (within_dr _ _ _ _))))); refine wpQuiet_nil ?_; rintro W ⟨x, rfl⟩
      go_wp2
      · go_ret
        exact ⟨by simp; exact (fnz_hit (k := 2) rfl hz ‹_›).symm, below_step hbr (over_below _ _ _) hbr.size⟩
      · go_roundw
        case rel => exact ⟨3, by omega, rfl, zeros_succ (k := 2) hz rfl ‹_›, below_step hbr (over_below _ _ _) hbr.size⟩
        case measure => simp [intOf]
    · have i0 : ∀ W : World, (Instr.index 146 (.agg #[.int .i64 d.re, .int .i64 d.le, .int .i64 d.bl, .int .i64 d.ms, .int .i64 d.st, .int .i64 d.ls]) (.int .i64 3)).run Tryd.prog W = .ok (.int .i64 d.ms) W := fun _ => by kernel_rfl
      have l0 : ∀ W, (over wr.heap.size wr W).cell? ⟨2, 6, none⟩ = some (.int .i64 1) := fun W => ((over_below wr.heap.size wr W).cell (p := ⟨2, 6, none⟩) hLr.lt).trans (hLr.cell 6 (by omega))
      have l1 : ∀ W, (over wr.heap.size wr W).cell? ⟨2, 7, none⟩ = some (.int .i64 100) := fun W => ((over_below wr.heap.size wr W).cell (p := ⟨2, 7, none⟩) hLr.lt).trans (hLr.cell 7 (by omega))
      clear hLr
      go_wp2
      refine wp_region_over wr.heap.size (by kernel_rfl) (by kernel_rfl) ?_; (repeat (first | go_big_quiet_step ((go_at_call 103; exact over_same (within_dr _ _ _ _))) | quiet_step ((go_at_call 103; exact over_same (within_dr _ _ _ _))))); refine wpQuiet_nil ?_; rintro W ⟨x, rfl⟩
      go_wp2
      · go_ret
        exact ⟨by simp; exact (fnz_hit (k := 3) rfl hz ‹_›).symm, below_step hbr (over_below _ _ _) hbr.size⟩
      · go_roundw
        case rel => exact ⟨4, by omega, rfl, zeros_succ (k := 3) hz rfl ‹_›, below_step hbr (over_below _ _ _) hbr.size⟩
        case measure => simp [intOf]
    · have i0 : ∀ W : World, (Instr.index 146 (.agg #[.int .i64 d.re, .int .i64 d.le, .int .i64 d.bl, .int .i64 d.ms, .int .i64 d.st, .int .i64 d.ls]) (.int .i64 4)).run Tryd.prog W = .ok (.int .i64 d.st) W := fun _ => by kernel_rfl
      have l0 : ∀ W, (over wr.heap.size wr W).cell? ⟨2, 8, none⟩ = some (.int .i64 1) := fun W => ((over_below wr.heap.size wr W).cell (p := ⟨2, 8, none⟩) hLr.lt).trans (hLr.cell 8 (by omega))
      have l1 : ∀ W, (over wr.heap.size wr W).cell? ⟨2, 9, none⟩ = some (.int .i64 5000) := fun W => ((over_below wr.heap.size wr W).cell (p := ⟨2, 9, none⟩) hLr.lt).trans (hLr.cell 9 (by omega))
      clear hLr
      go_wp2
      refine wp_region_over wr.heap.size (by kernel_rfl) (by kernel_rfl) ?_; (repeat (first | go_big_quiet_step ((go_at_call 103; exact over_same (within_dr _ _ _ _))) | quiet_step ((go_at_call 103; exact over_same (within_dr _ _ _ _))))); refine wpQuiet_nil ?_; rintro W ⟨x, rfl⟩
      go_wp2
      · go_ret
        exact ⟨by simp; exact (fnz_hit (k := 4) rfl hz ‹_›).symm, below_step hbr (over_below _ _ _) hbr.size⟩
      · go_roundw
        case rel => exact ⟨5, by omega, rfl, zeros_succ (k := 4) hz rfl ‹_›, below_step hbr (over_below _ _ _) hbr.size⟩
        case measure => simp [intOf]
    · have i0 : ∀ W : World, (Instr.index 146 (.agg #[.int .i64 d.re, .int .i64 d.le, .int .i64 d.bl, .int .i64 d.ms, .int .i64 d.st, .int .i64 d.ls]) (.int .i64 5)).run Tryd.prog W = .ok (.int .i64 d.ls) W := fun _ => by kernel_rfl
      have l0 : ∀ W, (over wr.heap.size wr W).cell? ⟨2, 10, none⟩ = some (.int .i64 1) := fun W => ((over_below wr.heap.size wr W).cell (p := ⟨2, 10, none⟩) hLr.lt).trans (hLr.cell 10 (by omega))
      have l1 : ∀ W, (over wr.heap.size wr W).cell? ⟨2, 11, none⟩ = some (.int .i64 100) := fun W => ((over_below wr.heap.size wr W).cell (p := ⟨2, 11, none⟩) hLr.lt).trans (hLr.cell 11 (by omega))
      clear hLr
      go_wp2
      refine wp_region_over wr.heap.size (by kernel_rfl) (by kernel_rfl) ?_; (repeat (first | go_big_quiet_step ((go_at_call 103; exact over_same (within_dr _ _ _ _))) | quiet_step ((go_at_call 103; exact over_same (within_dr _ _ _ _))))); refine wpQuiet_nil ?_; rintro W ⟨x, rfl⟩
      go_wp2
      · go_ret
        exact ⟨by simp; exact (fnz_hit (k := 5) rfl hz ‹_›).symm, below_step hbr (over_below _ _ _) hbr.size⟩
      · go_roundw
        case rel => exact ⟨6, by omega, rfl, zeros_succ (k := 5) hz rfl ‹_›, below_step hbr (over_below _ _ _) hbr.size⟩
        case measure => simp [intOf]
    · go_wp2
      go_ret
      exact ⟨by simp; exact (zeros_end hz (Nat.le_refl 6)).symm, hbr⟩
end Go.Proofs.YthlnmoecmicofaaDoor
