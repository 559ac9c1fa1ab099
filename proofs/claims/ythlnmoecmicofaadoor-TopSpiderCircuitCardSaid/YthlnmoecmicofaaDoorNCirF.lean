/- The law's helpers: small drivers, their ladders, equal quotients. -/
import Derived.Test.YthlnmoecmicofaaDoorNBox
import Derived.Test.YthlnmoecmicofaaDoorNSpi
import Derived.Test.YthlnmoecmicofaaDoorNCirP
namespace Go.Proofs.YthlnmoecmicofaaDoor
open Go.RowKit Go.Shelf
set_option maxRecDepth 100000
set_option maxHeartbeats 1000000 in
theorem small_any (d : Drv) (w : World) (h : d.Ok) :
    Calls Tryd.prog 27 #[.agg #[.int .i64 d.re, .int .i64 d.le, .int .i64 d.bl, .int .i64 d.ms, .int .i64 d.st, .int .i64 d.ls]] w fun e w' => e = .returned (.agg #[.int .i64 d.small.re, .int .i64 d.small.le, .int .i64 d.small.bl, .int .i64 d.small.ms, .int .i64 d.small.st, .int .i64 d.small.ls]) ∧ Below w.heap.size w w' := by
  have r1 : d.re.tmod 8 = d.re % 8 := Int.tmod_eq_emod_of_nonneg (by have := h.re1; omega)
  have r2 : d.le.tmod 9 = d.le % 9 := Int.tmod_eq_emod_of_nonneg (by have := h.le1; omega)
  have r3 : d.ms.tmod 8 = d.ms % 8 := Int.tmod_eq_emod_of_nonneg (by have := h.ms1; omega)
  have r4 : d.ls.tmod 8 = d.ls % 8 := Int.tmod_eq_emod_of_nonneg (by have := h.ls1; omega)
  have s1 : wrap64 (1 + d.re % 8) = 1 + d.re % 8 := by unfold wrap64; omega
  have s3 : wrap64 (1 + d.ms % 8) = 1 + d.ms % 8 := by unfold wrap64; omega
  have s4 : wrap64 (1 + d.ls % 8) = 1 + d.ls % 8 := by unfold wrap64; omega
  clear h
  go_enter Tryd.func27, Tryd.ntmps27
  go_upto_region 1 with (fail)
  obtain ⟨w1, q1, hb1, hz1, k0, k1⟩ := box2 w #[.int .i64 d.re, .int .i64 d.le, .int .i64 d.bl, .int .i64 d.ms, .int .i64 d.st, .int .i64 d.ls] #[.int .i64 0, .int .i64 0, .int .i64 0, .int .i64 0, .int .i64 0, .int .i64 0] 24 24
  rw [← q1]; clear q1
  have c0 := k0.cell
  have c1 := k1.cell
  have f1 := k1.frozen
  go_wp2_with fail
  with_reducible refine fin6 (B := w.heap.size) (v := w) 24 hb1 (by omega) k1 (fun X hX kX => ?_)
  have cX := kX.cell
  clear c0 c1 f1
  refine bodyPost_ret (v := .agg #[.int .i64 d.small.re, .int .i64 d.small.le, .int .i64 d.small.bl, .int .i64 d.small.ms, .int .i64 d.small.st, .int .i64 d.small.ls]) (by simp [results, Tryd.results27, go_sem, cX]; exact ⟨rfl, rfl, rfl, rfl, rfl, rfl⟩) rfl ?_
  exact ⟨rfl, hX⟩
theorem lad_snoc (d : Drv) (j : Nat) : els (lad d (j + 1)) = els (lad d j) ++ elCells ⟨kTrap, 0, 1⟩ := by
  unfold lad els
  rw [List.replicate_succ']
  simp
set_option maxHeartbeats 1000000 in
theorem spiLad_any (d : Drv) (k : Nat) (w : World) (hk : k ≤ 2) :
    Calls Tryd.prog 32 #[.agg #[.int .i64 d.re, .int .i64 d.le, .int .i64 d.bl, .int .i64 d.ms, .int .i64 d.st, .int .i64 d.ls], .int .i64 (k : Int)] w fun e w' => ∃ A c, e = .returned (.slice A (2 + k) c) ∧ Reads w' w'.heap.size 3 A (2 + k) (els (lad d k)) ∧ Below w.heap.size w w' := by
  go_enter Tryd.func32, Tryd.ntmps32
  go_upto_region 1 with (fail)
  obtain ⟨w1, q1, hb1, hz1, k0⟩ := box1 w #[.int .i64 d.re, .int .i64 d.le, .int .i64 d.bl, .int .i64 d.ms, .int .i64 d.st, .int .i64 d.ls] 24
  rw [← q1]; clear q1
  have c0 := k0.cell
  go_upto_region 2 with (fail)
  obtain ⟨w2, q2, hb2, hz2, kL⟩ := box1 w1 #[.string { data := #[115, 101, 114, 105, 101, 115] }, .int .i64 d.re, .int .i64 d.le, .string { data := #[115, 104, 117, 110, 116] }, .int .i64 d.ls, .int .i64 d.ms] 62
  rw [← q2]; clear q2
  have hbw2 := below_next hb1 hb2
  have hs1 := hb1.size
  have ho : w2.ownsRow w.heap.size 62 3 (.slice (some ⟨w1.heap.size, 0, none⟩) 2 2) 2 (els (lad d 0)) := ⟨rfl, .inr ⟨w1.heap.size, 2, _, rfl, hs1, kL, Nat.le_refl _, by unfold maxLen; omega, rfl, rfl⟩⟩
  clear c0 k0 kL
  go_wp2_with fail
  go_loopw [5, 18] (fun v i wr => ∃ j : Nat, j ≤ k ∧ i = .int .i64 j ∧ wr.ownsRow w.heap.size 62 3 v (2 + j) (els (lad d j)) ∧ Below w.heap.size w wr) (fun _ i _ => k - (intOf i).toNat)
  case atStart => exact ⟨0, by omega, rfl, ho, hbw2⟩
  case round =>
    rename World => wo
    clear ho hbw2 hb2
    obtain ⟨j, hj, rfl, ho, hbo⟩ := hrel
    have hsz := hbo.size
    by_cases hlt : j < k
    · have A1 : 2 + j + 1 ≤ maxLen := by unfold maxLen; omega
      have A2 : (2 + j + 1) * 32 ≤ 140737488355328 := by omega
      go_wp2_with (at_builtin; refine wpList_push _ rfl (.tmp 20) (.tmp 22) _ rfl w.heap.size 62 _ 3 32 Tryd.underlying41 info_el rfl (by decide) _ (2 + j) _ rfl (ho.alloc _) wo.heap.size (elCells ⟨kTrap, 0, 1⟩) rfl rfl (cells_new _ (elCells ⟨kTrap, 0, 1⟩) _) (one_el _) A1 A2 (le_alloc hsz _) ?_; intro v1 w6 ho6 hb6)
      have hbw6 := (hbo.alloc hsz _).trans hb6
      rw [← lad_snoc] at ho6
      go_roundw
      case rel => exact ⟨j + 1, by omega, by go_num, ho6, hbw6⟩
      case measure => simp [intOf]; omega
    · obtain rfl : j = k := by omega
      go_wp2_with fail
      go_ret
      obtain ⟨A', c', rfl, hR⟩ := own_slice ho
      exact ⟨A', c', rfl, hR, hbo⟩
set_option maxHeartbeats 1000000 in
theorem room30_any (A : Option Addr) (n c : Nat) (l : List G) (w : World) (h : Reads w w.heap.size 2 A n (gs l)) (hn : n ≤ 1000000) (hB : ∀ z ∈ l, z.nrm ≤ 4611686018427387904) :
    Calls Tryd.prog 16 #[.int .i64 30, .slice A n c] w fun r w' => r = .returned (.bool (roomB 1073741824 l)) ∧ Below w.heap.size w w' := by
  have hl := gs_reads_len h
  have HL := hide hl; clear hl
  go_enter Tryd.func16, Tryd.ntmps16
  go_wp2
  go_loopw [9] (fun i wr => ∃ k : Nat, k ≤ n ∧ i = .int .i64 k ∧ (∀ z ∈ l.take k, z.inR 1073741824) ∧ Below w.heap.size w wr) (fun i _ => n - (intOf i).toNat)
  case atStart => exact ⟨0, by omega, rfl, by simp, Below.refl _ _⟩
  case round =>
    obtain ⟨k, hk, rfl, hz, hb⟩ := hrel
    have HZ := hide hz; clear hz
    by_cases hlt : k < n
    · obtain ⟨ad, z, rfl, _, hx, hc⟩ := gs_hit (h.below hb) hlt hb.size
      obtain ⟨d0, d1⟩ := hc wr (Below.refl _ _)
      have hzn := G.nrm_le (hB z (List.mem_of_getElem? hx))
      have HX := hide hx
      clear hx hc
      go_upto_region 4 with (fail)
      obtain ⟨w1, e1, hb1, hz1, k1⟩ := box1 wr #[.int .i64 z.re, .int .i64 z.im] 30
      rw [← e1]; clear e1 d0 d1
      have hbw := below_next hb hb1
      have c0 := over_blk k1 k1.lt
      have n1 : IntKind.i64.wrap (-z.re) = -z.re := IntWalk.i64_in _ (by omega)
      have n2 : IntKind.i64.wrap (-z.im) = -z.im := IntWalk.i64_in _ (by omega)
      obtain ⟨X4, rX, hX0, hX1⟩ := spiMax z.re (-z.re) z.im (-z.im)
      obtain ⟨N2, rN, hN0, hN1⟩ := spiMin z.re z.im
      by_cases p1 : 1073741824 < X4
      · have HN : Hid (¬ z.inR 1073741824) := fun q => by have := q.1; have := q.2.1; have := q.2.2.1; have := q.2.2.2; omega
        have HF : Hid (roomB 1073741824 l = false) := Bool.eq_false_iff.2 fun e => HN.out (roomB_iff.1 e z (List.mem_of_getElem? HX.out))
        have t1 : decide (1073741824 < X4) = true := decide_eq_true p1
        clear hX0 hX1 hN0 hN1 hzn p1
        refine wp_region_over w1.heap.size (by kernel_rfl) (by kernel_rfl) ?_; (repeat (first | go_big_quiet_step (fail) | quiet_step (fail))); refine wpQuiet_nil ?_; rintro W ⟨x, rfl⟩
        go_wp2
        go_ret
        exact ⟨by rw [HF.out]; rfl, below_next hbw (over_below _ _ _)⟩
      · have t1 : decide (1073741824 < X4) = false := decide_eq_false p1
        by_cases p2 : N2 < -1073741824
        · have HN : Hid (¬ z.inR 1073741824) := fun q => by have := q.1; have := q.2.1; have := q.2.2.1; have := q.2.2.2; omega
          have HF : Hid (roomB 1073741824 l = false) := Bool.eq_false_iff.2 fun e => HN.out (roomB_iff.1 e z (List.mem_of_getElem? HX.out))
          have t2 : decide (N2 < -1073741824) = true := decide_eq_true p2
          clear hX0 hX1 hN0 hN1 hzn p1 p2
          refine wp_region_over w1.heap.size (by kernel_rfl) (by kernel_rfl) ?_; (repeat (first | go_big_quiet_step (fail) | quiet_step (fail))); refine wpQuiet_nil ?_; rintro W ⟨x, rfl⟩
          go_wp2
          go_ret
          exact ⟨by rw [HF.out]; rfl, below_next hbw (over_below _ _ _)⟩
        · have HN : Hid (z.inR 1073741824) := ⟨by omega, by omega, by omega, by omega⟩
          have t2 : decide (N2 < -1073741824) = false := decide_eq_false p2
          clear hX0 hX1 hN0 hN1 hzn p1 p2
          refine wp_region_over w1.heap.size (by kernel_rfl) (by kernel_rfl) ?_; (repeat (first | go_big_quiet_step (fail) | quiet_step (fail))); refine wpQuiet_nil ?_; rintro W ⟨x, rfl⟩
          go_wp2
          go_roundw
          case rel =>
            refine ⟨k + 1, by omega, by go_num, fun y hy => ?_, below_next hbw (over_below _ _ _)⟩
            rw [List.take_add_one, HX.out] at hy
            simp at hy
            rcases hy with hy | rfl
            · exact HZ.out y hy
            · exact HN.out
          case measure => simp [intOf]; omega
    · have HF : Hid (roomB 1073741824 l = true) := roomB_iff.2 (by
        have := HZ.out
        rwa [List.take_of_length_le (by rw [HL.out]; omega)] at this)
      go_wp2
      go_ret
      exact ⟨by rw [HF.out]; rfl, hb⟩
set_option maxHeartbeats 1000000 in
theorem room25_any (A : Option Addr) (n c : Nat) (l : List G) (w : World) (h : Reads w w.heap.size 2 A n (gs l)) (hn : n ≤ 1000000) (hB : ∀ z ∈ l, z.nrm ≤ 4611686018427387904) :
    Calls Tryd.prog 16 #[.int .i64 25, .slice A n c] w fun r w' => r = .returned (.bool (roomB 33554432 l)) ∧ Below w.heap.size w w' := by
  have hl := gs_reads_len h
  have HL := hide hl; clear hl
  go_enter Tryd.func16, Tryd.ntmps16
  go_wp2
  go_loopw [9] (fun i wr => ∃ k : Nat, k ≤ n ∧ i = .int .i64 k ∧ (∀ z ∈ l.take k, z.inR 33554432) ∧ Below w.heap.size w wr) (fun i _ => n - (intOf i).toNat)
  case atStart => exact ⟨0, by omega, rfl, by simp, Below.refl _ _⟩
  case round =>
    obtain ⟨k, hk, rfl, hz, hb⟩ := hrel
    have HZ := hide hz; clear hz
    by_cases hlt : k < n
    · obtain ⟨ad, z, rfl, _, hx, hc⟩ := gs_hit (h.below hb) hlt hb.size
      obtain ⟨d0, d1⟩ := hc wr (Below.refl _ _)
      have hzn := G.nrm_le (hB z (List.mem_of_getElem? hx))
      have HX := hide hx
      clear hx hc
      go_upto_region 4 with (fail)
      obtain ⟨w1, e1, hb1, hz1, k1⟩ := box1 wr #[.int .i64 z.re, .int .i64 z.im] 30
      rw [← e1]; clear e1 d0 d1
      have hbw := below_next hb hb1
      have c0 := over_blk k1 k1.lt
      have n1 : IntKind.i64.wrap (-z.re) = -z.re := IntWalk.i64_in _ (by omega)
      have n2 : IntKind.i64.wrap (-z.im) = -z.im := IntWalk.i64_in _ (by omega)
      obtain ⟨X4, rX, hX0, hX1⟩ := spiMax z.re (-z.re) z.im (-z.im)
      obtain ⟨N2, rN, hN0, hN1⟩ := spiMin z.re z.im
      by_cases p1 : 33554432 < X4
      · have HN : Hid (¬ z.inR 33554432) := fun q => by have := q.1; have := q.2.1; have := q.2.2.1; have := q.2.2.2; omega
        have HF : Hid (roomB 33554432 l = false) := Bool.eq_false_iff.2 fun e => HN.out (roomB_iff.1 e z (List.mem_of_getElem? HX.out))
        have t1 : decide (33554432 < X4) = true := decide_eq_true p1
        clear hX0 hX1 hN0 hN1 hzn p1
        refine wp_region_over w1.heap.size (by kernel_rfl) (by kernel_rfl) ?_; (repeat (first | go_big_quiet_step (fail) | quiet_step (fail))); refine wpQuiet_nil ?_; rintro W ⟨x, rfl⟩
        go_wp2
        go_ret
        exact ⟨by rw [HF.out]; rfl, below_next hbw (over_below _ _ _)⟩
      · have t1 : decide (33554432 < X4) = false := decide_eq_false p1
        by_cases p2 : N2 < -33554432
        · have HN : Hid (¬ z.inR 33554432) := fun q => by have := q.1; have := q.2.1; have := q.2.2.1; have := q.2.2.2; omega
          have HF : Hid (roomB 33554432 l = false) := Bool.eq_false_iff.2 fun e => HN.out (roomB_iff.1 e z (List.mem_of_getElem? HX.out))
          have t2 : decide (N2 < -33554432) = true := decide_eq_true p2
          clear hX0 hX1 hN0 hN1 hzn p1 p2
          refine wp_region_over w1.heap.size (by kernel_rfl) (by kernel_rfl) ?_; (repeat (first | go_big_quiet_step (fail) | quiet_step (fail))); refine wpQuiet_nil ?_; rintro W ⟨x, rfl⟩
          go_wp2
          go_ret
          exact ⟨by rw [HF.out]; rfl, below_next hbw (over_below _ _ _)⟩
        · have HN : Hid (z.inR 33554432) := ⟨by omega, by omega, by omega, by omega⟩
          have t2 : decide (N2 < -33554432) = false := decide_eq_false p2
          clear hX0 hX1 hN0 hN1 hzn p1 p2
          refine wp_region_over w1.heap.size (by kernel_rfl) (by kernel_rfl) ?_; (repeat (first | go_big_quiet_step (fail) | quiet_step (fail))); refine wpQuiet_nil ?_; rintro W ⟨x, rfl⟩
          go_wp2
          go_roundw
          case rel =>
            refine ⟨k + 1, by omega, by go_num, fun y hy => ?_, below_next hbw (over_below _ _ _)⟩
            rw [List.take_add_one, HX.out] at hy
            simp at hy
            rcases hy with hy | rfl
            · exact HZ.out y hy
            · exact HN.out
          case measure => simp [intOf]; omega
    · have HF : Hid (roomB 33554432 l = true) := roomB_iff.2 (by
        have := HZ.out
        rwa [List.take_of_length_le (by rw [HL.out]; omega)] at this)
      go_wp2
      go_ret
      exact ⟨by rw [HF.out]; rfl, hb⟩
set_option maxHeartbeats 1000000 in
theorem room7_any (A : Option Addr) (n c : Nat) (l : List G) (w : World) (h : Reads w w.heap.size 2 A n (gs l)) (hn : n ≤ 1000000) (hB : ∀ z ∈ l, z.nrm ≤ 4611686018427387904) :
    Calls Tryd.prog 16 #[.int .i64 7, .slice A n c] w fun r w' => r = .returned (.bool (roomB 128 l)) ∧ Below w.heap.size w w' := by
  have hl := gs_reads_len h
  have HL := hide hl; clear hl
  go_enter Tryd.func16, Tryd.ntmps16
  go_wp2
  go_loopw [9] (fun i wr => ∃ k : Nat, k ≤ n ∧ i = .int .i64 k ∧ (∀ z ∈ l.take k, z.inR 128) ∧ Below w.heap.size w wr) (fun i _ => n - (intOf i).toNat)
  case atStart => exact ⟨0, by omega, rfl, by simp, Below.refl _ _⟩
  case round =>
    obtain ⟨k, hk, rfl, hz, hb⟩ := hrel
    have HZ := hide hz; clear hz
    by_cases hlt : k < n
    · obtain ⟨ad, z, rfl, _, hx, hc⟩ := gs_hit (h.below hb) hlt hb.size
      obtain ⟨d0, d1⟩ := hc wr (Below.refl _ _)
      have hzn := G.nrm_le (hB z (List.mem_of_getElem? hx))
      have HX := hide hx
      clear hx hc
      go_upto_region 4 with (fail)
      obtain ⟨w1, e1, hb1, hz1, k1⟩ := box1 wr #[.int .i64 z.re, .int .i64 z.im] 30
      rw [← e1]; clear e1 d0 d1
      have hbw := below_next hb hb1
      have c0 := over_blk k1 k1.lt
      have n1 : IntKind.i64.wrap (-z.re) = -z.re := IntWalk.i64_in _ (by omega)
      have n2 : IntKind.i64.wrap (-z.im) = -z.im := IntWalk.i64_in _ (by omega)
      obtain ⟨X4, rX, hX0, hX1⟩ := spiMax z.re (-z.re) z.im (-z.im)
      obtain ⟨N2, rN, hN0, hN1⟩ := spiMin z.re z.im
      by_cases p1 : 128 < X4
      · have HN : Hid (¬ z.inR 128) := fun q => by have := q.1; have := q.2.1; have := q.2.2.1; have := q.2.2.2; omega
        have HF : Hid (roomB 128 l = false) := Bool.eq_false_iff.2 fun e => HN.out (roomB_iff.1 e z (List.mem_of_getElem? HX.out))
        have t1 : decide (128 < X4) = true := decide_eq_true p1
        clear hX0 hX1 hN0 hN1 hzn p1
        refine wp_region_over w1.heap.size (by kernel_rfl) (by kernel_rfl) ?_; (repeat (first | go_big_quiet_step (fail) | quiet_step (fail))); refine wpQuiet_nil ?_; rintro W ⟨x, rfl⟩
        go_wp2
        go_ret
        exact ⟨by rw [HF.out]; rfl, below_next hbw (over_below _ _ _)⟩
      · have t1 : decide (128 < X4) = false := decide_eq_false p1
        by_cases p2 : N2 < -128
        · have HN : Hid (¬ z.inR 128) := fun q => by have := q.1; have := q.2.1; have := q.2.2.1; have := q.2.2.2; omega
          have HF : Hid (roomB 128 l = false) := Bool.eq_false_iff.2 fun e => HN.out (roomB_iff.1 e z (List.mem_of_getElem? HX.out))
          have t2 : decide (N2 < -128) = true := decide_eq_true p2
          clear hX0 hX1 hN0 hN1 hzn p1 p2
          refine wp_region_over w1.heap.size (by kernel_rfl) (by kernel_rfl) ?_; (repeat (first | go_big_quiet_step (fail) | quiet_step (fail))); refine wpQuiet_nil ?_; rintro W ⟨x, rfl⟩
          go_wp2
          go_ret
          exact ⟨by rw [HF.out]; rfl, below_next hbw (over_below _ _ _)⟩
        · have HN : Hid (z.inR 128) := ⟨by omega, by omega, by omega, by omega⟩
          have t2 : decide (N2 < -128) = false := decide_eq_false p2
          clear hX0 hX1 hN0 hN1 hzn p1 p2
          refine wp_region_over w1.heap.size (by kernel_rfl) (by kernel_rfl) ?_; (repeat (first | go_big_quiet_step (fail) | quiet_step (fail))); refine wpQuiet_nil ?_; rintro W ⟨x, rfl⟩
          go_wp2
          go_roundw
          case rel =>
            refine ⟨k + 1, by omega, by go_num, fun y hy => ?_, below_next hbw (over_below _ _ _)⟩
            rw [List.take_add_one, HX.out] at hy
            simp at hy
            rcases hy with hy | rfl
            · exact HZ.out y hy
            · exact HN.out
          case measure => simp [intOf]; omega
    · have HF : Hid (roomB 128 l = true) := roomB_iff.2 (by
        have := HZ.out
        rwa [List.take_of_length_le (by rw [HL.out]; omega)] at this)
      go_wp2
      go_ret
      exact ⟨by rw [HF.out]; rfl, hb⟩
set_option maxHeartbeats 1000000 in
theorem room20_any (A : Option Addr) (n c : Nat) (l : List G) (w : World) (h : Reads w w.heap.size 2 A n (gs l)) (hn : n ≤ 1000000) (hB : ∀ z ∈ l, z.nrm ≤ 4611686018427387904) :
    Calls Tryd.prog 16 #[.int .i64 20, .slice A n c] w fun r w' => r = .returned (.bool (roomB 1048576 l)) ∧ Below w.heap.size w w' := by
  have hl := gs_reads_len h
  have HL := hide hl; clear hl
  go_enter Tryd.func16, Tryd.ntmps16
  go_wp2
  go_loopw [9] (fun i wr => ∃ k : Nat, k ≤ n ∧ i = .int .i64 k ∧ (∀ z ∈ l.take k, z.inR 1048576) ∧ Below w.heap.size w wr) (fun i _ => n - (intOf i).toNat)
  case atStart => exact ⟨0, by omega, rfl, by simp, Below.refl _ _⟩
  case round =>
    obtain ⟨k, hk, rfl, hz, hb⟩ := hrel
    have HZ := hide hz; clear hz
    by_cases hlt : k < n
    · obtain ⟨ad, z, rfl, _, hx, hc⟩ := gs_hit (h.below hb) hlt hb.size
      obtain ⟨d0, d1⟩ := hc wr (Below.refl _ _)
      have hzn := G.nrm_le (hB z (List.mem_of_getElem? hx))
      have HX := hide hx
      clear hx hc
      go_upto_region 4 with (fail)
      obtain ⟨w1, e1, hb1, hz1, k1⟩ := box1 wr #[.int .i64 z.re, .int .i64 z.im] 30
      rw [← e1]; clear e1 d0 d1
      have hbw := below_next hb hb1
      have c0 := over_blk k1 k1.lt
      have n1 : IntKind.i64.wrap (-z.re) = -z.re := IntWalk.i64_in _ (by omega)
      have n2 : IntKind.i64.wrap (-z.im) = -z.im := IntWalk.i64_in _ (by omega)
      obtain ⟨X4, rX, hX0, hX1⟩ := spiMax z.re (-z.re) z.im (-z.im)
      obtain ⟨N2, rN, hN0, hN1⟩ := spiMin z.re z.im
      by_cases p1 : 1048576 < X4
      · have HN : Hid (¬ z.inR 1048576) := fun q => by have := q.1; have := q.2.1; have := q.2.2.1; have := q.2.2.2; omega
        have HF : Hid (roomB 1048576 l = false) := Bool.eq_false_iff.2 fun e => HN.out (roomB_iff.1 e z (List.mem_of_getElem? HX.out))
        have t1 : decide (1048576 < X4) = true := decide_eq_true p1
        clear hX0 hX1 hN0 hN1 hzn p1
        refine wp_region_over w1.heap.size (by kernel_rfl) (by kernel_rfl) ?_; (repeat (first | go_big_quiet_step (fail) | quiet_step (fail))); refine wpQuiet_nil ?_; rintro W ⟨x, rfl⟩
        go_wp2
        go_ret
        exact ⟨by rw [HF.out]; rfl, below_next hbw (over_below _ _ _)⟩
      · have t1 : decide (1048576 < X4) = false := decide_eq_false p1
        by_cases p2 : N2 < -1048576
        · have HN : Hid (¬ z.inR 1048576) := fun q => by have := q.1; have := q.2.1; have := q.2.2.1; have := q.2.2.2; omega
          have HF : Hid (roomB 1048576 l = false) := Bool.eq_false_iff.2 fun e => HN.out (roomB_iff.1 e z (List.mem_of_getElem? HX.out))
          have t2 : decide (N2 < -1048576) = true := decide_eq_true p2
          clear hX0 hX1 hN0 hN1 hzn p1 p2
          refine wp_region_over w1.heap.size (by kernel_rfl) (by kernel_rfl) ?_; (repeat (first | go_big_quiet_step (fail) | quiet_step (fail))); refine wpQuiet_nil ?_; rintro W ⟨x, rfl⟩
          go_wp2
          go_ret
          exact ⟨by rw [HF.out]; rfl, below_next hbw (over_below _ _ _)⟩
        · have HN : Hid (z.inR 1048576) := ⟨by omega, by omega, by omega, by omega⟩
          have t2 : decide (N2 < -1048576) = false := decide_eq_false p2
          clear hX0 hX1 hN0 hN1 hzn p1 p2
          refine wp_region_over w1.heap.size (by kernel_rfl) (by kernel_rfl) ?_; (repeat (first | go_big_quiet_step (fail) | quiet_step (fail))); refine wpQuiet_nil ?_; rintro W ⟨x, rfl⟩
          go_wp2
          go_roundw
          case rel =>
            refine ⟨k + 1, by omega, by go_num, fun y hy => ?_, below_next hbw (over_below _ _ _)⟩
            rw [List.take_add_one, HX.out] at hy
            simp at hy
            rcases hy with hy | rfl
            · exact HZ.out y hy
            · exact HN.out
          case measure => simp [intOf]; omega
    · have HF : Hid (roomB 1048576 l = true) := roomB_iff.2 (by
        have := HZ.out
        rwa [List.take_of_length_le (by rw [HL.out]; omega)] at this)
      go_wp2
      go_ret
      exact ⟨by rw [HF.out]; rfl, hb⟩
set_option maxHeartbeats 4000000 in
theorem same_true (a b : Pr) (w : World) (h1 : a.n.nrm ≤ 1073741824) (h2 : a.d.nrm ≤ 1073741824) (h3 : b.n.nrm ≤ 1073741824) (h4 : b.d.nrm ≤ 1073741824) (n1 : ¬ a.d = .zero) (n2 : ¬ b.d = .zero) (he : a.n.mul b.d = b.n.mul a.d) :
    Calls Tryd.prog 34 #[.agg #[.int .i64 a.n.re, .int .i64 a.n.im, .int .i64 a.d.re, .int .i64 a.d.im], .agg #[.int .i64 b.n.re, .int .i64 b.n.im, .int .i64 b.d.re, .int .i64 b.d.im]] w fun e w' => e = .returned (.bool true) ∧ Below w.heap.size w w' := by
  have hr : roomB 1073741824 [a.n, a.d, b.n, b.d] = true := roomB_iff.2 fun z hz => G.inR_of (by simp at hz; rcases hz with rfl | rfl | rfl | rfl <;> assumption)
  have HB : Hid (∀ z ∈ [a.n, a.d, b.n, b.d], z.nrm ≤ 4611686018427387904) := fun z hz => by simp at hz; rcases hz with rfl | rfl | rfl | rfl <;> omega
  have HR := hide hr
  have q1 : ∀ W, (binOp .neq 30 (.agg #[.int .i64 a.d.re, .int .i64 a.d.im]) (.agg #[.int .i64 0, .int .i64 0])).run Tryd.prog W = .ok (.bool true) W := fun W => by
    have := neqG a.d .zero W
    rw [decide_eq_false n1] at this
    exact this
  have q2 : ∀ W, (binOp .neq 30 (.agg #[.int .i64 b.d.re, .int .i64 b.d.im]) (.agg #[.int .i64 0, .int .i64 0])).run Tryd.prog W = .ok (.bool true) W := fun W => by
    have := neqG b.d .zero W
    rw [decide_eq_false n2] at this
    exact this
  have q3 : ∀ W, (binOp .eql 30 (.agg #[.int .i64 (a.n.mul b.d).w.re, .int .i64 (a.n.mul b.d).w.im]) (.agg #[.int .i64 (b.n.mul a.d).w.re, .int .i64 (b.n.mul a.d).w.im])).run Tryd.prog W = .ok (.bool true) W := fun W => by
    rw [he, eqG, decide_eq_true rfl]
  clear hr h1 h2 h3 h4 n1 n2 he
  go_enter Tryd.func34, Tryd.ntmps34
  go_upto_region 1 with (fail)
  obtain ⟨w1, e1, hb1, hz1, k0, k1⟩ := box2 w #[.int .i64 a.n.re, .int .i64 a.n.im, .int .i64 a.d.re, .int .i64 a.d.im] #[.int .i64 b.n.re, .int .i64 b.n.im, .int .i64 b.d.re, .int .i64 b.d.im] 32 32
  rw [← e1]; clear e1
  have c0 : ∀ i W, Below w1.heap.size w1 W → W.cell? ⟨w.heap.size, i, none⟩ = (#[.int .i64 a.n.re, .int .i64 a.n.im, .int .i64 a.d.re, .int .i64 a.d.im] : Array Value)[i]? := fun i W h => (carryK k0 h).cell i
  have c1 : ∀ i W, Below w1.heap.size w1 W → W.cell? ⟨w.heap.size + 1, i, none⟩ = (#[.int .i64 b.n.re, .int .i64 b.n.im, .int .i64 b.d.re, .int .i64 b.d.im] : Array Value)[i]? := fun i W h => (carryK k1 h).cell i
  go_region_held3 (fun W => Below w1.heap.size w1 W) (first | exact (Below.refl _ _).drew | (with_reducible assumption) | exact below_new ‹Below w1.heap.size w1 _› (Nat.le_refl _) _ | (refine below_set (below_set (below_set (below_set (by assumption) (by omega) _) (by omega) _) (by omega) _) (by omega) _)) (first | (go_at_call 16; refine (room30_any _ 4 4 [a.n, a.d, b.n, b.d] _ (blkG (l := [a.n, a.d, b.n, b.d]) (show Blk _ _ 30 #[.int .i64 a.n.re, .int .i64 a.n.im, .int .i64 a.d.re, .int .i64 a.d.im, .int .i64 b.n.re, .int .i64 b.n.im, .int .i64 b.d.re, .int .i64 b.d.im] from by repeat (first | (with_reducible refine Blk.drew ?_) | (with_reducible exact Blk.newAt (by first | rfl | simp)))) rfl) (by omega) HB.out).mono ?_; rintro e W' ⟨rfl, hbW⟩; rw [HR.out]; have hS := below_step ‹Below w1.heap.size w1 _› hbW (Below.size ‹Below w1.heap.size w1 _›)) | (go_at_call 18; with_reducible refine (rTimes_any a.n b.d _).mono ?_; rintro e W' ⟨rfl, hbW⟩; have hS := below_step ‹Below w1.heap.size w1 _› hbW (Below.size ‹Below w1.heap.size w1 _›)) | (go_at_call 18; with_reducible refine (rTimes_any b.n a.d _).mono ?_; rintro e W' ⟨rfl, hbW⟩; have hS := below_step ‹Below w1.heap.size w1 _› hbW (Below.size ‹Below w1.heap.size w1 _›)))
  have hB3 := ‹Below w1.heap.size w1 _›
  go_wp2_with fail
  go_ret
  exact ⟨rfl, below_next hb1 hB3⟩
end Go.Proofs.YthlnmoecmicofaaDoor
