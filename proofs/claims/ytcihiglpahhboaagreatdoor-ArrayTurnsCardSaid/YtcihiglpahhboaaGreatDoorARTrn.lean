/- Turn of the reference. -/
import Derived.Test.YtcihiglpahhboaaGreatDoorARSh
import Derived.Test.YtcihiglpahhboaaGreatDoorBaseM
namespace Go.Proofs.YtcihiglpahhboaaGreatDoor
open Go.RowKit
set_option maxRecDepth 100000
set_option maxHeartbeats 4000000 in
theorem rTurn_any (A : Option Addr) (m c : Nat) (l : List Src) (n : Int) (w : World) (hok : LOk l) (hR : Reads w w.heap.size 4 A m (srcs l)) :
    Calls Tryz.prog 69 #[.slice A m c, .int .i64 n] w fun e w' => ∃ v, e = .returned v ∧ w'.ownsRow w.heap.size 78 4 v m (srcs (l.map (trn (n % 4).toNat))) ∧ Below w.heap.size w w' := by
  have HL := hide (srcs_reads_len hR)
  have hm16 : m ≤ 16 := by rw [← HL.out]; exact hok.len
  have HO := hide hok
  obtain ⟨q, hq⟩ : ∃ q : Nat, n % 4 = (q : Int) := ⟨(n % 4).toNat, by omega⟩
  have hq4 : q < 4 := by omega
  have eq : (n % 4).toNat = q := by omega
  rw [eq]
  have r1 : wrap64 (n.tmod 4 + 4) = n.tmod 4 + 4 := by
    have := Int.tmod_lt_of_pos n (show (0 : Int) < 4 by decide)
    have := Int.lt_tmod_of_pos n (show (0 : Int) < 4 by decide)
    unfold wrap64; omega
  have r2 : (n.tmod 4 + 4).tmod 4 = (q : Int) := by
    have h1 := Int.lt_tmod_of_pos n (show (0 : Int) < 4 by decide)
    rw [Int.tmod_eq_emod_of_nonneg (by omega), Int.add_emod_right, Int.tmod_eq_emod]
    split <;> omega
  clear hok hq eq
  go_enter Tryz.func69, Tryz.ntmps69
  go_wp2_with fail
  go_loopw [5, 6] (fun o i wr => ∃ k : Nat, k ≤ m ∧ i = .int .i64 k ∧ wr.ownsRow w.heap.size 78 4 o k (srcs ((l.take k).map (trn q))) ∧ Below w.heap.size w wr) (fun _ i _ => m - (intOf i).toNat)
  case atStart => exact ⟨0, by omega, rfl, World.ownsRow_nil _ _ _ _, Below.refl _ _⟩
  case round =>
    rename World => wo
    obtain ⟨k, hk, rfl, ho, hb⟩ := hrel
    by_cases hlt : k < m
    · obtain ⟨ad, s, rfl, _, hx, hc⟩ := src_hit (carry hR hb) hlt (Nat.le_refl _)
      obtain ⟨d0, d1, d2, d3⟩ := hc wo (Below.refl _ _)
      have hs := HO.out.all s (List.mem_of_getElem? hx)
      have HS := hide hs
      have HX := hide hx
      have A1 : k + 1 ≤ maxLen := by unfold maxLen; omega
      have A2 : (k + 1) * 32 ≤ 140737488355328 := by omega
      clear hx hs hc
      go_upto_region 6 with (fail)
      obtain ⟨w4, e4, hb4, hz4, k4⟩ := box1 wo #[.int .i64 s.x, .int .i64 s.y, .int .i64 s.g, .int .i64 s.p] 78
      rw [← e4]; clear e4 d0 d1 d2 d3
      have ho4 := row_below ho hb4
      have hnr : _ ≠ some wo.heap.size := fun e => Nat.lt_irrefl _ (ho.lt _ e).2
      have hbw4 := below_next hb hb4
      have hwo : w.heap.size ≤ wo.heap.size := hb.size
      clear ho hb hb4 hz4
      go_wp2_with fail
      go_loopw [8] (fun i wr => ∃ j : Nat, j ≤ q ∧ i = .int .i64 j ∧ Blk wr wo.heap.size 78 #[.int .i64 (trn j s).x, .int .i64 (trn j s).y, .int .i64 (trn j s).g, .int .i64 (trn j s).p] ∧ wr.ownsRow w.heap.size 78 4 u5 k (srcs ((l.take k).map (trn q))) ∧ Below w.heap.size w wr) (fun i _ => q - (intOf i).toNat)
      case atStart => exact ⟨0, by omega, rfl, k4, ho4, hbw4⟩
      case round =>
        rename World => wq
        clear k4 ho4 hbw4
        obtain ⟨j, hj, rfl, k4, ho4, hbw4⟩ := hrel
        by_cases hlt2 : j < q
        · have ht := trn_ok HS.out j
          have hsc := trn_succ j s
          obtain ⟨t, et⟩ : ∃ t, trn j s = t := ⟨_, rfl⟩
          rw [et] at k4 ht hsc
          have v1 : wrap64 (-t.y) = -t.y := by have := ht.y1; have := ht.y2; unfold wrap64; omega
          have HSC := hide hsc
          clear et ht hsc
          have c4 := k4.cell
          have f4 := k4.frozen
          have k5 : Blk _ wo.heap.size 78 #[.int .i64 (trn1 t).x, .int .i64 (trn1 t).y, .int .i64 (trn1 t).g, .int .i64 (trn1 t).p] := (k4.set_ 0 (.int .i64 (-t.y))).set_ 1 (.int .i64 t.x)
          have ho5 := ownsRow_setCell_other (a := ⟨wo.heap.size, 1, none⟩) (ownsRow_setCell_other (a := ⟨wo.heap.size, 0, none⟩) ho4 hnr (.int .i64 (-t.y))) hnr (.int .i64 t.x)
          have hb5 := below_set (below_set hbw4 hwo (i := 0) (.int .i64 (-t.y))) hwo (i := 1) (.int .i64 t.x)
          have K5 := hide k5
          have H5 := hide ho5
          have B5 := hide hb5
          clear k5 ho5 hb5 k4 ho4 hbw4
          go_wp2_with fail
          go_roundw
          case rel => exact ⟨j + 1, by omega, by go_num, by rw [HSC.out]; exact K5.out, H5.out, B5.out⟩
          case measure => simp [intOf]; omega
        · obtain rfl : j = q := by omega
          obtain ⟨t, et⟩ : ∃ t, trn j s = t := ⟨_, rfl⟩
          rw [et] at k4
          have HT := hide et
          clear et
          have c5 := k4.cell
          go_wp2_with (at_builtin; refine wpList_push _ rfl (.tmp 34) (.tmp 36) _ rfl w.heap.size 78 _ 4 32 Tryz.underlying22 info_srcR rfl (by decide) _ k _ rfl (ho4.alloc _) wq.heap.size (srcCells t) rfl rfl (src_new1 wq t _) (one_src _) A1 A2 (le_alloc hbw4.size _) ?_; intro v1 w6 ho6 hb6)
          go_roundw
          case rel => exact ⟨k + 1, by omega, by go_num, by rw [srcs_map_snoc _ HX.out, HT.out]; exact ho6, (hbw4.alloc hbw4.size _).trans hb6⟩
          case measure => simp [intOf]; omega
    · obtain rfl : k = m := by omega
      rw [List.take_of_length_le (by rw [HL.out]; omega)] at ho
      go_wp2_with fail
      go_ret
      exact ⟨_, rfl, ho, hb⟩
end Go.Proofs.YtcihiglpahhboaaGreatDoor
