/- Shift of the reference. -/
import Derived.Test.YtcihiglpahhboaaGreatDoorBaseM
namespace Go.Proofs.YtcihiglpahhboaaGreatDoor
open Go.RowKit
set_option maxRecDepth 100000
set_option maxHeartbeats 2000000 in
theorem rShift_any (A : Option Addr) (m c : Nat) (l : List Src) (u v : Int) (w : World) (hok : LOk l) (hu : -100 ≤ u ∧ u ≤ 100) (hv : -100 ≤ v ∧ v ≤ 100) (hR : Reads w w.heap.size 4 A m (srcs l)) :
    Calls Tryz.prog 70 #[.slice A m c, .int .i64 u, .int .i64 v] w fun e w' => OutS w (vld (l.map (shf u v))) (lstErr (l.map (shf u v))) e w' := by
  have HL := hide (srcs_reads_len hR)
  have hm16 : m ≤ 16 := by rw [← HL.out]; exact hok.len
  have HO := hide hok
  have HU := hide hu
  have HV := hide hv
  clear hok hu hv
  go_enter Tryz.func70, Tryz.ntmps70
  go_wp2_with fail
  go_loopw [8, 9] (fun o i wr => ∃ k : Nat, k ≤ m ∧ i = .int .i64 k ∧ wr.ownsRow w.heap.size 78 4 o k (srcs ((l.take k).map (shf u v))) ∧ Below w.heap.size w wr) (fun _ i _ => m - (intOf i).toNat)
  case atStart => exact ⟨0, by omega, rfl, World.ownsRow_nil _ _ _ _, Below.refl _ _⟩
  case round =>
    rename World => wo
    obtain ⟨k, hk, rfl, ho, hb⟩ := hrel
    by_cases hlt : k < m
    · obtain ⟨ad, s, rfl, _, hx, hc⟩ := src_hit (carry hR hb) hlt (Nat.le_refl _)
      obtain ⟨d0, d1, d2, d3⟩ := hc wo (Below.refl _ _)
      have hs := HO.out.all s (List.mem_of_getElem? hx)
      have v1 : wrap64 (s.x + u) = s.x + u := add_in (by have := hs.x1; have := hs.x2; omega) (by have := HU.out; omega)
      have v2 : wrap64 (s.y + v) = s.y + v := add_in (by have := hs.y1; have := hs.y2; omega) (by have := HV.out; omega)
      have HX := hide hx
      have A1 : k + 1 ≤ maxLen := by unfold maxLen; omega
      have A2 : (k + 1) * 32 ≤ 140737488355328 := by omega
      clear hx hs hc
      go_upto_region 6 with (fail)
      obtain ⟨w4, e4, hb4, hz4, k4⟩ := box1 wo #[.int .i64 s.x, .int .i64 s.y, .int .i64 s.g, .int .i64 s.p] 78
      rw [← e4]; clear e4 d0 d1 d2 d3
      have c4 := k4.cell
      have f4 := k4.frozen
      have ho4 := row_below ho hb4
      have hnr : _ ≠ some wo.heap.size := fun e => Nat.lt_irrefl _ (ho.lt _ e).2
      have hbw4 := below_next hb hb4
      go_upto_region 7 with (fail)
      have k5 : Blk _ wo.heap.size 78 #[.int .i64 (shf u v s).x, .int .i64 (shf u v s).y, .int .i64 (shf u v s).g, .int .i64 (shf u v s).p] := (k4.set_ 0 (.int .i64 (s.x + u))).set_ 1 (.int .i64 (s.y + v))
      have ho5 := ownsRow_setCell_other (a := ⟨wo.heap.size, 1, none⟩) (ownsRow_setCell_other (a := ⟨wo.heap.size, 0, none⟩) ho4 hnr (.int .i64 (s.x + u))) hnr (.int .i64 (s.y + v))
      have hb5 := below_set (below_set hbw4 hb.size (i := 0) (.int .i64 (s.x + u))) hb.size (i := 1) (.int .i64 (s.y + v))
      clear c4 f4 k4 ho4 hbw4
      generalize World.setCell _ _ _ = V at k5 ho5 hb5 ⊢
      have c5 := k5.cell
      go_wp2_with (at_builtin; refine wpList_push _ rfl (.tmp 32) (.tmp 34) _ rfl w.heap.size 78 _ 4 32 Tryz.underlying22 info_srcR rfl (by decide) _ k _ rfl (ho5.alloc _) V.heap.size (srcCells (shf u v s)) rfl rfl (src_new1 V (shf u v s) _) (one_src _) A1 A2 (le_alloc hb5.size _) ?_; intro v1 w6 ho6 hb6)
      go_roundw
      case rel => exact ⟨k + 1, by omega, by go_num, by rw [srcs_map_snoc _ HX.out]; exact ho6, (hb5.alloc hb5.size _).trans hb6⟩
      case measure => simp [intOf]; omega
    · obtain rfl : k = m := by omega
      rw [List.take_of_length_le (by rw [HL.out]; omega)] at ho
      obtain ⟨A7, c7, rfl, hR7⟩ := own_slice ho
      by_cases h0 : lstErr (l.map (shf u v)) = 0
      · have H0 := hide h0
        go_wp2_with fail
        refine (rCheckSources_any A7 _ c7 _ _ hR7 (by omega)).mono ?_
        rintro e w5 ⟨rfl, hb5⟩
        rw [h0]
        clear h0
        go_wp2_with fail
        go_ret2
        exact ⟨A7, _, c7, by rw [H0.out]; rfl, by rw [vld_ok H0.out]; exact carry hR7 hb5, below_next hb hb5⟩
      · have t0 : (lstErr (l.map (shf u v)) != 0) = true := by simpa using h0
        have H0 := hide h0
        clear h0
        go_wp2_with fail
        refine (rCheckSources_any A7 _ c7 _ _ hR7 (by omega)).mono ?_
        rintro e w5 ⟨rfl, hb5⟩
        go_wp2_with fail
        go_ret2
        rw [vld_bad H0.out]
        exact OutS.none_ (below_next hb hb5)
end Go.Proofs.YtcihiglpahhboaaGreatDoor
