/- Normal, lowest, Symmetries of the reference. -/
import Derived.Test.YtcihiglpahhboaaGreatDoorARefN
import Derived.Test.YtcihiglpahhboaaGreatDoorARTrn
import Derived.Test.YtcihiglpahhboaaGreatDoorASymP
import Derived.Test.YtcihiglpahhboaaGreatDoorATurn
namespace Go.Proofs.YtcihiglpahhboaaGreatDoor
open Go.RowKit Go.Shelf
set_option maxRecDepth 100000
theorem stops_snoc (dn : List Wt) (a : Wt) (u y : Int) : stops (dn ++ [a]) u y = (decide (a.x = u) && decide (y ≤ a.y)) := by unfold stops; simp
theorem stops_nil (u y : Int) : stops [] u y = false := rfl
/-- The last of some weights. -/
theorem wt_last {dn : List Wt} {j : Nat} {t : Src} (hl : (dn.map asS).length = j + 1) (ht : (dn.map asS)[j]? = some t) : ∃ i a, dn = i ++ [a] ∧ t = asS a := by
  rw [List.length_map] at hl
  have hne : dn ≠ [] := fun e => by rw [e] at hl; cases hl
  refine ⟨dn.dropLast, dn.getLast hne, (List.dropLast_concat_getLast hne).symm, ?_⟩
  rw [List.getElem?_map] at ht
  have e : dn[j]? = some (dn.getLast hne) := by
    rw [List.getLast_eq_getElem, List.getElem?_eq_getElem (by omega)]
    congr 2; omega
  rw [e] at ht
  exact (Option.some.inj ht).symm
set_option maxHeartbeats 4000000 in
theorem rLow_any (A : Option Addr) (m c : Nat) (l : List Src) (u : Int) (B : Option Addr) (n cb : Nat) (dn : List Wt) (w : World) (hm : m ≤ 1000000) (hn : n ≤ 1000000) (hR : Reads w w.heap.size 4 A m (srcs l)) (hD : Reads w w.heap.size 4 B n (srcs (dn.map asS))) :
    Calls Tryz.prog 95 #[.slice A m c, .int .i64 u, .slice B n cb] w fun e w' => e = .returned (.int .i64 (lwst l u dn)) ∧ Below w.heap.size w w' := by
  have HL := hide (srcs_reads_len hR)
  have HD := hide (srcs_reads_len hD)
  go_enter Tryz.func95, Tryz.ntmps95
  go_wp2_with fail
  go_loopw [7, 8] (fun s i wr => ∃ k : Nat, k ≤ m ∧ i = .int .i64 k ∧ s = .int .i64 ((l.take k).foldl (lowF dn u) 101) ∧ Below w.heap.size w wr) (fun _ i _ => m - (intOf i).toNat)
  case atStart => exact ⟨0, by omega, rfl, rfl, Below.refl _ _⟩
  case round =>
    rename World => wo
    obtain ⟨k, hk, rfl, rfl, hb⟩ := hrel
    by_cases hlt : k < m
    · obtain ⟨ad, s, rfl, _, hx, hc⟩ := src_hit (carry hR hb) hlt (Nat.le_refl _)
      have hst : (l.take (k + 1)).foldl (lowF dn u) 101 = lowF dn u ((l.take k).foldl (lowF dn u) 101) s := by rw [src_take hx, List.foldl_append]; rfl
      obtain ⟨a, ha⟩ : ∃ a, (l.take k).foldl (lowF dn u) 101 = a := ⟨_, rfl⟩
      rw [ha] at hst
      have HAA := hide ha
      rw [HAA.out]
      have HST := hide hst
      obtain ⟨d0, d1, d2, d3⟩ := hc wo (Below.refl _ _)
      clear ha hst hx d1 d2 d3
      by_cases hxu : s.x = u
      · have t1 : (s.x != u) = false := by rw [hxu]; simp
        have q1 : ∀ x, (over wo.heap.size wo x).cell? ⟨(ad.add (k * 4)).block, (ad.add (k * 4)).off + 1, none⟩ = some (.int .i64 s.y) := fun x => (hc _ (over_below _ _ _)).2.1
        have HXU := hide hxu
        clear hxu
        go_upto_region 6 with (fail)
        clear t1 d0
        by_cases hn0 : n = 0
        · have hdn : dn = [] := by
            have := HD.out
            rw [hn0, List.length_map] at this
            exact List.eq_nil_of_length_eq_zero this
          have HF : Hid (lowF dn u a s = min a s.y) := by
            show _ = _
            unfold lowF
            rw [hdn, if_pos ⟨HXU.out, stops_nil _ _⟩]
          have g1 : decide (0 < n) = false := by simp; omega
          have g2 : decide (0 < (n : Int)) = false := by simp; omega
          clear hn0 hdn
          refine wp_region_over wo.heap.size (by kernel_rfl) (by kernel_rfl) ?_; (repeat (first | go_big_quiet_step (fail) | quiet_step (fail))); refine wpQuiet_nil ?_; rintro W ⟨x, rfl⟩
          have hbY := over_below wo.heap.size wo x
          generalize over wo.heap.size wo x = Y at hbY ⊢
          have HBE := hide (below_next hb hbY)
          have q1Y := (hc _ hbY).2.1
          clear q1 hc hb g1 g2
          have HST2 : Hid ((l.take (k + 1)).foldl (lowF dn u) 101 = min a s.y) := by show _ = _; rw [HST.out, HF.out]
          by_cases hmin : a ≤ s.y
          · have hnm : ¬ s.y < a := by omega
            have EM : Hid (min a s.y = a) := by show _ = _; omega
            go_wp2_with fail
            go_roundw
            case rel => exact ⟨k + 1, by omega, by go_num, by rw [HST2.out, EM.out], HBE.out⟩
            case measure => simp [intOf]; omega
          · have hnm : s.y < a := by omega
            have EM : Hid (min a s.y = s.y) := by show _ = _; omega
            go_wp2_with fail
            go_roundw
            case rel => exact ⟨k + 1, by omega, by go_num, by rw [HST2.out, EM.out], HBE.out⟩
            case measure => simp [intOf]; omega
        · obtain ⟨j, en⟩ : ∃ j, n = j + 1 := ⟨n - 1, by omega⟩
          obtain ⟨bd, t, rfl, _, ht, hd⟩ := src_hit (k := j) (carry hD hb) (by omega) (Nat.le_refl _)
          obtain ⟨i0, a0, hda, rfl⟩ := wt_last (HD.out.trans en) ht
          have r0 : ∀ x, (over wo.heap.size wo x).cell? (bd.add (j * 4)) = some (.int .i64 a0.x) := fun x => (hd _ (over_below _ _ _)).1
          have r1 : ∀ x, (over wo.heap.size wo x).cell? ⟨(bd.add (j * 4)).block, (bd.add (j * 4)).off + 1, none⟩ = some (.int .i64 a0.y) := fun x => (hd _ (over_below _ _ _)).2.1
          have hstp : stops dn u s.y = (decide (a0.x = u) && decide (s.y ≤ a0.y)) := by rw [hda]; exact stops_snoc _ _ _ _
          have HSP := hide hstp
          have ej : (n : Int) - 1 = (j : Int) := by omega
          have ej2 : wrap64 ((n : Int) - 1) = (j : Int) := by unfold wrap64; omega
          have gj : (j : Int) < (n : Int) := by omega
          have g1 : decide (0 < n) = true := by simp; omega
          have g2 : decide (0 < (n : Int)) = true := by simp; omega
          clear hn0 ht hd hda hstp en
          by_cases hax : a0.x = u
          · have g3 : (a0.x == u) = true := by simpa using hax
            have HAX := hide hax
            clear hax
            by_cases hay : s.y ≤ a0.y
            · have g4 : decide (s.y ≤ a0.y) = true := by simpa using hay
              have HF : Hid (lowF dn u a s = a) := by
                show _ = _
                unfold lowF
                rw [if_neg]
                rintro ⟨_, q⟩
                rw [HSP.out, HAX.out] at q
                simp [hay] at q
              clear hay
              refine wp_region_over wo.heap.size (by kernel_rfl) (by kernel_rfl) ?_; (repeat (first | go_big_quiet_step (fail) | quiet_step (fail))); refine wpQuiet_nil ?_; rintro W ⟨x, rfl⟩
              have hbY := over_below wo.heap.size wo x
              generalize over wo.heap.size wo x = Y at hbY ⊢
              have HBE := hide (below_next hb hbY)
              clear q1 hc hb g1 g2 g3 g4 r0 r1
              go_wp2_with fail
              go_roundw
              case rel =>
                exact ⟨k + 1, by omega, by go_num, by rw [HST.out, HF.out], HBE.out⟩
              case measure => simp [intOf]; omega
            · have g4 : decide (s.y ≤ a0.y) = false := by simpa using hay
              have HF : Hid (lowF dn u a s = min a s.y) := by
                show _ = _
                unfold lowF
                rw [if_pos ⟨HXU.out, by rw [HSP.out, g4, Bool.and_false]⟩]
              clear hay
              refine wp_region_over wo.heap.size (by kernel_rfl) (by kernel_rfl) ?_; (repeat (first | go_big_quiet_step (fail) | quiet_step (fail))); refine wpQuiet_nil ?_; rintro W ⟨x, rfl⟩
              have hbY := over_below wo.heap.size wo x
              generalize over wo.heap.size wo x = Y at hbY ⊢
              have HBE := hide (below_next hb hbY)
              have q1Y := (hc _ hbY).2.1
              clear q1 hc hb g1 g2 g3 g4 r0 r1
              have HST2 : Hid ((l.take (k + 1)).foldl (lowF dn u) 101 = min a s.y) := by show _ = _; rw [HST.out, HF.out]
              by_cases hmin : a ≤ s.y
              · have hnm : ¬ s.y < a := by omega
                have EM : Hid (min a s.y = a) := by show _ = _; omega
                go_wp2_with fail
                go_roundw
                case rel => exact ⟨k + 1, by omega, by go_num, by rw [HST2.out, EM.out], HBE.out⟩
                case measure => simp [intOf]; omega
              · have hnm : s.y < a := by omega
                have EM : Hid (min a s.y = s.y) := by show _ = _; omega
                go_wp2_with fail
                go_roundw
                case rel => exact ⟨k + 1, by omega, by go_num, by rw [HST2.out, EM.out], HBE.out⟩
                case measure => simp [intOf]; omega
          · have g3 : (a0.x == u) = false := by simpa using hax
            have HF : Hid (lowF dn u a s = min a s.y) := by
              show _ = _
              unfold lowF
              rw [if_pos ⟨HXU.out, by rw [HSP.out, decide_eq_false hax, Bool.false_and]⟩]
            clear hax
            refine wp_region_over wo.heap.size (by kernel_rfl) (by kernel_rfl) ?_; (repeat (first | go_big_quiet_step (fail) | quiet_step (fail))); refine wpQuiet_nil ?_; rintro W ⟨x, rfl⟩
            have hbY := over_below wo.heap.size wo x
            generalize over wo.heap.size wo x = Y at hbY ⊢
            have HBE := hide (below_next hb hbY)
            have q1Y := (hc _ hbY).2.1
            clear q1 hc hb g1 g2 g3 r0 r1
            have HST2 : Hid ((l.take (k + 1)).foldl (lowF dn u) 101 = min a s.y) := by show _ = _; rw [HST.out, HF.out]
            by_cases hmin : a ≤ s.y
            · have hnm : ¬ s.y < a := by omega
              have EM : Hid (min a s.y = a) := by show _ = _; omega
              go_wp2_with fail
              go_roundw
              case rel => exact ⟨k + 1, by omega, by go_num, by rw [HST2.out, EM.out], HBE.out⟩
              case measure => simp [intOf]; omega
            · have hnm : s.y < a := by omega
              have EM : Hid (min a s.y = s.y) := by show _ = _; omega
              go_wp2_with fail
              go_roundw
              case rel => exact ⟨k + 1, by omega, by go_num, by rw [HST2.out, EM.out], HBE.out⟩
              case measure => simp [intOf]; omega
      · have t1 : (s.x != u) = true := by simpa using hxu
        have HF : Hid (lowF dn u a s = a) := by
          show _ = _
          unfold lowF
          rw [if_neg fun q => hxu q.1]
        have HBE := hide hb
        clear hxu hc
        go_wp2_with fail
        go_roundw
        case rel =>
          exact ⟨k + 1, by omega, by go_num, by rw [HST.out, HF.out], HBE.out⟩
        case measure => simp [intOf]; omega
    · obtain rfl : k = m := by omega
      rw [List.take_of_length_le (by rw [HL.out]; omega)]
      go_wp2_with fail
      go_ret
      exact ⟨rfl, hb⟩
end Go.Proofs.YtcihiglpahhboaaGreatDoor
