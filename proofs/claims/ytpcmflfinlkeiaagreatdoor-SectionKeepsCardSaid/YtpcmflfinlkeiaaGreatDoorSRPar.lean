/- The reference's Parse of sections. -/
import Derived.Test.YtpcmflfinlkeiaaGreatDoorSPar
import Derived.Test.YtpcmflfinlkeiaaGreatDoorSRPk
namespace Go.Proofs.YtpcmflfinlkeiaaGreatDoor
open Go.RowKit Go.Shelf
set_option maxRecDepth 100000
theorem nums_snoc {ws : List (List UInt8)} {l : List Int} {w : List UInt8} {x : Int} (h : nums ws = some l) (hx : snum w = some x) : nums (ws ++ [w]) = some (l ++ [x]) := nums_all (by rw [List.map_append, List.map_append, nums_of h]; simp [hx])
theorem pline_none {l : List UInt8} (h : nums (spl 32 l) = none) : pline l = none := by unfold pline; rw [h]; rfl
theorem pline_six {l : List UInt8} {xs : List Int} (h : nums (spl 32 l) = some xs) (h6 : xs.length = 6) : ∃ s, pline l = some s ∧ xs = six s := by
  match xs, h6 with
  | [a, b, c, d, e, f], _ => exact ⟨⟨a, b, c, d, e, f⟩, by unfold pline; rw [h]; rfl, rfl⟩
theorem list_noneS (p : ByteArray) : (p.toList == []) = decide (p.data.toList = []) := by
  rw [ByteArray.toList_eq, Bool.eq_iff_iff]; simp
set_option maxHeartbeats 8000000 in
theorem rParse_any (s : ByteArray) (w : World) : Calls Tryz.prog 16 #[.string s] w (PsPost s w) := by
  have hsz := bsize s
  by_cases h1 : 4096 < s.data.toList.length
  · have HB := hide (parS_long h1)
    have g1 : (4096 : Int) < (s.size : Int) := by omega
    clear h1 hsz
    go_enter Tryz.func16, Tryz.ntmps16
    go_wp2_with fail
    go_ret3
    exact psPost_bad HB.out rfl (Below.refl _ _)
  · have g1 : ¬ (4096 : Int) < (s.size : Int) := by omega
    have hs : s.size ≤ 1000000 := by omega
    have HG := hide (parS_go h1)
    clear h1 hsz
    go_enter Tryz.func16, Tryz.ntmps16
    go_wp2_with fail
    refine (qSplit_any s 10 w hs).mono ?_
    rintro e w1 ⟨Ap, cp, ls, hls, rfl, r1, hb1⟩
    obtain ⟨N, hN⟩ : ∃ N, N = ls.length := ⟨_, rfl⟩
    have hN1 : 1 ≤ N := by
      rw [hN, ← List.length_map (f := fun x : ByteArray => x.data.toList), hls]
      exact List.length_pos_iff.2 (spl_ne _ _)
    have hN2 : N ≤ 1000001 := by
      have h1 := spl_len 10 s.data.toList
      rw [← hls, List.length_map] at h1
      have := bsize s
      omega
    have hpz : ∀ p ∈ ls, p.size ≤ 1000000 := fun p hp => by
      have h1 := spl_mem 10 s.data.toList p.data.toList (by rw [← hls]; exact List.mem_map_of_mem hp)
      have := bsize p
      have := bsize s
      omega
    have HPZ := hide hpz
    have HLS := hide hls
    rw [← hN] at r1 ⊢
    have HNL := hide hN
    have hg0 : parS s.data.toList = pgo [] ((ls.map (·.data.toList)).drop 0) := by rw [hls]; exact HG.out
    have HG0 := hide hg0
    clear hpz hls hN hg0
    go_wp2_with fail
    go_loopw [5, 7] (fun o v wr => ∃ (k : Nat) (acc : List Sec), k + 1 ≤ N ∧ acc.length = k ∧ v = .int .i64 k ∧ Hid (parS s.data.toList = pgo acc ((ls.map (·.data.toList)).drop k)) ∧ wr.ownsRow w1.heap.size 50 6 o k (secs acc) ∧ Below w1.heap.size w1 wr) (fun _ v _ => N - (intOf v).toNat)
    case atStart => exact ⟨0, [], hN1, rfl, rfl, HG0, by simp [secs, World.ownsRow_nil], Below.refl _ _⟩
    case round =>
      rename World => wo
      obtain ⟨k, acc, hk, hak, rfl, HP, ho, hbo⟩ := hrel
      have HAK := hide hak
      clear hak
      by_cases hlt : k + 1 < N
      · obtain ⟨ad, u, rfl, had, hu, hcu⟩ := (carryR r1 hbo).at_ (k := k) (by omega)
        obtain ⟨p, hp, rfl⟩ : ∃ p, ls[k]? = some p ∧ u = .string p := by
          rw [List.getElem?_map] at hu
          cases hq : ls[k]? with
          | none => rw [hq] at hu; cases hu
          | some p => rw [hq] at hu; exact ⟨p, rfl, (Option.some.inj hu).symm⟩
        have hsp := HPZ.out p (List.mem_of_getElem? hp)
        have hmk : (ls.map (·.data.toList))[k]? = some p.data.toList := by rw [List.getElem?_map, hp]; rfl
        have hne : (ls.map (·.data.toList)).drop (k + 1) ≠ [] := by
          intro e
          have := congrArg List.length e
          rw [List.length_drop, List.length_map, ← HNL.out] at this
          simp at this; omega
        have hbad : pline p.data.toList = none → parS s.data.toList = ([], (k : Int), 26) := fun h => by
          rw [HP.out, drop_at hmk, pgo_bad acc hne h, HAK.out]
        have hgood : ∀ x, pline p.data.toList = some x → parS s.data.toList = pgo (acc ++ [x]) ((ls.map (·.data.toList)).drop (k + 1)) := fun x h => by
          rw [HP.out, drop_at hmk, pgo_good acc hne h]
        have HBAD := hide hbad
        have HGOOD := hide hgood
        clear hu hp hmk hne hbad hgood HP
        go_wp2_with fail
        refine (qSplit_any p 32 _ hsp).mono ?_
        rintro e w2 ⟨Aq, cq, qs, hqs, rfl, r2, hb2⟩
        have hbw2 := below_step hbo hb2 hbo.size
        have ho2 := row_below ho hb2
        have hbA : Below w.heap.size w w2 := below_step hb1 hbw2 hb1.size
        have hqz : ∀ q ∈ qs, q.size ≤ 1000000 := fun q hq => by
          have h1 := spl_mem 32 p.data.toList q.data.toList (by rw [← hqs]; exact List.mem_map_of_mem hq)
          have := bsize q
          have := bsize p
          omega
        obtain ⟨M, hM⟩ : ∃ M, M = qs.length := ⟨_, rfl⟩
        have hM2 : M ≤ 1000001 := by
          have h1 := spl_len 32 p.data.toList
          rw [← hqs, List.length_map] at h1
          have := bsize p
          omega
        have HQZ := hide hqz
        have HQS := hide hqs
        rw [← hM] at r2 ⊢
        have HML := hide hM
        clear ho hcu had hqs hqz hM
        go_wp2_with fail
        go_loopw [9, 10] (fun o v wr => ∃ (j : Nat) (xs : List Int), j ≤ M ∧ Hid (xs.length = j) ∧ v = .int .i64 j ∧ Hid (nums ((qs.map (·.data.toList)).take j) = some xs) ∧ wr.ownsRow w2.heap.size 3 1 o j (ints xs) ∧ Below w2.heap.size w2 wr) (fun _ v _ => M - (intOf v).toNat)
        case atStart => exact ⟨0, [], by omega, rfl, rfl, rfl, by simp [ints, World.ownsRow_nil], Below.refl _ _⟩
        case round =>
          rename World => wi
          obtain ⟨j, xs, hj, HXJ, rfl, HNU, hoi, hbi⟩ := hrel
          have hbwi := below_step hbw2 hbi hbw2.size
          by_cases hjl : j < M
          · obtain ⟨aq, u, rfl, haq, hu, hcu⟩ := (carryR r2 hbi).at_ (k := j) (by omega)
            obtain ⟨q, hq, rfl⟩ : ∃ q, qs[j]? = some q ∧ u = .string q := by
              rw [List.getElem?_map] at hu
              cases hq : qs[j]? with
              | none => rw [hq] at hu; cases hu
              | some q => rw [hq] at hu; exact ⟨q, rfl, (Option.some.inj hu).symm⟩
            have hsq := HQZ.out q (List.mem_of_getElem? hq)
            have hmj : (qs.map (·.data.toList))[j]? = some q.data.toList := by rw [List.getElem?_map, hq]; rfl
            have HMJ := hide hmj
            clear hu hq hmj haq
            go_wp2_with fail
            refine (qSigned_any q _ hsq).mono ?_
            rintro e w4 ⟨v, rfl, hv, hb4⟩
            have hb24 := below_step hbi hb4 hbi.size
            cases hsn : snum q.data.toList with
            | none =>
              have hnn : nums (qs.map (·.data.toList)) = none := nums_none HMJ.out hsn
              rw [HQS.out] at hnn
              have HB := hide (HBAD.out (pline_none hnn))
              clear hsn hv hnn
              go_wp2_with fail
              go_ret3
              exact psPost_bad HB.out rfl (below_step hbA hb24 hbA.size)
            | some x =>
              obtain rfl := hv x hsn
              have hnu : nums ((qs.map (·.data.toList)).take (j + 1)) = some (xs ++ [v]) := by
                rw [List.take_add_one, HMJ.out]; exact nums_snoc HNU.out hsn
              have HNU2 := hide hnu
              have hoj := row_below hoi hb4
              have hszj := hb24.size
              have A1 : j + 1 ≤ maxLen := by unfold maxLen; omega
              have A2 : (j + 1) * 8 ≤ 140737488355328 := by omega
              clear hsn hv hnu hoi hcu
              go_wp2_with (at_builtin; refine wpList_push _ rfl (.tmp 48) (.tmp 50) _ rfl w2.heap.size 3 _ 1 8 Tryz.underlying23 info_int rfl (by decide) _ j _ rfl (hoj.alloc _) w4.heap.size [.int .i64 v] rfl rfl (cell_new1 _ _ _) (one_int _) A1 A2 (le_alloc hszj _) ?_; intro v1 wb ho6 hb6)
              have hb26 := (hb24.alloc hszj _).trans hb6
              rw [← ints_snoc] at ho6
              clear hoj
              go_wp2_with fail
              go_roundw
              case rel =>
                first
                  | exact ⟨j + 1, xs ++ [v], by omega, by show _ = _; rw [List.length_append, HXJ.out]; rfl, by go_num, HNU2, ho6, hb26⟩
                  | ((repeat (apply Exists.intro)); refine ⟨?_, rfl⟩; exact ⟨j + 1, xs ++ [v], by omega, by show _ = _; rw [List.length_append, HXJ.out]; rfl, by go_num, HNU2, ho6, hb26⟩)
              case measure => simp [intOf]; omega
          · obtain rfl : j = M := by omega
            have hnu : nums (spl 32 p.data.toList) = some xs := by
              have := HNU.out
              rwa [List.take_of_length_le (by rw [List.length_map, ← HML.out]; exact Nat.le_refl _), HQS.out] at this
            obtain ⟨A', c', rfl, hr⟩ := own_slice hoi
            have hbAi := below_step hbA hbi hbA.size
            by_cases h6 : j = 6
            · obtain ⟨x, hx, hxs⟩ := pline_six hnu (by rw [HXJ.out]; exact h6)
              rw [hxs] at hr
              rw [h6] at hr ⊢
              obtain ⟨a6, rfl, _, _⟩ := hr.2 (by omega)
              have HP2 := hide (HGOOD.out _ hx)
              have ho3 := row_below ho2 hbi
              have A1 : k + 1 ≤ maxLen := by unfold maxLen; omega
              have A2 : (k + 1) * 48 ≤ 140737488355328 := by omega
              clear hnu hx hxs hoi h6 HBAD ho2
              go_wp2_with fail
              refine (rSection_any a6 c' x _ hr).mono ?_
              rintro e w5 ⟨rfl, hb5⟩
              have ho4 := row_below ho3 hb5
              have hbw5 := below_step hbwi hb5 hbwi.size
              have hsz5 := hbw5.size
              clear hr ho3
              go_wp2_with (at_builtin; refine wpList_push _ rfl (.tmp 56) (.tmp 59) _ rfl w1.heap.size 50 _ 6 48 Tryz.underlying22 info_secR rfl (by decide) _ k _ rfl (ho4.alloc _) w5.heap.size (secCells x) rfl rfl (cells_new w5 (secCells x) _) (one_sec _) A1 A2 (le_alloc hsz5 _) ?_; intro v1 wb ho6 hb6)
              have hbw6 := (hbw5.alloc hsz5 _).trans hb6
              rw [← secs_snoc] at ho6
              clear ho4
              go_wp2_with fail
              go_roundw
              case rel =>
                first
                  | exact ⟨k + 1, acc ++ [x], by omega, by rw [List.length_append, HAK.out]; rfl, by go_num, HP2, ho6, hbw6⟩
                  | ((repeat (apply Exists.intro)); refine ⟨?_, rfl⟩; exact ⟨k + 1, acc ++ [x], by omega, by rw [List.length_append, HAK.out]; rfl, by go_num, HP2, ho6, hbw6⟩)
              case measure => simp [intOf]; omega
            · have HB := hide (HBAD.out (line_short (by rw [← HQS.out, List.length_map, ← HML.out]; exact h6)))
              have t6 : ((j : Int) != 6) = true := by simp; omega
              clear h6 hnu hr hoi
              go_wp2_with fail
              go_ret3
              exact psPost_bad HB.out rfl (hbAi)
      · obtain rfl : N = k + 1 := by omega
        obtain ⟨ad, u, rfl, had, hu, hcu⟩ := (carryR r1 hbo).at_ (k := k) (by omega)
        obtain ⟨p, hp, rfl⟩ : ∃ p, ls[k]? = some p ∧ u = .string p := by
          rw [List.getElem?_map] at hu
          cases hq : ls[k]? with
          | none => rw [hq] at hu; cases hu
          | some p => rw [hq] at hu; exact ⟨p, rfl, (Option.some.inj hu).symm⟩
        have hmk : (ls.map (·.data.toList))[k]? = some p.data.toList := by rw [List.getElem?_map, hp]; rfl
        have hlast : (ls.map (·.data.toList)).drop k = [p.data.toList] := by
          rw [drop_at hmk, List.drop_of_length_le (by rw [List.length_map, ← HNL.out]; exact Nat.le_refl _)]
        have hpp : parS s.data.toList = pgo acc [p.data.toList] := by rw [HP.out, hlast]
        have hbE := below_step hb1 hbo hb1.size
        clear hu hp hmk hlast HP
        by_cases hz : p.data.toList = []
        · have t0 : (p.toList == []) = true := by rw [list_noneS]; exact decide_eq_true hz
          rw [hz, pgo_end, HAK.out] at hpp
          obtain ⟨A', c', rfl, hr⟩ := own_slice ho
          clear ho hz
          by_cases h0 : secErr acc = 0
          · rw [if_pos h0] at hpp
            have HB := hide hpp
            have HL0 := hide h0
            clear hpp h0
            go_wp2_with fail
            refine (rCheckSections_any A' k c' acc _ hr (by omega)).mono ?_
            rintro e w2 ⟨rfl, hb2⟩
            rw [HL0.out]
            have hr2 := carryR hr hb2
            go_wp2_with fail
            go_ret3
            exact psPost_ok HB.out HAK.out rfl hr2 (below_step hbE hb2 hbE.size)
          · rw [if_neg h0] at hpp
            have HB := hide hpp
            have t9 : (secErr acc != 0) = true := by simpa using h0
            clear hpp h0
            go_wp2_with fail
            refine (rCheckSections_any A' k c' acc _ hr (by omega)).mono ?_
            rintro e w2 ⟨rfl, hb2⟩
            go_wp2_with fail
            go_ret3
            exact psPost_bad HB.out rfl (below_step hbE hb2 hbE.size)
        · have t0 : (p.toList == []) = false := by rw [list_noneS]; exact decide_eq_false hz
          rw [pgo_last acc hz, HAK.out] at hpp
          have HB := hide hpp
          clear hpp hz
          go_wp2_with fail
          go_ret3
          exact psPost_bad HB.out rfl (hbE)
end Go.Proofs.YtpcmflfinlkeiaaGreatDoor
