/- The reference's Parse of sources. -/
import Derived.Test.YtcihiglpahhboaaGreatDoorAPar
import Derived.Test.YtcihiglpahhboaaGreatDoorARStr
namespace Go.Proofs.YtcihiglpahhboaaGreatDoor
open Go.RowKit Go.Shelf
set_option maxRecDepth 100000
theorem pline_short {l : List UInt8} (h : (spl 32 l).length ≠ 5) : pline l = none := by
  unfold pline
  cases hs : spl 32 l with
  | nil => rfl
  | cons k r =>
    simp only
    split
    · unfold pnums
      rw [hs] at h
      match r, h with
      | [], _ => rfl
      | [_], _ => rfl
      | [_, _], _ => rfl
      | [_, _, _], _ => rfl
      | [_, _, _, _], h => exact absurd rfl h
      | _ :: _ :: _ :: _ :: _ :: _, _ => rfl
    · rfl
theorem pline_word {l k : List UInt8} {r : List (List UInt8)} (h : spl 32 l = k :: r) (hk : ¬ k = wordS) : pline l = none := by
  unfold pline
  rw [h]
  simp only
  rw [if_neg hk]
theorem pline_num {l : List UInt8} {k a b c d : List UInt8} (h : spl 32 l = [k, a, b, c, d]) (hn : snum a = none ∨ snum b = none ∨ snum c = none ∨ snum d = none) : pline l = none := by
  unfold pline
  rw [h]
  simp only
  split
  · unfold pnums
    simp only
    rcases hn with q | q | q | q
    · rw [q]
    · rw [q]; cases snum a <;> rfl
    · rw [q]; cases snum a <;> cases snum b <;> rfl
    · rw [q]; cases snum a <;> cases snum b <;> cases snum c <;> rfl
  · rfl
theorem pline_five {l : List UInt8} {a b c d : List UInt8} {x y z u : Int} (h : spl 32 l = [wordS, a, b, c, d]) (ha : snum a = some x) (hb : snum b = some y) (hc : snum c = some z) (hd : snum d = some u) : pline l = some ⟨x, y, z, u⟩ := by
  unfold pline
  rw [h]
  simp only [if_true]
  unfold pnums
  simp only [ha, hb, hc, hd]
theorem drop_at {α : Type} {l : List α} {k : Nat} {x : α} (h : l[k]? = some x) : l.drop k = x :: l.drop (k + 1) := by
  have hk := (List.getElem?_eq_some_iff.1 h).1
  rw [List.drop_eq_getElem_cons hk]
  congr 1
  exact (List.getElem?_eq_some_iff.1 h).2
set_option maxHeartbeats 8000000 in
theorem rParse_any (s : ByteArray) (w : World) : Calls Tryz.prog 83 #[.string s] w (PsPost s w) := by
  have hsz := bsize s
  by_cases h1 : 4096 < s.data.toList.length
  · have HB := hide (parS_long h1)
    have g1 : (4096 : Int) < (s.size : Int) := by omega
    clear h1 hsz
    go_enter Tryz.func83, Tryz.ntmps83
    go_wp2_with fail
    go_ret3
    exact psPost_bad HB.out rfl (Below.refl _ _)
  · have g1 : ¬ (4096 : Int) < (s.size : Int) := by omega
    have hs : s.size ≤ 1000000 := by omega
    have HG := hide (parS_go h1)
    clear h1 hsz
    go_enter Tryz.func83, Tryz.ntmps83
    go_wp2_with fail
    refine (qSplit_any s 10 w hs).mono ?_
    rintro e w1 ⟨Ap, cp, ls, hls, rfl, r1, hb1⟩
    obtain ⟨N, hN⟩ : ∃ N, N = ls.length := ⟨_, rfl⟩
    have hN1 : 1 ≤ N := by
      rw [hN, ← List.length_map (f := fun x : ByteArray => x.data.toList), hls]
      exact List.length_pos_iff.2 (spl_ne _ _)
    have hN2 : N ≤ 1000001 := by
      have h1 := spl_len 10 s.data.toList
      rw [← hls, List.length_map] at h1
      have := bsize s
      omega
    have hpz : ∀ p ∈ ls, p.size ≤ 1000000 := fun p hp => by
      have h1 := spl_mem 10 s.data.toList p.data.toList (by rw [← hls]; exact List.mem_map_of_mem hp)
      have := bsize p
      have := bsize s
      omega
    have HPZ := hide hpz
    have HLS := hide hls
    rw [← hN] at r1 ⊢
    have HNL := hide hN
    have hg0 : parS s.data.toList = pgo [] ((ls.map (·.data.toList)).drop 0) := by rw [hls]; exact HG.out
    have HG0 := hide hg0
    clear hpz hls hN hg0
    go_wp2_with fail
    go_loopw [6, 7] (fun o v wr => ∃ (k : Nat) (acc : List Src), k + 1 ≤ N ∧ acc.length = k ∧ v = .int .i64 k ∧ Hid (parS s.data.toList = pgo acc ((ls.map (·.data.toList)).drop k)) ∧ wr.ownsRow w1.heap.size 78 4 o k (srcs acc) ∧ Below w1.heap.size w1 wr) (fun _ v _ => N - (intOf v).toNat)
    case atStart => exact ⟨0, [], hN1, rfl, rfl, HG0, by simp [srcs, World.ownsRow_nil], Below.refl _ _⟩
    case round =>
      rename World => wo
      obtain ⟨k, acc, hk, hak, rfl, HP, ho, hbo⟩ := hrel
      have HAK := hide hak
      clear hak
      by_cases hlt : k + 1 < N
      · obtain ⟨ad, u, rfl, had, hu, hcu⟩ := (carry r1 hbo).at_ (k := k) (by omega)
        obtain ⟨p, hp, rfl⟩ : ∃ p, ls[k]? = some p ∧ u = .string p := by
          rw [List.getElem?_map] at hu
          cases hq : ls[k]? with
          | none => rw [hq] at hu; cases hu
          | some p => rw [hq] at hu; exact ⟨p, rfl, (Option.some.inj hu).symm⟩
        have hsp := HPZ.out p (List.mem_of_getElem? hp)
        have hmk : (ls.map (·.data.toList))[k]? = some p.data.toList := by rw [List.getElem?_map, hp]; rfl
        have hne : (ls.map (·.data.toList)).drop (k + 1) ≠ [] := by
          intro e
          have := congrArg List.length e
          rw [List.length_drop, List.length_map, ← HNL.out] at this
          simp at this; omega
        have hbad : pline p.data.toList = none → parS s.data.toList = ([], (k : Int), 26) := fun h => by
          rw [HP.out, drop_at hmk, pgo_bad acc hne h, HAK.out]
        have hgood : ∀ x, pline p.data.toList = some x → parS s.data.toList = pgo (acc ++ [x]) ((ls.map (·.data.toList)).drop (k + 1)) := fun x h => by
          rw [HP.out, drop_at hmk, pgo_good acc hne h]
        have HBAD := hide hbad
        have HGOOD := hide hgood
        clear hu hp hmk hne hbad hgood HP
        go_wp2_with fail
        refine (qSplit_any p 32 _ hsp).mono ?_
        rintro e w2 ⟨Aq, cq', qs, hqs, rfl, r2, hb2⟩
        have hbw2 := below_step hbo hb2 hbo.size
        have ho2 := row_below ho hb2
        have hbA : Below w.heap.size w w2 := below_step hb1 hbw2 hb1.size
        have hqz : ∀ q ∈ qs, q.size ≤ 1000000 := fun q hq => by
          have h1 := spl_mem 32 p.data.toList q.data.toList (by rw [← hqs]; exact List.mem_map_of_mem hq)
          have := bsize q
          have := bsize p
          omega
        clear ho hcu had
        by_cases h5 : qs.length = 5
        · obtain ⟨a, b, c, d, f, rfl⟩ : ∃ a b c d f, qs = [a, b, c, d, f] := by
            match qs, h5 with
            | [a, b, c, d, f], _ => exact ⟨a, b, c, d, f, rfl⟩
          obtain ⟨ag, rfl, hag, cq⟩ := r2.2 (show 0 < ([a, b, c, d, f] : List ByteArray).length by simp)
          have q0 := cq 0 _ rfl
          have q1 := cq 1 _ rfl
          have q2 := cq 2 _ rfl
          have q3 := cq 3 _ rfl
          have q4 := cq 4 _ rfl
          have z0 : ag.add 0 = ag := by unfold Addr.add; rfl
          rw [z0] at q0
          clear cq z0
          have hqs' : spl 32 p.data.toList = [a.data.toList, b.data.toList, c.data.toList, d.data.toList, f.data.toList] := hqs.symm
          have zb := hqz b (by simp)
          have zc := hqz c (by simp)
          have zd := hqz d (by simp)
          have zf := hqz f (by simp)
          have HQ := hide hqs'
          rw [show ([a, b, c, d, f] : List ByteArray).length = 5 from rfl]
          have t5 : ((5 : Int) != 5) = false := rfl
          clear hqs hqz r2 h5
          by_cases ha : a.data.toList = wordS
          · have tw : (a.toList == [115, 111, 117, 114, 99, 101]) = true := by rw [source_word]; exact decide_eq_true ha
            have HA := hide ha
            clear ha hqs'
            go_wp2_with fail
            obtain ⟨w3, e3, hb3, hz3, kN0⟩ := box1 w2 #[.int .i64 0, .int .i64 0, .int .i64 0, .int .i64 0] 179
            rw [← e3]; clear e3 hz3
            go_loopw [10] (fun v wr => ∃ (j : Nat) (u0 u1 u2 u3 : Int), j ≤ 4 ∧ v = .int .i64 j ∧ Hid (0 < j → snum b.data.toList = some u0) ∧ Hid (1 < j → snum c.data.toList = some u1) ∧ Hid (2 < j → snum d.data.toList = some u2) ∧ Hid (3 < j → snum f.data.toList = some u3) ∧ Blk wr w2.heap.size 179 #[.int .i64 u0, .int .i64 u1, .int .i64 u2, .int .i64 u3] ∧ Below w2.heap.size w2 wr) (fun v _ => 4 - (intOf v).toNat)
            case atStart => exact ⟨0, 0, 0, 0, 0, by omega, rfl, fun h => by omega, fun h => by omega, fun h => by omega, fun h => by omega, kN0, hb3⟩
            case round =>
              rename World => wn
              obtain ⟨j, u0, u1, u2, u3, hj, rfl, H0, H1, H2, H3, kN, hbN⟩ := hrel
              clear kN0 hb3
              have q1' := (hbN.cell (p := ag.add 1) (by rw [block_of_add]; exact hag)).trans q1
              have q2' := (hbN.cell (p := ag.add 2) (by rw [block_of_add]; exact hag)).trans q2
              have q3' := (hbN.cell (p := ag.add 3) (by rw [block_of_add]; exact hag)).trans q3
              have q4' := (hbN.cell (p := ag.add 4) (by rw [block_of_add]; exact hag)).trans q4
              rw [← add_off ag 1 (by decide)] at q1'
              rw [← add_off ag 2 (by decide)] at q2'
              rw [← add_off ag 3 (by decide)] at q3'
              rw [← add_off ag 4 (by decide)] at q4'
              have hc : j = 0 ∨ j = 1 ∨ j = 2 ∨ j = 3 ∨ j = 4 := by omega
              rcases hc with rfl | rfl | rfl | rfl | rfl
              · skip
                have cX := kN.cell
                have fX := kN.frozen
                go_wp2_with fail
                refine (qSigned_any b _ zb).mono ?_
                rintro e w4 ⟨v, rfl, hv, hb4⟩
                have hbN4 := below_step hbN hb4 hbN.size
                cases hq : snum b.data.toList with
                | none =>
                  have HB := hide (HBAD.out (pline_num HQ.out (.inl hq)))
                  clear hq hv cX fX
                  go_wp2_with fail
                  go_ret3
                  exact psPost_bad HB.out rfl (below_step hbA hbN4 hbA.size)
                | some x =>
                  obtain rfl := hv x hq
                  have HX := hide hq
                  have kN4 := carryK kN hb4
                  have cY := kN4.cell
                  have fY := kN4.frozen
                  clear hq hv cX fX kN
                  go_wp2_with fail
                  have kN5 : Blk _ w2.heap.size 179 #[.int .i64 v, .int .i64 u1, .int .i64 u2, .int .i64 u3] := kN4.set_ 0 (.int .i64 v)
                  have hb5 := below_set (i := 0) hbN4 (Nat.le_refl w2.heap.size) (.int .i64 v)
                  go_roundw
                  case rel =>
                    first
                      | exact ⟨0 + 1, v, u1, u2, u3, by omega, rfl, (fun _ => HX.out), (fun h => by omega), (fun h => by omega), (fun h => by omega), kN5, hb5⟩
                      | ((repeat (apply Exists.intro)); refine ⟨?_, rfl⟩; exact ⟨0 + 1, v, u1, u2, u3, by omega, rfl, (fun _ => HX.out), (fun h => by omega), (fun h => by omega), (fun h => by omega), kN5, hb5⟩)
                  case measure => simp [intOf]
              · skip
                have cX := kN.cell
                have fX := kN.frozen
                go_wp2_with fail
                refine (qSigned_any c _ zc).mono ?_
                rintro e w4 ⟨v, rfl, hv, hb4⟩
                have hbN4 := below_step hbN hb4 hbN.size
                cases hq : snum c.data.toList with
                | none =>
                  have HB := hide (HBAD.out (pline_num HQ.out (.inr (.inl hq))))
                  clear hq hv cX fX
                  go_wp2_with fail
                  go_ret3
                  exact psPost_bad HB.out rfl (below_step hbA hbN4 hbA.size)
                | some x =>
                  obtain rfl := hv x hq
                  have HX := hide hq
                  have kN4 := carryK kN hb4
                  have cY := kN4.cell
                  have fY := kN4.frozen
                  clear hq hv cX fX kN
                  go_wp2_with fail
                  have kN5 : Blk _ w2.heap.size 179 #[.int .i64 u0, .int .i64 v, .int .i64 u2, .int .i64 u3] := kN4.set_ 1 (.int .i64 v)
                  have hb5 := below_set (i := 1) hbN4 (Nat.le_refl w2.heap.size) (.int .i64 v)
                  go_roundw
                  case rel =>
                    first
                      | exact ⟨1 + 1, u0, v, u2, u3, by omega, rfl, (fun _ => H0.out (by omega)), (fun _ => HX.out), (fun h => by omega), (fun h => by omega), kN5, hb5⟩
                      | ((repeat (apply Exists.intro)); refine ⟨?_, rfl⟩; exact ⟨1 + 1, u0, v, u2, u3, by omega, rfl, (fun _ => H0.out (by omega)), (fun _ => HX.out), (fun h => by omega), (fun h => by omega), kN5, hb5⟩)
                  case measure => simp [intOf]
              · skip
                have cX := kN.cell
                have fX := kN.frozen
                go_wp2_with fail
                refine (qSigned_any d _ zd).mono ?_
                rintro e w4 ⟨v, rfl, hv, hb4⟩
                have hbN4 := below_step hbN hb4 hbN.size
                cases hq : snum d.data.toList with
                | none =>
                  have HB := hide (HBAD.out (pline_num HQ.out (.inr (.inr (.inl hq)))))
                  clear hq hv cX fX
                  go_wp2_with fail
                  go_ret3
                  exact psPost_bad HB.out rfl (below_step hbA hbN4 hbA.size)
                | some x =>
                  obtain rfl := hv x hq
                  have HX := hide hq
                  have kN4 := carryK kN hb4
                  have cY := kN4.cell
                  have fY := kN4.frozen
                  clear hq hv cX fX kN
                  go_wp2_with fail
                  have kN5 : Blk _ w2.heap.size 179 #[.int .i64 u0, .int .i64 u1, .int .i64 v, .int .i64 u3] := kN4.set_ 2 (.int .i64 v)
                  have hb5 := below_set (i := 2) hbN4 (Nat.le_refl w2.heap.size) (.int .i64 v)
                  go_roundw
                  case rel =>
                    first
                      | exact ⟨2 + 1, u0, u1, v, u3, by omega, rfl, (fun _ => H0.out (by omega)), (fun _ => H1.out (by omega)), (fun _ => HX.out), (fun h => by omega), kN5, hb5⟩
                      | ((repeat (apply Exists.intro)); refine ⟨?_, rfl⟩; exact ⟨2 + 1, u0, u1, v, u3, by omega, rfl, (fun _ => H0.out (by omega)), (fun _ => H1.out (by omega)), (fun _ => HX.out), (fun h => by omega), kN5, hb5⟩)
                  case measure => simp [intOf]
              · skip
                have cX := kN.cell
                have fX := kN.frozen
                go_wp2_with fail
                refine (qSigned_any f _ zf).mono ?_
                rintro e w4 ⟨v, rfl, hv, hb4⟩
                have hbN4 := below_step hbN hb4 hbN.size
                cases hq : snum f.data.toList with
                | none =>
                  have HB := hide (HBAD.out (pline_num HQ.out (.inr (.inr (.inr hq)))))
                  clear hq hv cX fX
                  go_wp2_with fail
                  go_ret3
                  exact psPost_bad HB.out rfl (below_step hbA hbN4 hbA.size)
                | some x =>
                  obtain rfl := hv x hq
                  have HX := hide hq
                  have kN4 := carryK kN hb4
                  have cY := kN4.cell
                  have fY := kN4.frozen
                  clear hq hv cX fX kN
                  go_wp2_with fail
                  have kN5 : Blk _ w2.heap.size 179 #[.int .i64 u0, .int .i64 u1, .int .i64 u2, .int .i64 v] := kN4.set_ 3 (.int .i64 v)
                  have hb5 := below_set (i := 3) hbN4 (Nat.le_refl w2.heap.size) (.int .i64 v)
                  go_roundw
                  case rel =>
                    first
                      | exact ⟨3 + 1, u0, u1, u2, v, by omega, rfl, (fun _ => H0.out (by omega)), (fun _ => H1.out (by omega)), (fun _ => H2.out (by omega)), (fun _ => HX.out), kN5, hb5⟩
                      | ((repeat (apply Exists.intro)); refine ⟨?_, rfl⟩; exact ⟨3 + 1, u0, u1, u2, v, by omega, rfl, (fun _ => H0.out (by omega)), (fun _ => H1.out (by omega)), (fun _ => H2.out (by omega)), (fun _ => HX.out), kN5, hb5⟩)
                  case measure => simp [intOf]
              · have hl : pline p.data.toList = some ⟨u0, u1, u2, u3⟩ := pline_five (by rw [← HA.out]; exact HQ.out) (H0.out (by omega)) (H1.out (by omega)) (H2.out (by omega)) (H3.out (by omega))
                have HP2 := hide (HGOOD.out _ hl)
                have ho3 := row_below ho2 hbN
                have hbw3 := below_step hbw2 hbN hbw2.size
                have hszn := hbw3.size
                have cN := kN.cell
                have A1 : k + 1 ≤ maxLen := by unfold maxLen; omega
                have A2 : (k + 1) * 32 ≤ 140737488355328 := by omega
                clear hl q1' q2' q3' q4' q0 q1 q2 q3 q4 HBAD
                go_wp2_with (at_builtin; refine wpList_push _ rfl (.tmp 60) (.tmp 70) _ rfl w1.heap.size 78 _ 4 32 Tryz.underlying22 info_srcR rfl (by decide) _ k _ rfl (ho3.alloc _) wn.heap.size (srcCells ⟨u0, u1, u2, u3⟩) rfl rfl (src_new1 _ ⟨u0, u1, u2, u3⟩ _) (one_src ⟨u0, u1, u2, u3⟩) A1 A2 (le_alloc hszn _) ?_; intro v1 wb ho6 hb6)
                have hbw6 := (hbw3.alloc hszn _).trans hb6
                rw [← srcs_snoc] at ho6
                clear ho2 ho3 cN
                go_wp2_with fail
                go_roundw
                case rel =>
                  first
                    | exact ⟨k + 1, acc ++ [⟨u0, u1, u2, u3⟩], by omega, by rw [List.length_append, HAK.out]; rfl, by go_num, HP2, ho6, hbw6⟩
                    | ((repeat (apply Exists.intro)); refine ⟨?_, rfl⟩; exact ⟨k + 1, acc ++ [⟨u0, u1, u2, u3⟩], by omega, by rw [List.length_append, HAK.out]; rfl, by go_num, HP2, ho6, hbw6⟩)
                case measure => simp [intOf]; omega
          · have tw : (a.toList == [115, 111, 117, 114, 99, 101]) = false := by rw [source_word]; exact decide_eq_false ha
            have HB := hide (HBAD.out (pline_word hqs' ha))
            clear ha hqs'
            go_wp2_with fail
            go_ret3
            exact psPost_bad HB.out rfl (hbA)
        · have HB := hide (HBAD.out (pline_short (by rw [← hqs, List.length_map]; exact h5)))
          have t5 : ((qs.length : Int) != 5) = true := by simp; omega
          clear h5 hqs hqz r2
          go_wp2_with fail
          go_ret3
          exact psPost_bad HB.out rfl (hbA)
      · obtain rfl : N = k + 1 := by omega
        obtain ⟨ad, u, rfl, had, hu, hcu⟩ := (carry r1 hbo).at_ (k := k) (by omega)
        obtain ⟨p, hp, rfl⟩ : ∃ p, ls[k]? = some p ∧ u = .string p := by
          rw [List.getElem?_map] at hu
          cases hq : ls[k]? with
          | none => rw [hq] at hu; cases hu
          | some p => rw [hq] at hu; exact ⟨p, rfl, (Option.some.inj hu).symm⟩
        have hmk : (ls.map (·.data.toList))[k]? = some p.data.toList := by rw [List.getElem?_map, hp]; rfl
        have hlast : (ls.map (·.data.toList)).drop k = [p.data.toList] := by
          rw [drop_at hmk, List.drop_of_length_le (by rw [List.length_map, ← HNL.out]; exact Nat.le_refl _)]
        have hpp : parS s.data.toList = pgo acc [p.data.toList] := by rw [HP.out, hlast]
        have hbE := below_step hb1 hbo hb1.size
        clear hu hp hmk hlast HP
        by_cases hz : p.data.toList = []
        · have t0 : (p.toList == []) = true := by rw [list_none]; exact decide_eq_true hz
          rw [hz, pgo_end, HAK.out] at hpp
          obtain ⟨A', c', rfl, hr⟩ := own_slice ho
          clear ho hz
          by_cases h0 : lstErr acc = 0
          · rw [if_pos h0] at hpp
            have HB := hide hpp
            have HL0 := hide h0
            clear hpp h0
            go_wp2_with fail
            refine (rCheckSources_any A' k c' acc _ hr (by omega)).mono ?_
            rintro e w2 ⟨rfl, hb2⟩
            rw [HL0.out]
            have hr2 := carry hr hb2
            go_wp2_with fail
            go_ret3
            exact psPost_ok HB.out HAK.out rfl hr2 (below_step hbE hb2 hbE.size)
          · rw [if_neg h0] at hpp
            have HB := hide hpp
            have t9 : (lstErr acc != 0) = true := by simpa using h0
            clear hpp h0
            go_wp2_with fail
            refine (rCheckSources_any A' k c' acc _ hr (by omega)).mono ?_
            rintro e w2 ⟨rfl, hb2⟩
            go_wp2_with fail
            go_ret3
            exact psPost_bad HB.out rfl (below_step hbE hb2 hbE.size)
        · have t0 : (p.toList == []) = false := by rw [list_none]; exact decide_eq_false hz
          rw [pgo_last acc hz, HAK.out] at hpp
          have HB := hide hpp
          clear hpp hz
          go_wp2_with fail
          go_ret3
          exact psPost_bad HB.out rfl (hbE)
end Go.Proofs.YtcihiglpahhboaaGreatDoor
