/- The reference's Parse. -/
import Derived.Test.YtnndaipnfniciaaGreatDoorNParse
import Derived.Test.YtnndaipnfniciaaGreatDoorNRStr
import Derived.Test.YtnndaipnfniciaaGreatDoorBaseR
import Derived.Test.YtnndaipnfniciaaGreatDoorNRLad
namespace Go.Proofs.YtnndaipnfniciaaGreatDoor
open Go.RowKit Go.Shelf
set_option maxRecDepth 100000
set_option maxHeartbeats 4000000 in
theorem rParse_any (s : ByteArray) (w : World) : Calls Tryz.prog 79 #[.string s] w (PrPost s w) := by
  have hsz : s.size = s.data.toList.length := by simp
  by_cases h1 : 4096 < s.data.toList.length
  · have HB := hide (prs_long h1)
    have g1 : (4096 : Int) < (s.size : Int) := by omega
    clear h1 hsz
    go_enter Tryz.func79, Tryz.ntmps79
    go_wp2_with fail
    go_ret2
    exact prPost_bad HB.out rfl (Below.refl _ _)
  · have g1 : ¬ (4096 : Int) < (s.size : Int) := by omega
    have hs : s.size ≤ 1000000 := by omega
    by_cases h2 : s.data.toList = [119, 105, 114, 101]
    · have HB := hide (prs_wire h2)
      have t1 : (s.toList == [119, 105, 114, 101]) = true := by rw [list_wire]; exact decide_eq_true h2
      clear h1 h2 hsz
      go_enter Tryz.func79, Tryz.ntmps79
      go_wp2_with fail
      go_ret2
      exact prPost_bad HB.out rfl (Below.refl _ _)
    · have t1 : (s.toList == [119, 105, 114, 101]) = false := by rw [list_wire]; exact decide_eq_false h2
      have HBAD := hide (prs_bad h1 h2)
      have HLAD := hide (fun l => prs_lad (l := l) h1 h2)
      clear h1 h2 hsz
      go_enter Tryz.func79, Tryz.ntmps79
      go_wp2_with fail
      refine (qSplit_any s 32 w hs).mono ?_
      rintro e w1 ⟨Ap, cp, ps, hps, rfl, r1, hb1⟩
      have HPS := hide hps
      have hpl : ps.length ≤ 1000001 := by
        have h1 := spl_len 32 s.data.toList
        rw [← hps, List.length_map] at h1
        have := bsize s
        omega
      have hpz : ∀ p ∈ ps, p.size ≤ 1000000 := fun p hp => by
        have h1 := spl_mem 32 s.data.toList p.data.toList (by rw [← hps]; exact List.mem_map_of_mem hp)
        have : p.size = p.data.toList.length := by simp
        have : s.size = s.data.toList.length := by simp
        omega
      have HPZ := hide hpz
      clear hpz
      clear hps
      go_wp2_with fail
      go_loopw [4, 6] (fun o v wr => ∃ k : Nat, k ≤ ps.length ∧ v = .int .i64 k ∧ ∃ acc : List El, (ps.take k).map (fun p => pword p.data.toList) = acc.map some ∧ wr.ownsRow w1.heap.size 103 3 o k (els acc) ∧ Below w1.heap.size w1 wr) (fun _ v _ => ps.length - (intOf v).toNat)
      case atStart => exact ⟨0, by omega, rfl, [], rfl, by simp [els, World.ownsRow_nil], Below.refl _ _⟩
      case round =>
        rename World => wo
        obtain ⟨k, hk, rfl, acc, hacc, ho, hbo⟩ := hrel
        have HACC := hide hacc
        clear hacc
        by_cases hlt : k < ps.length
        · obtain ⟨ad, u, rfl, had, hu, hcu⟩ := (carry r1 hbo).at_ hlt
          obtain ⟨p, hp, rfl⟩ : ∃ p, ps[k]? = some p ∧ u = .string p := by
            rw [List.getElem?_map] at hu
            cases hq : ps[k]? with
            | none => rw [hq] at hu; cases hu
            | some p => rw [hq] at hu; exact ⟨p, rfl, (Option.some.inj hu).symm⟩
          have hsp := HPZ.out p (List.mem_of_getElem? hp)
          have HPK := hide hp
          clear hu hp
          go_wp2_with fail
          refine (qSplit_any p 58 _ hsp).mono ?_
          rintro e w2 ⟨Aq, cq', qs, hqs, rfl, r2, hb2⟩
          have hbw2 := below_next hbo hb2
          have ho2 := row_below ho hb2
          have hbAll : Below w.heap.size w w2 := below_next hb1 hbw2
          clear ho hcu had
          by_cases h3 : qs.length = 3
          · obtain ⟨a, b, c, rfl⟩ : ∃ a b c, qs = [a, b, c] := by
              match qs, h3 with
              | [a, b, c], _ => exact ⟨a, b, c, rfl⟩
            obtain ⟨ad, rfl, had2, cq⟩ := r2.2 (show 0 < ([a, b, c] : List ByteArray).length by simp)
            have q0 := cq 0 _ rfl
            have q1 := cq 1 _ rfl
            have q2 := cq 2 _ rfl
            have z0 : ad.add 0 = ad := by unfold Addr.add; rfl
            rw [z0] at q0
            rw [← add_off ad 1 (by decide)] at q1
            rw [← add_off ad 2 (by decide)] at q2
            clear cq
            have hqs' : spl 58 p.data.toList = [a.data.toList, b.data.toList, c.data.toList] := hqs.symm
            rw [show ([a, b, c] : List ByteArray).length = 3 from rfl]
            have t3 : ((3 : Int) != 3) = false := rfl
            by_cases ha : a.data.toList = []
            · have t4 : (a.toList == []) = true := by rw [list_none]; exact decide_eq_true ha
              rw [ha] at hqs'
              have HB := hide (HBAD.out (by rw [← HPS.out]; exact pws_none (k := k) (by rw [List.getElem?_map, HPK.out]; rfl) (pword_empty hqs')))
              clear ha hqs hqs' r2
              go_wp2_with fail
              go_ret2
              exact prPost_bad HB.out rfl (hbAll)
            · have t4 : (a.toList == []) = false := by rw [list_none]; exact decide_eq_false ha
              have hbz : b.size ≤ 1000000 := by
                have h1 := spl_mem 58 p.data.toList b.data.toList (by rw [hqs']; simp)
                have := bsize b
                have := bsize p
                omega
              have hcz : c.size ≤ 1000000 := by
                have h1 := spl_mem 58 p.data.toList c.data.toList (by rw [hqs']; simp)
                have := bsize c
                have := bsize p
                omega
              have HA := hide ha
              have HQ := hide hqs'
              clear ha hqs hqs' r2 h3
              have bad : Hid (num b.data.toList = none ∨ num c.data.toList = none → prs s.data.toList = ([], 26)) := fun q => HBAD.out (by rw [← HPS.out]; exact pws_none (k := k) (by rw [List.getElem?_map, HPK.out]; rfl) (pword_wrong HQ.out q))
              cases hnb : num b.data.toList with
              | none =>
                have HB := hide (bad.out (.inl hnb))
                cases hnc : num c.data.toList with
                | none =>
                  go_wp2_with fail
                  refine (qNumber_any b _ hbz).mono ?_
                  rintro e W1 ⟨rfl, hW1⟩
                  rw [hW1]
                  clear hW1 W1
                  rw [hnb]
                  simp only [Option.isSome_none, Option.getD_none]
                  go_wp2_with fail
                  refine (qNumber_any c _ hcz).mono ?_
                  rintro e W2 ⟨rfl, hW2⟩
                  rw [hW2]
                  clear hW2 W2
                  rw [hnc]
                  simp only [Option.isSome_none, Option.getD_none]
                  have HB5 := hide hnb
                  have HC5 := hide hnc
                  clear hnb hnc
                  go_wp2_with fail
                  go_ret2
                  exact prPost_bad HB.out rfl (hbAll)
                | some y =>
                  go_wp2_with fail
                  refine (qNumber_any b _ hbz).mono ?_
                  rintro e W1 ⟨rfl, hW1⟩
                  rw [hW1]
                  clear hW1 W1
                  rw [hnb]
                  simp only [Option.isSome_none, Option.getD_none]
                  go_wp2_with fail
                  refine (qNumber_any c _ hcz).mono ?_
                  rintro e W2 ⟨rfl, hW2⟩
                  rw [hW2]
                  clear hW2 W2
                  rw [hnc]
                  simp only [Option.isSome_some, Option.getD_some]
                  have HB5 := hide hnb
                  have HC5 := hide hnc
                  clear hnb hnc
                  go_wp2_with fail
                  go_ret2
                  exact prPost_bad HB.out rfl (hbAll)
              | some x =>
                cases hnc : num c.data.toList with
                | none =>
                  have HB := hide (bad.out (.inr hnc))
                  go_wp2_with fail
                  refine (qNumber_any b _ hbz).mono ?_
                  rintro e W1 ⟨rfl, hW1⟩
                  rw [hW1]
                  clear hW1 W1
                  rw [hnb]
                  simp only [Option.isSome_some, Option.getD_some]
                  go_wp2_with fail
                  refine (qNumber_any c _ hcz).mono ?_
                  rintro e W2 ⟨rfl, hW2⟩
                  rw [hW2]
                  clear hW2 W2
                  rw [hnc]
                  simp only [Option.isSome_none, Option.getD_none]
                  have HB5 := hide hnb
                  have HC5 := hide hnc
                  clear hnb hnc
                  go_wp2_with fail
                  go_ret2
                  exact prPost_bad HB.out rfl (hbAll)
                | some y =>
                  go_wp2_with fail
                  refine (qNumber_any b _ hbz).mono ?_
                  rintro e W1 ⟨rfl, hW1⟩
                  rw [hW1]
                  clear hW1 W1
                  rw [hnb]
                  simp only [Option.isSome_some, Option.getD_some]
                  go_wp2_with fail
                  refine (qNumber_any c _ hcz).mono ?_
                  rintro e W2 ⟨rfl, hW2⟩
                  rw [hW2]
                  clear hW2 W2
                  rw [hnc]
                  simp only [Option.isSome_some, Option.getD_some]
                  have HB5 := hide hnb
                  have HC5 := hide hnc
                  clear hnb hnc
                  have hel : pword p.data.toList = some ⟨a, x, y⟩ := pword_right HQ.out HA.out HB5.out HC5.out
                  have hac : (ps.take (k + 1)).map (fun p => pword p.data.toList) = (acc ++ [(⟨a, x, y⟩ : El)]).map some := by
                    rw [List.take_add_one, HPK.out, List.map_append, HACC.out, List.map_append]
                    simp [hel]
                  have HAC := hide hac
                  have hsz := hbw2.size
                  have A1 : k + 1 ≤ maxLen := by unfold maxLen; omega
                  have A2 : (k + 1) * 32 ≤ 140737488355328 := by omega
                  clear hel hac bad
                  go_wp2_with (at_builtin; refine wpList_push _ rfl (.tmp 60) (.tmp 67) _ rfl w1.heap.size 103 _ 3 32 Tryz.underlying42 info_elR rfl (by decide) _ k _ rfl (ho2.alloc _) w2.heap.size (elCells ⟨a, x, y⟩) rfl rfl (cells_new _ _ _) (one_el _) A1 A2 (le_alloc hsz _) ?_; intro v1 wb ho6 hb6)
                  rw [← els_snoc] at ho6
                  have hbw6 := (hbw2.alloc hsz _).trans hb6
                  clear ho2
                  go_roundw
                  case rel =>
                    first
                      | exact ⟨k + 1, by omega, by go_num, _, HAC.out, ho6, hbw6⟩
                      | ((repeat (apply Exists.intro)); refine ⟨?_, rfl⟩; exact ⟨k + 1, by omega, by go_num, _, HAC.out, ho6, hbw6⟩)
                  case measure => simp [intOf]; omega
          · have hw := pword_len hqs.symm (by rw [List.length_map]; exact h3)
            have HB := hide (HBAD.out (by rw [← HPS.out]; exact pws_none (k := k) (by rw [List.getElem?_map, HPK.out]; rfl) hw))
            have t3 : ((qs.length : Int) != 3) = true := by simp; omega
            clear hw h3 hqs r2
            go_wp2_with fail
            go_ret2
            exact prPost_bad HB.out rfl (hbAll)
        · obtain rfl : k = ps.length := by omega
          have hall : pws (spl 32 s.data.toList) = some acc := by
            refine pws_all ?_
            have := HACC.out
            rw [List.take_of_length_le (Nat.le_refl _)] at this
            rw [← HPS.out, List.map_map]
            exact this
          have hlen : acc.length = ps.length := by
            have := pws_len hall
            rw [← HPS.out, List.length_map] at this
            exact this
          have hp := HLAD.out acc hall
          obtain ⟨A', c', rfl, hr⟩ := own_slice ho
          have hbE := below_next hb1 hbo
          have HLEN := hide hlen
          clear hall hlen ho
          by_cases h0 : ladErr acc = 0
          · rw [if_pos h0] at hp
            have HB := hide hp
            have HL0 := hide h0
            clear hp h0
            go_wp2_with fail
            refine (rCheckLadder_all A' ps.length c' acc _ hr).mono ?_
            rintro e w2 ⟨rfl, hb2⟩
            rw [HL0.out]
            have hr2 := carry hr hb2
            go_wp2_with fail
            go_ret2
            unfold PrPost
            rw [HB.out]
            simp only [HLEN.out]
            exact ⟨A', c', rfl, hr2, below_next hbE hb2⟩
          · rw [if_neg h0] at hp
            have HB := hide hp
            have t9 : (ladErr acc != 0) = true := by simpa using h0
            clear hp h0
            go_wp2_with fail
            refine (rCheckLadder_all A' ps.length c' acc _ hr).mono ?_
            rintro e w2 ⟨rfl, hb2⟩
            go_wp2_with fail
            go_ret2
            exact prPost_bad HB.out rfl (below_next hbE hb2)
end Go.Proofs.YtnndaipnfniciaaGreatDoor
