/- The program's Parse. -/
import Derived.Test.YtnndaipnfniciaaGreatDoorNTaker
import Derived.Test.YtnndaipnfniciaaGreatDoorNParP
import Derived.Test.YtnndaipnfniciaaGreatDoorBaseS
import Derived.Test.YtnndaipnfniciaaGreatDoorNRev
namespace Go.Proofs.YtnndaipnfniciaaGreatDoor
open Go.RowKit Go.Shelf
set_option maxRecDepth 100000
theorem list_wire (k : ByteArray) : (k.toList == [119, 105, 114, 101]) = decide (k.data.toList = [119, 105, 114, 101]) := by
  have h := toList_beq k { data := #[119, 105, 114, 101] }
  rw [show ({ data := #[119, 105, 114, 101] } : ByteArray).toList = [119, 105, 114, 101] from by rw [ByteArray.toList_eq]] at h
  rw [h]
  congr 1
  apply propext
  constructor
  · intro e; rw [e]
  · intro e
    have : k = ⟨k.data.toList.toArray⟩ := by simp
    rw [this, e]
theorem list_none (k : ByteArray) : (k.toList == []) = decide (k.data.toList = []) := by
  have h := toList_beq k ⟨#[]⟩
  rw [show (⟨#[]⟩ : ByteArray).toList = [] from by rw [ByteArray.toList_eq]] at h
  rw [h]
  congr 1
  apply propext
  constructor
  · intro e; rw [e]
  · intro e
    have : k = ⟨k.data.toList.toArray⟩ := by simp
    rw [this, e]
theorem add_lit (g j : Nat) : (⟨g, 0, none⟩ : Addr).add j = ⟨g, j, none⟩ := by unfold Addr.add; split <;> simp_all
theorem bsize (s : ByteArray) : s.size = s.data.toList.length := by simp
/-- What a parse returns. -/
def PrPost (s : ByteArray) (w : World) (e : Ending) (w' : World) : Prop :=
  ∃ A c, e = .returned (.tuple #[.slice A (prs s.data.toList).1.length c, .int .i64 (prs s.data.toList).2]) ∧ Reads w' w'.heap.size 3 A (prs s.data.toList).1.length (els (prs s.data.toList).1) ∧ Below w.heap.size w w'
theorem prPost_bad {s : ByteArray} {w w' : World} {e : Ending} {E : Int} (h : prs s.data.toList = ([], E)) (he : e = .returned (.tuple #[.slice none 0 0, .int .i64 E])) (hb : Below w.heap.size w w') : PrPost s w e w' := by
  unfold PrPost
  rw [h]
  exact ⟨none, 0, he, Reads.none_, hb⟩
set_option maxHeartbeats 4000000 in
theorem Parse_any (s : ByteArray) (w : World) (hT : TxV w) : Calls Tryz.prog 77 #[.string s] w (PrPost s w) := by
  have hsz : s.size = s.data.toList.length := by simp
  by_cases h1 : 4096 < s.data.toList.length
  · have HB := hide (prs_long h1)
    have g1 : (4096 : Int) < (s.size : Int) := by omega
    clear h1 hsz
    go_enter Tryz.func77, Tryz.ntmps77
    go_wp2_with fail
    go_ret2
    exact prPost_bad HB.out rfl (Below.refl _ _)
  · have g1 : ¬ (4096 : Int) < (s.size : Int) := by omega
    have hs : s.size ≤ 1000000 := by omega
    by_cases h2 : s.data.toList = [119, 105, 114, 101]
    · have HB := hide (prs_wire h2)
      have t1 : (s.toList == [119, 105, 114, 101]) = true := by rw [list_wire]; exact decide_eq_true h2
      clear h1 h2 hsz
      go_enter Tryz.func77, Tryz.ntmps77
      go_wp2_with fail
      go_ret2
      exact prPost_bad HB.out rfl (Below.refl _ _)
    · have t1 : (s.toList == [119, 105, 114, 101]) = false := by rw [list_wire]; exact decide_eq_false h2
      have HBAD := hide (prs_bad h1 h2)
      have HLAD := hide (fun l => prs_lad (l := l) h1 h2)
      clear h1 h2 hsz
      go_enter Tryz.func77, Tryz.ntmps77
      go_wp2_with fail
      refine (split_any s 32 w hT hs).mono ?_
      rintro e w1 ⟨ps, hps, rfl, r1, hb1⟩
      have hT1 := hT.carry hb1
      have HPS := hide hps
      have hpl : ps.length ≤ 1000001 := by
        have h1 := spl_len 32 s.data.toList
        rw [← hps, List.length_map] at h1
        have := bsize s
        omega
      have hpz : ∀ p ∈ ps, p.size ≤ 1000000 := fun p hp => by
        have h1 := spl_mem 32 s.data.toList p.data.toList (by rw [← hps]; exact List.mem_map_of_mem hp)
        have : p.size = p.data.toList.length := by simp
        have : s.size = s.data.toList.length := by simp
        omega
      have HPZ := hide hpz
      clear hpz
      clear hps
      go_wp2_with fail
      go_loopw [4, 20] (fun o v wr => ∃ k : Nat, k ≤ ps.length ∧ v = .int .i64 k ∧ ∃ acc : List El, (ps.take k).map (fun p => pword p.data.toList) = acc.map some ∧ wr.ownsRow w1.heap.size 104 3 o k (els acc) ∧ Below w1.heap.size w1 wr) (fun _ v _ => ps.length - (intOf v).toNat)
      case atStart => exact ⟨0, by omega, rfl, [], rfl, by simp [els, World.ownsRow_nil], Below.refl _ _⟩
      case round =>
        rename World => wo
        obtain ⟨k, hk, rfl, acc, hacc, ho, hbo⟩ := hrel
        have HACC := hide hacc
        clear hacc
        by_cases hlt : k < ps.length
        · obtain ⟨ad, u, e0, _, hu, hcu⟩ := (carry r1 hbo).at_ hlt
          cases e0
          obtain ⟨p, hp, rfl⟩ : ∃ p, ps[k]? = some p ∧ u = .string p := by
            rw [List.getElem?_map] at hu
            cases hq : ps[k]? with
            | none => rw [hq] at hu; cases hu
            | some p => rw [hq] at hu; exact ⟨p, rfl, (Option.some.inj hu).symm⟩
          have hsp := HPZ.out p (List.mem_of_getElem? hp)
          have HPK := hide hp
          rw [add_lit] at hcu
          clear hu hp
          go_wp2_with fail
          refine (split_any p 58 _ (hT1.carry hbo) hsp).mono ?_
          rintro e w2 ⟨qs, hqs, rfl, r2, hb2⟩
          have hbw2 := below_next hbo hb2
          have ho2 := row_below ho hb2
          have hbAll : Below w.heap.size w w2 := below_next hb1 hbw2
          clear ho hcu
          by_cases h3 : qs.length = 3
          · obtain ⟨a, b, c, rfl⟩ : ∃ a b c, qs = [a, b, c] := by
              match qs, h3 with
              | [a, b, c], _ => exact ⟨a, b, c, rfl⟩
            obtain ⟨ad, e2, had2, cq⟩ := r2.2 (show 0 < ([a, b, c] : List ByteArray).length by simp)
            cases e2
            have q0 := cq 0 _ rfl
            have q1 := cq 1 _ rfl
            have q2 := cq 2 _ rfl
            rw [add_lit] at q0 q1 q2
            clear cq
            have hqs' : spl 58 p.data.toList = [a.data.toList, b.data.toList, c.data.toList] := hqs.symm
            obtain ⟨g2, hg2⟩ : ∃ g, wo.heap.size = g := ⟨_, rfl⟩
            have hg2l : g2 < w2.heap.size := by rw [← hg2]; exact had2
            clear had2
            rw [show ([a, b, c] : List ByteArray).length = 3 from rfl]
            have t3 : ((3 : Int) != 3) = false := rfl
            by_cases ha : a.data.toList = []
            · have t4 : (a.toList == []) = true := by rw [list_none]; exact decide_eq_true ha
              rw [ha] at hqs'
              have HB := hide (HBAD.out (by rw [← HPS.out]; exact pws_none (k := k) (by rw [List.getElem?_map, HPK.out]; rfl) (pword_empty hqs')))
              clear ha hqs hqs' r2 hg2 hg2l
              go_wp2_with fail
              go_ret2
              exact prPost_bad HB.out rfl (hbAll)
            · have t4 : (a.toList == []) = false := by rw [list_none]; exact decide_eq_false ha
              rw [hg2] at q0 q1 q2 ⊢
              go_upto_region 13 with (fail)
              obtain ⟨w3, e3, hb3, hz3, kT⟩ := box1 w2 #[.slice (some ⟨g2, 1, none⟩) 2 2, .bool false] 178
              rw [← e3]; clear e3
              have q0' := (hb3.cell (p := ⟨g2, 0, none⟩) hg2l).trans q0
              have q1' := (hb3.cell (p := ⟨g2, 1, none⟩) hg2l).trans q1
              have q2' := (hb3.cell (p := ⟨g2, 2, none⟩) hg2l).trans q2
              clear q0 q1
              go_upto_region 15 with (fail)
              obtain ⟨w4, e4, hb4, hz4, kX⟩ := box1 w3 #[.string a, .int .i64 0, .int .i64 0] 104
              rw [← e4]; clear e4
              have hbz : b.size ≤ 1000000 := by
                have h1 := spl_mem 58 p.data.toList b.data.toList (by rw [hqs']; simp)
                have := bsize b
                have := bsize p
                omega
              have hcz : c.size ≤ 1000000 := by
                have h1 := spl_mem 58 p.data.toList c.data.toList (by rw [hqs']; simp)
                have := bsize c
                have := bsize p
                omega
              have HA := hide ha
              have HQ := hide hqs'
              clear ha hqs hqs' r2 hg2 q0' h3
              have bad : Hid (num b.data.toList = none ∨ num c.data.toList = none → prs s.data.toList = ([], 26)) := fun q => HBAD.out (by rw [← HPS.out]; exact pws_none (k := k) (by rw [List.getElem?_map, HPK.out]; rfl) (pword_wrong HQ.out q))
              cases hnb : num b.data.toList with
              | none =>
                have HB := hide (bad.out (.inl hnb))
                cases hnc : num c.data.toList with
                | none =>
                  have N2 := fun W hT hk hcell => number2 w2.heap.size ⟨g2, 1, none⟩ false b W hT hk hcell hbz
                  have N1 := fun W hT hk hcell => number1 w2.heap.size ⟨g2, 2, none⟩ true c W hT hk hcell hcz
                  rw [hnb] at N2
                  rw [hnc] at N1
                  simp only [Option.isSome_none, Bool.not_false, Bool.or_true] at N2 N1
                  have HN2 := hide N2
                  have HN1 := hide N1
                  have HB5 := hide hnb
                  have HC5 := hide hnc
                  clear N2 N1 hnb hnc
                  go_wp2_with fail
                  refine (HN2.out w4 (hT1.carry (by repeat (first | with_reducible assumption | exact Below.refl _ _ | refine below_next (by with_reducible assumption) ?_))) (carryK kT hb4) ((hb4.cell (p := ⟨g2, 1, none⟩) (Nat.lt_of_lt_of_le hg2l hb3.size)).trans q1')).mono ?_
                  rintro e w' ⟨v, w5, rfl, hv, hb5, rfl⟩
                  have HV := hide hv
                  have kT5 := carryK (carryK kT hb4) hb5
                  have kX5 := carryK kX hb5
                  have hne : w3.heap.size ≠ w2.heap.size := by have := hz3; omega
                  have hb25 : Below w2.heap.size w2 w5 := below_next hb3 (below_next hb4 hb5)
                  have hb35 : Below w3.heap.size w3 w5 := below_next hb4 hb5
                  have kT6 : Blk _ w2.heap.size 178 #[.slice (some ⟨g2, 2, none⟩) 1 1, .bool true] := blk2 (u0 := .slice (some ⟨g2, 2, none⟩) 1 1) (u1 := .bool true) kT5
                  have kX6 := far2 (u0 := .slice (some ⟨g2, 2, none⟩) 1 1) (u1 := .bool true) kX5 hne
                  have hb26 := below2 (u0 := .slice (some ⟨g2, 2, none⟩) 1 1) (u1 := .bool true) hb25 (Nat.le_refl w2.heap.size)
                  obtain ⟨w6, e6⟩ : ∃ W, W = (w5.setCell ⟨w2.heap.size, 0, none⟩ (.slice (some ⟨g2, 2, none⟩) 1 1)).setCell ⟨w2.heap.size, 1, none⟩ (.bool true) := ⟨_, rfl⟩
                  rw [← e6] at kT6 kX6 hb26
                  rw [show ((w5.setCell ⟨w2.heap.size, 0, none⟩ (.slice (some ((⟨g2, 1, none⟩ : Addr).add 1)) 1 1)).setCell ⟨w2.heap.size, 1, none⟩ (.bool true)) = w6 from e6.symm]
                  clear e6 hv kT5 kX5 kT kX hb25 hb35
                  have hX0 : w2.heap.size ≤ w3.heap.size := by omega
                  have cX := kX6.cell
                  have fX := kX6.frozen
                  go_wp2_with fail
                  have kX7 := kX6.set_ 1 (.int .i64 v)
                  have kT7 := kT6.far (p := ⟨w3.heap.size, 1, none⟩) (fun q => hne q.symm) (.int .i64 v)
                  have hb27 := below_set (i := 1) hb26 hX0 (.int .i64 v)
                  have q27 := fun W (h : Below w2.heap.size w2 W) => (h.cell (p := ⟨g2, 2, none⟩) hg2l).trans q2
                  generalize World.setCell w6 _ _ = w7 at kX7 kT7 hb27 ⊢
                  clear cX fX kX6 kT6 hb26
                  have kX7 : Blk w7 w3.heap.size 104 #[.string a, .int .i64 v, .int .i64 0] := kX7
                  refine (HN1.out w7 (hT1.carry (below_next hbw2 hb27)) kT7 (q27 _ hb27)).mono ?_
                  rintro e w' ⟨u, w8, rfl, hu, hb8, rfl⟩
                  have HU := hide hu
                  have kT8 := carryK kT7 hb8
                  have kX8 := carryK kX7 hb8
                  have hb28 := below_next hb27 hb8
                  have kT9 : Blk _ w2.heap.size 178 #[.slice (some ⟨g2, 2, none⟩) 0 0, .bool true] := blk2 (u0 := .slice (some ⟨g2, 2, none⟩) 0 0) (u1 := .bool true) kT8
                  have kX9 := far2 (u0 := .slice (some ⟨g2, 2, none⟩) 0 0) (u1 := .bool true) kX8 hne
                  have hb29 := below2 (u0 := .slice (some ⟨g2, 2, none⟩) 0 0) (u1 := .bool true) hb28 (Nat.le_refl w2.heap.size)
                  generalize World.setCell (World.setCell w8 _ _) _ _ = w9 at kT9 kX9 hb29 ⊢
                  clear kT8 kX8 kT7 kX7 hb27 hb28 hu
                  have cX := kX9.cell
                  have fX := kX9.frozen
                  go_upto_region 17 with (fail)
                  have kXA := kX9.set_ 2 (.int .i64 u)
                  have kTA := kT9.far (p := ⟨w3.heap.size, 2, none⟩) (fun q => hne q.symm) (.int .i64 u)
                  have hb2A := below_set (i := 2) hb29 hX0 (.int .i64 u)
                  generalize World.setCell w9 _ _ = wa at kXA kTA hb2A ⊢
                  have kXA : Blk wa w3.heap.size 104 #[.string a, .int .i64 v, .int .i64 u] := kXA
                  clear cX fX kX9 kT9 hb29
                  have cT := kTA.cell
                  go_wp2_with fail
                  go_ret2
                  exact prPost_bad HB.out rfl (below_next hbAll hb2A)
                | some y =>
                  have N2 := fun W hT hk hcell => number2 w2.heap.size ⟨g2, 1, none⟩ false b W hT hk hcell hbz
                  have N1 := fun W hT hk hcell => number1 w2.heap.size ⟨g2, 2, none⟩ true c W hT hk hcell hcz
                  rw [hnb] at N2
                  rw [hnc] at N1
                  simp only [Option.isSome_some, Option.isSome_none, Bool.not_true, Bool.not_false, Bool.or_false, Bool.or_true] at N2 N1
                  have HN2 := hide N2
                  have HN1 := hide N1
                  have HB5 := hide hnb
                  have HC5 := hide hnc
                  clear N2 N1 hnb hnc
                  go_wp2_with fail
                  refine (HN2.out w4 (hT1.carry (by repeat (first | with_reducible assumption | exact Below.refl _ _ | refine below_next (by with_reducible assumption) ?_))) (carryK kT hb4) ((hb4.cell (p := ⟨g2, 1, none⟩) (Nat.lt_of_lt_of_le hg2l hb3.size)).trans q1')).mono ?_
                  rintro e w' ⟨v, w5, rfl, hv, hb5, rfl⟩
                  have HV := hide hv
                  have kT5 := carryK (carryK kT hb4) hb5
                  have kX5 := carryK kX hb5
                  have hne : w3.heap.size ≠ w2.heap.size := by have := hz3; omega
                  have hb25 : Below w2.heap.size w2 w5 := below_next hb3 (below_next hb4 hb5)
                  have hb35 : Below w3.heap.size w3 w5 := below_next hb4 hb5
                  have kT6 : Blk _ w2.heap.size 178 #[.slice (some ⟨g2, 2, none⟩) 1 1, .bool true] := blk2 (u0 := .slice (some ⟨g2, 2, none⟩) 1 1) (u1 := .bool true) kT5
                  have kX6 := far2 (u0 := .slice (some ⟨g2, 2, none⟩) 1 1) (u1 := .bool true) kX5 hne
                  have hb26 := below2 (u0 := .slice (some ⟨g2, 2, none⟩) 1 1) (u1 := .bool true) hb25 (Nat.le_refl w2.heap.size)
                  obtain ⟨w6, e6⟩ : ∃ W, W = (w5.setCell ⟨w2.heap.size, 0, none⟩ (.slice (some ⟨g2, 2, none⟩) 1 1)).setCell ⟨w2.heap.size, 1, none⟩ (.bool true) := ⟨_, rfl⟩
                  rw [← e6] at kT6 kX6 hb26
                  rw [show ((w5.setCell ⟨w2.heap.size, 0, none⟩ (.slice (some ((⟨g2, 1, none⟩ : Addr).add 1)) 1 1)).setCell ⟨w2.heap.size, 1, none⟩ (.bool true)) = w6 from e6.symm]
                  clear e6 hv kT5 kX5 kT kX hb25 hb35
                  have hX0 : w2.heap.size ≤ w3.heap.size := by omega
                  have cX := kX6.cell
                  have fX := kX6.frozen
                  go_wp2_with fail
                  have kX7 := kX6.set_ 1 (.int .i64 v)
                  have kT7 := kT6.far (p := ⟨w3.heap.size, 1, none⟩) (fun q => hne q.symm) (.int .i64 v)
                  have hb27 := below_set (i := 1) hb26 hX0 (.int .i64 v)
                  have q27 := fun W (h : Below w2.heap.size w2 W) => (h.cell (p := ⟨g2, 2, none⟩) hg2l).trans q2
                  generalize World.setCell w6 _ _ = w7 at kX7 kT7 hb27 ⊢
                  clear cX fX kX6 kT6 hb26
                  have kX7 : Blk w7 w3.heap.size 104 #[.string a, .int .i64 v, .int .i64 0] := kX7
                  refine (HN1.out w7 (hT1.carry (below_next hbw2 hb27)) kT7 (q27 _ hb27)).mono ?_
                  rintro e w' ⟨u, w8, rfl, hu, hb8, rfl⟩
                  have HU := hide hu
                  have kT8 := carryK kT7 hb8
                  have kX8 := carryK kX7 hb8
                  have hb28 := below_next hb27 hb8
                  have kT9 : Blk _ w2.heap.size 178 #[.slice (some ⟨g2, 2, none⟩) 0 0, .bool true] := blk2 (u0 := .slice (some ⟨g2, 2, none⟩) 0 0) (u1 := .bool true) kT8
                  have kX9 := far2 (u0 := .slice (some ⟨g2, 2, none⟩) 0 0) (u1 := .bool true) kX8 hne
                  have hb29 := below2 (u0 := .slice (some ⟨g2, 2, none⟩) 0 0) (u1 := .bool true) hb28 (Nat.le_refl w2.heap.size)
                  generalize World.setCell (World.setCell w8 _ _) _ _ = w9 at kT9 kX9 hb29 ⊢
                  clear kT8 kX8 kT7 kX7 hb27 hb28 hu
                  have cX := kX9.cell
                  have fX := kX9.frozen
                  go_upto_region 17 with (fail)
                  have kXA := kX9.set_ 2 (.int .i64 u)
                  have kTA := kT9.far (p := ⟨w3.heap.size, 2, none⟩) (fun q => hne q.symm) (.int .i64 u)
                  have hb2A := below_set (i := 2) hb29 hX0 (.int .i64 u)
                  generalize World.setCell w9 _ _ = wa at kXA kTA hb2A ⊢
                  have kXA : Blk wa w3.heap.size 104 #[.string a, .int .i64 v, .int .i64 u] := kXA
                  clear cX fX kX9 kT9 hb29
                  have cT := kTA.cell
                  go_wp2_with fail
                  go_ret2
                  exact prPost_bad HB.out rfl (below_next hbAll hb2A)
              | some x =>
                cases hnc : num c.data.toList with
                | none =>
                  have HB := hide (bad.out (.inr hnc))
                  have N2 := fun W hT hk hcell => number2 w2.heap.size ⟨g2, 1, none⟩ false b W hT hk hcell hbz
                  have N1 := fun W hT hk hcell => number1 w2.heap.size ⟨g2, 2, none⟩ false c W hT hk hcell hcz
                  rw [hnb] at N2
                  rw [hnc] at N1
                  simp only [Option.isSome_some, Option.isSome_none, Bool.not_true, Bool.not_false, Bool.or_false, Bool.or_true] at N2 N1
                  have HN2 := hide N2
                  have HN1 := hide N1
                  have HB5 := hide hnb
                  have HC5 := hide hnc
                  clear N2 N1 hnb hnc
                  go_wp2_with fail
                  refine (HN2.out w4 (hT1.carry (by repeat (first | with_reducible assumption | exact Below.refl _ _ | refine below_next (by with_reducible assumption) ?_))) (carryK kT hb4) ((hb4.cell (p := ⟨g2, 1, none⟩) (Nat.lt_of_lt_of_le hg2l hb3.size)).trans q1')).mono ?_
                  rintro e w' ⟨v, w5, rfl, hv, hb5, rfl⟩
                  have HV := hide hv
                  have kT5 := carryK (carryK kT hb4) hb5
                  have kX5 := carryK kX hb5
                  have hne : w3.heap.size ≠ w2.heap.size := by have := hz3; omega
                  have hb25 : Below w2.heap.size w2 w5 := below_next hb3 (below_next hb4 hb5)
                  have hb35 : Below w3.heap.size w3 w5 := below_next hb4 hb5
                  have kT6 : Blk _ w2.heap.size 178 #[.slice (some ⟨g2, 2, none⟩) 1 1, .bool false] := blk2 (u0 := .slice (some ⟨g2, 2, none⟩) 1 1) (u1 := .bool false) kT5
                  have kX6 := far2 (u0 := .slice (some ⟨g2, 2, none⟩) 1 1) (u1 := .bool false) kX5 hne
                  have hb26 := below2 (u0 := .slice (some ⟨g2, 2, none⟩) 1 1) (u1 := .bool false) hb25 (Nat.le_refl w2.heap.size)
                  obtain ⟨w6, e6⟩ : ∃ W, W = (w5.setCell ⟨w2.heap.size, 0, none⟩ (.slice (some ⟨g2, 2, none⟩) 1 1)).setCell ⟨w2.heap.size, 1, none⟩ (.bool false) := ⟨_, rfl⟩
                  rw [← e6] at kT6 kX6 hb26
                  rw [show ((w5.setCell ⟨w2.heap.size, 0, none⟩ (.slice (some ((⟨g2, 1, none⟩ : Addr).add 1)) 1 1)).setCell ⟨w2.heap.size, 1, none⟩ (.bool false)) = w6 from e6.symm]
                  clear e6 hv kT5 kX5 kT kX hb25 hb35
                  have hX0 : w2.heap.size ≤ w3.heap.size := by omega
                  have cX := kX6.cell
                  have fX := kX6.frozen
                  go_wp2_with fail
                  have kX7 := kX6.set_ 1 (.int .i64 v)
                  have kT7 := kT6.far (p := ⟨w3.heap.size, 1, none⟩) (fun q => hne q.symm) (.int .i64 v)
                  have hb27 := below_set (i := 1) hb26 hX0 (.int .i64 v)
                  have q27 := fun W (h : Below w2.heap.size w2 W) => (h.cell (p := ⟨g2, 2, none⟩) hg2l).trans q2
                  generalize World.setCell w6 _ _ = w7 at kX7 kT7 hb27 ⊢
                  clear cX fX kX6 kT6 hb26
                  have kX7 : Blk w7 w3.heap.size 104 #[.string a, .int .i64 v, .int .i64 0] := kX7
                  refine (HN1.out w7 (hT1.carry (below_next hbw2 hb27)) kT7 (q27 _ hb27)).mono ?_
                  rintro e w' ⟨u, w8, rfl, hu, hb8, rfl⟩
                  have HU := hide hu
                  have kT8 := carryK kT7 hb8
                  have kX8 := carryK kX7 hb8
                  have hb28 := below_next hb27 hb8
                  have kT9 : Blk _ w2.heap.size 178 #[.slice (some ⟨g2, 2, none⟩) 0 0, .bool true] := blk2 (u0 := .slice (some ⟨g2, 2, none⟩) 0 0) (u1 := .bool true) kT8
                  have kX9 := far2 (u0 := .slice (some ⟨g2, 2, none⟩) 0 0) (u1 := .bool true) kX8 hne
                  have hb29 := below2 (u0 := .slice (some ⟨g2, 2, none⟩) 0 0) (u1 := .bool true) hb28 (Nat.le_refl w2.heap.size)
                  generalize World.setCell (World.setCell w8 _ _) _ _ = w9 at kT9 kX9 hb29 ⊢
                  clear kT8 kX8 kT7 kX7 hb27 hb28 hu
                  have cX := kX9.cell
                  have fX := kX9.frozen
                  go_upto_region 17 with (fail)
                  have kXA := kX9.set_ 2 (.int .i64 u)
                  have kTA := kT9.far (p := ⟨w3.heap.size, 2, none⟩) (fun q => hne q.symm) (.int .i64 u)
                  have hb2A := below_set (i := 2) hb29 hX0 (.int .i64 u)
                  generalize World.setCell w9 _ _ = wa at kXA kTA hb2A ⊢
                  have kXA : Blk wa w3.heap.size 104 #[.string a, .int .i64 v, .int .i64 u] := kXA
                  clear cX fX kX9 kT9 hb29
                  have cT := kTA.cell
                  go_wp2_with fail
                  go_ret2
                  exact prPost_bad HB.out rfl (below_next hbAll hb2A)
                | some y =>
                  have N2 := fun W hT hk hcell => number2 w2.heap.size ⟨g2, 1, none⟩ false b W hT hk hcell hbz
                  have N1 := fun W hT hk hcell => number1 w2.heap.size ⟨g2, 2, none⟩ false c W hT hk hcell hcz
                  rw [hnb] at N2
                  rw [hnc] at N1
                  simp only [Option.isSome_some, Bool.not_true, Bool.or_false] at N2 N1
                  have HN2 := hide N2
                  have HN1 := hide N1
                  have HB5 := hide hnb
                  have HC5 := hide hnc
                  clear N2 N1 hnb hnc
                  go_wp2_with fail
                  refine (HN2.out w4 (hT1.carry (by repeat (first | with_reducible assumption | exact Below.refl _ _ | refine below_next (by with_reducible assumption) ?_))) (carryK kT hb4) ((hb4.cell (p := ⟨g2, 1, none⟩) (Nat.lt_of_lt_of_le hg2l hb3.size)).trans q1')).mono ?_
                  rintro e w' ⟨v, w5, rfl, hv, hb5, rfl⟩
                  have HV := hide hv
                  have kT5 := carryK (carryK kT hb4) hb5
                  have kX5 := carryK kX hb5
                  have hne : w3.heap.size ≠ w2.heap.size := by have := hz3; omega
                  have hb25 : Below w2.heap.size w2 w5 := below_next hb3 (below_next hb4 hb5)
                  have hb35 : Below w3.heap.size w3 w5 := below_next hb4 hb5
                  have kT6 : Blk _ w2.heap.size 178 #[.slice (some ⟨g2, 2, none⟩) 1 1, .bool false] := blk2 (u0 := .slice (some ⟨g2, 2, none⟩) 1 1) (u1 := .bool false) kT5
                  have kX6 := far2 (u0 := .slice (some ⟨g2, 2, none⟩) 1 1) (u1 := .bool false) kX5 hne
                  have hb26 := below2 (u0 := .slice (some ⟨g2, 2, none⟩) 1 1) (u1 := .bool false) hb25 (Nat.le_refl w2.heap.size)
                  obtain ⟨w6, e6⟩ : ∃ W, W = (w5.setCell ⟨w2.heap.size, 0, none⟩ (.slice (some ⟨g2, 2, none⟩) 1 1)).setCell ⟨w2.heap.size, 1, none⟩ (.bool false) := ⟨_, rfl⟩
                  rw [← e6] at kT6 kX6 hb26
                  rw [show ((w5.setCell ⟨w2.heap.size, 0, none⟩ (.slice (some ((⟨g2, 1, none⟩ : Addr).add 1)) 1 1)).setCell ⟨w2.heap.size, 1, none⟩ (.bool false)) = w6 from e6.symm]
                  clear e6 hv kT5 kX5 kT kX hb25 hb35
                  have hX0 : w2.heap.size ≤ w3.heap.size := by omega
                  have cX := kX6.cell
                  have fX := kX6.frozen
                  go_wp2_with fail
                  have kX7 := kX6.set_ 1 (.int .i64 v)
                  have kT7 := kT6.far (p := ⟨w3.heap.size, 1, none⟩) (fun q => hne q.symm) (.int .i64 v)
                  have hb27 := below_set (i := 1) hb26 hX0 (.int .i64 v)
                  have q27 := fun W (h : Below w2.heap.size w2 W) => (h.cell (p := ⟨g2, 2, none⟩) hg2l).trans q2
                  generalize World.setCell w6 _ _ = w7 at kX7 kT7 hb27 ⊢
                  clear cX fX kX6 kT6 hb26
                  have kX7 : Blk w7 w3.heap.size 104 #[.string a, .int .i64 v, .int .i64 0] := kX7
                  refine (HN1.out w7 (hT1.carry (below_next hbw2 hb27)) kT7 (q27 _ hb27)).mono ?_
                  rintro e w' ⟨u, w8, rfl, hu, hb8, rfl⟩
                  have HU := hide hu
                  have kT8 := carryK kT7 hb8
                  have kX8 := carryK kX7 hb8
                  have hb28 := below_next hb27 hb8
                  have kT9 : Blk _ w2.heap.size 178 #[.slice (some ⟨g2, 2, none⟩) 0 0, .bool false] := blk2 (u0 := .slice (some ⟨g2, 2, none⟩) 0 0) (u1 := .bool false) kT8
                  have kX9 := far2 (u0 := .slice (some ⟨g2, 2, none⟩) 0 0) (u1 := .bool false) kX8 hne
                  have hb29 := below2 (u0 := .slice (some ⟨g2, 2, none⟩) 0 0) (u1 := .bool false) hb28 (Nat.le_refl w2.heap.size)
                  generalize World.setCell (World.setCell w8 _ _) _ _ = w9 at kT9 kX9 hb29 ⊢
                  clear kT8 kX8 kT7 kX7 hb27 hb28 hu
                  have cX := kX9.cell
                  have fX := kX9.frozen
                  go_upto_region 17 with (fail)
                  have kXA := kX9.set_ 2 (.int .i64 u)
                  have kTA := kT9.far (p := ⟨w3.heap.size, 2, none⟩) (fun q => hne q.symm) (.int .i64 u)
                  have hb2A := below_set (i := 2) hb29 hX0 (.int .i64 u)
                  generalize World.setCell w9 _ _ = wa at kXA kTA hb2A ⊢
                  have kXA : Blk wa w3.heap.size 104 #[.string a, .int .i64 v, .int .i64 u] := kXA
                  clear cX fX kX9 kT9 hb29
                  have cT := kTA.cell
                  have hel : pword p.data.toList = some ⟨a, v, u⟩ := by
                    rw [pword_right HQ.out HA.out HB5.out HC5.out, HV.out x rfl, HU.out y rfl]
                  have hac : (ps.take (k + 1)).map (fun p => pword p.data.toList) = (acc ++ [(⟨a, v, u⟩ : El)]).map some := by
                    rw [List.take_add_one, HPK.out, List.map_append, HACC.out, List.map_append]
                    simp [hel]
                  have HAC := hide hac
                  have hb1A := below_next hbw2 hb2A
                  have ho3 := row_below ho2 hb2A
                  have hsz := hb1A.size
                  have A1 : k + 1 ≤ maxLen := by unfold maxLen; omega
                  have A2 : (k + 1) * 32 ≤ 140737488355328 := by omega
                  have cX := kXA.cell
                  clear hel hac ho2 bad
                  go_wp2_with (at_builtin; refine wpList_push _ rfl (.tmp 55) (.tmp 57) _ rfl w1.heap.size 104 _ 3 32 Tryz.underlying47 info_el rfl (by decide) _ k _ rfl (ho3.alloc _) wa.heap.size (elCells ⟨a, v, u⟩) rfl rfl (cells_new _ _ _) (one_el _) A1 A2 (le_alloc hsz _) ?_; intro v1 wb ho6 hb6)
                  rw [← els_snoc] at ho6
                  have hbw6 := (hb1A.alloc hsz _).trans hb6
                  clear ho3 cX cT
                  go_roundw
                  case rel =>
                    first
                      | exact ⟨k + 1, by omega, by go_num, _, HAC.out, ho6, hbw6⟩
                      | ((repeat (apply Exists.intro)); refine ⟨?_, rfl⟩; exact ⟨k + 1, by omega, by go_num, _, HAC.out, ho6, hbw6⟩)
                  case measure => simp [intOf]; omega
          · have hw := pword_len hqs.symm (by rw [List.length_map]; exact h3)
            have HB := hide (HBAD.out (by rw [← HPS.out]; exact pws_none (k := k) (by rw [List.getElem?_map, HPK.out]; rfl) hw))
            have t3 : ((qs.length : Int) != 3) = true := by simp; omega
            clear hw h3 hqs r2
            go_wp2_with fail
            go_ret2
            exact prPost_bad HB.out rfl (hbAll)
        · obtain rfl : k = ps.length := by omega
          have hall : pws (spl 32 s.data.toList) = some acc := by
            refine pws_all ?_
            have := HACC.out
            rw [List.take_of_length_le (Nat.le_refl _)] at this
            rw [← HPS.out, List.map_map]
            exact this
          have hlen : acc.length = ps.length := by
            have := pws_len hall
            rw [← HPS.out, List.length_map] at this
            exact this
          have hp := HLAD.out acc hall
          obtain ⟨A', c', rfl, hr⟩ := own_slice ho
          have hbE := below_next hb1 hbo
          have HLEN := hide hlen
          clear hall hlen ho
          by_cases h0 : ladErr acc = 0
          · rw [if_pos h0] at hp
            have HB := hide hp
            have HL0 := hide h0
            clear hp h0
            go_wp2_with fail
            refine (checkLadder_any A' ps.length c' acc _ hr (by omega)).mono ?_
            rintro e w2 ⟨rfl, hb2⟩
            rw [HL0.out]
            have hr2 := carry hr hb2
            go_wp2_with fail
            go_ret2
            unfold PrPost
            rw [HB.out]
            simp only [HLEN.out]
            exact ⟨A', c', rfl, hr2, below_next hbE hb2⟩
          · rw [if_neg h0] at hp
            have HB := hide hp
            have t9 : (ladErr acc != 0) = true := by simpa using h0
            clear hp h0
            go_wp2_with fail
            refine (checkLadder_any A' ps.length c' acc _ hr (by omega)).mono ?_
            rintro e w2 ⟨rfl, hb2⟩
            go_wp2_with fail
            go_ret2
            exact prPost_bad HB.out rfl (below_next hbE hb2)
end Go.Proofs.YtnndaipnfniciaaGreatDoor
