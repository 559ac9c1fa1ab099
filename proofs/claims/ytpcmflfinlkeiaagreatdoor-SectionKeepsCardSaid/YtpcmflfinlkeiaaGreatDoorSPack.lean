/- The program's Pack; Print where a section is wrong. -/
import Derived.Test.YtpcmflfinlkeiaaGreatDoorSRPr
import Derived.Test.YtpcmflfinlkeiaaGreatDoorPrintM
import Derived.Test.YtpcmflfinlkeiaaGreatDoorBaseB
import Derived.Lib.AppendZeros
import Derived.Lib.AppendZerosOnto
import Derived.Lib.SliceRun
namespace Go.Proofs.YtpcmflfinlkeiaaGreatDoor
open Go.RowKit Go.Shelf
set_option maxRecDepth 100000
/-- The text, or none. -/
def prE (l : List Sec) : ByteArray := if secErr l = 0 then ⟨(txtS l).toArray⟩ else ⟨#[]⟩
/-- The numbers, or none. -/
def pkE (l : List Sec) : List Int := if secErr l = 0 then pack l else []
theorem Print_bad (A : Option Addr) (n c : Nat) (l : List Sec) (w : World) (he : ¬ secErr l = 0) (hn : n ≤ 1000000) (hR : Reads w w.heap.size 6 A n (secs l)) :
    Calls Tryz.prog 10 #[.slice A n c] w fun e w' => e = .returned (.tuple #[.string ⟨#[]⟩, .int .i64 (secErr l)]) ∧ Below w.heap.size w w' := by
  have t1 : (secErr l != 0) = true := by simpa using he
  clear he
  go_enter Tryz.func10, Tryz.ntmps10
  go_wp2_with (go_at_call 33; refine (checkSections_any A n c l _ hR (by omega)).mono ?_; rintro e w2 ⟨rfl, hb2⟩)
  go_ret2
  exact ⟨rfl, hb2⟩
theorem Print_tot (A : Option Addr) (n c : Nat) (l : List Sec) (w : World) (hn : n ≤ 1000000) (hR : Reads w w.heap.size 6 A n (secs l)) (hT : Tens w) :
    Calls Tryz.prog 10 #[.slice A n c] w fun e w' => e = .returned (.tuple #[.string (prE l), .int .i64 (secErr l)]) ∧ Below w.heap.size w w' := by
  by_cases h : secErr l = 0
  · unfold prE
    rw [if_pos h, ← prTxt_eq]
    exact (Print_ok A n c l w h hn hR hT fun s hs => secLine_le ((secErr_ok h).2 s hs)).mono fun e w' ⟨h1, h2⟩ => ⟨by rw [h1, h], h2⟩
  · unfold prE
    rw [if_neg h]
    exact Print_bad A n c l w h hn hR
theorem own_cap {w : World} {base size n : Nat} {e : TypeId} {v : Value} {xs : List Value} (h : w.ownsRow base e size v n xs) : ∀ A m c, v = .slice A m c → m ≤ c ∧ c ≤ 9223372036854775807 := by
  intro A m c hv
  rcases h.2 with ⟨h1, h2⟩ | ⟨g, cap, cur, h1, _, _, hcap, hmx, _⟩
  · rw [hv] at h1
    injection h1 with _ h3 h4
    omega
  · rw [hv] at h1
    injection h1 with _ h3 h4
    unfold maxLen at hmx
    omega
/-- A piece. -/
def sl6 (g : Nat) : Value := .slice (some ⟨g, 0, none⟩) 6 6
theorem info_sl : (Tryz.prog.info? 23).map (fun i => (i.zero, i.size, i.bytes)) = some (some (.slice none 0 0), 1, 24) := by kernel_rfl
theorem one_sl (g : Nat) : ∀ u ∈ [sl6 g], u.oneCell' = true := by intro u hu; simp at hu; subst hu; rfl
theorem enters_pack1 : ∀ a W, Sem.run Tryz.prog (callFunc 36 #[a]) W = .ok (.enter 36 #[a]) W := fun _ _ => by kernel_rfl
theorem pack1_any (s : Sec) (w : World) :
    Calls Tryz.prog 36 #[.agg #[.int .i64 s.b0, .int .i64 s.b1, .int .i64 s.b2, .int .i64 s.a1, .int .i64 s.a2, .int .i64 s.sh]] w fun e w' => ∃ g, e = .returned (sl6 g) ∧ w.heap.size ≤ g ∧ Blk w' g 79 #[.int .i64 s.b0, .int .i64 s.b1, .int .i64 s.b2, .int .i64 s.a1, .int .i64 s.a2, .int .i64 s.sh] ∧ Below w.heap.size w w' := by
  go_enter Tryz.func36, Tryz.ntmps36
  go_wp2_with fail
  refine (numbers_any s _).mono ?_
  rintro e w1 ⟨rfl, hb1⟩
  have hb : Below w.heap.size w w1 := ((Below.refl _ _).alloc (Nat.le_refl _) _).trans (hb1.mono (by simp))
  have hz := hb.size
  clear hb1
  go_wp2_with fail
  go_ret
  exact ⟨w1.heap.size, rfl, hz, Blk.new w1 _ _, hb.alloc hz _⟩
/-- Pieces in memory. -/
def Pcs (w : World) (b : Nat) (G : List Nat) (l : List Sec) : Prop := ∀ (i g : Nat) (s : Sec), G[i]? = some g → l[i]? = some s → b ≤ g ∧ Blk w g 79 #[.int .i64 s.b0, .int .i64 s.b1, .int .i64 s.b2, .int .i64 s.a1, .int .i64 s.a2, .int .i64 s.sh]
theorem Pcs.snoc {w : World} {b g k : Nat} {G : List Nat} {l : List Sec} {s : Sec} (h : Pcs w b G l) (hG : G.length = k) (hs : l[k]? = some s) (hg : b ≤ g) (hb : Blk w g 79 #[.int .i64 s.b0, .int .i64 s.b1, .int .i64 s.b2, .int .i64 s.a1, .int .i64 s.a2, .int .i64 s.sh]) : Pcs w b (G ++ [g]) l := by
  intro i g' s' h1 h2
  by_cases hi : i < k
  · rw [List.getElem?_append_left (by omega)] at h1
    exact h i g' s' h1 h2
  · have hi' : i = k := by
      have := (List.getElem?_eq_some_iff.1 h1).1
      simp at this; omega
    subst hi'
    rw [List.getElem?_append_right (by omega), hG] at h1
    simp at h1
    subst h1
    rw [hs] at h2
    obtain rfl := Option.some.inj h2
    exact ⟨hg, hb⟩
set_option maxHeartbeats 1000000 in
theorem mappedPc_any (A : Option Addr) (n c : Nat) (l : List Sec) (w : World) (h : Reads w w.heap.size 6 A n (secs l)) (hn : n ≤ 1000000) :
    Calls Tryz.prog 35 #[.slice A n c, .func (.func 36) #[] #[]] w fun r w' => ∃ (A' : Option Addr) (c' : Nat) (G : List Nat), r = .returned (.slice A' n c') ∧ G.length = n ∧ Reads w' w'.heap.size 1 A' n (G.map sl6) ∧ Pcs w' w.heap.size G l ∧ Below w.heap.size w w' := by
  have hl := secs_reads_len h
  have HL := hide hl; clear hl
  have hen := enters_pack1
  go_enter Tryz.func35, Tryz.ntmps35
  go_wp2
  go_loopw [5, 10] (fun v i wr => ∃ (k : Nat) (G : List Nat), k ≤ n ∧ Hid (G.length = k) ∧ i = .int .i64 k ∧ wr.ownsRow w.heap.size 23 1 v k (G.map sl6) ∧ Pcs wr w.heap.size G l ∧ Below w.heap.size w wr) (fun _ i _ => n - (intOf i).toNat)
  case atStart => exact ⟨0, [], by omega, rfl, rfl, by simp [World.ownsRow_nil], by intro i g s h; simp at h, Below.refl _ _⟩
  case round =>
    rename World => wr
    obtain ⟨k, G, hk, HG, rfl, ho, hP, hb⟩ := hrel
    by_cases hlt : k < n
    · have hr := h.below hb
      obtain ⟨ad, s, rfl, _, hx, hc⟩ := secs_hit hr hlt hb.size
      have HX := hide hx; clear hx
      have hsz := hb.size
      have A1 : k + 1 ≤ maxLen := by unfold maxLen; omega
      have A2 : (k + 1) * 24 ≤ 140737488355328 := by omega
      obtain ⟨d0, d1, d2, d3, d4, d5⟩ := hc wr (Below.refl _ _)
      clear h hr hc
      go_wp2_with fail
      refine (pack1_any s _).mono ?_
      rintro e w2 ⟨g, rfl, hg, kg, hb2⟩
      have hbx : Below wr.heap.size wr w2 := ((Below.refl _ _).alloc (Nat.le_refl _) (.cells #[.int .i64 s.b0, .int .i64 s.b1, .int .i64 s.b2, .int .i64 s.a1, .int .i64 s.a2, .int .i64 s.sh] 53)).trans (hb2.mono (by simp))
      have hg2 : w.heap.size ≤ g := by simp at hg; omega
      have ho2 := row_below ho hbx
      have hP2 : Pcs w2 w.heap.size G l := fun i g s h1 h2 => ⟨(hP i g s h1 h2).1, carryB (hP i g s h1 h2).2 hbx⟩
      have hP3 := hP2.snoc HG.out HX.out hg2 kg
      have hbb := below_step hb hbx hsz
      have HP3 := hide hP3
      clear ho hb hb2 d0 d1 d2 d3 d4 d5 hP hP2 hP3 kg hg hbx
      unfold sl6
      go_wp2_with (at_builtin; refine wpList_pushG _ rfl (.tmp 14) (.tmp 18) _ rfl w.heap.size 23 _ 1 24 Tryz.underlying77 info_sl rfl (by decide) _ k _ rfl (ho2.alloc _) w2.heap.size [.slice (some ⟨g, 0, none⟩) 6 6] rfl rfl (cell_new1 _ _ _) (one_sl g) A1 A2 (le_alloc hbb.size _) ?_; intro v1 w1 ho1 hg1 hb1)
      have hP4 : Pcs w1 w.heap.size (G ++ [g]) l := fun i g' s' h1 h2 => ⟨(HP3.out i g' s' h1 h2).1, grown_blk (ho2.alloc _) hg1 ((HP3.out i g' s' h1 h2).2.alloc _) (by decide)⟩
      have e1 : (G ++ [g]).map sl6 = G.map sl6 ++ [sl6 g] := by simp
      have ho5 : w1.ownsRow w.heap.size 23 1 v1 (k + 1) ((G ++ [g]).map sl6) := by rw [e1]; exact ho1
      clear ho1
      go_wp2_with fail
      go_roundw
      case rel => exact ⟨k + 1, G ++ [g], by omega, by show _ = _; rw [List.length_append, HG.out]; rfl, by go_num, ho5, hP4, (hbb.alloc hbb.size _).trans hb1⟩
      case measure => simp [intOf]; omega
    · go_wp2
      go_ret
      obtain rfl : k = n := by omega
      obtain ⟨A', c', rfl, hr⟩ := own_slice ho
      exact ⟨A', c', G, rfl, HG.out, hr, hP, hb⟩
set_option maxHeartbeats 2000000 in
theorem growI_any (n : Nat) (w : World) (hn : n ≤ 1000000) :
    Calls Tryz.prog 73 #[.slice none 0 0, .int .i64 n] w fun e w' => ∃ v, e = .returned v ∧ w'.ownsRow w.heap.size 3 1 v 0 [] ∧ Below w.heap.size w w' := by
  obtain ⟨i, hi, hz, hsize, hby⟩ := info_parts info_int
  by_cases h0 : n = 0
  · subst h0
    go_enter Tryz.func73, Tryz.ntmps73
    go_wp2
    go_ret
    exact ⟨_, rfl, World.ownsRow_nil _ _ _ _, Below.refl _ _⟩
  · have g1 : (0 : Int) < (n : Int) := by omega
    have g2 : ¬ ((n : Int) < 0) := by omega
    have hrz := fun (w : World) ty => Lib.run_append_grow_zeros (P := Tryz.prog) w 23 3 ty 3 i _ .i64 .i64 Tryz.underlying23 Tryz.underlying3 hi hz none 0 0 [] (run_firstCells_none w.drew i.size 0 0 0) n (by omega) (by omega) (by omega) (by omega) (by rw [hby]; omega) (growslice_fits (by omega) (by rw [hby]; omega))
    go_enter Tryz.func73, Tryz.ntmps73
    go_wp2_with (at_builtin; refine Lib.wpList_append_run _ rfl _ _ _ _ rfl _ _ rfl rfl _ _ (hrz _ _) ?_)
    have hG := grownCap_ge w n 0 3
    have hm := grownCap_le_maxLen w n 0 3 (by unfold maxLen; omega)
    clear hrz
    generalize grownCap w n 0 3 = G at hG hm ⊢
    go_ret
    refine ⟨_, rfl, World.ownsRow_made w _ G (Nat.le_refl _) hm ?_, (by repeat (first | exact Below.refl _ _ | exact Below.refl _ _ | refine Below.drew ?_ | refine below_drewN ?_ _ | refine below_set ?_ (by omega) _ | refine below_new ?_ (by omega) _))⟩
    simp [size_zeroCells]
    omega
set_option maxHeartbeats 2000000 in
theorem concatI_any (A : Option Addr) (n c : Nat) (G : List Nat) (l : List Sec) (w : World) (h : Reads w w.heap.size 1 A n (G.map sl6)) (hG : G.length = n) (hl : l.length = n) (hP : Pcs w 0 G l) (hn : n ≤ 1000) :
    Calls Tryz.prog 34 #[.slice A n c] w fun e w' => ∃ v, e = .returned v ∧ w'.ownsRow w.heap.size 3 1 v (n * 6) (ints (pack l)) ∧ Below w.heap.size w w' := by
  obtain ⟨i, hi, hz, hsize, hby⟩ := info_parts info_int
  have HG := hide hG
  have HL := hide hl
  have HP := hide hP
  clear hG hl hP
  have hget : ∀ (W : World) (k : Nat), Below w.heap.size w W → k < n → ∃ ad g s, A = some ad ∧ G[k]? = some g ∧ l[k]? = some s ∧ W.cell? (ad.add k) = some (sl6 g) ∧ Blk W g 79 #[.int .i64 s.b0, .int .i64 s.b1, .int .i64 s.b2, .int .i64 s.a1, .int .i64 s.a2, .int .i64 s.sh] := fun W k hb hk => by
    obtain ⟨ad, u, rfl, _, hu, hc⟩ := (h.below hb).at_ hk
    have hg : G[k]? = some (G[k]'(by rw [HG.out]; exact hk)) := List.getElem?_eq_getElem _
    have hs : l[k]? = some (l[k]'(by rw [HL.out]; exact hk)) := List.getElem?_eq_getElem _
    rw [List.getElem?_map, hg] at hu
    obtain rfl := Option.some.inj hu
    have kb := (HP.out k _ _ hg hs).2
    exact ⟨ad, _, _, rfl, hg, hs, hc, carryB kb hb⟩
  have HGET := hide hget
  clear hget
  go_enter Tryz.func34, Tryz.ntmps34
  go_wp2_with fail
  go_loop [3, 11] (fun s v => ∃ k : Nat, k ≤ n ∧ v = .int .i64 k ∧ s = .int .i64 ((k * 6 : Nat) : Int)) (fun _ v => n - (intOf v).toNat)
  case atStart => exact ⟨0, by omega, rfl, rfl⟩
  case round =>
    obtain ⟨k, hk, rfl, rfl⟩ := hrel
    by_cases hlt : k < n
    · obtain ⟨ad, g, s, rfl, _, _, hc, _⟩ := HGET.out w k (Below.refl _ _) hlt
      unfold sl6 at hc
      have g1 : ¬ (((k * 6 : Nat) : Int) + 6 < 0) := by omega
      go_wp2
      go_round
      case rel => exact ⟨k + 1, by omega, by go_num, by go_num⟩
      case measure => simp [intOf]; omega
    · obtain rfl : k = n := by omega
      go_wp2_with fail
      refine (growI_any (k * 6) w (by omega)).mono ?_
      rintro e w1 ⟨v, rfl, ho, hb1⟩
      go_wp2_with fail
      go_loopw [6, 27] (fun s v wq => ∃ j : Nat, j ≤ k ∧ v = .int .i64 j ∧ wq.ownsRow w.heap.size 3 1 s (j * 6) (ints (pack (l.take j))) ∧ Below w.heap.size w wq) (fun _ v _ => k - (intOf v).toNat)
      case atStart => exact ⟨0, by omega, rfl, ho, hb1⟩
      case round =>
        rename World => wq
        obtain ⟨j, hj, rfl, hoq, hbq⟩ := hrel
        clear ho hb1
        by_cases hjl : j < k
        · obtain ⟨ad, g, s, rfl, hgG, hs, hc, kg⟩ := HGET.out wq j hbq hjl
          unfold sl6 at hc
          have hzq := hbq.size
          have hR2 : Reads wq wq.heap.size 1 (some ⟨g, 0, none⟩) 6 (ints (six s)) := reads_block (xs := six s) kg (Nat.le_refl _) kg.lt
          have HS := hide hs
          have A1 : j * 6 + 6 ≤ maxLen := by unfold maxLen; omega
          have A2 : (j * 6 + 6) * 8 ≤ 140737488355328 := by omega
          clear hgG hs kg
          go_wp2_with (at_builtin; refine wpList_append_any _ rfl (.tmp 31) (.tmp 32) _ rfl w.heap.size 3 i (.int .i64 0) 1 8 Tryz.underlying23 hi hz hsize hby rfl (by decide) _ (j * 6) _ rfl hoq wq.heap.size (some ⟨g, 0, none⟩) 6 6 (ints (six s)) rfl hR2 (ints_one _) A1 A2 hzq ?_; intro v1 w3 ho3 hg3 hq3)
          have hb3 := hbq.grown hg3 hzq fun k hk => (hoq.lt k hk).1
          have e1 : ints (pack (List.take j l)) ++ ints (six s) = ints (pack (List.take (j + 1) l)) := by rw [pack_snoc HS.out]; simp [ints]
          rw [e1, show j * 6 + 6 = (j + 1) * 6 by omega] at ho3
          go_wp2_with fail
          go_roundw
          case rel => exact ⟨j + 1, by omega, by go_num, ho3, hb3⟩
          case measure => simp [intOf]; omega
        · obtain rfl : j = k := by omega
          go_wp2_with fail
          go_ret
          rw [List.take_of_length_le (by rw [HL.out]; omega)] at hoq
          exact ⟨_, rfl, hoq, hbq⟩
set_option maxHeartbeats 2000000 in
theorem Pack_tot (A : Option Addr) (n c : Nat) (l : List Sec) (w : World) (hn : n ≤ 1000000) (hR : Reads w w.heap.size 6 A n (secs l)) :
    Calls Tryz.prog 6 #[.slice A n c] w fun e w' => ∃ A' c', e = .returned (.tuple #[.slice A' (pkE l).length c', .int .i64 (secErr l)]) ∧ Reads w' w'.heap.size 1 A' (pkE l).length (ints (pkE l)) ∧ Hid ((pkE l).length ≤ c' ∧ c' ≤ 9223372036854775807) ∧ Below w.heap.size w w' := by
  have hl := secs_reads_len hR
  by_cases h : secErr l = 0
  · have e0 : pkE l = pack l := by unfold pkE; rw [if_pos h]
    have hn8 : n ≤ 8 := by have := (secErr_ok h).1; omega
    have t1 : (secErr l != 0) = false := by rw [h]; rfl
    have HE := hide e0
    have HL := hide hl
    have H0 := hide h
    have hpl : (pkE l).length = n * 6 := by rw [e0, pack_len, hl]
    rw [hpl, e0, h]
    have t1 : ((0 : Int) != 0) = false := rfl
    clear e0 hl h hpl
    go_enter Tryz.func6, Tryz.ntmps6
    go_wp2_with fail
    refine (checkSections_any A n c l _ hR (by omega)).mono ?_
    rintro e w2 ⟨rfl, hb2⟩
    rw [H0.out]
    go_wp2_with fail
    refine (mappedPc_any A n c l _ (carryR hR hb2) hn).mono ?_
    rintro e w3 ⟨A1, c1, G, rfl, hG, hR3, hP, hb3⟩
    have hP0 : Pcs w3 0 G l := fun i g s h1 h2 => ⟨Nat.zero_le _, (hP i g s h1 h2).2⟩
    have hb23 := below_nx hb2 hb3
    clear hP hb2 hb3
    go_wp2_with fail
    refine (concatI_any A1 n c1 G l _ hR3 hG HL.out hP0 (by omega)).mono ?_
    rintro e w4 ⟨v, rfl, ho, hb4⟩
    have hb := below_nx hb23 hb4
    have hcap := own_cap ho
    obtain ⟨A', c', rfl, hr⟩ := own_slice ho
    clear ho hP0 hR3 hG
    go_wp2_with fail
    go_ret2
    exact ⟨A', c', rfl, hr, hcap _ _ _ rfl, hb⟩
  · have e0 : pkE l = [] := by unfold pkE; rw [if_neg h]
    have HE := hide e0
    have t1 : (secErr l != 0) = true := by simpa using h
    clear e0 hl h
    go_enter Tryz.func6, Tryz.ntmps6
    go_wp2_with fail
    refine (checkSections_any A n c l _ hR (by omega)).mono ?_
    rintro e w2 ⟨rfl, hb2⟩
    go_wp2_with fail
    go_ret2
    exact ⟨none, 0, by rw [HE.out]; rfl, by rw [HE.out]; exact Reads.none_, by rw [HE.out]; exact ⟨Nat.le_refl _, by omega⟩, hb2⟩
end Go.Proofs.YtpcmflfinlkeiaaGreatDoor
