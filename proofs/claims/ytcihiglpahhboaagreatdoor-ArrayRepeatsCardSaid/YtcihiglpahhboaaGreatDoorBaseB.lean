/- Score, phased, Best of the program. Best of the program. -/
import Derived.Test.YtcihiglpahhboaaGreatDoorASco
import Derived.Test.YtcihiglpahhboaaGreatDoorBaseM
import Derived.Deep.LoopGhost
namespace Go.Proofs.YtcihiglpahhboaaGreatDoor
open Go.RowKit Go.Shelf
set_option maxRecDepth 100000
theorem best1_any (s : Src) (w : World) :
    Calls Tryz.prog 104 #[.agg #[.int .i64 s.x, .int .i64 s.y, .int .i64 s.g, .int .i64 s.p]] w fun e w' => e = .returned (.agg #[.int .i64 (s.at 0).x, .int .i64 (s.at 0).y, .int .i64 (s.at 0).g, .int .i64 (s.at 0).p]) ∧ Below w.heap.size w w' := by
  go_enter Tryz.func104, Tryz.ntmps104
  go_upto_region 1 with (fail)
  obtain ⟨w1, e1, hb1, hz1, k0, k1⟩ := box2 w #[.int .i64 s.x, .int .i64 s.y, .int .i64 s.g, .int .i64 s.p] #[.int .i64 0, .int .i64 0, .int .i64 0, .int .i64 0] 60 60
  rw [← e1]; clear e1
  have c0 := k0.cell
  have c1 := k1.cell
  have f1 := k1.frozen
  go_wp2_with fail
  with_reducible refine fins4 60 hb1 (Nat.le_succ w.heap.size) k1 (fun X hX kX => ?_)
  have cX := kX.cell
  refine bodyPost_ret (v := .agg #[.int .i64 s.x, .int .i64 s.y, .int .i64 s.g, .int .i64 0]) (by simp [results, Tryz.results104, go_sem, cX]) rfl ?_
  exact ⟨rfl, hX⟩
theorem enters_best1 : ∀ a W, Sem.run Tryz.prog (callFunc 104 #[a]) W = .ok (.enter 104 #[a]) W := fun _ _ => by kernel_rfl
/-- What is behind the places up to i was 3. -/
def tail3 (l : List Src) (i : Nat) : Prop := ∀ j s, i ≤ j → l[j]? = some s → s.p = 3
theorem incL_at {l : List Src} {i : Nat} {s : Src} (h : l[i]? = some s) : (incL l)[i]? = some (if all3 (l.drop (i + 1)) then s.at ((s.p + 1) % 4) else s) := by
  induction l generalizing i with
  | nil => simp at h
  | cons a r ih =>
    cases i with
    | zero => simp at h; subst h; simp [incL]
    | succ i =>
      simp only [List.getElem?_cons_succ] at h
      simp only [incL, List.getElem?_cons_succ, List.drop_succ_cons, ih h]
theorem all3_tail {l : List Src} {i : Nat} (h : tail3 l i) : all3 (l.drop i) = true := by
  unfold all3
  rw [List.all_eq_true]
  intro s hs
  obtain ⟨j, hj⟩ := List.mem_iff_getElem?.1 hs
  rw [List.getElem?_drop] at hj
  have := h (i + j) s (by omega) hj
  simp [this]
theorem all3_not {l : List Src} {i j : Nat} {s : Src} (hij : i ≤ j) (h : l[j]? = some s) (hp : ¬ s.p = 3) : all3 (l.drop i) = false := by
  unfold all3
  rw [List.all_eq_false]
  refine ⟨s, List.mem_iff_getElem?.2 ⟨j - i, ?_⟩, by simpa using hp⟩
  rw [List.getElem?_drop, ← h]
  congr 1; omega
/-- The first that is not 3, from the last on: the others stay. -/
theorem incL_found {l : List Src} {i : Nat} {s : Src} (h : l[i]? = some s) (_ht : tail3 l (i + 1)) (hp : ¬ s.p = 3) : mix l (incL l) i = incL l := by
  apply List.ext_getElem?
  intro j
  rw [mix_at (incL_len l).symm]
  split
  · rename_i hj
    cases hl : l[j]? with
    | none => rw [List.getElem?_eq_none (by rw [incL_len]; exact List.getElem?_eq_none_iff.1 hl)]
    | some t => rw [incL_at hl, all3_not (by omega) h hp]; rfl
  · rfl
set_option maxHeartbeats 4000000 in
/-- The next phases, in a block of one's own. -/
theorem phased_any (A : Option Addr) (n c B : Nat) (l : List Src) (w : World) (hp : ∀ s ∈ l, 0 ≤ s.p ∧ s.p ≤ 3) (hn : n ≤ 100) (_hB : B ≤ w.heap.size) (kL : Row w A n B l) :
    Calls Tryz.prog 105 #[.slice A n c] w fun e w' => e = .returned (.bool (!all3 l)) ∧ Row w' A n B (incL l) ∧ Below B w w' ∧ Keep A w w' := by
  have HL := hide kL.len
  have HP := hide hp
  clear hp
  go_enter Tryz.func105, Tryz.ntmps105
  go_wp2_with fail
  go_step3
  go_wp2_with fail
  go_step3
  go_wp2_with fail
  go_loopw [3, 4] (fun f i wr => ∃ k : Nat, k ≤ n ∧ i = .int .i64 ((n : Int) - 1 - (k : Int)) ∧ f = .bool false ∧ tail3 l (n - k) ∧ Row wr A n B (mix l (incL l) (n - k)) ∧ Below B w wr ∧ Keep A w wr) (fun _ i _ => (intOf i + 1).toNat)
  case atStart =>
    refine ⟨0, by omega, by simp, rfl, fun j s hj hs => ?_, ?_, Below.refl _ _, fun _ _ _ _ h => h⟩
    · have := (List.getElem?_eq_some_iff.1 hs).1
      have := HL.out
      omega
    · have e : mix l (incL l) (n - 0) = l := mix_all (incL_len l).symm (by rw [incL_len, HL.out]; omega)
      rw [e]; exact kL
  case round =>
    rename World => wo
    obtain ⟨k, hk, rfl, rfl, ht, kR, hb, hkeep⟩ := hrel
    clear kL
    by_cases hlt : k < n
    · obtain ⟨j, hj⟩ : ∃ j, n - k = j + 1 := ⟨n - k - 1, by omega⟩
      have ej : (n : Int) - 1 - (k : Int) = (j : Int) := by omega
      rw [hj] at ht kR
      rw [ej]
      obtain ⟨g, sp, rfl, hBg, kB⟩ := kR.blk (by omega)
      have hjl : j < l.length := by rw [HL.out]; omega
      obtain ⟨s, hs⟩ : ∃ s, l[j]? = some s := ⟨_, List.getElem?_eq_getElem hjl⟩
      have hm : (mix l (incL l) (j + 1))[j]? = some s := by rw [mix_at (incL_len l).symm, if_pos (by omega)]; exact hs
      have hin : (incL l)[j]? = some (s.at ((s.p + 1) % 4)) := by rw [incL_at hs, all3_tail ht]; rfl
      have hps := HP.out s (List.mem_of_getElem? hs)
      obtain ⟨d0, d1, d2, d3⟩ := blk_hitS kB hm
      have f3 := kB.frozen (j * 4 + 3)
      have hw : wrap64 (s.p + 1) = s.p + 1 := by unfold wrap64; omega
      have kX := blk_srcS (s' := s.at ((s.p + 1) % 4)) (j := 3) (v := .int .i64 ((s.p + 1) % 4)) kB hm (by omega) rfl
      rw [mix_back (incL_len l).symm hin] at kX
      have hX : Below B w (wo.setCell ⟨g, j * 4 + 3, none⟩ (.int .i64 ((s.p + 1) % 4))) := below_set hb hBg _
      have hK : Keep (some ⟨g, 0, none⟩) w (wo.setCell ⟨g, j * 4 + 3, none⟩ (.int .i64 ((s.p + 1) % 4))) := fun g' t' cs' hne h => (hkeep g' t' cs' hne h).far (p := ⟨g, j * 4 + 3, none⟩) (hne g rfl) _
      have hlen : (mix l (incL l) j).length = n := by rw [mix_len (incL_len l).symm, incL_len, HL.out]
      have hRow : Row (wo.setCell ⟨g, j * 4 + 3, none⟩ (.int .i64 ((s.p + 1) % 4))) (some ⟨g, 0, none⟩) n B (mix l (incL l) j) := ⟨hlen, fun _ => ⟨g, sp, rfl, hBg, kX⟩⟩
      have ha : (⟨g, 0, none⟩ : Addr).add (j * 4) = ⟨g, j * 4, none⟩ := by unfold Addr.add; split <;> simp_all
      have g1 : (0 : Int) ≤ (j : Int) := by omega
      have g2 : (j : Int) < (n : Int) := by omega
      have HS := hide hs
      have HT := hide ht
      have HJ := hide hj
      have HRow := hide hRow
      have HX := hide hX
      have HK := hide hK
      clear hm hin kB kX hRow hX hK hs ht hj hlen kR
      by_cases h3 : s.p = 3
      · have e3 : (s.p + 1) % 4 = 0 := by omega
        have H3 := hide h3
        rw [e3] at HRow HX HK
        clear h3
        go_wp2_with (go_at_call 87; refine (modulo_any _ _).mono ?_; rintro e W' ⟨rfl, rfl⟩; rw [e3])
        have ejk : n - (k + 1) = j := by have := HJ.out; omega
        refine ⟨⟨k + 1, by omega, by rw [show (n : Int) - 1 - ((k + 1 : Nat) : Int) = (j : Int) - 1 by omega], rfl, ?_, by rw [ejk]; exact HRow.out, HX.out, HK.out⟩, by simp [intOf]⟩
        rw [ejk]
        intro i t hi hti
        by_cases hij : i = j
        · subst hij
          rw [HS.out] at hti
          cases hti
          exact H3.out
        · exact HT.out i t (by omega) hti
      · have e3 : ((s.p + 1) % 4 != 0) = true := by simp; omega
        have H3 := hide h3
        clear h3
        go_wp2_with (go_at_call 87; refine (modulo_any _ _).mono ?_; rintro e W' ⟨rfl, rfl⟩)
        rw [Exit.noGoto_ret]
        go_ret
        have ef := incL_found HS.out HT.out H3.out
        have hno := all3_not (Nat.zero_le j) HS.out H3.out
        rw [List.drop_zero] at hno
        refine ⟨by rw [hno]; rfl, ?_, HX.out, HK.out⟩
        have := HRow.out
        rwa [ef] at this
    · obtain rfl : k = n := by omega
      have e0 : (k : Int) - 1 - (k : Int) = -1 := by omega
      rw [e0]
      rw [Nat.sub_self] at ht kR
      rw [mix_zero] at kR
      have ha3 : all3 l = true := by have := all3_tail ht; rwa [List.drop_zero] at this
      go_wp2_with fail
      rw [Exit.noGoto_ret]
      go_ret
      exact ⟨by rw [ha3]; rfl, kR, hb, hkeep⟩
end Go.Proofs.YtcihiglpahhboaaGreatDoor

namespace Go.Proofs.YtcihiglpahhboaaGreatDoor
open Go.RowKit Go.Shelf
set_option maxRecDepth 100000
theorem ph_ok {l : List Src} (h : LOk l) (n : Nat) : LOk (ph l n) := by
  refine ⟨by rw [ph_len]; exact h.len, fun s hs => ?_⟩
  obtain ⟨i, hi⟩ := List.mem_iff_getElem?.1 hs
  have hl := (List.getElem?_eq_some_iff.1 hi).1
  rw [ph_len] at hl
  have ht := List.getElem?_eq_getElem hl
  rw [ph_at ht] at hi
  have e := Option.some.inj hi
  have hk := h.all _ (List.getElem_mem hl)
  rw [← e]
  refine ⟨hk.x1, hk.x2, hk.y1, hk.y2, hk.g1, hk.g2, ?_, ?_⟩ <;> simp only [Src.at] <;> omega
theorem Row.below {W W' : World} {A : Option Addr} {n B : Nat} {l : List Src} (h : Row W A n B l) (hb : Below W.heap.size W W') : Row W' A n B l :=
  ⟨h.len, fun hn => by obtain ⟨g, sp, e, hB, hk⟩ := h.blk hn; exact ⟨g, sp, e, hB, carryK hk hb⟩⟩
theorem Row.others {W W' : World} {A : Option Addr} {n B g : Nat} {l : List Src} (h : Row W A n B l) (hk : ∀ g' t' cs', g' ≠ g → Blk W g' t' cs' → Blk W' g' t' cs') (hne : ∀ g', A = some ⟨g', 0, none⟩ → g' ≠ g) : Row W' A n B l :=
  ⟨h.len, fun hn => by obtain ⟨g', sp, e, hB, hb⟩ := h.blk hn; exact ⟨g', sp, e, hB, hk _ _ _ (hne g' e) hb⟩⟩
theorem ph_pp {l : List Src} (n : Nat) : ∀ s ∈ ph l n, 0 ≤ s.p ∧ s.p ≤ 3 := by
  intro s hs
  obtain ⟨i, hi⟩ := List.mem_iff_getElem?.1 hs
  have hl := (List.getElem?_eq_some_iff.1 hi).1
  rw [ph_len] at hl
  rw [ph_at (List.getElem?_eq_getElem hl)] at hi
  rw [← Option.some.inj hi]
  simp only [Src.at]
  omega
/-- The error of Best. -/
def beE (l : List Src) (a : Au) : Int := fnz [lstErr l, if 6 < l.length then 23 else 0, auE a]
theorem beE_ok {l : List Src} {a : Au} (h : beE l a = 0) : LOk l ∧ l.length ≤ 6 ∧ auE a = 0 := by
  unfold beE at h
  rw [fnz_zero] at h
  refine ⟨lst_ok (h _ (by simp)), ?_, h _ (by simp)⟩
  have h2 := h (if 6 < l.length then 23 else 0) (by simp)
  split at h2 <;> omega
/-- What Best returns. -/
def beO (l : List Src) (a : Au) : List Src × Int := if beE l a = 0 then (bst l a.l, scr (bst l a.l) a.l) else ([], 0)
set_option maxHeartbeats 4000000 in
theorem Best_any (A : Option Addr) (m c : Nat) (l : List Src) (a : Au) (w : World) (hR : Reads w w.heap.size 4 A m (srcs l)) (hV : Vr w) (hm : m ≤ 1000000) :
    Calls Tryz.prog 40 #[.slice A m c, .agg #[.int .i64 a.a0, .int .i64 a.a1, .int .i64 a.a2, .int .i64 a.a3, .int .i64 a.a4, .int .i64 a.a5, .int .i64 a.a6, .int .i64 a.a7]] w fun e w' => ∃ A' n' c', e = .returned (.tuple #[.slice A' n' c', .int .i64 (beO l a).2, .int .i64 (beE l a)]) ∧ Reads w' w'.heap.size 4 A' n' (srcs (beO l a).1) ∧ Below w.heap.size w w' := by
  have hlm := srcs_reads_len hR
  unfold beO
  by_cases h0 : beE l a = 0
  · obtain ⟨hok, h6, hau⟩ := beE_ok h0
    rw [if_pos h0, h0]
    have g6 : ¬ (6 : Int) < (m : Int) := by omega
    have t0 : (fnz [lstErr l, 0, auE a] != 0) = false := by
      have : fnz [lstErr l, 0, auE a] = 0 := by unfold beE at h0; rwa [if_neg (by omega)] at h0
      rw [this]; rfl
    have HO := hide hok
    have HA := hide (auE_ok hau)
    have HLM := hide hlm
    have hm6 : m ≤ 6 := by omega
    clear h0 hok h6 hau hlm
    obtain ⟨i, hi, hz, hsize, hby⟩ := info_parts info_src
    have hmk : ∀ w, (Instr.makeSlice 26 (.int .i64 (m : Int)) (.int .i64 (m : Int))).run Tryz.prog w = .ok (.slice (some ⟨w.heap.size, 0, none⟩) m m) (w.alloc (.cells (madeCells #[.int .i64 0, .int .i64 0, .int .i64 0, .int .i64 0] (m * 4)) 60)) := fun w => by
      have := run_make (P := Tryz.prog) w 26 60 i _ Tryz.underlying26 hi hz .i64 .i64 m m (by omega) (by omega) (by rw [hby]; omega) (by omega)
      simpa [hsize, Value.cells] using this
    go_enter Tryz.func40, Tryz.ntmps40
    go_upto_region 1 with (fail)
    obtain ⟨w1, e1, hb1, hz1, kA⟩ := box1 w #[.int .i64 a.a0, .int .i64 a.a1, .int .i64 a.a2, .int .i64 a.a3, .int .i64 a.a4, .int .i64 a.a5, .int .i64 a.a6, .int .i64 a.a7] 64
    rw [← e1]; clear e1
    have hR1 := carry hR hb1
    have cA := over_blk kA kA.lt
    refine wp_region_part 8 w1.heap.size (by kernel_rfl) (by kernel_rfl) ?_; simp only [List.take_succ_cons, List.take_zero, List.drop_succ_cons, List.drop_zero]; (repeat (first | go_big_quiet_step (first | (go_at_call 62; exact over_call (Nat.le_refl _) (CheckSources_any A m c l _ (carry hR1 (over_below _ _ _)) (by omega))) | (go_at_call 103; exact over_same (when_any _ _ _)) | (go_at_call 101; exact over_call (Nat.le_refl _) (checkAudience_any a _))) | quiet_step (first | (go_at_call 62; exact over_call (Nat.le_refl _) (CheckSources_any A m c l _ (carry hR1 (over_below _ _ _)) (by omega))) | (go_at_call 103; exact over_same (when_any _ _ _)) | (go_at_call 101; exact over_call (Nat.le_refl _) (checkAudience_any a _))))); refine wpQuiet_nil ?_; rintro W ⟨x, rfl⟩
    have hbY := over_below w1.heap.size w1 x
    generalize over w1.heap.size w1 x = Y at hbY ⊢
    clear cA
    go_upto_region 4 with ((go_at_call 86; (first | (with_reducible (refine (first_any _ _ _ _ _ _ (reads3 _ _ _ _ _) (by omega)).mono ?_)) | (with_reducible (refine (first_any _ _ _ _ _ _ (Reads.drew (reads3 _ _ _ _ _)) (by omega)).mono ?_))); rintro e W' ⟨rfl, rfl⟩))
    obtain ⟨w3, e3⟩ : ∃ w3, w3 = Y.alloc (.cells #[.int .i64 (lstErr l), .int .i64 0, .int .i64 (auE a)] 27) := ⟨_, rfl⟩
    have hb3 : Below Y.heap.size Y w3 := by rw [e3]; exact (Below.refl _ _).alloc (Nat.le_refl _) _
    rw [← e3]; clear e3
    have hb03 : Below w.heap.size w w3 := (by repeat (first | with_reducible assumption | exact Below.refl _ _ | refine below_next (by with_reducible assumption) ?_))
    have kA3 := carryK (w' := w3) kA (by repeat (first | with_reducible assumption | exact Below.refl _ _ | refine below_next (by with_reducible assumption) ?_))
    clear hb1 hbY hb3 kA hR1
    go_wp2_with fail
    refine (mapS0_own 104 (fun s => s.at 0) (fun a W => enters_best1 _ _) A m c l _ (carry hR hb03) (by omega) (fun s W hs hW => best1_any s W)).mono ?_
    rintro e w4 ⟨v4, rfl, ho4, hb4⟩
    obtain ⟨T, ct, rfl, rowT⟩ := Row.of_own ho4 (by rw [List.length_map, HLM.out])
    rw [← ph_zero] at rowT
    have hTl : ∀ g, T = some ⟨g, 0, none⟩ → w3.heap.size ≤ g ∧ g < w4.heap.size := fun g e => by subst e; exact ho4.lt g rfl
    have kA4 := carryK kA3 hb4
    have hb04 := below_next hb03 hb4
    have hz34 : w3.heap.size ≤ w4.heap.size := hb4.size
    have hz03 : w.heap.size ≤ w3.heap.size := hb03.size
    have hA3 := kA3.lt
    clear ho4
    go_upto_region 6 with (fail)
    obtain ⟨w5, e5, hb5, hz5, kB⟩ := box1 w4 (madeCells #[.int .i64 0, .int .i64 0, .int .i64 0, .int .i64 0] (m * 4)) 60
    rw [← e5]; clear e5 hmk
    have rowT5 := rowT.below hb5
    have kA5 := carryK kA4 hb5
    have hb05 := below_next hb04 hb5
    clear rowT kA4 hb5
    go_upto_region 7 with (refine wpList_copy_keep rfl (.tmp 30) (.tmp 31) 26 26 rfl 60 4 Tryz.underlying26 (by kernel_rfl) w4.heap.size m m ct T (srcs (ph l 0)) _ _ _ (by rfl) (by rfl) kB (size_madeCells _ _) rowT5.reads (srcs_one _) ?_; intro w6 kB6 keep6 bel6)
    have rowT6 := rowT5.others keep6 (fun g e => by have := hTl g e; omega)
    have kA6 := keep6 _ _ _ (by omega) kA5
    have hb06 := bel6 w.heap.size w (by omega) hb05
    have rB6 : Reads w6 w6.heap.size 4 (some ⟨w4.heap.size, 0, none⟩) m (srcs (ph l 0)) := blkS kB6 (by rw [ph_len, HLM.out])
    have cA6 := kA6.cell
    clear kB kA5 rowT5 hb05 keep6 bel6
    go_wp2_with fail
    refine (score_any (some ⟨w4.heap.size, 0, none⟩) m m (ph l 0) a _ (ph_ok HO.out 0) HA.out rB6 (hV.carry hb06)).mono ?_
    rintro e w7 ⟨rfl, hb7⟩
    have rowT7 := rowT6.below hb7
    have kA7 := carryK kA6 hb7
    have kB7 := carryK kB6 hb7
    have hb07 := below_next hb06 hb7
    clear rowT6 kA6 kB6 hb06 hb7 cA6 rB6
    go_wp2_with fail
    have hpos : 0 < 4 ^ m := Nat.pos_of_ne_zero (by simp)
    go_loopg [10] (4 ^ m) (fun gk s wr => ∃ N : Nat, N < 4 ^ m ∧ gk = 4 ^ m - N ∧ s = .int .i64 (scr (ph l (bstN l a.l N)) a.l) ∧ Row wr T m w3.heap.size (ph l N) ∧ Blk wr w4.heap.size 60 (srcs (ph l (bstN l a.l N))).toArray ∧ Blk wr w.heap.size 64 #[.int .i64 a.a0, .int .i64 a.a1, .int .i64 a.a2, .int .i64 a.a3, .int .i64 a.a4, .int .i64 a.a5, .int .i64 a.a6, .int .i64 a.a7] ∧ Below w.heap.size w wr)
    case atStart => exact ⟨0, hpos, rfl, rfl, rowT7, kB7, kA7, hb07⟩
    case round =>
      rename World => wo
      clear rowT7 kB7 kA7 hb07
      obtain ⟨N, hN, rfl, rfl, rowN, kB, kA, hb⟩ := hrel
      have hz3o : w3.heap.size ≤ wo.heap.size := by have := kB.lt; omega
      have hph := phased_any T m ct w3.heap.size (ph l N) wo (ph_pp N) (by omega) hz3o rowN
      have h3 := ph_more (l := l) (n := N) (by rw [HLM.out]; exact hN)
      rw [HLM.out] at h3
      rw [incL_ph] at hph
      have hgB : ∀ g, T = some ⟨g, 0, none⟩ → w4.heap.size ≠ g := fun g e => by have := hTl g e; omega
      have hgA : ∀ g, T = some ⟨g, 0, none⟩ → w.heap.size ≠ g := fun g e => by have := hTl g e; omega
      by_cases hend : N + 1 = 4 ^ m
      · rw [h3, decide_eq_true hend] at hph
        have HEND := hide hend
        clear h3 hend
        go_wp2_with fail
        refine hph.mono ?_
        rintro e w8 ⟨rfl, row8, hb8, hk8⟩
        have kB8 := hk8 _ _ _ hgB kB
        have hb08 := hb.trans (hb8.mono hz03)
        clear row8 hk8 hb8 kA kB rowN
        go_wp2_with fail
        have eb : bst l a.l = ph l (bstN l a.l N) := by unfold bst; rw [HLM.out, ← HEND.out]; rfl
        have EB := hide eb
        clear eb
        go_ret3
        exact ⟨some ⟨w4.heap.size, 0, none⟩, m, m, by rw [EB.out]; rfl, by rw [EB.out]; exact blkS kB8 (by rw [ph_len, HLM.out]), hb08⟩
      · rw [h3, decide_eq_false hend] at hph
        have hN1 : N + 1 < 4 ^ m := by omega
        clear h3 hend
        go_wp2_with fail
        refine hph.mono ?_
        rintro e w8 ⟨rfl, row8, hb8, hk8⟩
        have kB8 := hk8 _ _ _ hgB kB
        have kA8 := hk8 _ _ _ hgA kA
        have hb08 := hb.trans (hb8.mono hz03)
        have cA8 := kA8.cell
        clear hk8 hb8 kA kB rowN hph
        go_wp2_with fail
        refine (score_any T m ct (ph l (N + 1)) a _ (ph_ok HO.out (N + 1)) HA.out row8.reads (hV.carry hb08)).mono ?_
        rintro e w9 ⟨rfl, hb9⟩
        have kB9 := carryK kB8 hb9
        have kA9 := carryK kA8 hb9
        have row9 := row8.below hb9
        have hb09 := below_next hb08 hb9
        clear kB8 kA8 row8 hb08 hb9 cA8
        obtain ⟨S, hS⟩ : ∃ S, scr (ph l (bstN l a.l N)) a.l = S := ⟨_, rfl⟩
        obtain ⟨S', hS'⟩ : ∃ S', scr (ph l (N + 1)) a.l = S' := ⟨_, rfl⟩
        rw [hS, hS']
        by_cases hlt : S < S'
        · have e1 : bstN l a.l (N + 1) = N + 1 := by show (if scr (ph l (bstN l a.l N)) a.l < scr (ph l (N + 1)) a.l then N + 1 else bstN l a.l N) = _; rw [hS, hS', if_pos hlt]
          have E1 := hide e1
          have ES' := hide hS'
          clear e1 hS hS'
          have kB9' : Blk w9 w4.heap.size 60 (srcs (ph l (bstN l a.l N))).toArray := kB9
          go_wp2_with (refine wpList_copy_keep rfl (.tmp 45) (.tmp 46) 26 26 rfl 60 4 Tryz.underlying26 (by kernel_rfl) w4.heap.size m m ct T (srcs (ph l (N + 1))) _ _ _ (by rfl) (by rfl) kB9 (by rw [List.size_toArray, srcs_len, ph_len, HLM.out]) row9.reads (srcs_one _) ?_; intro w10 kB10 keep10 bel10)
          have row10 := row9.others keep10 (fun g e => (hgB g e).symm)
          have kA10 := keep10 _ _ _ (by omega) kA9
          have hb010 := bel10 w.heap.size w (by omega) hb09
          go_roundg (4 ^ m - (N + 1))
          case measure => omega
          case rel => exact ⟨N + 1, hN1, rfl, by rw [E1.out, ES'.out], row10, by rw [E1.out]; exact kB10, kA10, hb010⟩
        · have e1 : bstN l a.l (N + 1) = bstN l a.l N := by show (if scr (ph l (bstN l a.l N)) a.l < scr (ph l (N + 1)) a.l then N + 1 else bstN l a.l N) = _; rw [hS, hS', if_neg hlt]
          have E1 := hide e1
          have ES := hide hS
          clear e1 hS hS'
          go_wp2_with fail
          go_roundg (4 ^ m - (N + 1))
          case measure => omega
          case rel => exact ⟨N + 1, hN1, rfl, by rw [E1.out, ES.out], row9, by rw [E1.out]; exact kB9, kA9, hb09⟩
  · rw [if_neg h0]
    have HE : Hid (beE l a ≠ 0) := h0
    by_cases h6 : 6 < m
    · have g6 : (6 : Int) < (m : Int) := by omega
      have eE : fnz [lstErr l, 23, auE a] = beE l a := by unfold beE; rw [if_pos (by omega)]
      have t0 : (fnz [lstErr l, 23, auE a] != 0) = true := by rw [eE]; simpa using h0
      rw [← eE]
      clear h0 h6 hlm eE HE
      go_enter Tryz.func40, Tryz.ntmps40
      go_upto_region 1 with (fail)
      obtain ⟨w1, e1, hb1, hz1, kA⟩ := box1 w #[.int .i64 a.a0, .int .i64 a.a1, .int .i64 a.a2, .int .i64 a.a3, .int .i64 a.a4, .int .i64 a.a5, .int .i64 a.a6, .int .i64 a.a7] 64
      rw [← e1]; clear e1
      have hR1 := carry hR hb1
      have cA := over_blk kA kA.lt
      refine wp_region_part 8 w1.heap.size (by kernel_rfl) (by kernel_rfl) ?_; simp only [List.take_succ_cons, List.take_zero, List.drop_succ_cons, List.drop_zero]; (repeat (first | go_big_quiet_step (first | (go_at_call 62; exact over_call (Nat.le_refl _) (CheckSources_any A m c l _ (carry hR1 (over_below _ _ _)) (by omega))) | (go_at_call 103; exact over_same (when_any _ _ _)) | (go_at_call 101; exact over_call (Nat.le_refl _) (checkAudience_any a _))) | quiet_step (first | (go_at_call 62; exact over_call (Nat.le_refl _) (CheckSources_any A m c l _ (carry hR1 (over_below _ _ _)) (by omega))) | (go_at_call 103; exact over_same (when_any _ _ _)) | (go_at_call 101; exact over_call (Nat.le_refl _) (checkAudience_any a _))))); refine wpQuiet_nil ?_; rintro W ⟨x, rfl⟩
      have hbY := over_below w1.heap.size w1 x
      generalize over w1.heap.size w1 x = Y at hbY ⊢
      clear cA
      go_wp2_with ((go_at_call 86; (first | (with_reducible (refine (first_any _ _ _ _ _ _ (reads3 _ _ _ _ _) (by omega)).mono ?_)) | (with_reducible (refine (first_any _ _ _ _ _ _ (Reads.drew (reads3 _ _ _ _ _)) (by omega)).mono ?_))); rintro e W' ⟨rfl, rfl⟩))
      obtain ⟨w3, e3⟩ : ∃ w3, w3 = Y.alloc (.cells #[.int .i64 (lstErr l), .int .i64 (23), .int .i64 (auE a)] 27) := ⟨_, rfl⟩
      have hb3 : Below Y.heap.size Y w3 := by rw [e3]; exact (Below.refl _ _).alloc (Nat.le_refl _) _
      rw [← e3]; clear e3
      go_ret3
      exact ⟨none, 0, 0, rfl, Reads.none_, (by repeat (first | with_reducible assumption | exact Below.refl _ _ | refine below_next (by with_reducible assumption) ?_))⟩
    · have g6 : ¬ (6 : Int) < (m : Int) := by omega
      have eE : fnz [lstErr l, 0, auE a] = beE l a := by unfold beE; rw [if_neg (by omega)]
      have t0 : (fnz [lstErr l, 0, auE a] != 0) = true := by rw [eE]; simpa using h0
      rw [← eE]
      clear h0 h6 hlm eE HE
      go_enter Tryz.func40, Tryz.ntmps40
      go_upto_region 1 with (fail)
      obtain ⟨w1, e1, hb1, hz1, kA⟩ := box1 w #[.int .i64 a.a0, .int .i64 a.a1, .int .i64 a.a2, .int .i64 a.a3, .int .i64 a.a4, .int .i64 a.a5, .int .i64 a.a6, .int .i64 a.a7] 64
      rw [← e1]; clear e1
      have hR1 := carry hR hb1
      have cA := over_blk kA kA.lt
      refine wp_region_part 8 w1.heap.size (by kernel_rfl) (by kernel_rfl) ?_; simp only [List.take_succ_cons, List.take_zero, List.drop_succ_cons, List.drop_zero]; (repeat (first | go_big_quiet_step (first | (go_at_call 62; exact over_call (Nat.le_refl _) (CheckSources_any A m c l _ (carry hR1 (over_below _ _ _)) (by omega))) | (go_at_call 103; exact over_same (when_any _ _ _)) | (go_at_call 101; exact over_call (Nat.le_refl _) (checkAudience_any a _))) | quiet_step (first | (go_at_call 62; exact over_call (Nat.le_refl _) (CheckSources_any A m c l _ (carry hR1 (over_below _ _ _)) (by omega))) | (go_at_call 103; exact over_same (when_any _ _ _)) | (go_at_call 101; exact over_call (Nat.le_refl _) (checkAudience_any a _))))); refine wpQuiet_nil ?_; rintro W ⟨x, rfl⟩
      have hbY := over_below w1.heap.size w1 x
      generalize over w1.heap.size w1 x = Y at hbY ⊢
      clear cA
      go_wp2_with ((go_at_call 86; (first | (with_reducible (refine (first_any _ _ _ _ _ _ (reads3 _ _ _ _ _) (by omega)).mono ?_)) | (with_reducible (refine (first_any _ _ _ _ _ _ (Reads.drew (reads3 _ _ _ _ _)) (by omega)).mono ?_))); rintro e W' ⟨rfl, rfl⟩))
      obtain ⟨w3, e3⟩ : ∃ w3, w3 = Y.alloc (.cells #[.int .i64 (lstErr l), .int .i64 (0), .int .i64 (auE a)] 27) := ⟨_, rfl⟩
      have hb3 : Below Y.heap.size Y w3 := by rw [e3]; exact (Below.refl _ _).alloc (Nat.le_refl _) _
      rw [← e3]; clear e3
      go_ret3
      exact ⟨none, 0, 0, rfl, Reads.none_, (by repeat (first | with_reducible assumption | exact Below.refl _ _ | refine below_next (by with_reducible assumption) ?_))⟩
end Go.Proofs.YtcihiglpahhboaaGreatDoor
