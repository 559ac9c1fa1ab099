/- Convolutions of the program: the iterator products. -/
import Derived.Test.YthlnmoecmicofaaDoorNAdd
import Derived.Test.YthlnmoecmicofaaDoorRange
import Derived.Test.YthlnmoecmicofaaDoorRound
import Derived.Sort.CutIn
namespace Go.Proofs.YthlnmoecmicofaaDoor
open Go.RowKit Go.Shelf
set_option maxRecDepth 100000
attribute [local go_sem] Oper.semAt_some
theorem Kept.of_below {T : List TypeId} {n0 n1 : Nat} {W W' : World} (hb : Below W.heap.size W W') (hn : n0 ≤ W.heap.size) : Kept T n0 n1 W W' :=
  ⟨hb.mono hn, ⟨hb.size, fun k o h _ => (hb.block k (Array.getElem?_eq_some_iff.1 h).1).trans h⟩, fun k o _ h _ => (hb.block k (Array.getElem?_eq_some_iff.1 h).1).trans h⟩
def prT : List TypeId := [55]
def encP (a b : List Int) (x : Nat × Nat) : Array Value := #[.int .i64 ((x.1 : Int) + (x.2 : Int)), .int .i64 (wr (co a x.1 * co b x.2))]
def rowpos (i k : Nat) : List (Nat × Nat) := (List.range k).map fun j => (i, j)
def allpos (n m : Nat) : List (Nat × Nat) := (List.range n).flatMap fun i => rowpos i m
theorem rowpos_succ (i k : Nat) : rowpos i (k + 1) = rowpos i k ++ [(i, k)] := by simp [rowpos, List.range_succ]
theorem allpos_succ (n m : Nat) : allpos (n + 1) m = allpos n m ++ rowpos n m := by simp [allpos, List.range_succ]
def nextP (n m : Nat) (_pre : List (Nat × Nat)) (x : Nat × Nat) : Prop := x.1 < n ∧ x.2 < m
set_option maxHeartbeats 2000000 in
theorem products1_in (n : Nat) (hn : 1 ≤ n) (lp Ba Bb n0 n1 : Nat) (A1 : Option Addr) (la c1 : Nat) (a : List Int) (A2 : Option Addr) (lb c2 : Nat) (b : List Int) (hla : la ≤ 100000) (hlb : lb ≤ 100000)
    (J : List (Nat × Nat) → World → Prop) (hJ : ∀ s A B, J s A → Hush prT n1 A.heap.size A B → J s B)
    (hY : ∀ pre x W1, J pre W1 → nextP la lb pre x → YieldAt Fence.wide (n - 1) Tryd.prog lp (encP a b x) W1 fun e W' => e = .returned (.bool true) ∧ J (pre ++ [x]) W' ∧ Kept prT n0 n1 W1 W')
    (W : World) (ka : Blk W Ba 55 #[.slice A1 la c1]) (kb : Blk W Bb 55 #[.slice A2 lb c2]) (hnb : n1 ≤ Bb) (hR1 : Reads W n0 1 A1 la (ints a)) (hR2 : Reads W n0 1 A2 lb (ints b)) (hn0 : n0 ≤ W.heap.size) (hn1 : n1 ≤ W.heap.size) (h0 : J [] W) :
    CallsIn Fence.wide n Tryd.prog 109 #[.func (.yield lp) #[] #[], .pointer (some ⟨Ba, 0, none⟩), .pointer (some ⟨Bb, 0, none⟩)] W fun e W' => (∃ v, e = .returned v) ∧ ∃ ys, ys = allpos la lb ∧ J ys W' := by
  refine callsIn_of_wp Tryd.func109 rfl trivial ?_ rfl
  simp only [Tryd.ntmps109, List.size_toArray, List.length_cons, List.length_nil, Nat.reduceAdd, Nat.reduceSub, Array.replicate_succ, Array.replicate_zero, List.push_toArray, List.append_toArray, List.nil_append, List.cons_append]
  have ca := ka.cell
  gi_wp2
  gi_loopw [10] (fun i wr => ∃ k : Nat, k ≤ la ∧ i = .int .i64 k ∧ J (allpos k lb) wr ∧ Blk wr Bb 55 #[.slice A2 lb c2] ∧ Reads wr n0 1 A1 la (ints a) ∧ Reads wr n0 1 A2 lb (ints b) ∧ n0 ≤ wr.heap.size ∧ n1 ≤ wr.heap.size) (fun i _ => la - (intOf i).toNat)
  case atStart => exact ⟨0, by omega, rfl, h0, kb, hR1, hR2, hn0, hn1⟩
  case round =>
    rename World => wo
    obtain ⟨i, hi, rfl, hj, kb', hr1, hr2, hz0, hz1⟩ := hrel
    clear ca ka kb hR1 hR2 hn0 hn1 h0
    by_cases hlt : i < la
    · obtain ⟨ad1, x, e1, hB1, hx, hcx⟩ := reads_at hr1 hlt
      subst e1
      have HX := hide hx; clear hx
      have cb := kb'.cell
      gi_wp2
      gi_loopw [17] (fun v wr => ∃ k : Nat, k ≤ lb ∧ v = .int .i64 k ∧ J (allpos i lb ++ rowpos i k) wr ∧ Blk wr Bb 55 #[.slice A2 lb c2] ∧ Reads wr n0 1 (some ad1) la (ints a) ∧ Reads wr n0 1 A2 lb (ints b) ∧ n0 ≤ wr.heap.size ∧ n1 ≤ wr.heap.size) (fun v _ => lb - (intOf v).toNat)
      case atStart => exact ⟨0, by omega, rfl, by simpa [rowpos] using hj, kb', hr1, hr2, hz0, hz1⟩
      case round =>
        rename World => wq
        obtain ⟨k, hk, rfl, hj2, kb2, hs1, hs2, hy0, hy1⟩ := hrel
        clear hj kb' hr1 hr2 hz0 hz1 cb hcx
        by_cases hlt2 : k < lb
        · obtain ⟨ad2, y, e2, hB2, hy, hcy⟩ := reads_at hs2 hlt2
          subst e2
          have HYv := hide hy; clear hy
          obtain ⟨fn, tmps, assign, body, hyl, hRd⟩ := hY _ (i, k) wq hj2 ⟨hlt, hlt2⟩
          unfold encP at hyl
          (try dsimp only at hyl)
          rw [co_get HX.out, co_get HYv.out] at hyl
          have hwm : wrap64 (x * y) = wr (x * y) := wr_is _
          clear hY hj2
          gi_wp2
          refine hRd.mono ?_
          rintro e W5 ⟨rfl, hJ5, hk5⟩
          have hs5 := hk5.others.size
          clear hcy
          gi_wp2
          go_roundw
          case rel => exact ⟨k + 1, by omega, by go_num, by rw [rowpos_succ, ← List.append_assoc]; exact hJ5, hk5.blk kb2 hnb rfl, hs1.below hk5.below, hs2.below hk5.below, by omega, by omega⟩
          case measure => simp [intOf]; omega
        · obtain rfl : k = lb := by omega
          gi_wp2
          go_roundw
          case rel => exact ⟨i + 1, by omega, by go_num, by rw [allpos_succ]; exact hj2, kb2, hs1, hs2, hy0, hy1⟩
          case measure => simp [intOf]; omega
    · obtain rfl : i = la := by omega
      gi_wp2
      go_end0
      exact ⟨⟨_, rfl⟩, _, rfl, hj⟩
theorem products_in (n : Nat) (A1 : Option Addr) (la c1 : Nat) (A2 : Option Addr) (lb c2 : Nat) (w : World) :
    CallsIn Fence.wide n Tryd.prog 107 #[.slice A1 la c1, .slice A2 lb c2] w fun e w' => e = .returned (.func (.func 109) #[] #[.pointer (some ⟨w.heap.size, 0, none⟩), .pointer (some ⟨w.heap.size + 1, 0, none⟩)]) ∧
      Below w.heap.size w w' ∧ w.heap.size + 2 ≤ w'.heap.size ∧ Blk w' w.heap.size 55 #[.slice A1 la c1] ∧ Blk w' (w.heap.size + 1) 55 #[.slice A2 lb c2] := by
  obtain ⟨w3, e3, hb3, hz3, k0, k1⟩ := box2 w #[.slice A1 la c1] #[.slice A2 lb c2] 55 55
  refine callsIn_of_wp Tryd.func107 rfl trivial ?_ rfl
  simp only [Tryd.ntmps107, List.size_toArray, List.length_cons, List.length_nil, Nat.reduceAdd, Nat.reduceSub, Array.replicate_succ, Array.replicate_zero, List.push_toArray, List.append_toArray, List.nil_append, List.cons_append]
  gi_wp2
  go_ret
  rw [← e3]
  exact ⟨rfl, hb3, hz3, k0, k1⟩
theorem products_all (n : Nat) (hn : 1 ≤ n) (Ba Bb n0 n1 : Nat) (A1 : Option Addr) (la c1 : Nat) (a : List Int) (A2 : Option Addr) (lb c2 : Nat) (b : List Int) (hla : la ≤ 100000) (hlb : lb ≤ 100000)
    (w : World) (ka : Blk w Ba 55 #[.slice A1 la c1]) (kb : Blk w Bb 55 #[.slice A2 lb c2]) (hnb : n1 ≤ Bb) (hR1 : Reads w n0 1 A1 la (ints a)) (hR2 : Reads w n0 1 A2 lb (ints b)) (hn0 : n0 ≤ w.heap.size) (hn1 : n1 ≤ w.heap.size) :
    SeqAll n Tryd.prog 109 #[.pointer (some ⟨Ba, 0, none⟩), .pointer (some ⟨Bb, 0, none⟩)] (encP a b) prT n0 n1 (fun ys => ys = allpos la lb) (nextP la lb) w :=
  fun lp J W hW hJ hY h0 => products1_in n hn lp Ba Bb n0 n1 A1 la c1 a A2 lb c2 b hla hlb J hJ hY W (ka.below hW ka.lt) (kb.below hW kb.lt) hnb (hR1.below (hW.mono hn0)) (hR2.below (hW.mono hn0)) (by have := hW.size; omega) (by have := hW.size; omega) h0
/-! ### What the rounds make -/
def addAt (o : List Int) (k : Nat) (v : Int) : List Int := o.mapIdx fun j y => if j = k then y + v else y
theorem addAt_len (o : List Int) (k : Nat) (v : Int) : (addAt o k v).length = o.length := by simp [addAt]
theorem co_addAt {o : List Int} {k : Nat} {v : Int} {j : Nat} (hj : j < o.length) : co (addAt o k v) j = if j = k then co o j + v else co o j := by
  unfold co addAt
  rw [List.getElem?_mapIdx, List.getElem?_eq_getElem hj]
  rfl
theorem wints_addAt {o : List Int} {k : Nat} {v : Int} (hk : k < o.length) : (wints o).toArray.setIfInBounds k (.int .i64 (wr (co o k + v))) = (wints (addAt o k v)).toArray := by
  apply Array.ext_getElem?
  intro j
  rw [Array.getElem?_setIfInBounds]
  simp only [List.getElem?_toArray, List.size_toArray]
  split
  · rename_i hj
    subst hj
    rw [wints_len, if_pos hk, wints_at (by rw [addAt_len]; exact hk), co_addAt hk, if_pos rfl]
  · rename_i hj
    by_cases hjl : j < o.length
    · rw [wints_at hjl, wints_at (by rw [addAt_len]; exact hjl), co_addAt hjl, if_neg (fun e => hj e.symm)]
    · rw [List.getElem?_eq_none (by rw [wints_len]; omega), List.getElem?_eq_none (by rw [wints_len, addAt_len]; omega)]
def stt (a b o : List Int) (ps : List (Nat × Nat)) : List Int := ps.foldl (fun o p => addAt o (p.1 + p.2) (co a p.1 * co b p.2)) o
theorem stt_snoc (a b o : List Int) (ps : List (Nat × Nat)) (p : Nat × Nat) : stt a b o (ps ++ [p]) = addAt (stt a b o ps) (p.1 + p.2) (co a p.1 * co b p.2) := by simp [stt]
theorem stt_app (a b o : List Int) (ps qs : List (Nat × Nat)) : stt a b o (ps ++ qs) = stt a b (stt a b o ps) qs := by simp [stt]
theorem stt_len (a b o : List Int) : ∀ ps, (stt a b o ps).length = o.length := by
  intro ps
  induction ps generalizing o with
  | nil => rfl
  | cons p ps ih => show (stt a b (addAt o _ _) ps).length = _; rw [ih, addAt_len]
theorem stt_row (a b o : List Int) (i : Nat) : ∀ k, stt a b o (rowpos i k) = addPart o i (co a i) b k := by
  intro k
  induction k with
  | zero => rw [addPart_zero]; rfl
  | succ k ih =>
    rw [rowpos_succ, stt_snoc, ih]
    unfold addAt addPart
    refine List.ext_getElem? fun j => ?_
    rw [List.getElem?_mapIdx, List.getElem?_mapIdx, List.getElem?_mapIdx]
    cases o[j]? with
    | none => rfl
    | some y =>
      simp only [Option.map_some]
      by_cases h1 : j = i + k
      · rw [if_pos h1, if_neg (by omega), if_pos (by omega), show j - i = k by omega]
      · rw [if_neg h1]
        by_cases h2 : i ≤ j ∧ j < i + k
        · rw [if_pos h2, if_pos (by omega)]
        · rw [if_neg h2, if_neg (by omega)]
theorem stt_all (a b o : List Int) : ∀ n, stt a b o (allpos n b.length) = addRows o a b n := by
  intro n
  induction n with
  | zero => rfl
  | succ n ih => rw [allpos_succ, stt_app, ih, stt_row, addPart_all]; rfl
/-- The number of elements of a convolution, and the convolution. -/
def cvLen (a b : List Int) : Nat := if a.length = 0 ∨ b.length = 0 then 0 else a.length + b.length - 1
def cvl (a b : List Int) : List Int := addRows (List.replicate (cvLen a b) 0) a b a.length
theorem cvl_len (a b : List Int) : (cvl a b).length = cvLen a b := by unfold cvl; rw [addRows_len, List.length_replicate]
theorem co_cvl (a b : List Int) (k : Nat) : co (cvl a b) k = pc a b k := by
  rcases Nat.lt_or_ge k (cvLen a b) with h | h
  · have := co_pad [] (cvLen a b) k
    rw [List.nil_append, co_nil] at this
    unfold cvl
    rw [co_addRows (by rw [List.length_replicate]; exact h), cv_all, this]; omega
  · rw [co_far (by rw [cvl_len]; exact h)]
    unfold cvLen at h
    split at h
    · rename_i h0
      rcases h0 with h0 | h0
      · rw [List.eq_nil_of_length_eq_zero h0, pc_nil]
      · rw [List.eq_nil_of_length_eq_zero h0, pc_nil_right]
    · symm
      have key : ∀ n, cv a b k n = 0 ∨ n > a.length := by
        intro n
        induction n with
        | zero => exact .inl rfl
        | succ n ih =>
          rcases ih with ih | ih
          · by_cases hn : n < a.length
            · left
              rw [cv, ih]
              split
              · rw [co_far (xs := b) (by omega)] ; simp
              · rfl
            · right; omega
          · right; omega
      rw [← cv_all]
      rcases key a.length with h1 | h1
      · exact h1
      · omega
theorem length_any (A1 : Option Addr) (la c1 : Nat) (a : List Int) (A2 : Option Addr) (lb c2 : Nat) (b : List Int) (ha : a.length = la) (hb : b.length = lb) (hla : la ≤ 100000) (hlb : lb ≤ 100000) (w : World) :
    Calls Tryd.prog 96 #[.slice A1 la c1, .slice A2 lb c2] w fun e w' => e = .returned (.int .i64 (cvLen a b : Nat)) ∧ w = w' := by
  have hc : ((cvLen a b : Nat) : Int) = if la = 0 then 0 else if lb = 0 then 0 else (la : Int) + (lb : Int) - 1 := by
    unfold cvLen
    rw [ha, hb]
    by_cases h1 : la = 0
    · simp [h1]
    · by_cases h2 : lb = 0
      · simp [h2]
      · rw [if_neg (by omega), if_neg h1, if_neg h2]; omega
  have HCc := hide hc
  clear hc ha hb
  by_cases h1 : la = 0
  · subst h1
    go_enter Tryd.func96, Tryd.ntmps96
    go_wp2
    go_ret
    exact ⟨by rw [HCc.out]; rfl, rfl⟩
  · have g1 : ((la : Int) == 0) = false := by simp; omega
    by_cases h2 : lb = 0
    · subst h2
      have HN := hide h1
      clear h1
      go_enter Tryd.func96, Tryd.ntmps96
      go_wp2
      go_ret
      exact ⟨by rw [HCc.out, if_neg HN.out]; rfl, rfl⟩
    · have g2 : ((lb : Int) == 0) = false := by simp; omega
      have HN := hide h1
      have HN2 := hide h2
      clear h1 h2
      go_enter Tryd.func96, Tryd.ntmps96
      go_wp2
      go_ret
      exact ⟨by rw [HCc.out, if_neg HN.out, if_neg HN2.out]; rfl, rfl⟩
def CvI (w : World) (a b : List Int) (L : Nat) (pre : List (Nat × Nat)) (W : World) : Prop :=
  Blk W w.heap.size 3 (wints (stt a b (List.replicate L 0) pre)).toArray ∧ Blk W (w.heap.size + 1) 55 #[.slice (some ⟨w.heap.size, 0, none⟩) L L] ∧ Below w.heap.size w W
theorem cvI_hush {T : List TypeId} (hT : T.contains 3 = false) {w : World} {a b : List Int} {L n1 nC : Nat} (hC : w.heap.size ≤ nC) (h1 : w.heap.size + 2 ≤ n1) (s : List (Nat × Nat)) (A B : World) (h : CvI w a b L s A) (hh : Hush T n1 nC A B) : CvI w a b L s B := by
  obtain ⟨x, y, z⟩ := h
  exact ⟨hh.blk x (fun _ => hT), hh.blk y (fun h => absurd h (by omega)), hh.below z (by omega) hC (Nat.le_refl _)⟩
set_option maxHeartbeats 4000000 in
theorem convolved_in (n : Nat) (hn : 3 ≤ n) (A1 : Option Addr) (la c1 : Nat) (a : List Int) (A2 : Option Addr) (lb c2 : Nat) (b : List Int) (w : World) (hla : la ≤ 100000) (hlb : lb ≤ 100000) (hR1 : Reads w w.heap.size 1 A1 la (ints a)) (hR2 : Reads w w.heap.size 1 A2 lb (ints b)) (hs : n1 a * n1 b ≤ 9223372036854775807) :
    CallsIn Fence.wide n Tryd.prog 99 #[.slice A1 la c1, .slice A2 lb c2] w fun e w' => ∃ g c, e = .returned (.slice (some ⟨g, 0, none⟩) (cvLen a b) c) ∧ Reads w' w'.heap.size 1 (some ⟨g, 0, none⟩) (cvLen a b) (ints (cvl a b)) ∧ w.heap.size ≤ g ∧ Below w.heap.size w w' := by
  have hL2 : cvLen a b ≤ 200000 := by
    have h1 := reads_len hR1
    have h2 := reads_len hR2
    unfold cvLen; split <;> omega
  have hmk := run_make_row' (P := Tryd.prog) 55 3 (.int .i64 0) 8 Tryd.underlying55 info_int rfl .i64 .i64 (cvLen a b) (by omega) (by omega)
  refine callsIn_of_wp_marks Tryd.func99 rfl trivial ?_ rfl
  simp only [Tryd.ntmps99, List.size_toArray, List.length_cons, List.length_nil, Nat.reduceAdd, Nat.reduceSub, Array.replicate_succ, Array.replicate_zero, List.push_toArray, List.append_toArray, List.nil_append, List.cons_append]
  gi_wp2
  refine ⟨trivial, fun _ => by omega, ?_⟩
  refine (callsIn_wide.2 (length_any A1 la c1 a A2 lb c2 b (reads_len hR1) (reads_len hR2) hla hlb w)).mono ?_
  rintro e W' ⟨rfl, rfl⟩
  gi_upto_region 2 with (fail)
  obtain ⟨w1, e1, hb1, hz1, k0, k1⟩ := box2 w (madeCells #[.int .i64 0] (cvLen a b)) #[.slice (some ⟨w.heap.size, 0, none⟩) (cvLen a b) (cvLen a b)] 3 55
  rw [← e1]; clear e1 hmk
  rw [made_eq] at k0
  have hzn : n1 (List.replicate (cvLen a b) 0) = 0 := n1_zeros _
  have hl0 : (List.replicate (cvLen a b) (0 : Int)).length = cvLen a b := List.length_replicate
  have kz : Blk w1 w.heap.size 3 (wints (List.replicate (cvLen a b) 0)).toArray := by rw [wints_in (by rw [hzn]; omega)]; exact k0
  clear k0 hzn
  gi_wp2
  refine ⟨trivial, fun _ => by omega, ?_⟩
  refine (products_in (n - 1) A1 la c1 A2 lb c2 w1).mono ?_
  rintro e w3 ⟨rfl, hb3, hz3, q0, q1⟩
  have hbb : Below w.heap.size w w3 := below_next hb1 hb3
  have hI0 : CvI w a b (cvLen a b) [] w3 := ⟨carryK kz hb3, carryK k1 hb3, hbb⟩
  clear kz k1
  gi_wp2
  refine wpIn_rangeAll (by omega) (gf := 109) (lb := #[.pointer (some ⟨w1.heap.size, 0, none⟩), .pointer (some ⟨w1.heap.size + 1, 0, none⟩)]) rfl (enters_of Tryd.func109 (by kernel_rfl) rfl)
    (products_all (n - 1) (by omega) _ _ w.heap.size w1.heap.size A1 la c1 a A2 lb c2 b hla hlb w3 q0 q1 (by omega) (hR1.below hbb) (hR2.below hbb) hbb.size hb3.size) hbb.size (fun _ => rfl)
    (CvI w a b (cvLen a b)) (fun s A B h hh => cvI_hush rfl hbb.size (by omega) s A B h hh) hI0
    (fun pre x bb W => CvI w a b (cvLen a b) pre W ∧ bb = { tmps := #[.slice A1 la c1, .slice A2 lb c2, undef, undef, .slice none 0 0, .pointer (some ⟨w.heap.size + 1, 0, none⟩), .int .i64 ((x.1 : Int) + (x.2 : Int)), .int .i64 (wr (co a x.1 * co b x.2)), .slice A1 la c1, .slice A2 lb c2, .int .i64 (cvLen a b : Nat), .slice (some ⟨w.heap.size, 0, none⟩) (cvLen a b) (cvLen a b), .slice A1 la c1, .slice A2 lb c2, .func (.func 109) #[] #[.pointer (some ⟨w1.heap.size, 0, none⟩), .pointer (some ⟨w1.heap.size + 1, 0, none⟩)], .int .i64 ((x.1 : Int) + (x.2 : Int)), .int .i64 (wr (co a x.1 * co b x.2)), undef, undef, undef, undef, undef, undef, undef, undef], defers := [] })
    (fun pre x bb A B h hh => ⟨cvI_hush rfl hbb.size (by omega) _ _ _ h.1 hh, h.2⟩)
    ?assign ?body ?done
  case assign =>
    intro lp pre x W hW hI hnx
    unfold encP
    gi_wp2
    exact ⟨Kept.of_below (Below.refl _ _) hI.2.2.size, hI, trivial⟩
  case body =>
    rintro lp pre x bb W hW ⟨⟨h1, h2, h3⟩, rfl⟩ ⟨hx1, hx2⟩
    have hin : x.1 + x.2 < cvLen a b := by
      unfold cvLen
      rw [reads_len hR1, reads_len hR2]
      split <;> omega
    have hsl : (stt a b (List.replicate (cvLen a b) 0) pre).length = cvLen a b := by rw [stt_len, hl0]
    have c2 := h2.cell
    have c1 : W.cell? ⟨w.heap.size, x.1 + x.2, none⟩ = some (.int .i64 (wr (co (stt a b (List.replicate (cvLen a b) 0) pre) (x.1 + x.2)))) := by
      rw [h1.cell, List.getElem?_toArray, wints_at (by rw [hsl]; exact hin)]
    have f1 := h1.frozen (x.1 + x.2)
    gi_wp2
    have e : wrap64 (wr (co (stt a b (List.replicate (cvLen a b) 0) pre) (x.1 + x.2)) + wr (co a x.1 * co b x.2)) = wr (co (stt a b (List.replicate (cvLen a b) 0) pre) (x.1 + x.2) + co a x.1 * co b x.2) := by rw [wr_is, wr_add]
    rw [e]
    refine (⟨Kept.set h1 (Nat.le_refl _) (fun _ => rfl) _, ?_, h2.far (by simp) _, below_set h3 (Nat.le_refl _) _⟩ : Kept prT w.heap.size w1.heap.size W _ ∧ CvI w a b (cvLen a b) (pre ++ [x]) _)
    have := h1.set_ (x.1 + x.2) (.int .i64 (wr (co (stt a b (List.replicate (cvLen a b) 0) pre) (x.1 + x.2) + co a x.1 * co b x.2)))
    rwa [wints_addAt (by rw [hsl]; exact hin), ← stt_snoc a b (List.replicate (cvLen a b) 0) pre x] at this
  case done =>
    rintro D ys W hD rfl ⟨h1, h2, h3⟩ hK
    have c2 := h2.cell
    have hfin : stt a b (List.replicate (cvLen a b) 0) (allpos la lb) = cvl a b := by
      have e1 := reads_len hR1
      have e2 := reads_len hR2
      rw [← e2, stt_all, ← e1]; rfl
    rw [hfin] at h1
    have hn1 : n1 (cvl a b) ≤ 9223372036854775807 := by
      have := n1_addRows (List.replicate (cvLen a b) 0) a b a.length
      rw [n1_zeros, List.take_length] at this
      show n1 (addRows _ _ _ _) ≤ _
      omega
    rw [wints_in hn1] at h1
    have ne0 : w.heap.size ≠ D := by
      rintro rfl
      unfold Blk at h1
      rw [h1] at hK
      cases hK
    gi_wp2
    refine ⟨by simp, .inl ⟨_, _, rfl, run_takeDeferred (w := W) hK, ?_⟩⟩
    have k5 : Blk (W.putObj D (.deferred none)) w.heap.size 3 (ints (cvl a b)).toArray := (World.putObj_heap_other ne0).trans h1
    refine ⟨.slice (some ⟨w.heap.size, 0, none⟩) (cvLen a b) (cvLen a b), by simp [results, Tryd.results99, go_sem], w.heap.size, _, rfl, ?_, Nat.le_refl _, ?_⟩
    · exact blkR k5 (cvl_len a b).symm
    · exact h3.trans (belowK_b (w := w) (Nat.le_refl _) W D _ _ (by have := hbb.size; omega) hK rfl rfl)
end Go.Proofs.YthlnmoecmicofaaDoor
