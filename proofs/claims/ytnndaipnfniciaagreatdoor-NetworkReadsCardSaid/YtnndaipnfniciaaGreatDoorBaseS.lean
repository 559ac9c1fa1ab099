/- A region that draws its order and falls in two: operations that are quiet in a class of worlds (they read, or call what makes memory of its own alone), and operations behind them that wait for all of those. One walk in the text's order serves the first part. Ladders in memory; the checks of ladders of the program. Products of matrices, of the program; the matrices of the kinds of elements. The variables none and one; the matrices of the kinds of elements, as the program's function values make them. The iterator values of a ladder: its contract. -/
import Derived.Test.YtnndaipnfniciaaGreatDoorBaseF
import Derived.OrdersHeld
import Derived.Deep.DeepCutAuto
import Derived.Sort.CutIn
namespace Go.Proofs.YtnndaipnfniciaaGreatDoor
open Go.RowKit
set_option maxRecDepth 100000

section
variable {P : Program} {ops : Array Oper} {md : Region.Mode} {C : World → Prop} {n : Nat}

def readyN (md : Region.Mode) (ops : Array Oper) (n : Nat) (listed : Array Bool) : List Nat := (Region.ready md ops listed).filter (fun i => decide (i < n))
theorem mem_readyN {listed : Array Bool} {i : Nat} : i ∈ readyN md ops n listed ↔ i ∈ Region.ready md ops listed ∧ i < n := by simp [readyN]
/-- Whatever order is picked among the first n. -/
def wpAnyN (P : Program) (md : Region.Mode) (ops : Array Oper) (C : World → Prop) (n : Nat) (Q : Act → Prop) : Nat → Array Bool → Act → Prop
  | 0, listed, a => readyN md ops n listed = [] ∧ Q a
  | fuel + 1, listed, a => (readyN md ops n listed = [] → Q a) ∧ ∀ i ∈ readyN md ops n listed, qOp P ops C i (wpAnyN P md ops C n Q fuel (listed.setIfInBounds i true)) a
theorem wpAnyN_first {Q : Act → Prop} {i : Nat} {oi : Oper} {v : Value} (hin : i < n) (hi : ops[i]? = some oi) (hsel : ∀ (j : Nat) (o : Oper) cs b, ops[j]? = some o → o.op ≠ .select cs b) :
    ∀ (fuel : Nat) (listed : Array Bool) (a : Act),
      (∀ j oj, ops[j]? = some oj → j ≠ i → listed.getD j true = false → (∀ e ∈ oj.after, Region.binds md e = true → e.on ≠ i) → oi.apart ops oj = true) →
      i ∈ Region.ready md ops listed → YieldsIn P ops C oi v a →
      wpAnyN P md ops C n Q fuel (listed.setIfInBounds i true) (a.put oi.dst v) → wpAnyN P md ops C n Q (fuel + 1) listed a := by
  intro fuel
  induction fuel with
  | zero =>
    intro listed a _ hr hy H
    refine ⟨fun h => (by have := mem_readyN.2 ⟨hr, hin⟩; rw [h] at this; cases this), fun j hj => ?_⟩
    obtain ⟨hj1, hj2⟩ := mem_readyN.1 hj
    by_cases hji : j = i
    · subst hji; exact hy.qOp hi H
    · have := mem_readyN.2 ⟨ready_mono hj1 hji, hj2⟩
      rw [H.1] at this
      cases this
  | succ fuel ih =>
    intro listed a hfree hr hy H
    refine ⟨fun h => (by have := mem_readyN.2 ⟨hr, hin⟩; rw [h] at this; cases this), fun j hj => ?_⟩
    obtain ⟨hj1, hj2⟩ := mem_readyN.1 hj
    by_cases hji : j = i
    · subst hji; exact hy.qOp hi H
    · have h1 := H.2 j (mem_readyN.2 ⟨ready_mono hj1 hji, hj2⟩)
      obtain ⟨hjun, oj, hoj, hall⟩ := mem_ready.1 hj1
      have hnot : ∀ e ∈ oj.after, Region.binds md e = true → e.on ≠ i := fun e he hb heq => by
        have h1 := hall e he hb
        have h0 := (mem_ready.1 hr).1
        rw [heq] at h1
        rcases Nat.lt_or_ge i listed.size with h' | h'
        · simp [h'] at h0 h1; rw [h0] at h1; cases h1
        · simp [Array.getElem?_eq_none h'] at h1
      have h2 := qOp_put hoj (hfree j oj hoj hji hjun hnot) (fun cs b => hsel i oi cs b hi) (fun cs b => hsel j oj cs b hoj) hy h1
      have hfree' : ∀ k ok, ops[k]? = some ok → k ≠ i → (listed.setIfInBounds j true).getD k true = false →
          (∀ e ∈ ok.after, Region.binds md e = true → e.on ≠ i) → oi.apart ops ok = true := fun k ok hk hki hun hno => by
        refine hfree k ok hk hki ?_ hno
        by_cases hjk : j = k
        · subst hjk; exact hjun
        · rw [getD_set_ne true hjk] at hun; exact hun
      refine qOp_mono (fun a' h3 => ih (listed.setIfInBounds j true) a' hfree' (ready_mono hr (Ne.symm hji)) h3.1 ?_) h2
      rw [Array.setIfInBounds_comm _ _ hji]
      exact h3.2
/-- The text's order among the first n. -/
def lexN (md : Region.Mode) (ops : Array Oper) (n : Nat) : Nat → Nat → Array Bool → Bool
  | 0, _, listed => (readyN md ops n listed).isEmpty
  | fuel + 1, k, listed => (Region.ready md ops listed).contains k && Region.free md ops listed k && lexN md ops n fuel (k + 1) (listed.setIfInBounds k true)
theorem wpAnyN_lex {Q : Act → Prop} (hs : Region.noSelect ops = true) : ∀ (l : List Oper) (k : Nat) (listed : Array Bool) (a : Act), (∀ j o, l[j]? = some o → ops[k + j]? = some o) → k + l.length = n →
    lexN md ops n l.length k listed = true → wpQuiet P ops C Q l a → wpAnyN P md ops C n Q l.length listed a
  | [], _, _, _, _, _, hB, h => ⟨by simpa [lexN] using hB, h⟩
  | o :: l, k, listed, a, hl, hk, hB, h => by
    have h0 : ops[k]? = some o := hl 0 o rfl
    simp only [List.length_cons, lexN, Bool.and_eq_true] at hB hk
    obtain ⟨⟨hr, hf⟩, hB'⟩ := hB
    have hst : qOp P ops C k (wpQuiet P ops C Q l) a := by unfold qOp; simp only [h0]; exact h
    obtain ⟨v, hy, hK⟩ := yieldsIn_of_qOp h0 hst
    exact wpAnyN_first (by omega) h0 (Region.noSelect_spec hs) l.length listed a (Region.free_spec h0 hf) (by simpa using hr) hy
      (wpAnyN_lex hs l (k + 1) _ _ (fun j o hj => by have := hl (j + 1) o (by simpa using hj); rwa [show k + 1 + j = k + (j + 1) by omega]) (by omega) hB' hK)

theorem wpAny_more {Q : Exit → Act → World → Prop} : ∀ (m : Nat) (listed : Array Bool) (a : Act) (w : World), wpAny P md ops Q m listed a w → wpAny P md ops Q (m + 1) listed a w
  | 0, listed, a, w, h => ⟨fun _ => h.2, fun i hi => by rw [h.1] at hi; cases hi⟩
  | m + 1, listed, a, w, h => ⟨h.1, fun i hi => wpOp_mono (fun a' w' h' => wpAny_more m _ a' w' h') (h.2 i hi)⟩
theorem wpAny_far {Q : Exit → Act → World → Prop} (m : Nat) (listed : Array Bool) (a : Act) (w : World) (h : wpAny P md ops Q m listed a w) : ∀ k, wpAny P md ops Q (k + m) listed a w
  | 0 => by simpa using h
  | k + 1 => by rw [show k + 1 + m = k + m + 1 by omega]; exact wpAny_more _ _ _ _ (wpAny_far m listed a w h k)

/-- What an operation waits for. -/
def aft (md : Region.Mode) (ops : Array Oper) (i : Nat) : List Nat := match ops[i]? with
  | some o => (o.after.toList.filter (Region.binds md)).map (·.on)
  | none => []
theorem mem_aft {i : Nat} {o : Oper} {e : Edge} (ho : ops[i]? = some o) (he : e ∈ o.after) (hb : Region.binds md e = true) : e.on ∈ aft md ops i := by
  simp only [aft, ho, List.mem_map, List.mem_filter]
  exact ⟨e, ⟨by simpa using he, hb⟩, rfl⟩
theorem aft_mem {i k : Nat} (h : k ∈ aft md ops i) : ∃ o e, ops[i]? = some o ∧ e ∈ o.after ∧ Region.binds md e = true ∧ e.on = k := by
  unfold aft at h
  split at h
  · rename_i o ho
    simp only [List.mem_map, List.mem_filter] at h
    obtain ⟨e, ⟨h1, h2⟩, h3⟩ := h
    exact ⟨o, e, ho, by simpa using h1, h2, h3⟩
  · cases h
def sweep (md : Region.Mode) (ops : Array Oper) (is s : List Nat) : List Nat := is.foldl (fun s i => if s.contains i then s ++ aft md ops i else s) s
/-- Whatever is listed, what it waits for is listed. -/
def Closed (md : Region.Mode) (ops : Array Oper) (listed : Array Bool) : Prop := ∀ i k, listed.getD i false = true → k ∈ aft md ops i → listed.getD k false = true
theorem sweep_in {listed : Array Bool} (hc : Closed md ops listed) : ∀ (is s : List Nat), (∀ x ∈ s, listed.getD x false = true) → ∀ x ∈ sweep md ops is s, listed.getD x false = true
  | [], s, h => h
  | i :: is, s, h => by
    show ∀ x ∈ sweep md ops is (if s.contains i then s ++ aft md ops i else s), _
    refine sweep_in hc is _ ?_
    split
    · rename_i hi
      intro x hx
      rcases List.mem_append.1 hx with hx | hx
      · exact h x hx
      · exact hc i x (h i (by simpa using hi)) hx
    · exact h
/-- The split's check: the first n wait for elder ones alone; each later one waits, at length, for all of the first n. -/
def splitB (md : Region.Mode) (ops : Array Oper) (n : Nat) : Bool :=
  ((List.range n).all fun i => (aft md ops i).all fun k => decide (k < i)) &&
  ((List.range ops.size).all fun j => decide (j < n) || let s := sweep md ops (List.range n).reverse (aft md ops j); (List.range n).all fun i => s.contains i)

theorem all_listed {listed : Array Bool} (hsz : listed.size = ops.size) (hn : n ≤ ops.size) (hd : ∀ i, i < n → ∀ k ∈ aft md ops i, k < i) (h : readyN md ops n listed = []) : ∀ i, i < n → listed.getD i false = true := by
  intro i
  induction i using Nat.strongRecOn with
  | _ i ih =>
    intro hi
    cases hl : listed.getD i true with
    | true =>
      have : i < listed.size := by omega
      simp [this] at hl ⊢
      exact hl
    | false =>
      exfalso
      have ho : ops[i]? = some ops[i] := Array.getElem?_eq_getElem (by omega)
      have : i ∈ readyN md ops n listed := mem_readyN.2 ⟨mem_ready.2 ⟨hl, _, ho, fun e he hb => by
        have := hd i hi _ (mem_aft ho he hb)
        exact ih _ this (by omega)⟩, hi⟩
      rw [h] at this
      cases this

theorem wpAny_of_N {Q : Act → Prop} {Q' : Exit → Act → World → Prop} {m : Nat} (hn : n ≤ ops.size) (hB : splitB md ops n = true)
    (hQ : ∀ a w listed, C w → listed.size = ops.size → (∀ i, i < n → listed.getD i false = true) → (∀ j, n ≤ j → listed.getD j false = false) → Q a → wpAny P md ops Q' m listed a w) :
    ∀ (f : Nat) (listed : Array Bool) (a : Act) (w : World), listed.size = ops.size → (∀ j, n ≤ j → listed.getD j false = false) → Closed md ops listed → C w → wpAnyN P md ops C n Q f listed a → wpAny P md ops Q' (f + m) listed a w := by
  simp only [splitB, Bool.and_eq_true, List.all_eq_true, List.mem_range, decide_eq_true_eq, Bool.or_eq_true, List.contains_iff_mem] at hB
  obtain ⟨hd, hcov⟩ := hB
  intro f
  induction f with
  | zero =>
    intro listed a w hsz hlo hcl hw h
    have := hQ a w listed hw hsz (all_listed hsz hn hd h.1) hlo h.2
    rwa [Nat.zero_add]
  | succ f ih =>
    intro listed a w hsz hlo hcl hw h
    by_cases hr : readyN md ops n listed = []
    · exact wpAny_far m listed a w (hQ a w listed hw hsz (all_listed hsz hn hd hr) hlo (h.1 hr)) (f + 1)
    · rw [show f + 1 + m = f + m + 1 by omega]
      refine ⟨fun h0 => absurd (by unfold readyN; rw [h0]; rfl) hr, fun i hi => ?_⟩
      by_cases hin : i < n
      · refine wpOp_of_qOp hw (fun a' w' hw' hK => ih _ a' w' (by simpa using hsz) (fun j hj => ?_) ?_ hw' hK) (h.2 i (mem_readyN.2 ⟨hi, hin⟩))
        · rw [getD_set_ne false (by omega)]; exact hlo j hj
        · intro x k hx hk
          have hx' : x = i ∨ listed.getD x false = true := by
            by_cases e : x = i
            · exact .inl e
            · rw [getD_set_ne false (fun q => e q.symm)] at hx; exact .inr hx
          have hkl : listed.getD k false = true := by
            rcases hx' with rfl | hx'
            · obtain ⟨o, e, ho, he, hb, rfl⟩ := aft_mem hk
              obtain ⟨_, o', ho', hall⟩ := mem_ready.1 hi
              rw [ho] at ho'; cases ho'
              exact hall e he hb
            · exact hcl x k hx' hk
          by_cases e : i = k
          · subst e
            have : i < listed.size := by omega
            simp [this]
          · rw [getD_set_ne false e]; exact hkl
      · exfalso
        obtain ⟨hun, o, ho, hall⟩ := mem_ready.1 hi
        have hi2 : i < ops.size := (Array.getElem?_eq_some_iff.1 ho).1
        have h1 : ∀ x ∈ aft md ops i, listed.getD x false = true := fun x hx => by
          obtain ⟨o', e, ho', he, hb, rfl⟩ := aft_mem hx
          rw [ho] at ho'; cases ho'
          exact hall e he hb
        have h2 := sweep_in hcl (List.range n).reverse _ h1
        obtain ⟨i0, hi0⟩ := List.exists_mem_of_ne_nil _ hr
        obtain ⟨hr0, hl0⟩ := mem_readyN.1 hi0
        have h3 := (hcov i hi2).resolve_left hin i0 hl0
        have h4 := h2 i0 h3
        have h5 := (mem_ready.1 hr0).1
        have : i0 < listed.size := by omega
        simp [this] at h4 h5
        rw [h4] at h5; cases h5

/-- **THE REGION IN TWO PARTS.** -/
theorem wp_region_split {id : Nat} {Q : Exit → Act → World → Prop} {a : Act} {w : World} {l r : List Oper} (hm : P.follows .mixedOrders = true) (hs : Region.noSelect (l ++ r).toArray = true)
    (hx : lexN .any (l ++ r).toArray l.length l.length 0 (Array.replicate (l ++ r).toArray.size false) = true) (hB : splitB .any (l ++ r).toArray l.length = true) (hC : C w.drew)
    (h : wpQuiet P (l ++ r).toArray C (fun a' => ∀ w', C w' → wpAny P .any (l ++ r).toArray Q r.length ((List.replicate l.length true ++ List.replicate r.length false).toArray) a' w') l a) : (Code.region id (l ++ r).toArray true).wp P Q a w := by
  refine wp_region_any hm ?_
  have h1 := wpAnyN_lex (C := C) (md := .any) (n := l.length) hs l 0 (Array.replicate (l ++ r).toArray.size false) a (fun j o hj => by simpa using List.getElem?_append_left (List.getElem?_eq_some_iff.1 hj).1 ▸ hj) (by omega) hx h
  have h2 := wpAny_of_N (Q' := Q) (m := r.length) (by simp) hB (fun a' w' listed hw' hsz hlo hhi hq => by
    have e : listed = (List.replicate l.length true ++ List.replicate r.length false).toArray := by
      apply Array.ext
      · simpa using hsz
      · intro i hi1 hi2
        have hi3 : i < l.length + r.length := by simpa using hi2
        by_cases hil : i < l.length
        · have := hlo i hil
          simp [hi1] at this
          rw [this, List.getElem_toArray, List.getElem_append_left (by simpa using hil), List.getElem_replicate]
        · have := hhi i (by omega)
          simp [hi1] at this
          rw [this, List.getElem_toArray, List.getElem_append_right (by simpa using hil), List.getElem_replicate]
    rw [e]
    exact hq w' hw') l.length (Array.replicate (l ++ r).toArray.size false) a w.drew (by simp) (fun j _ => by simp [Array.getElem?_replicate]; split <;> rfl) (fun i k hi _ => by
      exfalso
      simp [Array.getElem?_replicate] at hi
      split at hi <;> simp at hi) hC h1
  have e2 : l.length + r.length = (l ++ r).toArray.size := by simp
  rw [e2] at h2
  exact h2
/-- From k on one operation alone may come up at a time. -/
def tailB (md : Region.Mode) (ops : Array Oper) : Nat → Nat → Array Bool → Bool
  | 0, _, listed => (Region.ready md ops listed).isEmpty
  | c + 1, k, listed => decide (Region.ready md ops listed = [k]) && tailB md ops c (k + 1) (listed.setIfInBounds k true)
theorem wpAny_of_list {Q : Exit → Act → World → Prop} : ∀ (r : List Oper) (k : Nat) (listed : Array Bool) (a : Act) (w : World), (∀ j o, r[j]? = some o → ops[k + j]? = some o) → tailB md ops r.length k listed = true → wpList P ops Q r a w → wpAny P md ops Q r.length listed a w
  | [], _, _, _, _, _, hB, h => ⟨by simpa [tailB] using hB, h⟩
  | o :: r, k, listed, a, w, hl, hB, h => by
    have h0 : ops[k]? = some o := hl 0 o rfl
    simp only [List.length_cons, tailB, Bool.and_eq_true, decide_eq_true_eq] at hB
    obtain ⟨hr, hB'⟩ := hB
    have ih := fun a' w' => wpAny_of_list (Q := Q) r (k + 1) (listed.setIfInBounds k true) a' w' (fun j o hj => by have := hl (j + 1) o (by simpa using hj); rwa [show k + 1 + j = k + (j + 1) by omega]) hB'
    refine ⟨fun e => (by rw [hr] at e; cases e), fun i hi => ?_⟩
    rw [hr] at hi
    obtain rfl : i = k := by simpa using hi
    unfold wpOp
    simp only [h0]
    simp only [wpList] at h
    split
    · rename_i hw
      rw [if_pos hw] at h
      rcases h with h | h
      · exact .inl (Oper.wp_mono (fun a' w' h' => ih a' w' h') h)
      · exact .inr h
    · rename_i hw
      rw [if_neg hw] at h
      exact ih _ _ h
theorem wpQuiet_mono {Q Q' : Act → Prop} (hq : ∀ a, Q a → Q' a) : ∀ {l : List Oper} {a : Act}, wpQuiet P ops C Q l a → wpQuiet P ops C Q' l a
  | [], _, h => hq _ h
  | o :: l, a, h => by
    simp only [wpQuiet] at h ⊢
    split
    · rename_i hw
      rw [if_pos hw] at h
      exact Oper.quiet_mono (fun a' h' => wpQuiet_mono hq h') h
    · rename_i hw
      rw [if_neg hw] at h
      exact wpQuiet_mono hq h
def partB (n : Nat) (ops : List Oper) : Bool :=
  decide (n ≤ ops.length) && Region.noSelect ops.toArray && lexN .any ops.toArray n n 0 (Array.replicate ops.length false) && splitB .any ops.toArray n &&
    tailB .any ops.toArray (ops.length - n) n ((List.replicate n true ++ List.replicate (ops.length - n) false).toArray)
/-- **THE REGION IN TWO PARTS**: the first n operations in one walk of the text's order, in all worlds that lie over the given one; the others one behind the other. -/
theorem wp_region_part (n B : Nat) {id : Nat} {Q : Exit → Act → World → Prop} {a : Act} {w : World} {ops : List Oper} (hm : P.follows .mixedOrders = true) (hB : partB n ops = true)
    (h : wpQuiet P ops.toArray (fun w' => ∃ x, w' = over B w x) (fun a' => ∀ w', (∃ x, w' = over B w x) → wpList P ops.toArray Q (ops.drop n) a' w') (ops.take n) a) : (Code.region id ops.toArray true).wp P Q a w := by
  simp only [partB, Bool.and_eq_true, decide_eq_true_eq] at hB
  obtain ⟨⟨⟨⟨hn, hs⟩, hx⟩, hsp⟩, ht⟩ := hB
  obtain ⟨l, r, rfl, hl⟩ : ∃ l r, ops = l ++ r ∧ l.length = n := ⟨ops.take n, ops.drop n, (List.take_append_drop n ops).symm, by rw [List.length_take]; omega⟩
  subst hl
  rw [List.take_left, List.drop_left] at h
  have e : (l ++ r).length - l.length = r.length := by simp
  rw [e] at ht
  refine wp_region_split hm hs (by simpa using hx) hsp (C := fun w' => ∃ x, w' = over B w x) ⟨w.drew, over_eq ((Below.refl _ _).drew)⟩ ?_
  refine wpQuiet_mono ?_ h
  intro a' h' w' hw'
  exact wpAny_of_list r l.length _ a' w' (fun j o hj => by simpa using List.getElem?_append_right (l₁ := l) (l₂ := r) (i := l.length + j) (by omega) ▸ (by simpa using hj)) ht (h' w' hw')
end
end Go.Proofs.YtnndaipnfniciaaGreatDoor

namespace Go.Proofs.YtnndaipnfniciaaGreatDoor
open Go.RowKit Go.Shelf
set_option maxRecDepth 100000

def elCells (x : El) : List Value := [.string x.kind, .int .i64 x.a, .int .i64 x.b]
def els (l : List El) : List Value := l.flatMap elCells
theorem els_len (l : List El) : (els l).length = l.length * 3 := by
  induction l with
  | nil => rfl
  | cons s l ih => simp only [els, List.flatMap_cons, List.length_append, List.length_cons] at *; rw [ih]; simp [elCells]; omega
theorem els_snoc (l : List El) (s : El) : els (l ++ [s]) = els l ++ elCells s := by simp [els]
theorem els_at {l : List El} {k j : Nat} {s : El} (h : l[k]? = some s) (hj : j < 3) : (els l)[k * 3 + j]? = (elCells s)[j]? := by
  induction l generalizing k with
  | nil => simp at h
  | cons a l ih =>
    show (elCells a ++ els l)[k * 3 + j]? = _
    cases k with
    | zero =>
      simp at h
      subst h
      rw [List.getElem?_append_left (by simp [elCells]; omega)]
      congr 1; omega
    | succ k =>
      rw [List.getElem?_append_right (by simp [elCells]; omega)]
      rw [← ih (k := k) (by simpa using h)]
      congr 1
      simp [elCells]; omega
theorem one_el (s : El) : ∀ u ∈ elCells s, u.oneCell' = true := by intro u hu; simp [elCells] at hu; rcases hu with rfl | rfl | rfl <;> rfl
theorem els_reads_len {w : World} {B n : Nat} {A : Option Addr} {l : List El} (h : Reads w B 3 A n (els l)) : l.length = n := by
  have := h.1
  rw [els_len] at this
  omega
theorem add_off (a : Addr) (j : Nat) (hj : 1 ≤ j) : (⟨a.block, a.off + j, none⟩ : Addr) = a.add j := by unfold Addr.add; rw [if_neg (by omega)]
/-- An element of a ladder in memory. -/
theorem els_hit {w : World} {B n k : Nat} {A : Option Addr} {l : List El} (h : Reads w B 3 A n (els l)) (hk : k < n) (hB : B ≤ w.heap.size) :
    ∃ ad s, A = some ad ∧ ad.block < B ∧ l[k]? = some s ∧ ∀ W, Below w.heap.size w W → W.cell? (ad.add (k * 3)) = some (.string s.kind) ∧ W.cell? ⟨(ad.add (k * 3)).block, (ad.add (k * 3)).off + 1, none⟩ = some (.int .i64 s.a) ∧ W.cell? ⟨(ad.add (k * 3)).block, (ad.add (k * 3)).off + 2, none⟩ = some (.int .i64 s.b) := by
  obtain ⟨ad, h1, h2, h3⟩ := h.2 (by omega)
  have hl := els_reads_len h
  have hs : l[k]? = some (l[k]'(by omega)) := List.getElem?_eq_getElem (by omega)
  refine ⟨ad, _, h1, h2, hs, fun W hW => ?_⟩
  have go : ∀ j v, j < 3 → (elCells (l[k]'(by omega)))[j]? = some v → W.cell? (ad.add (k * 3 + j)) = some v := fun j v hj hv => (hW.cell (p := ad.add (k * 3 + j)) (by rw [block_of_add]; omega)).trans (h3 _ _ ((els_at hs hj).trans hv))
  have go' : ∀ j v, j < 3 → 1 ≤ j → (elCells (l[k]'(by omega)))[j]? = some v → W.cell? ⟨(ad.add (k * 3)).block, (ad.add (k * 3)).off + j, none⟩ = some v := fun j v hj h1 hv => by rw [add_off _ _ h1, add_of_add]; exact go j v hj hv
  exact ⟨go 0 _ (by omega) rfl, go' 1 _ (by omega) (by omega) rfl, go' 2 _ (by omega) (by omega) rfl⟩
theorem KMap.alloc {w : World} {g : Nat} (h : KMap w g) (o : Obj) : KMap (w.alloc o) g := (Below.heap_alloc w o g (Array.getElem?_eq_some_iff.1 h).1).trans h
theorem kinds_g (w : World) :
    Calls Tryz.prog 96 #[] w fun e w' => ∃ g, e = .returned (.map (some g)) ∧ KMap w' g ∧ w.heap.size ≤ g ∧ Below w.heap.size w w' :=
  (kinds_any w).mono fun _ _ h => ⟨_, h.1, h.2.1, Nat.le_refl _, h.2.2⟩
theorem kFn_cells (k : ByteArray) : (kFn k).cells = #[kFn k] := by unfold kFn; repeat' split <;> try rfl
theorem kFn_one (k : ByteArray) : (kFn k).oneCell' = true := by unfold kFn; repeat' split <;> try rfl
theorem fin3 {Q : World → Prop} {B : Nat} {v W : World} {g : Nat} {c0 c1 c2 u0 u1 u2 : Value} (t : TypeId) (hB : Below B v W) (hg : B ≤ g) (hk : Blk W g t #[c0, c1, c2]) (h : ∀ X, Below B v X → Blk X g t #[u0, u1, u2] → Q X) :
    Q (((W.setCell ⟨g, 0, none⟩ u0).setCell ⟨g, 1, none⟩ u1).setCell ⟨g, 2, none⟩ u2) :=
  h _ (below_set (below_set (below_set hB hg _) hg _) hg _) (by simpa using ((hk.set_ 0 u0).set_ 1 u1).set_ 2 u2)
theorem el_err_eq (x : El) : fnz [if (!kKnown x.kind) = true then 13 else 0, rng x.a 0 8, rng x.b 0 8, if (kDiv x.kind && (x.a == 0) && (x.b == 0)) = true then 6 else 0] = x.err := by
  have h1 : (if (!kKnown x.kind) = true then (13 : Int) else 0) = if x.known then 0 else 13 := by
    show (if (!x.known) = true then (13 : Int) else 0) = _
    cases x.known <;> rfl
  rw [h1]; rfl

set_option maxHeartbeats 2000000 in
theorem checkLadder_any (A : Option Addr) (n c : Nat) (l : List El) (w : World) (h : Reads w w.heap.size 3 A n (els l)) (hn : n ≤ 1000000000000) :
    Calls Tryz.prog 46 #[.slice A n c] w fun r w' => r = .returned (.int .i64 (ladErr l)) ∧ Below w.heap.size w w' := by
  have HL := hide (els_reads_len h)
  go_enter Tryz.func46, Tryz.ntmps46
  by_cases h5 : 5 < n
  · have g5 : (5 : Int) < (n : Int) := by omega
    go_wp2_with fail
    go_ret
    exact ⟨by simp; unfold ladErr; rw [if_pos (by rw [HL.out]; omega)], Below.refl _ _⟩
  · have g5 : ¬ (5 : Int) < (n : Int) := by omega
    go_wp2_with fail
    go_loopw [13] (fun i wr => ∃ k : Nat, k ≤ n ∧ i = .int .i64 k ∧ (∀ x ∈ l.take k, x.err = 0) ∧ Below w.heap.size w wr) (fun i _ => n - (intOf i).toNat)
    case atStart => exact ⟨0, by omega, rfl, by simp, Below.refl _ _⟩
    case round =>
      obtain ⟨k, hk, rfl, hz, hb⟩ := hrel
      have HZ := hide hz; clear hz
      by_cases hlt : k < n
      · obtain ⟨ad, x, rfl, hadb, hxk, hcx⟩ := els_hit (h.below hb) hlt hb.size
        obtain ⟨q0, q1, q2⟩ := hcx wr (Below.refl _ _)
        have HX := hide hxk
        clear hxk hcx
        go_upto_region 6 with (fail)
        obtain ⟨w1, e1, hb1, hz1, k1⟩ := box1 wr #[.string x.kind, .int .i64 x.a, .int .i64 x.b] 104
        rw [← e1]; clear e1 q0 q1 q2
        have hbw1 := below_next hb hb1
        go_cut [5, 6] from 17 to 23 (fun s5 s6 wx => ∃ g, s5 = .pointer (some ⟨g, 0, none⟩) ∧ s6 = .bool (kKnown x.kind) ∧ Blk wx g 138 #[.string (kDual x.kind), .bool (kDiv x.kind), kFn x.kind] ∧ Below w1.heap.size w1 wx)
        case first =>
          have c0 : ∀ i W, Below w1.heap.size w1 W → W.cell? ⟨wr.heap.size, i, none⟩ = (#[.string x.kind, .int .i64 x.a, .int .i64 x.b] : Array Value)[i]? := fun i W h => (carryK k1 h).cell i
          have hA1 := alloc_cel
          have hf1 := fun a w m => run_store Tryz.prog w a (kFn x.kind) m (kFn_one _)
          have hf2 := kFn_one x.kind
          have hA2 := alloc_fro
          go_region_held3 (fun W => Below w1.heap.size w1 W) (first | exact (Below.refl _ _).drew | (with_reducible assumption) | exact below_new ‹Below w1.heap.size w1 _› (Nat.le_refl _) _ | (refine below_set (below_set (below_set (by assumption) (by omega) _) (by omega) _) (by omega) _)) (first | (go_at_call 96; refine (kinds_g _).mono ?_; rintro e W' ⟨gK, rfl, hKM, hgK, hbW⟩; have hS := below_step ‹Below w1.heap.size w1 _› hbW (Below.size ‹Below w1.heap.size w1 _›); have hF := below_fro hbW; have hC := below_cel hbW; have hL := below_lt hbW; have hT := below_le hbW; have hK := below_blk hbW; have hz := Below.size hS; have hz1' := Below.size hbW; (try simp only [World.size_alloc, World.size_drew] at hz1'); (try have hq3 := Nat.lt_of_lt_of_le hq3 hz1'); (try have hq3 := Nat.lt_of_lt_of_le hq3 (Nat.le_of_succ_le hz1')); (try have hq3 := Nat.lt_of_lt_of_le hq1 hz1'); (try have hq3 := Nat.lt_of_lt_of_le hq1 (Nat.le_of_succ_le hz1')); (try have hq7 := Nat.lt_of_succ_lt hq3); (try have hq8 := Nat.le_of_lt hq7); (try have hq4 := Nat.le_of_lt hq3); (try have hq1 := Nat.lt_of_succ_le hz1'); (try have hq2 := Nat.lt_of_succ_lt hq1); (try have hq5 := Nat.le_of_lt hq1); (try have hq6 := Nat.le_of_lt hq2); have hL1 := (kmap_get hKM x.kind).1; have hL2 := fun o => (kmap_get (hKM.alloc o) x.kind).1; clear hKM hgK))
          all_goals (first
            | (with_reducible refine fin1 (v := w1) (t := 138) (by with_reducible assumption) (fun X hX kX => ?_))
            | (with_reducible refine fin3 (B := w1.heap.size) (v := w1) (c0 := .string { data := #[] }) (c1 := .bool false) (c2 := .nilFunc) 138 (by with_reducible assumption) (by omega) (by (repeat (first | exact Blk.newAt (by simp) | refine Blk.alloc ?_ _ | refine Blk.drew ?_ | refine (by with_reducible assumption : ∀ g t cs, Blk _ g t cs → Blk _ g t cs) _ _ _ ?_))) (fun X hX kX => ?_)))
          all_goals (
            clear hL1 hL2
            go_wp2_with fail
            go_meet
            exact ⟨_, rfl, rfl, kX, hX⟩)
        case rest =>
          obtain ⟨g, rfl, rfl, kG, hv⟩ := hcut
          rename World => w2
          have k2 := carryK k1 hv
          have hbw2 := below_next hbw1 hv
          clear k1 hb1 hz1 hv hbw1
          go_upto_region 7 with (fail)
          go_cut [6, 7] from 24 to 47 (fun _ s7 wx => s7 = .int .i64 x.err ∧ Below w2.heap.size w2 wx)
          case first =>
            have c0 := over_blk k2 k2.lt
            have c1 := over_blk kG kG.lt
            have he := el_err_eq x
            cases hd : kDiv x.kind
            · rw [hd] at c1 he
              have HE := hide he
              clear he
              refine wp_region_part 22 w2.heap.size (by kernel_rfl) (by kernel_rfl) ?_; simp only [List.take_succ_cons, List.take_zero, List.drop_succ_cons, List.drop_zero]; (repeat (first | go_big_quiet_step (first | (go_at_call 84; exact over_same (when_any _ _ _)) | (go_at_call 113; exact over_same (within_any _ _ _ _))) | quiet_step (first | (go_at_call 84; exact over_same (when_any _ _ _)) | (go_at_call 113; exact over_same (within_any _ _ _ _))))); refine wpQuiet_nil ?_; rintro W ⟨x, rfl⟩
              go_wp2_with ((go_at_call 82; (first | (with_reducible (refine (first_any _ _ _ _ _ _ (reads4 _ _ _ _ _ _) (by omega)).mono ?_)) | (with_reducible (refine (first_any _ _ _ _ _ _ (Reads.drew (reads4 _ _ _ _ _ _)) (by omega)).mono ?_))); rintro e W' ⟨rfl, rfl⟩))
              all_goals (go_meet; exact ⟨by rw [← HE.out]; simp [*], (by repeat (first | exact over_below _ _ _ | exact Below.refl _ _ | refine Below.drew ?_ | refine below_drewN ?_ _ | refine below_set ?_ (by omega) _ | refine below_new ?_ (by omega) _))⟩)
            · rw [hd] at c1 he
              by_cases ha : x.a = 0
              · have ta : (x.a == 0) = true := by simpa using ha
                rw [ta] at he
                by_cases hb : x.b = 0
                · have tb : (x.b == 0) = true := by simpa using hb
                  rw [tb] at he
                  clear ha hb
                  have HE := hide he
                  clear he
                  refine wp_region_part 22 w2.heap.size (by kernel_rfl) (by kernel_rfl) ?_; simp only [List.take_succ_cons, List.take_zero, List.drop_succ_cons, List.drop_zero]; (repeat (first | go_big_quiet_step (first | (go_at_call 84; exact over_same (when_any _ _ _)) | (go_at_call 113; exact over_same (within_any _ _ _ _))) | quiet_step (first | (go_at_call 84; exact over_same (when_any _ _ _)) | (go_at_call 113; exact over_same (within_any _ _ _ _))))); refine wpQuiet_nil ?_; rintro W ⟨x, rfl⟩
                  go_wp2_with ((go_at_call 82; (first | (with_reducible (refine (first_any _ _ _ _ _ _ (reads4 _ _ _ _ _ _) (by omega)).mono ?_)) | (with_reducible (refine (first_any _ _ _ _ _ _ (Reads.drew (reads4 _ _ _ _ _ _)) (by omega)).mono ?_))); rintro e W' ⟨rfl, rfl⟩))
                  all_goals (go_meet; exact ⟨by rw [← HE.out]; simp [*], (by repeat (first | exact over_below _ _ _ | exact Below.refl _ _ | refine Below.drew ?_ | refine below_drewN ?_ _ | refine below_set ?_ (by omega) _ | refine below_new ?_ (by omega) _))⟩)
                · have tb : (x.b == 0) = false := by simpa using hb
                  rw [tb] at he
                  clear ha hb
                  have HE := hide he
                  clear he
                  refine wp_region_part 22 w2.heap.size (by kernel_rfl) (by kernel_rfl) ?_; simp only [List.take_succ_cons, List.take_zero, List.drop_succ_cons, List.drop_zero]; (repeat (first | go_big_quiet_step (first | (go_at_call 84; exact over_same (when_any _ _ _)) | (go_at_call 113; exact over_same (within_any _ _ _ _))) | quiet_step (first | (go_at_call 84; exact over_same (when_any _ _ _)) | (go_at_call 113; exact over_same (within_any _ _ _ _))))); refine wpQuiet_nil ?_; rintro W ⟨x, rfl⟩
                  go_wp2_with ((go_at_call 82; (first | (with_reducible (refine (first_any _ _ _ _ _ _ (reads4 _ _ _ _ _ _) (by omega)).mono ?_)) | (with_reducible (refine (first_any _ _ _ _ _ _ (Reads.drew (reads4 _ _ _ _ _ _)) (by omega)).mono ?_))); rintro e W' ⟨rfl, rfl⟩))
                  all_goals (go_meet; exact ⟨by rw [← HE.out]; simp [*], (by repeat (first | exact over_below _ _ _ | exact Below.refl _ _ | refine Below.drew ?_ | refine below_drewN ?_ _ | refine below_set ?_ (by omega) _ | refine below_new ?_ (by omega) _))⟩)
              · have ta : (x.a == 0) = false := by simpa using ha
                rw [ta] at he
                clear ha
                have HE := hide he
                clear he
                refine wp_region_part 22 w2.heap.size (by kernel_rfl) (by kernel_rfl) ?_; simp only [List.take_succ_cons, List.take_zero, List.drop_succ_cons, List.drop_zero]; (repeat (first | go_big_quiet_step (first | (go_at_call 84; exact over_same (when_any _ _ _)) | (go_at_call 113; exact over_same (within_any _ _ _ _))) | quiet_step (first | (go_at_call 84; exact over_same (when_any _ _ _)) | (go_at_call 113; exact over_same (within_any _ _ _ _))))); refine wpQuiet_nil ?_; rintro W ⟨x, rfl⟩
                go_wp2_with ((go_at_call 82; (first | (with_reducible (refine (first_any _ _ _ _ _ _ (reads4 _ _ _ _ _ _) (by omega)).mono ?_)) | (with_reducible (refine (first_any _ _ _ _ _ _ (Reads.drew (reads4 _ _ _ _ _ _)) (by omega)).mono ?_))); rintro e W' ⟨rfl, rfl⟩))
                all_goals (go_meet; exact ⟨by rw [← HE.out]; simp [*], (by repeat (first | exact over_below _ _ _ | exact Below.refl _ _ | refine Below.drew ?_ | refine below_drewN ?_ _ | refine below_set ?_ (by omega) _ | refine below_new ?_ (by omega) _))⟩)
          case rest =>
            obtain ⟨rfl, hv3⟩ := hcut
            rename World => w3
            have hbw3 := below_next hbw2 hv3
            by_cases h0 : x.err = 0
            · have t0 : (x.err != 0) = false := by simpa using h0
              have H0 := hide h0; clear h0
              go_wp2_with fail
              go_roundw
              case rel =>
                refine ⟨k + 1, by omega, by go_num, fun y hy => ?_, hbw3⟩
                rw [List.take_add_one, HX.out] at hy
                simp at hy
                rcases hy with hy | rfl
                · exact HZ.out y hy
                · exact H0.out
              case measure => simp [intOf]; omega
            · have t0 : (x.err != 0) = true := by simpa using h0
              have hz0 : ladErr l = x.err := by
                unfold ladErr
                rw [if_neg (by rw [HL.out]; omega)]
                refine fnz_hit (k := k) (by rw [List.getElem?_map, HX.out]; rfl) (fun e he => ?_) t0
                rw [← List.map_take] at he
                obtain ⟨y, hy, rfl⟩ := List.mem_map.1 he
                exact HZ.out y hy
              clear h0
              go_wp2_with fail
              go_ret
              exact ⟨by rw [hz0]; rfl, hbw3⟩
      · have hz0 : ladErr l = 0 := by
          unfold ladErr
          rw [if_neg (by rw [HL.out]; omega), fnz_zero]
          intro e he
          obtain ⟨x, hx, rfl⟩ := List.mem_map.1 he
          have := HZ.out
          rw [List.take_of_length_le (by rw [HL.out]; omega)] at this
          exact this x hx
        have HZ0 := hide hz0; clear hz0
        go_wp2_with fail
        go_ret
        exact ⟨by rw [HZ0.out]; rfl, hb⟩
end Go.Proofs.YtnndaipnfniciaaGreatDoor

namespace Go.Proofs.YtnndaipnfniciaaGreatDoor
open Go.RowKit Go.Shelf
set_option maxRecDepth 100000

theorem set8 (w : World) (b : Nat) (t : TypeId) (c0 c1 c2 c3 c4 c5 c6 c7 u0 u1 u2 u3 u4 u5 u6 u7 : Value) (hk : Blk w b t #[c0, c1, c2, c3, c4, c5, c6, c7]) :
    ∃ w1, w1 = (((((((w.setCell ⟨b, 0, none⟩ u0).setCell ⟨b, 1, none⟩ u1).setCell ⟨b, 2, none⟩ u2).setCell ⟨b, 3, none⟩ u3).setCell ⟨b, 4, none⟩ u4).setCell ⟨b, 5, none⟩ u5).setCell ⟨b, 6, none⟩ u6).setCell ⟨b, 7, none⟩ u7 ∧
      Blk w1 b t #[u0, u1, u2, u3, u4, u5, u6, u7] ∧ w1.heap.size = w.heap.size ∧ (∀ g t' cs', g ≠ b → Blk w g t' cs' → Blk w1 g t' cs') ∧ (∀ B v, B ≤ b → Below B v w → Below B v w1) := by
  have k := (((((((hk.set_ 0 u0).set_ 1 u1).set_ 2 u2).set_ 3 u3).set_ 4 u4).set_ 5 u5).set_ 6 u6).set_ 7 u7
  refine ⟨_, rfl, by simpa using k, by simp [World.setCell], fun g t' cs' hg h => ?_, fun B v hB h => ?_⟩
  · exact (((((((h.far (p := ⟨b, 0, none⟩) hg _).far (p := ⟨b, 1, none⟩) hg _).far (p := ⟨b, 2, none⟩) hg _).far (p := ⟨b, 3, none⟩) hg _).far (p := ⟨b, 4, none⟩) hg _).far (p := ⟨b, 5, none⟩) hg _).far (p := ⟨b, 6, none⟩) hg _).far (p := ⟨b, 7, none⟩) hg _
  · exact below_set (below_set (below_set (below_set (below_set (below_set (below_set (below_set h hB _) hB _) hB _) hB _) hB _) hB _) hB _) hB _
theorem fin8 {Q : World → Prop} {B : Nat} {v W : World} {g : Nat} {c0 c1 c2 c3 c4 c5 c6 c7 u0 u1 u2 u3 u4 u5 u6 u7 : Value} (t : TypeId) (hB : Below B v W) (hg : B ≤ g) (hk : Blk W g t #[c0, c1, c2, c3, c4, c5, c6, c7]) (h : ∀ X, Below B v X → Blk X g t #[u0, u1, u2, u3, u4, u5, u6, u7] → Q X) :
    Q ((((((((W.setCell ⟨g, 0, none⟩ u0).setCell ⟨g, 1, none⟩ u1).setCell ⟨g, 2, none⟩ u2).setCell ⟨g, 3, none⟩ u3).setCell ⟨g, 4, none⟩ u4).setCell ⟨g, 5, none⟩ u5).setCell ⟨g, 6, none⟩ u6).setCell ⟨g, 7, none⟩ u7) := by
  obtain ⟨w1, e1, k, _, _, hb⟩ := set8 W g t c0 c1 c2 c3 c4 c5 c6 c7 u0 u1 u2 u3 u4 u5 u6 u7 hk
  rw [← e1]
  exact h _ (hb B v hg hB) k
def z8 : Array Value := #[.int .i64 0, .int .i64 0, .int .i64 0, .int .i64 0, .int .i64 0, .int .i64 0, .int .i64 0, .int .i64 0]

set_option maxHeartbeats 2000000 in
theorem product_any (p q : Mat) (w : World) :
    Calls Tryz.prog 130 #[.agg #[.int .i64 p.a.re, .int .i64 p.a.im, .int .i64 p.b.re, .int .i64 p.b.im, .int .i64 p.c.re, .int .i64 p.c.im, .int .i64 p.d.re, .int .i64 p.d.im], .agg #[.int .i64 q.a.re, .int .i64 q.a.im, .int .i64 q.b.re, .int .i64 q.b.im, .int .i64 q.c.re, .int .i64 q.c.im, .int .i64 q.d.re, .int .i64 q.d.im]] w fun e w' => e = .returned (.agg #[.int .i64 (p.mul q).w.a.re, .int .i64 (p.mul q).w.a.im, .int .i64 (p.mul q).w.b.re, .int .i64 (p.mul q).w.b.im, .int .i64 (p.mul q).w.c.re, .int .i64 (p.mul q).w.c.im, .int .i64 (p.mul q).w.d.re, .int .i64 (p.mul q).w.d.im]) ∧ Below w.heap.size w w' := by
  go_enter Tryz.func130, Tryz.ntmps130
  go_wp2_with fail
  obtain ⟨w1, e1, hb1, hz1, k0, k1, k2⟩ := box3 w #[.int .i64 p.a.re, .int .i64 p.a.im, .int .i64 p.b.re, .int .i64 p.b.im, .int .i64 p.c.re, .int .i64 p.c.im, .int .i64 p.d.re, .int .i64 p.d.im] #[.int .i64 q.a.re, .int .i64 q.a.im, .int .i64 q.b.re, .int .i64 q.b.im, .int .i64 q.c.re, .int .i64 q.c.im, .int .i64 q.d.re, .int .i64 q.d.im] #[.int .i64 0, .int .i64 0, .int .i64 0, .int .i64 0, .int .i64 0, .int .i64 0, .int .i64 0, .int .i64 0] 73 73 73
  rw [← e1]; clear e1
  have c0 := over_blk k0 k0.lt
  have c1 := over_blk k1 k1.lt
  refine wp_region_part 45 w1.heap.size (by kernel_rfl) (by kernel_rfl) ?_; simp only [List.take_succ_cons, List.take_zero, List.drop_succ_cons, List.drop_zero]; (repeat (first | go_big_quiet_step (first | (go_at_call 85; with_reducible first | exact over_call (Nat.le_refl _) (times_any p.a q.a _) | exact over_call (Nat.le_refl _) (times_any p.b q.c _) | exact over_call (Nat.le_refl _) (times_any p.a q.b _) | exact over_call (Nat.le_refl _) (times_any p.b q.d _) | exact over_call (Nat.le_refl _) (times_any p.c q.a _) | exact over_call (Nat.le_refl _) (times_any p.d q.c _) | exact over_call (Nat.le_refl _) (times_any p.c q.b _) | exact over_call (Nat.le_refl _) (times_any p.d q.d _)) | (go_at_call 90; with_reducible first | exact over_call (Nat.le_refl _) (plus_any (p.a.mul q.a).w (p.b.mul q.c).w _) | exact over_call (Nat.le_refl _) (plus_any (p.a.mul q.b).w (p.b.mul q.d).w _) | exact over_call (Nat.le_refl _) (plus_any (p.c.mul q.a).w (p.d.mul q.c).w _) | exact over_call (Nat.le_refl _) (plus_any (p.c.mul q.b).w (p.d.mul q.d).w _))) | quiet_step (first | (go_at_call 85; with_reducible first | exact over_call (Nat.le_refl _) (times_any p.a q.a _) | exact over_call (Nat.le_refl _) (times_any p.b q.c _) | exact over_call (Nat.le_refl _) (times_any p.a q.b _) | exact over_call (Nat.le_refl _) (times_any p.b q.d _) | exact over_call (Nat.le_refl _) (times_any p.c q.a _) | exact over_call (Nat.le_refl _) (times_any p.d q.c _) | exact over_call (Nat.le_refl _) (times_any p.c q.b _) | exact over_call (Nat.le_refl _) (times_any p.d q.d _)) | (go_at_call 90; with_reducible first | exact over_call (Nat.le_refl _) (plus_any (p.a.mul q.a).w (p.b.mul q.c).w _) | exact over_call (Nat.le_refl _) (plus_any (p.a.mul q.b).w (p.b.mul q.d).w _) | exact over_call (Nat.le_refl _) (plus_any (p.c.mul q.a).w (p.d.mul q.c).w _) | exact over_call (Nat.le_refl _) (plus_any (p.c.mul q.b).w (p.d.mul q.d).w _))))); refine wpQuiet_nil ?_; rintro W ⟨x, rfl⟩
  have hbY := over_below w1.heap.size w1 x
  generalize over w1.heap.size w1 x = Y at hbY ⊢
  clear c0 c1
  have k3 := k2.below hbY k2.lt
  have c3 := k3.cell
  have f3 := k3.frozen
  go_wp2_with fail
  with_reducible refine fin8 (B := w.heap.size) (v := w) 73 (below_step hb1 hbY hb1.size) (by omega) k3 (fun X hX kX => ?_)
  rw [G.w_add, G.w_add, G.w_add, G.w_add] at kX
  have cX := kX.cell
  clear c3 f3
  refine bodyPost_ret (v := .agg #[.int .i64 (p.mul q).w.a.re, .int .i64 (p.mul q).w.a.im, .int .i64 (p.mul q).w.b.re, .int .i64 (p.mul q).w.b.im, .int .i64 (p.mul q).w.c.re, .int .i64 (p.mul q).w.c.im, .int .i64 (p.mul q).w.d.re, .int .i64 (p.mul q).w.d.im]) (by simp [results, Tryz.results130, go_sem, cX, Mat.w, Mat.mul]) rfl ?_
  exact ⟨rfl, hX⟩
end Go.Proofs.YtnndaipnfniciaaGreatDoor

namespace Go.Proofs.YtnndaipnfniciaaGreatDoor
open Go.RowKit Go.Shelf
set_option maxRecDepth 100000

/-- The complex integers 0 and 1 of the program lie where they were laid. -/
structure Con (w : World) : Prop where
  hn : 0 < w.heap.size
  n0 : w.cell? ⟨0, 0, none⟩ = some (.int .i64 0)
  n1 : w.cell? ⟨0, 1, none⟩ = some (.int .i64 0)
  ho : 2 < w.heap.size
  o0 : w.cell? ⟨2, 0, none⟩ = some (.int .i64 1)
  o1 : w.cell? ⟨2, 1, none⟩ = some (.int .i64 0)
theorem Con.carry {w w' : World} (h : Con w) (hb : Below w.heap.size w w') : Con w' :=
  ⟨Nat.lt_of_lt_of_le h.hn hb.size, (hb.cell (p := ⟨0, 0, none⟩) h.hn).trans h.n0, (hb.cell (p := ⟨0, 1, none⟩) h.hn).trans h.n1,
   Nat.lt_of_lt_of_le h.ho hb.size, (hb.cell (p := ⟨2, 0, none⟩) h.ho).trans h.o0, (hb.cell (p := ⟨2, 1, none⟩) h.ho).trans h.o1⟩

set_option maxHeartbeats 1000000 in
theorem kFn1_any (v : G) (w : World) (hC : Con w) :
    Calls Tryz.prog 142 #[.agg #[.int .i64 v.re, .int .i64 v.im]] w fun e w' => e = .returned (.agg #[.int .i64 (⟨v, G.one, G.zero, v⟩ : Mat).a.re, .int .i64 (⟨v, G.one, G.zero, v⟩ : Mat).a.im, .int .i64 (⟨v, G.one, G.zero, v⟩ : Mat).b.re, .int .i64 (⟨v, G.one, G.zero, v⟩ : Mat).b.im, .int .i64 (⟨v, G.one, G.zero, v⟩ : Mat).c.re, .int .i64 (⟨v, G.one, G.zero, v⟩ : Mat).c.im, .int .i64 (⟨v, G.one, G.zero, v⟩ : Mat).d.re, .int .i64 (⟨v, G.one, G.zero, v⟩ : Mat).d.im]) ∧ Below w.heap.size w w' := by
  go_enter Tryz.func142, Tryz.ntmps142
  go_upto_region 1 with (fail)
  obtain ⟨w1, e1, hb1, hz1, k0, k1⟩ := box2 w #[.int .i64 v.re, .int .i64 v.im] #[.int .i64 0, .int .i64 0, .int .i64 0, .int .i64 0, .int .i64 0, .int .i64 0, .int .i64 0, .int .i64 0] 23 73
  rw [← e1]; clear e1
  obtain ⟨_, n0, n1, _, o0, o1⟩ := hC.carry hb1
  have c0 := k0.cell
  have c1 := k1.cell
  have f1 := k1.frozen
  go_wp2_with fail
  with_reducible refine fin8 (B := w.heap.size) (v := w) 73 hb1 (by omega) k1 (fun X hX kX => ?_)
  have cX := kX.cell
  clear c0 c1 f1 n0 n1 o0 o1
  refine bodyPost_ret (v := .agg #[.int .i64 (⟨v, G.one, G.zero, v⟩ : Mat).a.re, .int .i64 (⟨v, G.one, G.zero, v⟩ : Mat).a.im, .int .i64 (⟨v, G.one, G.zero, v⟩ : Mat).b.re, .int .i64 (⟨v, G.one, G.zero, v⟩ : Mat).b.im, .int .i64 (⟨v, G.one, G.zero, v⟩ : Mat).c.re, .int .i64 (⟨v, G.one, G.zero, v⟩ : Mat).c.im, .int .i64 (⟨v, G.one, G.zero, v⟩ : Mat).d.re, .int .i64 (⟨v, G.one, G.zero, v⟩ : Mat).d.im]) (by simp [results, Tryz.results142, go_sem, cX, G.one, G.zero]) rfl ?_
  exact ⟨rfl, hX⟩
set_option maxHeartbeats 1000000 in
theorem kFn2_any (v : G) (w : World) (hC : Con w) :
    Calls Tryz.prog 143 #[.agg #[.int .i64 v.re, .int .i64 v.im]] w fun e w' => e = .returned (.agg #[.int .i64 (⟨G.one, v, G.zero, G.one⟩ : Mat).a.re, .int .i64 (⟨G.one, v, G.zero, G.one⟩ : Mat).a.im, .int .i64 (⟨G.one, v, G.zero, G.one⟩ : Mat).b.re, .int .i64 (⟨G.one, v, G.zero, G.one⟩ : Mat).b.im, .int .i64 (⟨G.one, v, G.zero, G.one⟩ : Mat).c.re, .int .i64 (⟨G.one, v, G.zero, G.one⟩ : Mat).c.im, .int .i64 (⟨G.one, v, G.zero, G.one⟩ : Mat).d.re, .int .i64 (⟨G.one, v, G.zero, G.one⟩ : Mat).d.im]) ∧ Below w.heap.size w w' := by
  go_enter Tryz.func143, Tryz.ntmps143
  go_upto_region 1 with (fail)
  obtain ⟨w1, e1, hb1, hz1, k0, k1⟩ := box2 w #[.int .i64 v.re, .int .i64 v.im] #[.int .i64 0, .int .i64 0, .int .i64 0, .int .i64 0, .int .i64 0, .int .i64 0, .int .i64 0, .int .i64 0] 23 73
  rw [← e1]; clear e1
  obtain ⟨_, n0, n1, _, o0, o1⟩ := hC.carry hb1
  have c0 := k0.cell
  have c1 := k1.cell
  have f1 := k1.frozen
  go_wp2_with fail
  with_reducible refine fin8 (B := w.heap.size) (v := w) 73 hb1 (by omega) k1 (fun X hX kX => ?_)
  have cX := kX.cell
  clear c0 c1 f1 n0 n1 o0 o1
  refine bodyPost_ret (v := .agg #[.int .i64 (⟨G.one, v, G.zero, G.one⟩ : Mat).a.re, .int .i64 (⟨G.one, v, G.zero, G.one⟩ : Mat).a.im, .int .i64 (⟨G.one, v, G.zero, G.one⟩ : Mat).b.re, .int .i64 (⟨G.one, v, G.zero, G.one⟩ : Mat).b.im, .int .i64 (⟨G.one, v, G.zero, G.one⟩ : Mat).c.re, .int .i64 (⟨G.one, v, G.zero, G.one⟩ : Mat).c.im, .int .i64 (⟨G.one, v, G.zero, G.one⟩ : Mat).d.re, .int .i64 (⟨G.one, v, G.zero, G.one⟩ : Mat).d.im]) (by simp [results, Tryz.results143, go_sem, cX, G.one, G.zero]) rfl ?_
  exact ⟨rfl, hX⟩
set_option maxHeartbeats 1000000 in
theorem kFn3_any (v : G) (w : World) (hC : Con w) :
    Calls Tryz.prog 144 #[.agg #[.int .i64 v.re, .int .i64 v.im]] w fun e w' => e = .returned (.agg #[.int .i64 (⟨G.one, G.zero, v, G.one⟩ : Mat).a.re, .int .i64 (⟨G.one, G.zero, v, G.one⟩ : Mat).a.im, .int .i64 (⟨G.one, G.zero, v, G.one⟩ : Mat).b.re, .int .i64 (⟨G.one, G.zero, v, G.one⟩ : Mat).b.im, .int .i64 (⟨G.one, G.zero, v, G.one⟩ : Mat).c.re, .int .i64 (⟨G.one, G.zero, v, G.one⟩ : Mat).c.im, .int .i64 (⟨G.one, G.zero, v, G.one⟩ : Mat).d.re, .int .i64 (⟨G.one, G.zero, v, G.one⟩ : Mat).d.im]) ∧ Below w.heap.size w w' := by
  go_enter Tryz.func144, Tryz.ntmps144
  go_upto_region 1 with (fail)
  obtain ⟨w1, e1, hb1, hz1, k0, k1⟩ := box2 w #[.int .i64 v.re, .int .i64 v.im] #[.int .i64 0, .int .i64 0, .int .i64 0, .int .i64 0, .int .i64 0, .int .i64 0, .int .i64 0, .int .i64 0] 23 73
  rw [← e1]; clear e1
  obtain ⟨_, n0, n1, _, o0, o1⟩ := hC.carry hb1
  have c0 := k0.cell
  have c1 := k1.cell
  have f1 := k1.frozen
  go_wp2_with fail
  with_reducible refine fin8 (B := w.heap.size) (v := w) 73 hb1 (by omega) k1 (fun X hX kX => ?_)
  have cX := kX.cell
  clear c0 c1 f1 n0 n1 o0 o1
  refine bodyPost_ret (v := .agg #[.int .i64 (⟨G.one, G.zero, v, G.one⟩ : Mat).a.re, .int .i64 (⟨G.one, G.zero, v, G.one⟩ : Mat).a.im, .int .i64 (⟨G.one, G.zero, v, G.one⟩ : Mat).b.re, .int .i64 (⟨G.one, G.zero, v, G.one⟩ : Mat).b.im, .int .i64 (⟨G.one, G.zero, v, G.one⟩ : Mat).c.re, .int .i64 (⟨G.one, G.zero, v, G.one⟩ : Mat).c.im, .int .i64 (⟨G.one, G.zero, v, G.one⟩ : Mat).d.re, .int .i64 (⟨G.one, G.zero, v, G.one⟩ : Mat).d.im]) (by simp [results, Tryz.results144, go_sem, cX, G.one, G.zero]) rfl ?_
  exact ⟨rfl, hX⟩
set_option maxHeartbeats 1000000 in
theorem kFn4_any (v : G) (w : World) (hC : Con w) :
    Calls Tryz.prog 145 #[.agg #[.int .i64 v.re, .int .i64 v.im]] w fun e w' => e = .returned (.agg #[.int .i64 (⟨v, G.zero, G.one, v⟩ : Mat).a.re, .int .i64 (⟨v, G.zero, G.one, v⟩ : Mat).a.im, .int .i64 (⟨v, G.zero, G.one, v⟩ : Mat).b.re, .int .i64 (⟨v, G.zero, G.one, v⟩ : Mat).b.im, .int .i64 (⟨v, G.zero, G.one, v⟩ : Mat).c.re, .int .i64 (⟨v, G.zero, G.one, v⟩ : Mat).c.im, .int .i64 (⟨v, G.zero, G.one, v⟩ : Mat).d.re, .int .i64 (⟨v, G.zero, G.one, v⟩ : Mat).d.im]) ∧ Below w.heap.size w w' := by
  go_enter Tryz.func145, Tryz.ntmps145
  go_upto_region 1 with (fail)
  obtain ⟨w1, e1, hb1, hz1, k0, k1⟩ := box2 w #[.int .i64 v.re, .int .i64 v.im] #[.int .i64 0, .int .i64 0, .int .i64 0, .int .i64 0, .int .i64 0, .int .i64 0, .int .i64 0, .int .i64 0] 23 73
  rw [← e1]; clear e1
  obtain ⟨_, n0, n1, _, o0, o1⟩ := hC.carry hb1
  have c0 := k0.cell
  have c1 := k1.cell
  have f1 := k1.frozen
  go_wp2_with fail
  with_reducible refine fin8 (B := w.heap.size) (v := w) 73 hb1 (by omega) k1 (fun X hX kX => ?_)
  have cX := kX.cell
  clear c0 c1 f1 n0 n1 o0 o1
  refine bodyPost_ret (v := .agg #[.int .i64 (⟨v, G.zero, G.one, v⟩ : Mat).a.re, .int .i64 (⟨v, G.zero, G.one, v⟩ : Mat).a.im, .int .i64 (⟨v, G.zero, G.one, v⟩ : Mat).b.re, .int .i64 (⟨v, G.zero, G.one, v⟩ : Mat).b.im, .int .i64 (⟨v, G.zero, G.one, v⟩ : Mat).c.re, .int .i64 (⟨v, G.zero, G.one, v⟩ : Mat).c.im, .int .i64 (⟨v, G.zero, G.one, v⟩ : Mat).d.re, .int .i64 (⟨v, G.zero, G.one, v⟩ : Mat).d.im]) (by simp [results, Tryz.results145, go_sem, cX, G.one, G.zero]) rfl ?_
  exact ⟨rfl, hX⟩
end Go.Proofs.YtnndaipnfniciaaGreatDoor

namespace Go.Proofs.YtnndaipnfniciaaGreatDoor
open Go.RowKit Go.Shelf
set_option maxRecDepth 100000
attribute [local go_sem] Oper.semAt_some

/-- The types of the cells that the iterator must find as they were. -/
def valT : List TypeId := [3]
def encV (f : Int) (x : El) : Array Value := #[.agg #[.string (kDual x.kind), .bool (kDiv x.kind), kFn x.kind], .agg #[.int .i64 x.a, .int .i64 (f * x.b)]]
def nextV (l pre : List El) (x : El) : Prop := ∃ k, pre = l.take k ∧ l[k]? = some x
theorem KMap.hush {W W' : World} {g : Nat} (h : KMap W g) (hk : KeepsOthers W W') : KMap W' g := hk.same _ _ h rfl

set_option maxHeartbeats 2000000 in
theorem values1_in (n : Nat) (hn : 1 ≤ n) (lp Bl Bw n0 n1 : Nat) (f : Int) (A : Option Addr) (m c : Nat) (l : List El) (hok : ∀ x ∈ l, x.Ok) (hf1 : 1 ≤ f) (hf8 : f ≤ 8) (hm : m ≤ 1000000000000)
    (J : List El → World → Prop) (hJ : ∀ s A B, J s A → Hush valT n1 A.heap.size A B → J s B)
    (hY : ∀ pre x W1, J pre W1 → nextV l pre x → YieldAt Fence.wide (n - 1) Tryz.prog lp (encV f x) W1 fun e W' => e = .returned (.bool true) ∧ J (pre ++ [x]) W' ∧ Kept valT n0 n1 W1 W')
    (W : World) (kl : Blk W Bl 47 #[.slice A m c]) (kw : Blk W Bw 3 #[.int .i64 f]) (hnw : n1 ≤ Bw) (hR : Reads W n0 3 A m (els l)) (hn0 : n0 ≤ W.heap.size) (hn1 : n1 ≤ W.heap.size) (h0 : J [] W) :
    CallsIn Fence.wide n Tryz.prog 161 #[.func (.yield lp) #[] #[], .pointer (some ⟨Bl, 0, none⟩), .pointer (some ⟨Bw, 0, none⟩)] W fun e W' => (∃ v, e = .returned v) ∧ ∃ ys, ys = l ∧ J ys W' := by
  have HL := hide (els_reads_len hR)
  refine callsIn_of_wp Tryz.func161 rfl trivial ?_ rfl
  simp only [Tryz.ntmps161, List.size_toArray, List.length_cons, List.length_nil, Nat.reduceAdd, Nat.reduceSub, Array.replicate_succ, Array.replicate_zero, List.push_toArray, List.append_toArray, List.nil_append, List.cons_append]
  gi_wp2
  refine ⟨trivial, ?_⟩
  refine (callsIn_wide.2 (kinds_g W)).mono ?_
  rintro e W0 ⟨gK, rfl, hK0, hgK, hb0⟩
  have cl := (kl.below hb0 kl.lt).cell
  have kw0 := kw.below hb0 kw.lt
  have j0 := hJ _ _ _ h0 (hush_of_below (Hush.refl valT n1 W.heap.size W) hb0)
  have hR0 := hR.below (hb0.mono hn0)
  have hs0 := hb0.size
  clear h0 kl kw hR
  gi_wp2
  gi_loopw [10] (fun i wr => ∃ k : Nat, k ≤ m ∧ i = .int .i64 k ∧ J (l.take k) wr ∧ KMap wr gK ∧ Blk wr Bw 3 #[.int .i64 f] ∧ Reads wr n0 3 A m (els l) ∧ n0 ≤ wr.heap.size ∧ n1 ≤ wr.heap.size)
    (fun i _ => m - (intOf i).toNat)
  case atStart => exact ⟨0, by omega, rfl, j0, hK0, kw0, hR0, by omega, by omega⟩
  case round =>
    obtain ⟨k, hk, rfl, hj, hK, kw, hR, hz0, hz1⟩ := hrel
    clear j0 hK0 kw0 hR0 cl hb0 hs0
    by_cases hlt : k < m
    · obtain ⟨ad, x, rfl, hadb, hxk, hcx⟩ := els_hit hR hlt hz0
      obtain ⟨q0, q1, q2⟩ := hcx wr (Below.refl _ _)
      have hx := hok x (List.mem_of_getElem? hxk)
      have HX := hide hxk
      have HOK := hide hx
      have hw1 : IntKind.i64.wrap (f * x.b) = f * x.b := by
        have h2 := hx.bl; have h3 := hx.bh
        have h4 : 0 ≤ f * x.b := Int.mul_nonneg (by omega) h2
        have h5 : f * x.b ≤ 8 * 8 := Int.mul_le_mul hf8 h3 h2 (by omega)
        exact IntWalk.i64_in _ (by omega)
      clear hxk hcx hx
      gi_upto_region 4 with (fail)
      obtain ⟨w1, e1, hb1, hz2, k1⟩ := box1 wr #[.string x.kind, .int .i64 x.a, .int .i64 x.b] 104
      have hh1 : Hush valT n1 wr.heap.size wr w1 := by rw [e1]; exact hush_alloc (Hush.refl _ _ _ _) _
      rw [← e1]; clear e1 q0 q1 q2
      have j1 := hJ _ _ _ hj hh1
      have hK1 := hK.below hb1
      have kw1 := kw.below hb1 kw.lt
      have hR1 := hR.below (hb1.mono hz0)
      have hl1 := (kmap_get hK1 x.kind).2
      have c1 := k1.cell
      have cw := kw1.cell
      obtain ⟨fn, tmps, assign, body, hyl, hRd⟩ := hY _ x w1 j1 ⟨k, rfl, HX.out⟩
      unfold encV at hyl
      (try dsimp only at hyl)
      clear hY hj hK kw hR hh1
      gi_wp2
      refine hRd.mono ?_
      rintro e W5 ⟨rfl, hJ5, hk5⟩
      have hs5 := hk5.others.size
      clear c1 cw hl1
      gi_wp2
      go_roundw
      case rel =>
        refine ⟨k + 1, by omega, by go_num, by rw [List.take_add_one, HX.out]; exact hJ5, hK1.hush hk5.others, hk5.blk kw1 hnw rfl, hR1.below hk5.below, by omega, by omega⟩
      case measure => simp [intOf]; omega
    · gi_wp2
      obtain rfl : k = m := by omega
      go_end0
      exact ⟨⟨_, rfl⟩, l, rfl, by rw [List.take_of_length_le (by rw [HL.out]; omega)] at hj; exact hj⟩

theorem values_in (n : Nat) (f : Int) (A : Option Addr) (m c : Nat) (w : World) :
    CallsIn Fence.wide n Tryz.prog 151 #[.slice A m c, .int .i64 f] w fun e w' => e = .returned (.func (.func 161) #[] #[.pointer (some ⟨w.heap.size, 0, none⟩), .pointer (some ⟨w.heap.size + 1, 0, none⟩)]) ∧
      Below w.heap.size w w' ∧ w.heap.size + 2 ≤ w'.heap.size ∧ Blk w' w.heap.size 47 #[.slice A m c] ∧ Blk w' (w.heap.size + 1) 3 #[.int .i64 f] := by
  obtain ⟨w3, e3, hb3, hz3, k0, k1⟩ := box2 w #[.slice A m c] #[.int .i64 f] 47 3
  refine callsIn_of_wp Tryz.func151 rfl trivial ?_ rfl
  simp only [Tryz.ntmps151, List.size_toArray, List.length_cons, List.length_nil, Nat.reduceAdd, Nat.reduceSub, Array.replicate_succ, Array.replicate_zero, List.push_toArray, List.append_toArray, List.nil_append, List.cons_append]
  gi_wp2
  go_ret
  rw [← e3]
  exact ⟨rfl, hb3, hz3, k0, k1⟩

/-- The iterator's contract in the caller's words. -/
theorem values_all (n : Nat) (hn : 1 ≤ n) (Bl Bw n0 n1 : Nat) (f : Int) (A : Option Addr) (m c : Nat) (l : List El) (hok : ∀ x ∈ l, x.Ok) (hf1 : 1 ≤ f) (hf8 : f ≤ 8) (hm : m ≤ 1000000000000)
    (w : World) (kl : Blk w Bl 47 #[.slice A m c]) (kw : Blk w Bw 3 #[.int .i64 f]) (hnw : n1 ≤ Bw) (hR : Reads w n0 3 A m (els l)) (hn0 : n0 ≤ w.heap.size) (hn1 : n1 ≤ w.heap.size) :
    SeqAll n Tryz.prog 161 #[.pointer (some ⟨Bl, 0, none⟩), .pointer (some ⟨Bw, 0, none⟩)] (encV f) valT n0 n1 (fun ys => ys = l) (nextV l) w :=
  fun lp J W hW hJ hY h0 => values1_in n hn lp Bl Bw n0 n1 f A m c l hok hf1 hf8 hm J hJ hY W (kl.below hW kl.lt) (kw.below hW kw.lt) hnw (hR.below (hW.mono hn0)) (by have := hW.size; omega) (by have := hW.size; omega) h0
end Go.Proofs.YtnndaipnfniciaaGreatDoor
