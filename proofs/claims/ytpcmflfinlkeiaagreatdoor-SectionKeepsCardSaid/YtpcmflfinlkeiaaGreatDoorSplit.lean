/- A region that draws its order and falls in two: operations that are quiet in a class of worlds (they read, or call what makes memory of its own alone), and operations behind them that wait for all of those. One walk in the text's order serves the first part. -/
import Derived.Test.YtpcmflfinlkeiaaGreatDoorBaseA
import Derived.OrdersHeld
namespace Go.Proofs.YtpcmflfinlkeiaaGreatDoor
open Go.RowKit
set_option maxRecDepth 100000

section
variable {P : Program} {ops : Array Oper} {md : Region.Mode} {C : World → Prop} {n : Nat}

def readyN (md : Region.Mode) (ops : Array Oper) (n : Nat) (listed : Array Bool) : List Nat := (Region.ready md ops listed).filter (fun i => decide (i < n))
theorem mem_readyN {listed : Array Bool} {i : Nat} : i ∈ readyN md ops n listed ↔ i ∈ Region.ready md ops listed ∧ i < n := by simp [readyN]
/-- Whatever order is picked among the first n. -/
def wpAnyN (P : Program) (md : Region.Mode) (ops : Array Oper) (C : World → Prop) (n : Nat) (Q : Act → Prop) : Nat → Array Bool → Act → Prop
  | 0, listed, a => readyN md ops n listed = [] ∧ Q a
  | fuel + 1, listed, a => (readyN md ops n listed = [] → Q a) ∧ ∀ i ∈ readyN md ops n listed, qOp P ops C i (wpAnyN P md ops C n Q fuel (listed.setIfInBounds i true)) a
theorem wpAnyN_first {Q : Act → Prop} {i : Nat} {oi : Oper} {v : Value} (hin : i < n) (hi : ops[i]? = some oi) (hsel : ∀ (j : Nat) (o : Oper) cs b, ops[j]? = some o → o.op ≠ .select cs b) :
    ∀ (fuel : Nat) (listed : Array Bool) (a : Act),
      (∀ j oj, ops[j]? = some oj → j ≠ i → listed.getD j true = false → (∀ e ∈ oj.after, Region.binds md e = true → e.on ≠ i) → oi.apart ops oj = true) →
      i ∈ Region.ready md ops listed → YieldsIn P ops C oi v a →
      wpAnyN P md ops C n Q fuel (listed.setIfInBounds i true) (a.put oi.dst v) → wpAnyN P md ops C n Q (fuel + 1) listed a := by
  intro fuel
  induction fuel with
  | zero =>
    intro listed a _ hr hy H
    refine ⟨fun h => (by have := mem_readyN.2 ⟨hr, hin⟩; rw [h] at this; cases this), fun j hj => ?_⟩
    obtain ⟨hj1, hj2⟩ := mem_readyN.1 hj
    by_cases hji : j = i
    · subst hji; exact hy.qOp hi H
    · have := mem_readyN.2 ⟨ready_mono hj1 hji, hj2⟩
      rw [H.1] at this
      cases this
  | succ fuel ih =>
    intro listed a hfree hr hy H
    refine ⟨fun h => (by have := mem_readyN.2 ⟨hr, hin⟩; rw [h] at this; cases this), fun j hj => ?_⟩
    obtain ⟨hj1, hj2⟩ := mem_readyN.1 hj
    by_cases hji : j = i
    · subst hji; exact hy.qOp hi H
    · have h1 := H.2 j (mem_readyN.2 ⟨ready_mono hj1 hji, hj2⟩)
      obtain ⟨hjun, oj, hoj, hall⟩ := mem_ready.1 hj1
      have hnot : ∀ e ∈ oj.after, Region.binds md e = true → e.on ≠ i := fun e he hb heq => by
        have h1 := hall e he hb
        have h0 := (mem_ready.1 hr).1
        rw [heq] at h1
        rcases Nat.lt_or_ge i listed.size with h' | h'
        · simp [h'] at h0 h1; rw [h0] at h1; cases h1
        · simp [Array.getElem?_eq_none h'] at h1
      have h2 := qOp_put hoj (hfree j oj hoj hji hjun hnot) (fun cs b => hsel i oi cs b hi) (fun cs b => hsel j oj cs b hoj) hy h1
      have hfree' : ∀ k ok, ops[k]? = some ok → k ≠ i → (listed.setIfInBounds j true).getD k true = false →
          (∀ e ∈ ok.after, Region.binds md e = true → e.on ≠ i) → oi.apart ops ok = true := fun k ok hk hki hun hno => by
        refine hfree k ok hk hki ?_ hno
        by_cases hjk : j = k
        · subst hjk; exact hjun
        · rw [getD_set_ne true hjk] at hun; exact hun
      refine qOp_mono (fun a' h3 => ih (listed.setIfInBounds j true) a' hfree' (ready_mono hr (Ne.symm hji)) h3.1 ?_) h2
      rw [Array.setIfInBounds_comm _ _ hji]
      exact h3.2
/-- The text's order among the first n. -/
def lexN (md : Region.Mode) (ops : Array Oper) (n : Nat) : Nat → Nat → Array Bool → Bool
  | 0, _, listed => (readyN md ops n listed).isEmpty
  | fuel + 1, k, listed => (Region.ready md ops listed).contains k && Region.free md ops listed k && lexN md ops n fuel (k + 1) (listed.setIfInBounds k true)
theorem wpAnyN_lex {Q : Act → Prop} (hs : Region.noSelect ops = true) : ∀ (l : List Oper) (k : Nat) (listed : Array Bool) (a : Act), (∀ j o, l[j]? = some o → ops[k + j]? = some o) → k + l.length = n →
    lexN md ops n l.length k listed = true → wpQuiet P ops C Q l a → wpAnyN P md ops C n Q l.length listed a
  | [], _, _, _, _, _, hB, h => ⟨by simpa [lexN] using hB, h⟩
  | o :: l, k, listed, a, hl, hk, hB, h => by
    have h0 : ops[k]? = some o := hl 0 o rfl
    simp only [List.length_cons, lexN, Bool.and_eq_true] at hB hk
    obtain ⟨⟨hr, hf⟩, hB'⟩ := hB
    have hst : qOp P ops C k (wpQuiet P ops C Q l) a := by unfold qOp; simp only [h0]; exact h
    obtain ⟨v, hy, hK⟩ := yieldsIn_of_qOp h0 hst
    exact wpAnyN_first (by omega) h0 (Region.noSelect_spec hs) l.length listed a (Region.free_spec h0 hf) (by simpa using hr) hy
      (wpAnyN_lex hs l (k + 1) _ _ (fun j o hj => by have := hl (j + 1) o (by simpa using hj); rwa [show k + 1 + j = k + (j + 1) by omega]) (by omega) hB' hK)

theorem wpAny_more {Q : Exit → Act → World → Prop} : ∀ (m : Nat) (listed : Array Bool) (a : Act) (w : World), wpAny P md ops Q m listed a w → wpAny P md ops Q (m + 1) listed a w
  | 0, listed, a, w, h => ⟨fun _ => h.2, fun i hi => by rw [h.1] at hi; cases hi⟩
  | m + 1, listed, a, w, h => ⟨h.1, fun i hi => wpOp_mono (fun a' w' h' => wpAny_more m _ a' w' h') (h.2 i hi)⟩
theorem wpAny_far {Q : Exit → Act → World → Prop} (m : Nat) (listed : Array Bool) (a : Act) (w : World) (h : wpAny P md ops Q m listed a w) : ∀ k, wpAny P md ops Q (k + m) listed a w
  | 0 => by simpa using h
  | k + 1 => by rw [show k + 1 + m = k + m + 1 by omega]; exact wpAny_more _ _ _ _ (wpAny_far m listed a w h k)

/-- What an operation waits for. -/
def aft (md : Region.Mode) (ops : Array Oper) (i : Nat) : List Nat := match ops[i]? with
  | some o => (o.after.toList.filter (Region.binds md)).map (·.on)
  | none => []
theorem mem_aft {i : Nat} {o : Oper} {e : Edge} (ho : ops[i]? = some o) (he : e ∈ o.after) (hb : Region.binds md e = true) : e.on ∈ aft md ops i := by
  simp only [aft, ho, List.mem_map, List.mem_filter]
  exact ⟨e, ⟨by simpa using he, hb⟩, rfl⟩
theorem aft_mem {i k : Nat} (h : k ∈ aft md ops i) : ∃ o e, ops[i]? = some o ∧ e ∈ o.after ∧ Region.binds md e = true ∧ e.on = k := by
  unfold aft at h
  split at h
  · rename_i o ho
    simp only [List.mem_map, List.mem_filter] at h
    obtain ⟨e, ⟨h1, h2⟩, h3⟩ := h
    exact ⟨o, e, ho, by simpa using h1, h2, h3⟩
  · cases h
def sweep (md : Region.Mode) (ops : Array Oper) (is s : List Nat) : List Nat := is.foldl (fun s i => if s.contains i then s ++ aft md ops i else s) s
/-- Whatever is listed, what it waits for is listed. -/
def Closed (md : Region.Mode) (ops : Array Oper) (listed : Array Bool) : Prop := ∀ i k, listed.getD i false = true → k ∈ aft md ops i → listed.getD k false = true
theorem sweep_in {listed : Array Bool} (hc : Closed md ops listed) : ∀ (is s : List Nat), (∀ x ∈ s, listed.getD x false = true) → ∀ x ∈ sweep md ops is s, listed.getD x false = true
  | [], s, h => h
  | i :: is, s, h => by
    show ∀ x ∈ sweep md ops is (if s.contains i then s ++ aft md ops i else s), _
    refine sweep_in hc is _ ?_
    split
    · rename_i hi
      intro x hx
      rcases List.mem_append.1 hx with hx | hx
      · exact h x hx
      · exact hc i x (h i (by simpa using hi)) hx
    · exact h
/-- The split's check: the first n wait for elder ones alone; each later one waits, at length, for all of the first n. -/
def splitB (md : Region.Mode) (ops : Array Oper) (n : Nat) : Bool :=
  ((List.range n).all fun i => (aft md ops i).all fun k => decide (k < i)) &&
  ((List.range ops.size).all fun j => decide (j < n) || let s := sweep md ops (List.range n).reverse (aft md ops j); (List.range n).all fun i => s.contains i)

theorem all_listed {listed : Array Bool} (hsz : listed.size = ops.size) (hn : n ≤ ops.size) (hd : ∀ i, i < n → ∀ k ∈ aft md ops i, k < i) (h : readyN md ops n listed = []) : ∀ i, i < n → listed.getD i false = true := by
  intro i
  induction i using Nat.strongRecOn with
  | _ i ih =>
    intro hi
    cases hl : listed.getD i true with
    | true =>
      have : i < listed.size := by omega
      simp [this] at hl ⊢
      exact hl
    | false =>
      exfalso
      have ho : ops[i]? = some ops[i] := Array.getElem?_eq_getElem (by omega)
      have : i ∈ readyN md ops n listed := mem_readyN.2 ⟨mem_ready.2 ⟨hl, _, ho, fun e he hb => by
        have := hd i hi _ (mem_aft ho he hb)
        exact ih _ this (by omega)⟩, hi⟩
      rw [h] at this
      cases this

theorem wpAny_of_N {Q : Act → Prop} {Q' : Exit → Act → World → Prop} {m : Nat} (hn : n ≤ ops.size) (hB : splitB md ops n = true)
    (hQ : ∀ a w listed, C w → listed.size = ops.size → (∀ i, i < n → listed.getD i false = true) → (∀ j, n ≤ j → listed.getD j false = false) → Q a → wpAny P md ops Q' m listed a w) :
    ∀ (f : Nat) (listed : Array Bool) (a : Act) (w : World), listed.size = ops.size → (∀ j, n ≤ j → listed.getD j false = false) → Closed md ops listed → C w → wpAnyN P md ops C n Q f listed a → wpAny P md ops Q' (f + m) listed a w := by
  simp only [splitB, Bool.and_eq_true, List.all_eq_true, List.mem_range, decide_eq_true_eq, Bool.or_eq_true, List.contains_iff_mem] at hB
  obtain ⟨hd, hcov⟩ := hB
  intro f
  induction f with
  | zero =>
    intro listed a w hsz hlo hcl hw h
    have := hQ a w listed hw hsz (all_listed hsz hn hd h.1) hlo h.2
    rwa [Nat.zero_add]
  | succ f ih =>
    intro listed a w hsz hlo hcl hw h
    by_cases hr : readyN md ops n listed = []
    · exact wpAny_far m listed a w (hQ a w listed hw hsz (all_listed hsz hn hd hr) hlo (h.1 hr)) (f + 1)
    · rw [show f + 1 + m = f + m + 1 by omega]
      refine ⟨fun h0 => absurd (by unfold readyN; rw [h0]; rfl) hr, fun i hi => ?_⟩
      by_cases hin : i < n
      · refine wpOp_of_qOp hw (fun a' w' hw' hK => ih _ a' w' (by simpa using hsz) (fun j hj => ?_) ?_ hw' hK) (h.2 i (mem_readyN.2 ⟨hi, hin⟩))
        · rw [getD_set_ne false (by omega)]; exact hlo j hj
        · intro x k hx hk
          have hx' : x = i ∨ listed.getD x false = true := by
            by_cases e : x = i
            · exact .inl e
            · rw [getD_set_ne false (fun q => e q.symm)] at hx; exact .inr hx
          have hkl : listed.getD k false = true := by
            rcases hx' with rfl | hx'
            · obtain ⟨o, e, ho, he, hb, rfl⟩ := aft_mem hk
              obtain ⟨_, o', ho', hall⟩ := mem_ready.1 hi
              rw [ho] at ho'; cases ho'
              exact hall e he hb
            · exact hcl x k hx' hk
          by_cases e : i = k
          · subst e
            have : i < listed.size := by omega
            simp [this]
          · rw [getD_set_ne false e]; exact hkl
      · exfalso
        obtain ⟨hun, o, ho, hall⟩ := mem_ready.1 hi
        have hi2 : i < ops.size := (Array.getElem?_eq_some_iff.1 ho).1
        have h1 : ∀ x ∈ aft md ops i, listed.getD x false = true := fun x hx => by
          obtain ⟨o', e, ho', he, hb, rfl⟩ := aft_mem hx
          rw [ho] at ho'; cases ho'
          exact hall e he hb
        have h2 := sweep_in hcl (List.range n).reverse _ h1
        obtain ⟨i0, hi0⟩ := List.exists_mem_of_ne_nil _ hr
        obtain ⟨hr0, hl0⟩ := mem_readyN.1 hi0
        have h3 := (hcov i hi2).resolve_left hin i0 hl0
        have h4 := h2 i0 h3
        have h5 := (mem_ready.1 hr0).1
        have : i0 < listed.size := by omega
        simp [this] at h4 h5
        rw [h4] at h5; cases h5

/-- **THE REGION IN TWO PARTS.** -/
theorem wp_region_split {id : Nat} {Q : Exit → Act → World → Prop} {a : Act} {w : World} {l r : List Oper} (hm : P.follows .mixedOrders = true) (hs : Region.noSelect (l ++ r).toArray = true)
    (hx : lexN .any (l ++ r).toArray l.length l.length 0 (Array.replicate (l ++ r).toArray.size false) = true) (hB : splitB .any (l ++ r).toArray l.length = true) (hC : C w.drew)
    (h : wpQuiet P (l ++ r).toArray C (fun a' => ∀ w', C w' → wpAny P .any (l ++ r).toArray Q r.length ((List.replicate l.length true ++ List.replicate r.length false).toArray) a' w') l a) : (Code.region id (l ++ r).toArray true).wp P Q a w := by
  refine wp_region_any hm ?_
  have h1 := wpAnyN_lex (C := C) (md := .any) (n := l.length) hs l 0 (Array.replicate (l ++ r).toArray.size false) a (fun j o hj => by simpa using List.getElem?_append_left (List.getElem?_eq_some_iff.1 hj).1 ▸ hj) (by omega) hx h
  have h2 := wpAny_of_N (Q' := Q) (m := r.length) (by simp) hB (fun a' w' listed hw' hsz hlo hhi hq => by
    have e : listed = (List.replicate l.length true ++ List.replicate r.length false).toArray := by
      apply Array.ext
      · simpa using hsz
      · intro i hi1 hi2
        have hi3 : i < l.length + r.length := by simpa using hi2
        by_cases hil : i < l.length
        · have := hlo i hil
          simp [hi1] at this
          rw [this, List.getElem_toArray, List.getElem_append_left (by simpa using hil), List.getElem_replicate]
        · have := hhi i (by omega)
          simp [hi1] at this
          rw [this, List.getElem_toArray, List.getElem_append_right (by simpa using hil), List.getElem_replicate]
    rw [e]
    exact hq w' hw') l.length (Array.replicate (l ++ r).toArray.size false) a w.drew (by simp) (fun j _ => by simp [Array.getElem?_replicate]; split <;> rfl) (fun i k hi _ => by
      exfalso
      simp [Array.getElem?_replicate] at hi
      split at hi <;> simp at hi) hC h1
  have e2 : l.length + r.length = (l ++ r).toArray.size := by simp
  rw [e2] at h2
  exact h2
/-- From k on one operation alone may come up at a time. -/
def tailB (md : Region.Mode) (ops : Array Oper) : Nat → Nat → Array Bool → Bool
  | 0, _, listed => (Region.ready md ops listed).isEmpty
  | c + 1, k, listed => decide (Region.ready md ops listed = [k]) && tailB md ops c (k + 1) (listed.setIfInBounds k true)
theorem wpAny_of_list {Q : Exit → Act → World → Prop} : ∀ (r : List Oper) (k : Nat) (listed : Array Bool) (a : Act) (w : World), (∀ j o, r[j]? = some o → ops[k + j]? = some o) → tailB md ops r.length k listed = true → wpList P ops Q r a w → wpAny P md ops Q r.length listed a w
  | [], _, _, _, _, _, hB, h => ⟨by simpa [tailB] using hB, h⟩
  | o :: r, k, listed, a, w, hl, hB, h => by
    have h0 : ops[k]? = some o := hl 0 o rfl
    simp only [List.length_cons, tailB, Bool.and_eq_true, decide_eq_true_eq] at hB
    obtain ⟨hr, hB'⟩ := hB
    have ih := fun a' w' => wpAny_of_list (Q := Q) r (k + 1) (listed.setIfInBounds k true) a' w' (fun j o hj => by have := hl (j + 1) o (by simpa using hj); rwa [show k + 1 + j = k + (j + 1) by omega]) hB'
    refine ⟨fun e => (by rw [hr] at e; cases e), fun i hi => ?_⟩
    rw [hr] at hi
    obtain rfl : i = k := by simpa using hi
    unfold wpOp
    simp only [h0]
    simp only [wpList] at h
    split
    · rename_i hw
      rw [if_pos hw] at h
      rcases h with h | h
      · exact .inl (Oper.wp_mono (fun a' w' h' => ih a' w' h') h)
      · exact .inr h
    · rename_i hw
      rw [if_neg hw] at h
      exact ih _ _ h
theorem wpQuiet_mono {Q Q' : Act → Prop} (hq : ∀ a, Q a → Q' a) : ∀ {l : List Oper} {a : Act}, wpQuiet P ops C Q l a → wpQuiet P ops C Q' l a
  | [], _, h => hq _ h
  | o :: l, a, h => by
    simp only [wpQuiet] at h ⊢
    split
    · rename_i hw
      rw [if_pos hw] at h
      exact Oper.quiet_mono (fun a' h' => wpQuiet_mono hq h') h
    · rename_i hw
      rw [if_neg hw] at h
      exact wpQuiet_mono hq h
def partB (n : Nat) (ops : List Oper) : Bool :=
  decide (n ≤ ops.length) && Region.noSelect ops.toArray && lexN .any ops.toArray n n 0 (Array.replicate ops.length false) && splitB .any ops.toArray n &&
    tailB .any ops.toArray (ops.length - n) n ((List.replicate n true ++ List.replicate (ops.length - n) false).toArray)
/-- **THE REGION IN TWO PARTS**: the first n operations in one walk of the text's order, in all worlds that lie over the given one; the others one behind the other. -/
theorem wp_region_part (n B : Nat) {id : Nat} {Q : Exit → Act → World → Prop} {a : Act} {w : World} {ops : List Oper} (hm : P.follows .mixedOrders = true) (hB : partB n ops = true)
    (h : wpQuiet P ops.toArray (fun w' => ∃ x, w' = over B w x) (fun a' => ∀ w', (∃ x, w' = over B w x) → wpList P ops.toArray Q (ops.drop n) a' w') (ops.take n) a) : (Code.region id ops.toArray true).wp P Q a w := by
  simp only [partB, Bool.and_eq_true, decide_eq_true_eq] at hB
  obtain ⟨⟨⟨⟨hn, hs⟩, hx⟩, hsp⟩, ht⟩ := hB
  obtain ⟨l, r, rfl, hl⟩ : ∃ l r, ops = l ++ r ∧ l.length = n := ⟨ops.take n, ops.drop n, (List.take_append_drop n ops).symm, by rw [List.length_take]; omega⟩
  subst hl
  rw [List.take_left, List.drop_left] at h
  have e : (l ++ r).length - l.length = r.length := by simp
  rw [e] at ht
  refine wp_region_split hm hs (by simpa using hx) hsp (C := fun w' => ∃ x, w' = over B w x) ⟨w.drew, over_eq ((Below.refl _ _).drew)⟩ ?_
  refine wpQuiet_mono ?_ h
  intro a' h' w' hw'
  exact wpAny_of_list r l.length _ a' w' (fun j o hj => by simpa using List.getElem?_append_right (l₁ := l) (l₂ := r) (i := l.length + j) (by omega) ▸ (by simpa using hj)) ht (h' w' hw')
end
end Go.Proofs.YtpcmflfinlkeiaaGreatDoor
