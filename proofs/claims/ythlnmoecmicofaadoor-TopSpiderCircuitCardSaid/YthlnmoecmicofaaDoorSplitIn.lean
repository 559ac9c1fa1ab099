/- The region in two parts, inside a fence: in the body of a loop over an iterator. -/
import Derived.Test.YthlnmoecmicofaaDoorSplit
import Derived.Test.YthlnmoecmicofaaDoorRound
import Derived.OrdersIn
import Derived.Sort.QuietThIn
namespace Go.Proofs.YthlnmoecmicofaaDoor
open Go.RowKit Go.Shelf
set_option maxRecDepth 100000

section
variable {F : Fence} {N : Nat} {P : Program} {ops : Array Oper} {md : Region.Mode} {C : World → Prop} {n : Nat}

/-- Whatever order is picked among the first n. -/
def wpAnyNIn (F : Fence) (N : Nat) (P : Program) (md : Region.Mode) (ops : Array Oper) (C : World → Prop) (n : Nat) (Q : Act → Prop) : Nat → Array Bool → Act → Prop
  | 0, listed, a => readyN md ops n listed = [] ∧ Q a
  | fuel + 1, listed, a => (readyN md ops n listed = [] → Q a) ∧ ∀ i ∈ readyN md ops n listed, qOpIn F N P ops C i (wpAnyNIn F N P md ops C n Q fuel (listed.setIfInBounds i true)) a
theorem wpAnyNIn_first {Q : Act → Prop} {i : Nat} {oi : Oper} {v : Value} (hin : i < n) (hi : ops[i]? = some oi) (hsel : ∀ (j : Nat) (o : Oper) cs b, ops[j]? = some o → o.op ≠ .select cs b) :
    ∀ (fuel : Nat) (listed : Array Bool) (a : Act),
      (∀ j oj, ops[j]? = some oj → j ≠ i → listed.getD j true = false → (∀ e ∈ oj.after, Region.binds md e = true → e.on ≠ i) → oi.apart ops oj = true) →
      i ∈ Region.ready md ops listed → YieldsQuiet F N P ops C oi v a →
      wpAnyNIn F N P md ops C n Q fuel (listed.setIfInBounds i true) (a.put oi.dst v) → wpAnyNIn F N P md ops C n Q (fuel + 1) listed a := by
  intro fuel
  induction fuel with
  | zero =>
    intro listed a _ hr hy H
    refine ⟨fun h => (by have := mem_readyN.2 ⟨hr, hin⟩; rw [h] at this; cases this), fun j hj => ?_⟩
    obtain ⟨hj1, hj2⟩ := mem_readyN.1 hj
    by_cases hji : j = i
    · subst hji; exact hy.qOpIn hi H
    · have := mem_readyN.2 ⟨ready_mono hj1 hji, hj2⟩
      rw [H.1] at this
      cases this
  | succ fuel ih =>
    intro listed a hfree hr hy H
    refine ⟨fun h => (by have := mem_readyN.2 ⟨hr, hin⟩; rw [h] at this; cases this), fun j hj => ?_⟩
    obtain ⟨hj1, hj2⟩ := mem_readyN.1 hj
    by_cases hji : j = i
    · subst hji; exact hy.qOpIn hi H
    · have h1 := H.2 j (mem_readyN.2 ⟨ready_mono hj1 hji, hj2⟩)
      obtain ⟨hjun, oj, hoj, hall⟩ := mem_ready.1 hj1
      have hnot : ∀ e ∈ oj.after, Region.binds md e = true → e.on ≠ i := fun e he hb heq => by
        have h1 := hall e he hb
        have h0 := (mem_ready.1 hr).1
        rw [heq] at h1
        rcases Nat.lt_or_ge i listed.size with h' | h'
        · simp [h'] at h0 h1; rw [h0] at h1; cases h1
        · simp [Array.getElem?_eq_none h'] at h1
      have h2 := qOpIn_put hoj (hfree j oj hoj hji hjun hnot) (fun cs b => hsel i oi cs b hi) (fun cs b => hsel j oj cs b hoj) hy h1
      have hfree' : ∀ k ok, ops[k]? = some ok → k ≠ i → (listed.setIfInBounds j true).getD k true = false →
          (∀ e ∈ ok.after, Region.binds md e = true → e.on ≠ i) → oi.apart ops ok = true := fun k ok hk hki hun hno => by
        refine hfree k ok hk hki ?_ hno
        by_cases hjk : j = k
        · subst hjk; exact hjun
        · rw [getD_set_ne true hjk] at hun; exact hun
      refine qOpIn_mono (fun a' h3 => ih (listed.setIfInBounds j true) a' hfree' (ready_mono hr (Ne.symm hji)) h3.1 ?_) h2
      rw [Array.setIfInBounds_comm _ _ hji]
      exact h3.2
theorem wpAnyNIn_lex {Q : Act → Prop} (hs : Region.noSelect ops = true) : ∀ (l : List Oper) (k : Nat) (listed : Array Bool) (a : Act), (∀ j o, l[j]? = some o → ops[k + j]? = some o) → k + l.length = n →
    lexN md ops n l.length k listed = true → wpQuietIn F N P ops C Q l a → wpAnyNIn F N P md ops C n Q l.length listed a
  | [], _, _, _, _, _, hB, h => ⟨by simpa [lexN] using hB, h⟩
  | o :: l, k, listed, a, hl, hk, hB, h => by
    have h0 : ops[k]? = some o := hl 0 o rfl
    simp only [List.length_cons, lexN, Bool.and_eq_true] at hB hk
    obtain ⟨⟨hr, hf⟩, hB'⟩ := hB
    have hst : qOpIn F N P ops C k (wpQuietIn F N P ops C Q l) a := by unfold qOpIn; simp only [h0]; exact h
    obtain ⟨v, hy, hK⟩ := yieldsQuiet_of_qOpIn h0 hst
    exact wpAnyNIn_first (by omega) h0 (Region.noSelect_spec hs) l.length listed a (Region.free_spec h0 hf) (by simpa using hr) hy
      (wpAnyNIn_lex hs l (k + 1) _ _ (fun j o hj => by have := hl (j + 1) o (by simpa using hj); rwa [show k + 1 + j = k + (j + 1) by omega]) (by omega) hB' hK)

theorem wpAnyIn_more {Q : Exit → Act → World → Prop} : ∀ (m : Nat) (listed : Array Bool) (a : Act) (w : World), wpAnyIn F N P md ops Q m listed a w → wpAnyIn F N P md ops Q (m + 1) listed a w
  | 0, listed, a, w, h => ⟨fun _ => h.2, fun i hi => by rw [h.1] at hi; cases hi⟩
  | m + 1, listed, a, w, h => ⟨h.1, fun i hi => wpOpIn_mono (fun a' w' h' => wpAnyIn_more m _ a' w' h') (h.2 i hi)⟩
theorem wpAnyIn_far {Q : Exit → Act → World → Prop} (m : Nat) (listed : Array Bool) (a : Act) (w : World) (h : wpAnyIn F N P md ops Q m listed a w) : ∀ k, wpAnyIn F N P md ops Q (k + m) listed a w
  | 0 => by simpa using h
  | k + 1 => by rw [show k + 1 + m = k + m + 1 by omega]; exact wpAnyIn_more _ _ _ _ (wpAnyIn_far m listed a w h k)

theorem wpAnyIn_of_N {Q : Act → Prop} {Q' : Exit → Act → World → Prop} {m : Nat} (hro : F.round = none) (hn : n ≤ ops.size) (hB : splitB md ops n = true)
    (hQ : ∀ a w listed, C w → listed.size = ops.size → (∀ i, i < n → listed.getD i false = true) → (∀ j, n ≤ j → listed.getD j false = false) → Q a → wpAnyIn F N P md ops Q' m listed a w) :
    ∀ (f : Nat) (listed : Array Bool) (a : Act) (w : World), listed.size = ops.size → (∀ j, n ≤ j → listed.getD j false = false) → Closed md ops listed → C w → wpAnyNIn F N P md ops C n Q f listed a → wpAnyIn F N P md ops Q' (f + m) listed a w := by
  simp only [splitB, Bool.and_eq_true, List.all_eq_true, List.mem_range, decide_eq_true_eq, Bool.or_eq_true, List.contains_iff_mem] at hB
  obtain ⟨hd, hcov⟩ := hB
  intro f
  induction f with
  | zero =>
    intro listed a w hsz hlo hcl hw h
    have := hQ a w listed hw hsz (all_listed hsz hn hd h.1) hlo h.2
    rwa [Nat.zero_add]
  | succ f ih =>
    intro listed a w hsz hlo hcl hw h
    by_cases hr : readyN md ops n listed = []
    · exact wpAnyIn_far m listed a w (hQ a w listed hw hsz (all_listed hsz hn hd hr) hlo (h.1 hr)) (f + 1)
    · rw [show f + 1 + m = f + m + 1 by omega]
      refine ⟨fun h0 => absurd (by unfold readyN; rw [h0]; rfl) hr, fun i hi => ?_⟩
      by_cases hin : i < n
      · refine wpOpIn_of_qOpIn hro hw (fun a' w' hw' hK => ih _ a' w' (by simpa using hsz) (fun j hj => ?_) ?_ hw' hK) (h.2 i (mem_readyN.2 ⟨hi, hin⟩))
        · rw [getD_set_ne false (by omega)]; exact hlo j hj
        · intro x k hx hk
          have hx' : x = i ∨ listed.getD x false = true := by
            by_cases e : x = i
            · exact .inl e
            · rw [getD_set_ne false (fun q => e q.symm)] at hx; exact .inr hx
          have hkl : listed.getD k false = true := by
            rcases hx' with rfl | hx'
            · obtain ⟨o, e, ho, he, hb, rfl⟩ := aft_mem hk
              obtain ⟨_, o', ho', hall⟩ := mem_ready.1 hi
              rw [ho] at ho'; cases ho'
              exact hall e he hb
            · exact hcl x k hx' hk
          by_cases e : i = k
          · subst e
            have : i < listed.size := by omega
            simp [this]
          · rw [getD_set_ne false e]; exact hkl
      · exfalso
        obtain ⟨hun, o, ho, hall⟩ := mem_ready.1 hi
        have hi2 : i < ops.size := (Array.getElem?_eq_some_iff.1 ho).1
        have h1 : ∀ x ∈ aft md ops i, listed.getD x false = true := fun x hx => by
          obtain ⟨o', e, ho', he, hb, rfl⟩ := aft_mem hx
          rw [ho] at ho'; cases ho'
          exact hall e he hb
        have h2 := sweep_in hcl (List.range n).reverse _ h1
        obtain ⟨i0, hi0⟩ := List.exists_mem_of_ne_nil _ hr
        obtain ⟨hr0, hl0⟩ := mem_readyN.1 hi0
        have h3 := (hcov i hi2).resolve_left hin i0 hl0
        have h4 := h2 i0 h3
        have h5 := (mem_ready.1 hr0).1
        have : i0 < listed.size := by omega
        simp [this] at h4 h5
        rw [h4] at h5; cases h5

/-- **THE REGION IN TWO PARTS.** -/
theorem wpIn_region_split {Q : Exit → Act → World → Prop} {a : Act} {w : World} {l r : List Oper} (hro : F.round = none) (hs : Region.noSelect (l ++ r).toArray = true)
    (hx : lexN .any (l ++ r).toArray l.length l.length 0 (Array.replicate (l ++ r).toArray.size false) = true) (hB : splitB .any (l ++ r).toArray l.length = true) (hC : C w.drew)
    (h : wpQuietIn F N P (l ++ r).toArray C (fun a' => ∀ w', C w' → wpAnyIn F N P .any (l ++ r).toArray Q r.length ((List.replicate l.length true ++ List.replicate r.length false).toArray) a' w') l a) : wpAnyIn F N P .any (l ++ r).toArray Q (l ++ r).toArray.size (Array.replicate (l ++ r).toArray.size false) a w.drew := by
  have h1 := wpAnyNIn_lex (C := C) (md := .any) (n := l.length) hs l 0 (Array.replicate (l ++ r).toArray.size false) a (fun j o hj => by simpa using List.getElem?_append_left (List.getElem?_eq_some_iff.1 hj).1 ▸ hj) (by omega) hx h
  have h2 := wpAnyIn_of_N (F := F) (N := N) (Q' := Q) (m := r.length) hro (by simp) hB (fun a' w' listed hw' hsz hlo hhi hq => by
    have e : listed = (List.replicate l.length true ++ List.replicate r.length false).toArray := by
      apply Array.ext
      · simpa using hsz
      · intro i hi1 hi2
        have hi3 : i < l.length + r.length := by simpa using hi2
        by_cases hil : i < l.length
        · have := hlo i hil
          simp [hi1] at this
          rw [this, List.getElem_toArray, List.getElem_append_left (by simpa using hil), List.getElem_replicate]
        · have := hhi i (by omega)
          simp [hi1] at this
          rw [this, List.getElem_toArray, List.getElem_append_right (by simpa using hil), List.getElem_replicate]
    rw [e]
    exact hq w' hw') l.length (Array.replicate (l ++ r).toArray.size false) a w.drew (by simp) (fun j _ => by simp [Array.getElem?_replicate]; split <;> rfl) (fun i k hi _ => by
      exfalso
      simp [Array.getElem?_replicate] at hi
      split at hi <;> simp at hi) hC h1
  have e2 : l.length + r.length = (l ++ r).toArray.size := by simp
  rw [e2] at h2
  exact h2
theorem wpAnyIn_of_list {Q : Exit → Act → World → Prop} : ∀ (r : List Oper) (k : Nat) (listed : Array Bool) (a : Act) (w : World), (∀ j o, r[j]? = some o → ops[k + j]? = some o) → tailB md ops r.length k listed = true → wpListIn F N P ops Q r a w → wpAnyIn F N P md ops Q r.length listed a w
  | [], _, _, _, _, _, hB, h => ⟨by simpa [tailB] using hB, h⟩
  | o :: r, k, listed, a, w, hl, hB, h => by
    have h0 : ops[k]? = some o := hl 0 o rfl
    simp only [List.length_cons, tailB, Bool.and_eq_true, decide_eq_true_eq] at hB
    obtain ⟨hr, hB'⟩ := hB
    have ih := fun a' w' => wpAnyIn_of_list (Q := Q) r (k + 1) (listed.setIfInBounds k true) a' w' (fun j o hj => by have := hl (j + 1) o (by simpa using hj); rwa [show k + 1 + j = k + (j + 1) by omega]) hB'
    refine ⟨fun e => (by rw [hr] at e; cases e), fun i hi => ?_⟩
    rw [hr] at hi
    obtain rfl : i = k := by simpa using hi
    unfold wpOpIn
    simp only [h0]
    simp only [wpListIn] at h
    split
    · rename_i hw
      rw [if_pos hw] at h
      exact Oper.wpIn_mono (fun a' w' h' => ih a' w' h') h
    · rename_i hw
      rw [if_neg hw] at h
      exact ⟨h.1, ih _ _ h.2⟩
theorem wpQuietIn_mono {Q Q' : Act → Prop} (hq : ∀ a, Q a → Q' a) : ∀ {l : List Oper} {a : Act}, wpQuietIn F N P ops C Q l a → wpQuietIn F N P ops C Q' l a
  | [], _, h => hq _ h
  | o :: l, a, h => by
    simp only [wpQuietIn] at h ⊢
    refine ⟨h.1, ?_⟩
    have h := h.2
    split
    · rename_i hw
      rw [if_pos hw] at h
      exact Oper.quietIn_mono (fun a' h' => wpQuietIn_mono hq h') h
    · rename_i hw
      rw [if_neg hw] at h
      exact wpQuietIn_mono hq h
/-- **THE REGION IN TWO PARTS**, in the body of a loop over an iterator. -/
theorem wpIn_region_part (l0 n B : Nat) {id : Nat} {Q : Exit → Act → World → Prop} {a : Act} {w : World} {ops : List Oper} (hm : P.follows .mixedOrders = true) (hB : partB n ops = true) (hd : (ops.all fun o => match o.op with | .defer _ => false | _ => true) = true)
    (h : wpQuietIn Fence.wide N P ops.toArray (fun w' => ∃ x, w' = over B w x) (fun a' => ∀ w', (∃ x, w' = over B w x) → wpListIn Fence.wide N P ops.toArray Q (ops.drop n) a' w') (ops.take n) a) : (Code.region id ops.toArray true).wpIn (Fence.wide.inRound l0) N P Q a w := by
  have hd' : ∀ o ∈ ops.toArray.toList, ∀ c, o.op ≠ .defer c := by
    intro o ho c hc
    have := List.all_eq_true.1 hd o (by simpa using ho)
    rw [hc] at this
    cases this
  simp only [partB, Bool.and_eq_true, decide_eq_true_eq] at hB
  obtain ⟨⟨⟨⟨hn, hs⟩, hx⟩, hsp⟩, ht⟩ := hB
  obtain ⟨l, r, rfl, hl⟩ : ∃ l r, ops = l ++ r ∧ l.length = n := ⟨ops.take n, ops.drop n, (List.take_append_drop n ops).symm, by rw [List.length_take]; omega⟩
  subst hl
  rw [List.take_left, List.drop_left] at h
  have e : (l ++ r).length - l.length = r.length := by simp
  rw [e] at ht
  refine wpIn_region_any hm (wpAnyIn_inRound l0 hd' _ _ _ _ (wpIn_region_split (F := Fence.wide) rfl hs (by simpa using hx) hsp (C := fun w' => ∃ x, w' = over B w x) ⟨w.drew, over_eq ((Below.refl _ _).drew)⟩ ?_))
  refine wpQuietIn_mono ?_ h
  intro a' h' w' hw'
  exact wpAnyIn_of_list r l.length _ a' w' (fun j o hj => by simpa using List.getElem?_append_right (l₁ := l) (l₂ := r) (i := l.length + j) (by omega) ▸ (by simpa using hj)) ht (h' w' hw')
end
end Go.Proofs.YthlnmoecmicofaaDoor
