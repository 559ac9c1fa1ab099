/- A region that draws its order, in the body of a loop over an iterator. The region in two parts, inside a fence: in the body of a loop over an iterator. A region that draws its order: quiet operations, allocations that wait for nothing, and operations that wait for all of those. A region that draws its order: quiet operations anywhere in it, and a chain of others, each of which waits for the one ahead of it. -/
import Derived.Test.YtnndaipnfniciaaGreatDoorBaseF
import Derived.Sort.QuietTacIn
import Derived.Test.YtnndaipnfniciaaGreatDoorBaseS
import Derived.OrdersIn
import Derived.Sort.QuietThIn
namespace Go.Proofs.YtnndaipnfniciaaGreatDoor
open Go.RowKit Go.Shelf
set_option maxRecDepth 100000

theorem oper_inRound {n : Nat} {P : Program} {o : Oper} {a : Act} {w : World} {K : Act → World → Prop} {Q : Exit → Act → World → Prop} (l : Nat) (hd : ∀ c, o.op ≠ .defer c)
    (h : Oper.wpIn Fence.wide n P o a w K Q) : Oper.wpIn (Fence.wide.inRound l) n P o a w K Q := by
  unfold Oper.wpIn at *
  refine ⟨fun f hf => h.1 f hf, ?_⟩
  have h2 := h.2
  rw [Oper.semAt_eq _ _ _ hd] at h2 ⊢
  exact h2
theorem wpAnyIn_inRound {n : Nat} {P : Program} {md : Region.Mode} {ops : Array Oper} {Q : Exit → Act → World → Prop} (l : Nat) (hd : ∀ o ∈ ops.toList, ∀ c, o.op ≠ .defer c) :
    ∀ (fuel : Nat) (listed : Array Bool) (a : Act) (w : World), wpAnyIn Fence.wide n P md ops Q fuel listed a w → wpAnyIn (Fence.wide.inRound l) n P md ops Q fuel listed a w
  | 0, _, _, _, h => h
  | fuel + 1, listed, a, w, h => ⟨h.1, fun i hi => by
    have h2 := h.2 i hi
    unfold wpOpIn at h2 ⊢
    split
    · rename_i hn
      rw [hn] at h2
      exact wpAnyIn_inRound l hd fuel _ _ _ h2
    · rename_i o ho
      rw [ho] at h2
      simp only at h2 ⊢
      split
      · rename_i hw
        rw [if_pos hw] at h2
        exact oper_inRound l (hd o (List.mem_of_getElem? (by simpa using ho))) (Oper.wpIn_mono (fun a w hh => wpAnyIn_inRound l hd fuel _ a w hh) h2)
      · rename_i hw
        rw [if_neg hw] at h2
        exact ⟨fun f hf => h2.1 f hf, wpAnyIn_inRound l hd fuel _ _ _ h2.2⟩⟩

theorem wpIn_region_over (l0 B : Nat) {n : Nat} {P : Program} {id : Nat} {Q : Exit → Act → World → Prop} {a : Act} {w : World} {l : List Oper} (hm : P.follows .mixedOrders = true) (hB : Region.lexB .any l.toArray = true) (hd : (l.all fun o => match o.op with | .defer _ => false | _ => true) = true)
    (h : wpQuietIn Fence.wide n P l.toArray (fun w' => ∃ x, w' = over B w x) (fun a' => ∀ w', (∃ x, w' = over B w x) → Q .normal a' w') l a) : (Code.region id l.toArray true).wpIn (Fence.wide.inRound l0) n P Q a w := by
  have hd' : ∀ o ∈ l.toArray.toList, ∀ c, o.op ≠ .defer c := by
    intro o ho c hc
    have := List.all_eq_true.1 hd o (by simpa using ho)
    rw [hc] at this
    cases this
  have hB2 := hB
  simp only [Region.lexB, Bool.and_eq_true] at hB2
  refine wpIn_region_any hm (wpAnyIn_inRound l0 hd' _ _ _ _ (wpAnyIn_of_quiet (F := Fence.wide) (C := fun w' => ∃ x, w' = over B w x) (Q := fun a' => ∀ w', (∃ x, w' = over B w x) → Q .normal a' w') rfl (fun _ w' hw' h => h w' hw') _ _ _ _ ⟨w.drew, over_eq ((Below.refl _ _).drew)⟩ ?_))
  have := wpAnyQIn_lex (F := Fence.wide) (n := n) (C := fun w' => ∃ x, w' = over B w x) (md := .any) hB2.1 l.toArray.toList 0 (Array.replicate l.toArray.size false) a (by simp) (by simpa using hB2.2) h
  simpa using this
end Go.Proofs.YtnndaipnfniciaaGreatDoor

namespace Go.Proofs.YtnndaipnfniciaaGreatDoor
open Go.RowKit Go.Shelf
set_option maxRecDepth 100000

section
variable {F : Fence} {N : Nat} {P : Program} {ops : Array Oper} {md : Region.Mode} {C : World → Prop} {n : Nat}

/-- Whatever order is picked among the first n. -/
def wpAnyNIn (F : Fence) (N : Nat) (P : Program) (md : Region.Mode) (ops : Array Oper) (C : World → Prop) (n : Nat) (Q : Act → Prop) : Nat → Array Bool → Act → Prop
  | 0, listed, a => readyN md ops n listed = [] ∧ Q a
  | fuel + 1, listed, a => (readyN md ops n listed = [] → Q a) ∧ ∀ i ∈ readyN md ops n listed, qOpIn F N P ops C i (wpAnyNIn F N P md ops C n Q fuel (listed.setIfInBounds i true)) a
theorem wpAnyNIn_first {Q : Act → Prop} {i : Nat} {oi : Oper} {v : Value} (hin : i < n) (hi : ops[i]? = some oi) (hsel : ∀ (j : Nat) (o : Oper) cs b, ops[j]? = some o → o.op ≠ .select cs b) :
    ∀ (fuel : Nat) (listed : Array Bool) (a : Act),
      (∀ j oj, ops[j]? = some oj → j ≠ i → listed.getD j true = false → (∀ e ∈ oj.after, Region.binds md e = true → e.on ≠ i) → oi.apart ops oj = true) →
      i ∈ Region.ready md ops listed → YieldsQuiet F N P ops C oi v a →
      wpAnyNIn F N P md ops C n Q fuel (listed.setIfInBounds i true) (a.put oi.dst v) → wpAnyNIn F N P md ops C n Q (fuel + 1) listed a := by
  intro fuel
  induction fuel with
  | zero =>
    intro listed a _ hr hy H
    refine ⟨fun h => (by have := mem_readyN.2 ⟨hr, hin⟩; rw [h] at this; cases this), fun j hj => ?_⟩
    obtain ⟨hj1, hj2⟩ := mem_readyN.1 hj
    by_cases hji : j = i
    · subst hji; exact hy.qOpIn hi H
    · have := mem_readyN.2 ⟨ready_mono hj1 hji, hj2⟩
      rw [H.1] at this
      cases this
  | succ fuel ih =>
    intro listed a hfree hr hy H
    refine ⟨fun h => (by have := mem_readyN.2 ⟨hr, hin⟩; rw [h] at this; cases this), fun j hj => ?_⟩
    obtain ⟨hj1, hj2⟩ := mem_readyN.1 hj
    by_cases hji : j = i
    · subst hji; exact hy.qOpIn hi H
    · have h1 := H.2 j (mem_readyN.2 ⟨ready_mono hj1 hji, hj2⟩)
      obtain ⟨hjun, oj, hoj, hall⟩ := mem_ready.1 hj1
      have hnot : ∀ e ∈ oj.after, Region.binds md e = true → e.on ≠ i := fun e he hb heq => by
        have h1 := hall e he hb
        have h0 := (mem_ready.1 hr).1
        rw [heq] at h1
        rcases Nat.lt_or_ge i listed.size with h' | h'
        · simp [h'] at h0 h1; rw [h0] at h1; cases h1
        · simp [Array.getElem?_eq_none h'] at h1
      have h2 := qOpIn_put hoj (hfree j oj hoj hji hjun hnot) (fun cs b => hsel i oi cs b hi) (fun cs b => hsel j oj cs b hoj) hy h1
      have hfree' : ∀ k ok, ops[k]? = some ok → k ≠ i → (listed.setIfInBounds j true).getD k true = false →
          (∀ e ∈ ok.after, Region.binds md e = true → e.on ≠ i) → oi.apart ops ok = true := fun k ok hk hki hun hno => by
        refine hfree k ok hk hki ?_ hno
        by_cases hjk : j = k
        · subst hjk; exact hjun
        · rw [getD_set_ne true hjk] at hun; exact hun
      refine qOpIn_mono (fun a' h3 => ih (listed.setIfInBounds j true) a' hfree' (ready_mono hr (Ne.symm hji)) h3.1 ?_) h2
      rw [Array.setIfInBounds_comm _ _ hji]
      exact h3.2
theorem wpAnyNIn_lex {Q : Act → Prop} (hs : Region.noSelect ops = true) : ∀ (l : List Oper) (k : Nat) (listed : Array Bool) (a : Act), (∀ j o, l[j]? = some o → ops[k + j]? = some o) → k + l.length = n →
    lexN md ops n l.length k listed = true → wpQuietIn F N P ops C Q l a → wpAnyNIn F N P md ops C n Q l.length listed a
  | [], _, _, _, _, _, hB, h => ⟨by simpa [lexN] using hB, h⟩
  | o :: l, k, listed, a, hl, hk, hB, h => by
    have h0 : ops[k]? = some o := hl 0 o rfl
    simp only [List.length_cons, lexN, Bool.and_eq_true] at hB hk
    obtain ⟨⟨hr, hf⟩, hB'⟩ := hB
    have hst : qOpIn F N P ops C k (wpQuietIn F N P ops C Q l) a := by unfold qOpIn; simp only [h0]; exact h
    obtain ⟨v, hy, hK⟩ := yieldsQuiet_of_qOpIn h0 hst
    exact wpAnyNIn_first (by omega) h0 (Region.noSelect_spec hs) l.length listed a (Region.free_spec h0 hf) (by simpa using hr) hy
      (wpAnyNIn_lex hs l (k + 1) _ _ (fun j o hj => by have := hl (j + 1) o (by simpa using hj); rwa [show k + 1 + j = k + (j + 1) by omega]) (by omega) hB' hK)

theorem wpAnyIn_more {Q : Exit → Act → World → Prop} : ∀ (m : Nat) (listed : Array Bool) (a : Act) (w : World), wpAnyIn F N P md ops Q m listed a w → wpAnyIn F N P md ops Q (m + 1) listed a w
  | 0, listed, a, w, h => ⟨fun _ => h.2, fun i hi => by rw [h.1] at hi; cases hi⟩
  | m + 1, listed, a, w, h => ⟨h.1, fun i hi => wpOpIn_mono (fun a' w' h' => wpAnyIn_more m _ a' w' h') (h.2 i hi)⟩
theorem wpAnyIn_far {Q : Exit → Act → World → Prop} (m : Nat) (listed : Array Bool) (a : Act) (w : World) (h : wpAnyIn F N P md ops Q m listed a w) : ∀ k, wpAnyIn F N P md ops Q (k + m) listed a w
  | 0 => by simpa using h
  | k + 1 => by rw [show k + 1 + m = k + m + 1 by omega]; exact wpAnyIn_more _ _ _ _ (wpAnyIn_far m listed a w h k)

theorem wpAnyIn_of_N {Q : Act → Prop} {Q' : Exit → Act → World → Prop} {m : Nat} (hro : F.round = none) (hn : n ≤ ops.size) (hB : splitB md ops n = true)
    (hQ : ∀ a w listed, C w → listed.size = ops.size → (∀ i, i < n → listed.getD i false = true) → (∀ j, n ≤ j → listed.getD j false = false) → Q a → wpAnyIn F N P md ops Q' m listed a w) :
    ∀ (f : Nat) (listed : Array Bool) (a : Act) (w : World), listed.size = ops.size → (∀ j, n ≤ j → listed.getD j false = false) → Closed md ops listed → C w → wpAnyNIn F N P md ops C n Q f listed a → wpAnyIn F N P md ops Q' (f + m) listed a w := by
  simp only [splitB, Bool.and_eq_true, List.all_eq_true, List.mem_range, decide_eq_true_eq, Bool.or_eq_true, List.contains_iff_mem] at hB
  obtain ⟨hd, hcov⟩ := hB
  intro f
  induction f with
  | zero =>
    intro listed a w hsz hlo hcl hw h
    have := hQ a w listed hw hsz (all_listed hsz hn hd h.1) hlo h.2
    rwa [Nat.zero_add]
  | succ f ih =>
    intro listed a w hsz hlo hcl hw h
    by_cases hr : readyN md ops n listed = []
    · exact wpAnyIn_far m listed a w (hQ a w listed hw hsz (all_listed hsz hn hd hr) hlo (h.1 hr)) (f + 1)
    · rw [show f + 1 + m = f + m + 1 by omega]
      refine ⟨fun h0 => absurd (by unfold readyN; rw [h0]; rfl) hr, fun i hi => ?_⟩
      by_cases hin : i < n
      · refine wpOpIn_of_qOpIn hro hw (fun a' w' hw' hK => ih _ a' w' (by simpa using hsz) (fun j hj => ?_) ?_ hw' hK) (h.2 i (mem_readyN.2 ⟨hi, hin⟩))
        · rw [getD_set_ne false (by omega)]; exact hlo j hj
        · intro x k hx hk
          have hx' : x = i ∨ listed.getD x false = true := by
            by_cases e : x = i
            · exact .inl e
            · rw [getD_set_ne false (fun q => e q.symm)] at hx; exact .inr hx
          have hkl : listed.getD k false = true := by
            rcases hx' with rfl | hx'
            · obtain ⟨o, e, ho, he, hb, rfl⟩ := aft_mem hk
              obtain ⟨_, o', ho', hall⟩ := mem_ready.1 hi
              rw [ho] at ho'; cases ho'
              exact hall e he hb
            · exact hcl x k hx' hk
          by_cases e : i = k
          · subst e
            have : i < listed.size := by omega
            simp [this]
          · rw [getD_set_ne false e]; exact hkl
      · exfalso
        obtain ⟨hun, o, ho, hall⟩ := mem_ready.1 hi
        have hi2 : i < ops.size := (Array.getElem?_eq_some_iff.1 ho).1
        have h1 : ∀ x ∈ aft md ops i, listed.getD x false = true := fun x hx => by
          obtain ⟨o', e, ho', he, hb, rfl⟩ := aft_mem hx
          rw [ho] at ho'; cases ho'
          exact hall e he hb
        have h2 := sweep_in hcl (List.range n).reverse _ h1
        obtain ⟨i0, hi0⟩ := List.exists_mem_of_ne_nil _ hr
        obtain ⟨hr0, hl0⟩ := mem_readyN.1 hi0
        have h3 := (hcov i hi2).resolve_left hin i0 hl0
        have h4 := h2 i0 h3
        have h5 := (mem_ready.1 hr0).1
        have : i0 < listed.size := by omega
        simp [this] at h4 h5
        rw [h4] at h5; cases h5

/-- **THE REGION IN TWO PARTS.** -/
theorem wpIn_region_split {Q : Exit → Act → World → Prop} {a : Act} {w : World} {l r : List Oper} (hro : F.round = none) (hs : Region.noSelect (l ++ r).toArray = true)
    (hx : lexN .any (l ++ r).toArray l.length l.length 0 (Array.replicate (l ++ r).toArray.size false) = true) (hB : splitB .any (l ++ r).toArray l.length = true) (hC : C w.drew)
    (h : wpQuietIn F N P (l ++ r).toArray C (fun a' => ∀ w', C w' → wpAnyIn F N P .any (l ++ r).toArray Q r.length ((List.replicate l.length true ++ List.replicate r.length false).toArray) a' w') l a) : wpAnyIn F N P .any (l ++ r).toArray Q (l ++ r).toArray.size (Array.replicate (l ++ r).toArray.size false) a w.drew := by
  have h1 := wpAnyNIn_lex (C := C) (md := .any) (n := l.length) hs l 0 (Array.replicate (l ++ r).toArray.size false) a (fun j o hj => by simpa using List.getElem?_append_left (List.getElem?_eq_some_iff.1 hj).1 ▸ hj) (by omega) hx h
  have h2 := wpAnyIn_of_N (F := F) (N := N) (Q' := Q) (m := r.length) hro (by simp) hB (fun a' w' listed hw' hsz hlo hhi hq => by
    have e : listed = (List.replicate l.length true ++ List.replicate r.length false).toArray := by
      apply Array.ext
      · simpa using hsz
      · intro i hi1 hi2
        have hi3 : i < l.length + r.length := by simpa using hi2
        by_cases hil : i < l.length
        · have := hlo i hil
          simp [hi1] at this
          rw [this, List.getElem_toArray, List.getElem_append_left (by simpa using hil), List.getElem_replicate]
        · have := hhi i (by omega)
          simp [hi1] at this
          rw [this, List.getElem_toArray, List.getElem_append_right (by simpa using hil), List.getElem_replicate]
    rw [e]
    exact hq w' hw') l.length (Array.replicate (l ++ r).toArray.size false) a w.drew (by simp) (fun j _ => by simp [Array.getElem?_replicate]; split <;> rfl) (fun i k hi _ => by
      exfalso
      simp [Array.getElem?_replicate] at hi
      split at hi <;> simp at hi) hC h1
  have e2 : l.length + r.length = (l ++ r).toArray.size := by simp
  rw [e2] at h2
  exact h2
theorem wpAnyIn_of_list {Q : Exit → Act → World → Prop} : ∀ (r : List Oper) (k : Nat) (listed : Array Bool) (a : Act) (w : World), (∀ j o, r[j]? = some o → ops[k + j]? = some o) → tailB md ops r.length k listed = true → wpListIn F N P ops Q r a w → wpAnyIn F N P md ops Q r.length listed a w
  | [], _, _, _, _, _, hB, h => ⟨by simpa [tailB] using hB, h⟩
  | o :: r, k, listed, a, w, hl, hB, h => by
    have h0 : ops[k]? = some o := hl 0 o rfl
    simp only [List.length_cons, tailB, Bool.and_eq_true, decide_eq_true_eq] at hB
    obtain ⟨hr, hB'⟩ := hB
    have ih := fun a' w' => wpAnyIn_of_list (Q := Q) r (k + 1) (listed.setIfInBounds k true) a' w' (fun j o hj => by have := hl (j + 1) o (by simpa using hj); rwa [show k + 1 + j = k + (j + 1) by omega]) hB'
    refine ⟨fun e => (by rw [hr] at e; cases e), fun i hi => ?_⟩
    rw [hr] at hi
    obtain rfl : i = k := by simpa using hi
    unfold wpOpIn
    simp only [h0]
    simp only [wpListIn] at h
    split
    · rename_i hw
      rw [if_pos hw] at h
      exact Oper.wpIn_mono (fun a' w' h' => ih a' w' h') h
    · rename_i hw
      rw [if_neg hw] at h
      exact ⟨h.1, ih _ _ h.2⟩
theorem wpQuietIn_mono {Q Q' : Act → Prop} (hq : ∀ a, Q a → Q' a) : ∀ {l : List Oper} {a : Act}, wpQuietIn F N P ops C Q l a → wpQuietIn F N P ops C Q' l a
  | [], _, h => hq _ h
  | o :: l, a, h => by
    simp only [wpQuietIn] at h ⊢
    refine ⟨h.1, ?_⟩
    have h := h.2
    split
    · rename_i hw
      rw [if_pos hw] at h
      exact Oper.quietIn_mono (fun a' h' => wpQuietIn_mono hq h') h
    · rename_i hw
      rw [if_neg hw] at h
      exact wpQuietIn_mono hq h
/-- **THE REGION IN TWO PARTS**, in the body of a loop over an iterator. -/
theorem wpIn_region_part (l0 n B : Nat) {id : Nat} {Q : Exit → Act → World → Prop} {a : Act} {w : World} {ops : List Oper} (hm : P.follows .mixedOrders = true) (hB : partB n ops = true) (hd : (ops.all fun o => match o.op with | .defer _ => false | _ => true) = true)
    (h : wpQuietIn Fence.wide N P ops.toArray (fun w' => ∃ x, w' = over B w x) (fun a' => ∀ w', (∃ x, w' = over B w x) → wpListIn Fence.wide N P ops.toArray Q (ops.drop n) a' w') (ops.take n) a) : (Code.region id ops.toArray true).wpIn (Fence.wide.inRound l0) N P Q a w := by
  have hd' : ∀ o ∈ ops.toArray.toList, ∀ c, o.op ≠ .defer c := by
    intro o ho c hc
    have := List.all_eq_true.1 hd o (by simpa using ho)
    rw [hc] at this
    cases this
  simp only [partB, Bool.and_eq_true, decide_eq_true_eq] at hB
  obtain ⟨⟨⟨⟨hn, hs⟩, hx⟩, hsp⟩, ht⟩ := hB
  obtain ⟨l, r, rfl, hl⟩ : ∃ l r, ops = l ++ r ∧ l.length = n := ⟨ops.take n, ops.drop n, (List.take_append_drop n ops).symm, by rw [List.length_take]; omega⟩
  subst hl
  rw [List.take_left, List.drop_left] at h
  have e : (l ++ r).length - l.length = r.length := by simp
  rw [e] at ht
  refine wpIn_region_any hm (wpAnyIn_inRound l0 hd' _ _ _ _ (wpIn_region_split (F := Fence.wide) rfl hs (by simpa using hx) hsp (C := fun w' => ∃ x, w' = over B w x) ⟨w.drew, over_eq ((Below.refl _ _).drew)⟩ ?_))
  refine wpQuietIn_mono ?_ h
  intro a' h' w' hw'
  exact wpAnyIn_of_list r l.length _ a' w' (fun j o hj => by simpa using List.getElem?_append_right (l₁ := l) (l₂ := r) (i := l.length + j) (by omega) ▸ (by simpa using hj)) ht (h' w' hw')
end
end Go.Proofs.YtnndaipnfniciaaGreatDoor

namespace Go.Proofs.YtnndaipnfniciaaGreatDoor
open Go.RowKit
set_option maxRecDepth 100000

section
variable {P : Program} {ops : Array Oper} {md : Region.Mode} {D : World → Prop} {n : Nat}

/-- What an operation yields that leaves the world alone, or calls what makes memory of its own alone. -/
def uponR (P : Program) (W : World) (v : Value) : Result Next → Prop
  | .ok (.value u) w' => w' = W ∧ u = v
  | .ok .skip w' => w' = W ∧ v = undef
  | .ok (.enter f args) w' => w' = W ∧ Calls P f args W (fun e w'' => e = .returned v ∧ Below W.heap.size W w'')
  | _ => False
def YR (P : Program) (ops : Array Oper) (D : World → Prop) (o : Oper) (v : Value) (a : Act) : Prop :=
  (Region.wanted o (yielded ops a.tmps) = true ∧ ∀ W, D W → ∃ u, (o.dst = none ∨ u = v) ∧ uponR P W u ((execOp a.eval o).run P W)) ∨ (Region.wanted o (yielded ops a.tmps) = false ∧ v = undef)
theorem YR.of_same {o : Oper} {v : Value} {a a' : Act} (hy : YR P ops D o v a) (he : execOp a'.eval o = execOp a.eval o)
    (hw : Region.wanted o (yielded ops a'.tmps) = Region.wanted o (yielded ops a.tmps)) : YR P ops D o v a' := by
  unfold YR at *
  rw [he, hw]
  exact hy
def qR (P : Program) (ops : Array Oper) (D : World → Prop) (i : Nat) (K : Act → Prop) (a : Act) : Prop :=
  match ops[i]? with
  | none => K a
  | some o => ∃ v, YR P ops D o v a ∧ K (a.put o.dst v)
theorem qR_some {i : Nat} {o : Oper} {K : Act → Prop} {a : Act} (hi : ops[i]? = some o) : qR P ops D i K a ↔ ∃ v, YR P ops D o v a ∧ K (a.put o.dst v) := by unfold qR; rw [hi]
theorem qR_mono {i : Nat} {a : Act} {K K' : Act → Prop} (h : ∀ a, K a → K' a) (hh : qR P ops D i K a) : qR P ops D i K' a := by
  unfold qR at *
  split
  · rename_i ho; rw [ho] at hh; exact h _ hh
  · rename_i o ho; rw [ho] at hh; obtain ⟨v, h1, h2⟩ := hh; exact ⟨v, h1, h _ h2⟩
theorem qR_put {j : Nat} {oi oj : Oper} {v : Value} (hj : ops[j]? = some oj) (hap : oi.apart ops oj = true)
    (hsi : ∀ cs b, oi.op ≠ .select cs b) (hsj : ∀ cs b, oj.op ≠ .select cs b) {K : Act → Prop} {a : Act}
    (hy : YR P ops D oi v a) (h : qR P ops D j K (a.put oi.dst v)) :
    qR P ops D j (fun a' => YR P ops D oi v a' ∧ K (a'.put oi.dst v)) a := by
  obtain ⟨h1, h2, h3⟩ := Oper.apart_spec hap
  rw [qR_some hj] at h ⊢
  obtain ⟨u, hu, hk⟩ := h
  exact ⟨u, hu.of_same (execOp_put oj hsj a oi.dst v h1).symm (wanted_put oj a oi.dst v h1).symm, hy.of_same (execOp_put oi hsi a oj.dst u h3) (wanted_put oi a oj.dst u h3), by rw [← Act.put_comm a v u h2]; exact hk⟩
/-- Whatever order is picked among the first n. -/
def wpAnyR (P : Program) (md : Region.Mode) (ops : Array Oper) (D : World → Prop) (n : Nat) (Q : Act → Prop) : Nat → Array Bool → Act → Prop
  | 0, listed, a => readyN md ops n listed = [] ∧ Q a
  | fuel + 1, listed, a => (readyN md ops n listed = [] → Q a) ∧ ∀ i ∈ readyN md ops n listed, qR P ops D i (wpAnyR P md ops D n Q fuel (listed.setIfInBounds i true)) a
theorem wpAnyR_first {Q : Act → Prop} {i : Nat} {oi : Oper} {v : Value} (hin : i < n) (hi : ops[i]? = some oi) (hsel : ∀ (j : Nat) (o : Oper) cs b, ops[j]? = some o → o.op ≠ .select cs b) :
    ∀ (fuel : Nat) (listed : Array Bool) (a : Act),
      (∀ j oj, ops[j]? = some oj → j ≠ i → listed.getD j true = false → (∀ e ∈ oj.after, Region.binds md e = true → e.on ≠ i) → oi.apart ops oj = true) →
      i ∈ Region.ready md ops listed → YR P ops D oi v a →
      wpAnyR P md ops D n Q fuel (listed.setIfInBounds i true) (a.put oi.dst v) → wpAnyR P md ops D n Q (fuel + 1) listed a := by
  intro fuel
  induction fuel with
  | zero =>
    intro listed a _ hr hy H
    refine ⟨fun h => (by have := mem_readyN.2 ⟨hr, hin⟩; rw [h] at this; cases this), fun j hj => ?_⟩
    obtain ⟨hj1, hj2⟩ := mem_readyN.1 hj
    by_cases hji : j = i
    · subst hji; exact (qR_some hi).2 ⟨v, hy, H⟩
    · have := mem_readyN.2 ⟨ready_mono hj1 hji, hj2⟩
      rw [H.1] at this
      cases this
  | succ fuel ih =>
    intro listed a hfree hr hy H
    refine ⟨fun h => (by have := mem_readyN.2 ⟨hr, hin⟩; rw [h] at this; cases this), fun j hj => ?_⟩
    obtain ⟨hj1, hj2⟩ := mem_readyN.1 hj
    by_cases hji : j = i
    · subst hji; exact (qR_some hi).2 ⟨v, hy, H⟩
    · have h1 := H.2 j (mem_readyN.2 ⟨ready_mono hj1 hji, hj2⟩)
      obtain ⟨hjun, oj, hoj, hall⟩ := mem_ready.1 hj1
      have hnot : ∀ e ∈ oj.after, Region.binds md e = true → e.on ≠ i := fun e he hb heq => by
        have h1 := hall e he hb
        have h0 := (mem_ready.1 hr).1
        rw [heq] at h1
        rcases Nat.lt_or_ge i listed.size with h' | h'
        · simp [h'] at h0 h1; rw [h0] at h1; cases h1
        · simp [Array.getElem?_eq_none h'] at h1
      have h2 := qR_put hoj (hfree j oj hoj hji hjun hnot) (fun cs b => hsel i oi cs b hi) (fun cs b => hsel j oj cs b hoj) hy h1
      have hfree' : ∀ k ok, ops[k]? = some ok → k ≠ i → (listed.setIfInBounds j true).getD k true = false →
          (∀ e ∈ ok.after, Region.binds md e = true → e.on ≠ i) → oi.apart ops ok = true := fun k ok hk hki hun hno => by
        refine hfree k ok hk hki ?_ hno
        by_cases hjk : j = k
        · subst hjk; exact hjun
        · rw [getD_set_ne true hjk] at hun; exact hun
      refine qR_mono (fun a' h3 => ih (listed.setIfInBounds j true) a' hfree' (ready_mono hr (Ne.symm hji)) h3.1 ?_) h2
      rw [Array.setIfInBounds_comm _ _ hji]
      exact h3.2
/-- The text's order. -/
def wpR (P : Program) (ops : Array Oper) (D : World → Prop) (Q : Act → Prop) : List Oper → Act → Prop
  | [], a => Q a
  | o :: l, a => ∃ v, YR P ops D o v a ∧ wpR P ops D Q l (a.put o.dst v)
theorem wpAnyR_lex {Q : Act → Prop} (hs : Region.noSelect ops = true) : ∀ (l : List Oper) (k : Nat) (listed : Array Bool) (a : Act), (∀ j o, l[j]? = some o → ops[k + j]? = some o) → k + l.length = n →
    lexN md ops n l.length k listed = true → wpR P ops D Q l a → wpAnyR P md ops D n Q l.length listed a
  | [], _, _, _, _, _, hB, h => ⟨by simpa [lexN] using hB, h⟩
  | o :: l, k, listed, a, hl, hk, hB, h => by
    have h0 : ops[k]? = some o := hl 0 o rfl
    simp only [List.length_cons, lexN, Bool.and_eq_true] at hB hk
    obtain ⟨⟨hr, hf⟩, hB'⟩ := hB
    obtain ⟨v, hy, hK⟩ := h
    exact wpAnyR_first (by omega) h0 (Region.noSelect_spec hs) l.length listed a (Region.free_spec h0 hf) (by simpa using hr) hy
      (wpAnyR_lex hs l (k + 1) _ _ (fun j o hj => by have := hl (j + 1) o (by simpa using hj); rwa [show k + 1 + j = k + (j + 1) by omega]) (by omega) hB' hK)

/-! ### From the quiet walk, in each class -/
def dstsB (sz : Nat) : List Oper → Bool
  | [] => true
  | o :: l => (match o.dst with
    | none => true
    | some d => decide (d < sz) && l.all fun o' => o'.dst != some d) && dstsB sz l
theorem put_size (a : Act) (d : Option Tmp) (v : Value) : (a.put d v).tmps.size = a.tmps.size := by cases d <;> simp [Act.put]
theorem put_ne (a : Act) {x : Option Tmp} {d : Tmp} (v : Value) (h : x ≠ some d) : (a.put x v).tmps[d]? = a.tmps[d]? := by
  cases x with
  | none => rfl
  | some e =>
    have : e ≠ d := fun q => h (by rw [q])
    simp [Act.put, this]
theorem put_eq (a : Act) {d : Tmp} (v : Value) (h : d < a.tmps.size) : (a.put (some d) v).tmps[d]? = some v := by simp [Act.put, h]
theorem slot_keep {C : World → Prop} {af : Act} : ∀ (l : List Oper) (a : Act), wpQuiet P ops C (fun a' => a' = af) l a → ∀ d, (∀ o ∈ l, o.dst ≠ some d) → af.tmps[d]? = a.tmps[d]?
  | [], a, h, d, _ => by simp only [wpQuiet] at h; rw [h]
  | o :: l, a, h, d, hd => by
    simp only [wpQuiet] at h
    have hl : ∀ o' ∈ l, o'.dst ≠ some d := fun o' h' => hd o' (by simp [h'])
    split at h
    · obtain ⟨v, _, hr⟩ := h
      rw [slot_keep l _ hr d hl, put_ne a v (hd o (by simp))]
    · rw [slot_keep l _ h d hl, put_ne a undef (hd o (by simp))]
theorem wpR_of {af : Act} (hD0 : ∃ W, D W) : ∀ (l : List Oper) (a : Act), dstsB a.tmps.size l = true →
    (∀ W0, D W0 → wpQuiet P ops (fun W => ∃ x, W = over W0.heap.size W0 x) (fun a' => a' = af) l a) → wpR P ops D (fun a' => a' = af) l a
  | [], a, _, H => by obtain ⟨W, hW⟩ := hD0; exact H W hW
  | o :: l, a, hB, H => by
    simp only [dstsB, Bool.and_eq_true] at hB
    obtain ⟨hB1, hB2⟩ := hB
    have hd : ∀ d, o.dst = some d → d < a.tmps.size ∧ ∀ o' ∈ l, o'.dst ≠ some d := fun d h => by
      rw [h] at hB1
      simp only [Bool.and_eq_true, decide_eq_true_eq, List.all_eq_true, bne_iff_ne] at hB1
      exact hB1
    have key : ∀ {C C' : World → Prop} {u v : Value}, wpQuiet P ops C (fun a' => a' = af) l (a.put o.dst u) → wpQuiet P ops C' (fun a' => a' = af) l (a.put o.dst v) → o.dst = none ∨ u = v := by
      intro C C' u v h1 h2
      cases ho : o.dst with
      | none => exact .inl rfl
      | some d =>
        obtain ⟨hs, hn⟩ := hd d ho
        have e1 := slot_keep l _ h1 d hn
        have e2 := slot_keep l _ h2 d hn
        rw [ho, put_eq a _ hs] at e1 e2
        rw [e1] at e2
        exact .inr (Option.some.inj e2)
    have same : ∀ {u v : Value}, o.dst = none ∨ u = v → a.put o.dst u = a.put o.dst v := by
      intro u v h
      rcases h with h | h
      · rw [h]; rfl
      · rw [h]
    obtain ⟨W1, hW1⟩ := hD0
    by_cases hw : Region.wanted o (yielded ops a.tmps) = true
    · have H' : ∀ W0, D W0 → ∃ v, (∀ w, (∃ x, w = over W0.heap.size W0 x) → o.quietAt P a (fun W => ∃ x, W = over W0.heap.size W0 x) w v) ∧ wpQuiet P ops (fun W => ∃ x, W = over W0.heap.size W0 x) (fun a' => a' = af) l (a.put o.dst v) := fun W0 h0 => by
        have := H W0 h0
        simp only [wpQuiet, hw, if_true] at this
        exact this
      obtain ⟨v, _, hr⟩ := H' W1 hW1
      refine ⟨v, .inl ⟨hw, fun W hW => ?_⟩, wpR_of ⟨W1, hW1⟩ l _ (by rw [put_size]; exact hB2) fun W0 h0 => ?_⟩
      · obtain ⟨u, hu, hr'⟩ := H' W hW
        refine ⟨u, key hr' hr, ?_⟩
        have h3 := hu W ⟨W, over_eq (Below.refl _ _)⟩
        unfold Oper.quietAt at h3
        generalize (execOp a.eval o).run P W = r at *
        cases r with
        | ok x w' =>
          cases x <;> simp only [Oper.quietUpon] at h3 <;> simp only [uponR]
          case value => exact h3
          case skip => exact h3
          case enter f args => exact ⟨h3.1, h3.2.mono fun e w'' ⟨he, x, hx⟩ => ⟨he, by rw [hx]; exact over_below _ _ _⟩⟩
        | halt x w' => simp only [Oper.quietUpon] at h3
      · obtain ⟨u, _, hr'⟩ := H' W0 h0
        rw [← same (key hr' hr)]
        exact hr'
    · have hw' : Region.wanted o (yielded ops a.tmps) = false := by simpa using hw
      refine ⟨undef, .inr ⟨hw', rfl⟩, wpR_of ⟨W1, hW1⟩ l _ (by rw [put_size]; exact hB2) fun W0 h0 => ?_⟩
      have := H W0 h0
      simp only [wpQuiet, hw'] at this
      exact this

/-! ### Slots of what was laid -/
def puts (G : List (Tmp × Value)) (a : Act) : Act := G.foldl (fun A p => A.put (some p.1) p.2) a
theorem puts_put : ∀ (G : List (Tmp × Value)) (a : Act) (x : Option Tmp) (v : Value), (∀ p ∈ G, x ≠ some p.1) → puts G (a.put x v) = (puts G a).put x v
  | [], _, _, _, _ => rfl
  | p :: G, a, x, v, h => by
    show puts G ((a.put x v).put (some p.1) p.2) = (puts G (a.put (some p.1) p.2)).put x v
    rw [Act.put_comm a v p.2 (fun d hd => by rw [← hd]; exact fun q => h p (by simp) q.symm)]
    exact puts_put G _ x v fun q hq => h q (by simp [hq])
theorem exec_puts (o : Oper) (hs : ∀ cs b, o.op ≠ .select cs b) : ∀ (G : List (Tmp × Value)) (a : Act), (∀ p ∈ G, p.1 ∉ o.looksAt ops) → execOp (puts G a).eval o = execOp a.eval o ∧ Region.wanted o (yielded ops (puts G a).tmps) = Region.wanted o (yielded ops a.tmps)
  | [], _, _ => ⟨rfl, rfl⟩
  | p :: G, a, h => by
    have h1 := exec_puts o hs G (a.put (some p.1) p.2) fun q hq => h q (by simp [hq])
    have hp : ∀ d, some p.1 = some d → d ∉ o.looksAt ops := fun d hd => by cases hd; exact h p (by simp)
    exact ⟨h1.1.trans (execOp_put o hs a (some p.1) p.2 hp), h1.2.trans (wanted_put o a (some p.1) p.2 hp)⟩
theorem puts_snoc (G : List (Tmp × Value)) (p : Tmp × Value) (a : Act) : puts (G ++ [p]) a = (puts G a).put (some p.1) p.2 := by simp [puts]

theorem qR_wp {i : Nat} {oi : Oper} {K : Act → Prop} {Q' : Exit → Act → World → Prop} {W : World} {a : Act} {G : List (Tmp × Value)} (hi : ops[i]? = some oi) (hsi : ∀ cs b, oi.op ≠ .select cs b)
    (hG : ∀ p ∈ G, p.1 ∉ oi.looksAt ops ∧ oi.dst ≠ some p.1) (hD : D W) (hh : qR P ops D i K a) :
    wpOp P ops Q' i (fun A' W' => ∃ a', A' = puts G a' ∧ K a' ∧ Below W.heap.size W W') (puts G a) W := by
  obtain ⟨v, hy, hk⟩ := (qR_some hi).1 hh
  obtain ⟨e1, e2⟩ := exec_puts oi hsi G a fun p hp => (hG p hp).1
  have hy' := hy.of_same e1 e2
  have hput : (puts G a).put oi.dst v = puts G (a.put oi.dst v) := (puts_put G a oi.dst v fun p hp => (hG p hp).2).symm
  have same : ∀ {u : Value}, oi.dst = none ∨ u = v → (puts G a).put oi.dst u = puts G (a.put oi.dst v) := by
    intro u h
    rcases h with h | h
    · rw [← hput, h]; rfl
    · rw [← hput, h]
  unfold wpOp
  simp only [hi]
  rcases hy' with ⟨hw, hv⟩ | ⟨hw, rfl⟩
  · rw [if_pos hw]
    left
    obtain ⟨u, hu, hr⟩ := hv W hD
    unfold Oper.wp
    generalize (execOp (puts G a).eval oi).run P W = r at *
    cases r with
    | ok x w' =>
      cases x <;> simp only [uponR] at hr <;> simp only [Oper.upon]
      case value => obtain ⟨rfl, rfl⟩ := hr; exact ⟨_, same hu, hk, Below.refl _ _⟩
      case skip => obtain ⟨rfl, rfl⟩ := hr; exact ⟨_, same hu, hk, Below.refl _ _⟩
      case enter f args =>
        obtain ⟨rfl, hc⟩ := hr
        exact hc.mono fun e w'' ⟨he, hb⟩ => by subst he; exact ⟨_, same hu, hk, hb⟩
    | halt x w' => simp only [uponR] at hr
  · rw [if_neg (by rw [hw]; exact Bool.false_ne_true)]
    exact ⟨_, hput, hk, Below.refl _ _⟩
/-- An allocation. -/
structure IsAlloc (P : Program) (o : Oper) (d : Tmp) (t : TypeId) (cs : Array Value) : Prop where
  gd : o.guard = none
  dst : o.dst = some d
  run : ∀ (a : Act) (W : World), (execOp a.eval o).run P W = .ok (.value (.pointer (some ⟨W.heap.size, 0, none⟩))) (W.alloc (.cells cs t))
theorem alloc_wp {j : Nat} {o : Oper} {d : Tmp} {t : TypeId} {cs : Array Value} {K' : Act → World → Prop} {Q' : Exit → Act → World → Prop} {W : World} {A : Act} (hj : ops[j]? = some o) (ha : IsAlloc P o d t cs)
    (h : K' (A.put (some d) (.pointer (some ⟨W.heap.size, 0, none⟩))) (W.alloc (.cells cs t))) : wpOp P ops Q' j K' A W := by
  unfold wpOp
  simp only [hj]
  rw [if_pos (by simp [Region.wanted, ha.gd])]
  left
  unfold Oper.wp
  rw [ha.run]
  simp only [Oper.upon, ha.dst]
  exact h
theorem readyN_set {listed : Array Bool} {j : Nat} (hd : ∀ i, i < n → ∀ k ∈ aft md ops i, k < n) (hj : n ≤ j) : readyN md ops n (listed.setIfInBounds j true) = readyN md ops n listed := by
  unfold readyN Region.ready
  rw [List.filter_filter, List.filter_filter]
  refine List.filter_congr fun i _ => ?_
  by_cases hi : i < n
  · have h1 : (listed.setIfInBounds j true).getD i true = listed.getD i true := getD_set_ne true (by omega)
    rw [h1]
    cases ho : ops[i]? with
    | none => rfl
    | some o =>
      have : (o.after.all fun e => !Region.binds md e || (listed.setIfInBounds j true).getD e.on false) = (o.after.all fun e => !Region.binds md e || listed.getD e.on false) := by
        rw [Bool.eq_iff_iff]
        simp only [Array.all_eq_true', Bool.or_eq_true, Bool.not_eq_true']
        refine ⟨fun h e he => ?_, fun h e he => ?_⟩
        · rcases h e he with q | q
          · exact .inl q
          · cases hb : Region.binds md e
            · exact .inl rfl
            · rw [getD_set_ne false (by have := hd i hi _ (mem_aft ho he hb); omega)] at q; exact .inr q
        · rcases h e he with q | q
          · exact .inl q
          · cases hb : Region.binds md e
            · exact .inl rfl
            · rw [getD_set_ne false (by have := hd i hi _ (mem_aft ho he hb); omega)]; exact .inr q
      simp only [Option.map_some, this]
  · simp [hi]
theorem wpAnyR_set {Q : Act → Prop} {j : Nat} (hd : ∀ i, i < n → ∀ k ∈ aft md ops i, k < n) (hj : n ≤ j) : ∀ (f : Nat) (listed : Array Bool) (a : Act), wpAnyR P md ops D n Q f listed a → wpAnyR P md ops D n Q f (listed.setIfInBounds j true) a
  | 0, listed, a, h => ⟨by rw [readyN_set hd hj]; exact h.1, h.2⟩
  | f + 1, listed, a, h => by
    refine ⟨fun e => h.1 (by rwa [readyN_set hd hj] at e), fun i hi => ?_⟩
    rw [readyN_set hd hj] at hi
    refine qR_mono (fun a' h' => ?_) (h.2 i hi)
    rw [Array.setIfInBounds_comm _ _ (by have := (mem_readyN.1 hi).2; omega)]
    exact wpAnyR_set hd hj f _ a' h'
theorem closed_set {listed : Array Bool} {i : Nat} (hsz : listed.size = ops.size) (hcl : Closed md ops listed) (hi : i ∈ Region.ready md ops listed) : Closed md ops (listed.setIfInBounds i true) := by
  intro x k hx hk
  obtain ⟨hun, o', ho', hall⟩ := mem_ready.1 hi
  have hx' : x = i ∨ listed.getD x false = true := by
    by_cases e : x = i
    · exact .inl e
    · rw [getD_set_ne false (fun q => e q.symm)] at hx; exact .inr hx
  have hkl : listed.getD k false = true := by
    rcases hx' with rfl | hx'
    · obtain ⟨o, e, ho, he, hb, rfl⟩ := aft_mem hk
      rw [ho] at ho'; cases ho'
      exact hall e he hb
    · exact hcl x k hx' hk
  by_cases e : i = k
  · subst e
    have h2 := (Array.getElem?_eq_some_iff.1 ho').1
    have : i < listed.size := by omega
    simp [this]
  · rw [getD_set_ne false e]; exact hkl
theorem unlisted_of_ready {listed : Array Bool} {i : Nat} (hsz : listed.size = ops.size) (hi : i ∈ Region.ready md ops listed) : listed.getD i false = false := by
  obtain ⟨hun, o', ho', _⟩ := mem_ready.1 hi
  have h2 := (Array.getElem?_eq_some_iff.1 ho').1
  have : i < listed.size := by omega
  simp [this] at hun ⊢
  exact hun
def toG (dd : Nat → Tmp) (L : List (Nat × Nat)) : List (Tmp × Value) := L.map fun x => (dd x.1, .pointer (some ⟨x.2, 0, none⟩))
structure Laid (n m : Nat) (tt : Nat → TypeId) (cc : Nat → Array Value) (B : Nat) (L : List (Nat × Nat)) (W : World) : Prop where
  each : ∀ x ∈ L, n ≤ x.1 ∧ x.1 < m ∧ B ≤ x.2 ∧ Blk W x.2 (tt x.1) (cc x.1)
  pair : L.Pairwise fun x y => x.1 ≠ y.1 ∧ x.2 ≠ y.2
theorem Laid.on {n m : Nat} {tt : Nat → TypeId} {cc : Nat → Array Value} {B : Nat} {L : List (Nat × Nat)} {W W' : World} (h : Laid n m tt cc B L W) (hb : Below W.heap.size W W') : Laid n m tt cc B L W' :=
  ⟨fun x hx => by obtain ⟨h1, h2, h3, h4⟩ := h.each x hx; exact ⟨h1, h2, h3, h4.below hb h4.lt⟩, h.pair⟩
theorem wpAny_of_R {Q : Act → Prop} {Q' : Exit → Act → World → Prop} {m mr : Nat} {w0 : World} {dd : Nat → Tmp} {tt : Nat → TypeId} {cc : Nat → Array Value} (hnm : n ≤ m) (hm : m ≤ ops.size) (hs : Region.noSelect ops = true) (hB : splitB md ops m = true)
    (hal : ∀ j, n ≤ j → j < m → ∃ o, ops[j]? = some o ∧ IsAlloc P o (dd j) (tt j) (cc j) ∧ ∀ i oi, i < n → ops[i]? = some oi → dd j ∉ oi.looksAt ops ∧ oi.dst ≠ some (dd j))
    (hQ : ∀ a W L listed, Below w0.heap.size w0 W → listed.size = ops.size → (∀ i, i < m → listed.getD i false = true) → (∀ j, m ≤ j → listed.getD j false = false) → Laid n m tt cc w0.heap.size L W → (∀ j, n ≤ j → j < m → j ∈ L.map Prod.fst) → Q a → wpAny P md ops Q' mr listed (puts (toG dd L) a) W) :
    ∀ (t f : Nat) (rem : List Nat) (listed : Array Bool) (a : Act) (L : List (Nat × Nat)) (W : World), t = f + rem.length → rem.Nodup → (∀ j ∈ rem, n ≤ j ∧ j < m ∧ listed.getD j false = false) →
      (∀ j, n ≤ j → j < m → j ∈ rem ∨ j ∈ L.map Prod.fst) → (∀ x ∈ L, listed.getD x.1 false = true) → listed.size = ops.size → (∀ j, m ≤ j → listed.getD j false = false) → Closed md ops listed → Below w0.heap.size w0 W →
      Laid n m tt cc w0.heap.size L W → wpAnyR P md ops (fun W => Below w0.heap.size w0 W) n Q f listed a → wpAny P md ops Q' (t + mr) listed (puts (toG dd L) a) W := by
  have hB' := hB
  simp only [splitB, Bool.and_eq_true, List.all_eq_true, List.mem_range, decide_eq_true_eq, Bool.or_eq_true, List.contains_iff_mem] at hB
  obtain ⟨hd, hcov⟩ := hB
  have hdn : ∀ i, i < n → ∀ k ∈ aft md ops i, k < n := fun i hi k hk => Nat.lt_trans (hd i (by omega) k hk) hi
  have hsel := Region.noSelect_spec hs
  intro t
  induction t with
  | zero =>
    intro f rem listed a L W ht hnd hrem hco hL hsz hlo hcl hD hG h
    have hf : f = 0 := by omega
    have hr0 : rem = [] := List.eq_nil_of_length_eq_zero (by omega)
    subst hf; subst hr0
    have hr : readyN md ops m listed = [] := by
      refine List.eq_nil_iff_forall_not_mem.2 fun i hi => ?_
      obtain ⟨h1, h2⟩ := mem_readyN.1 hi
      by_cases hin : i < n
      · have := mem_readyN.2 ⟨h1, hin⟩
        rw [h.1] at this; cases this
      · rcases hco i (by omega) h2 with q | q
        · cases q
        · obtain ⟨x, hx, rfl⟩ := List.mem_map.1 q
          have q1 := hL x hx
          rw [unlisted_of_ready hsz h1] at q1
          cases q1
    have := hQ a W L listed hD hsz (all_listed hsz hm hd hr) hlo hG (fun j h1 h2 => (hco j h1 h2).resolve_left (by simp)) h.2
    rwa [Nat.zero_add]
  | succ t ih =>
    intro f rem listed a L W ht hnd hrem hco hL hsz hlo hcl hD hG h
    by_cases hr : readyN md ops m listed = []
    · have hall := all_listed hsz hm hd hr
      have hrn : readyN md ops n listed = [] := List.eq_nil_iff_forall_not_mem.2 fun i hi => by
        obtain ⟨h1, h2⟩ := mem_readyN.1 hi
        have := mem_readyN.2 ⟨h1, Nat.lt_of_lt_of_le h2 hnm⟩
        rw [hr] at this; cases this
      have hq : Q a := by
        cases f with
        | zero => exact h.2
        | succ f => exact h.1 hrn
      have := hQ a W L listed hD hsz hall hlo hG (fun j h1 h2 => (hco j h1 h2).resolve_left fun q => by
        have := (hrem j q).2.2
        rw [hall j h2] at this; cases this) hq
      exact wpAny_far mr listed _ W this (t + 1)
    · rw [show t + 1 + mr = t + mr + 1 by omega]
      refine ⟨fun h0 => absurd (by unfold readyN; rw [h0]; rfl) hr, fun i hi => ?_⟩
      have hui := unlisted_of_ready hsz hi
      have hcl' := closed_set hsz hcl hi
      have hi2 : i < ops.size := by obtain ⟨_, o, ho, _⟩ := mem_ready.1 hi; exact (Array.getElem?_eq_some_iff.1 ho).1
      have hset : ∀ j, j ≠ i → (listed.setIfInBounds i true).getD j false = listed.getD j false := fun j hj => getD_set_ne false (fun q => hj q.symm)
      have hseti : (listed.setIfInBounds i true).getD i false = true := by have : i < listed.size := by omega
                                                                           simp [this]
      by_cases hin : i < n
      · have hi3 := mem_readyN.2 ⟨hi, hin⟩
        obtain ⟨f', rfl⟩ : ∃ f', f = f' + 1 := by
          cases f with
          | zero => rw [h.1] at hi3; cases hi3
          | succ f => exact ⟨f, rfl⟩
        have h1 := h.2 i hi3
        have ho : ops[i]? = some ops[i] := Array.getElem?_eq_getElem hi2
        refine wpOp_mono (fun A' W' hA => ?_) (qR_wp (G := toG dd L) ho (fun cs b => hsel i _ cs b ho) (fun p hp => ?_) hD h1)
        · obtain ⟨a', rfl, hk, hb⟩ := hA
          refine ih f' rem _ a' L W' (by omega) hnd (fun j hj => ?_) hco (fun x hx => ?_) (by simpa using hsz) (fun j hj => ?_) hcl' (below_step hD hb hD.size) (hG.on hb) hk
          · have := hrem j hj; exact ⟨this.1, this.2.1, by rw [hset j (by omega)]; exact this.2.2⟩
          · have := hG.each x hx; rw [hset _ (by omega)]; exact hL x hx
          · rw [hset j (by omega)]; exact hlo j hj
        · obtain ⟨x, hx, rfl⟩ := List.mem_map.1 hp
          have hx1 := hG.each x hx
          obtain ⟨o, _, _, hap⟩ := hal x.1 hx1.1 hx1.2.1
          exact hap i _ hin ho
      · by_cases him : i < m
        · obtain ⟨o, ho, ha, _⟩ := hal i (by omega) him
          have hir : i ∈ rem := (hco i (by omega) him).resolve_right fun q => by
            obtain ⟨x, hx, rfl⟩ := List.mem_map.1 q
            have q1 := hL x hx
            rw [hui] at q1; cases q1
          refine alloc_wp ho ha ?_
          have e : (puts (toG dd L) a).put (some (dd i)) (.pointer (some ⟨W.heap.size, 0, none⟩)) = puts (toG dd (L ++ [(i, W.heap.size)])) a := by
            rw [show toG dd (L ++ [(i, W.heap.size)]) = toG dd L ++ [(dd i, .pointer (some ⟨W.heap.size, 0, none⟩))] by simp [toG], puts_snoc]
          rw [e]
          have hbA : Below W.heap.size W (W.alloc (.cells (cc i) (tt i))) := (Below.refl _ _).alloc (Nat.le_refl _) _
          have hlen := List.length_erase_of_mem hir
          have hpos : 0 < rem.length := List.length_pos_of_mem hir
          refine ih f (rem.erase i) _ a _ _ (by omega) (hnd.erase i) (fun j hj => ?_) (fun j h1 h2 => ?_) (fun x hx => ?_) (by simpa using hsz) (fun j hj => ?_) hcl' (below_step hD hbA hD.size) ?_ (wpAnyR_set hdn (by omega) f _ a h)
          · obtain ⟨q1, q2⟩ := (List.Nodup.mem_erase_iff hnd).1 hj
            have := hrem j q2; exact ⟨this.1, this.2.1, by rw [hset j q1]; exact this.2.2⟩
          · by_cases hji : j = i
            · right; subst hji; simp
            · rcases hco j h1 h2 with q | q
              · exact .inl ((List.Nodup.mem_erase_iff hnd).2 ⟨hji, q⟩)
              · right; rw [List.map_append]; exact List.mem_append_left _ q
          · rcases List.mem_append.1 hx with hx | hx
            · by_cases e2 : x.1 = i
              · rw [e2]; exact hseti
              · rw [hset _ e2]; exact hL x hx
            · simp at hx; subst hx; exact hseti
          · rw [hset j (by omega)]; exact hlo j hj
          · refine ⟨fun x hx => ?_, List.pairwise_append.2 ⟨hG.pair, by simp, fun x hx y hy => ?_⟩⟩
            · rcases List.mem_append.1 hx with hx | hx
              · exact (hG.on hbA).each x hx
              · simp at hx; subst hx; exact ⟨by simp only; omega, him, hD.size, Blk.new _ _ _⟩
            · simp at hy; subst hy
              have q1 := hG.each x hx
              have q2 := hL x hx
              have q3 := q1.2.2.2.lt
              exact ⟨fun q => (by simp only at q; rw [q, hui] at q2; cases q2), by simp only; omega⟩
        · exfalso
          obtain ⟨hun, o, ho, hall⟩ := mem_ready.1 hi
          have h1 : ∀ x ∈ aft md ops i, listed.getD x false = true := fun x hx => by
            obtain ⟨o', e, ho', he, hb, rfl⟩ := aft_mem hx
            rw [ho] at ho'; cases ho'
            exact hall e he hb
          have h2 := sweep_in hcl (List.range m).reverse _ h1
          obtain ⟨i0, hi0⟩ := List.exists_mem_of_ne_nil _ hr
          obtain ⟨hr0, hl0⟩ := mem_readyN.1 hi0
          have h4 := h2 i0 ((hcov i hi2).resolve_left him i0 hl0)
          rw [unlisted_of_ready hsz hr0] at h4
          cases h4
end

def partAB (n k : Nat) (ops : List Oper) : Bool :=
  decide (n + k ≤ ops.length) && Region.noSelect ops.toArray && lexN .any ops.toArray n n 0 (Array.replicate ops.length false) && splitB .any ops.toArray (n + k) &&
    tailB .any ops.toArray (ops.length - (n + k)) (n + k) ((List.replicate (n + k) true ++ List.replicate (ops.length - (n + k)) false).toArray)
def apartB (n : Nat) (ops : List Oper) (d : Tmp) : Bool := (ops.take n).all fun oi => !(oi.looksAt ops.toArray).contains d && oi.dst != some d
theorem apart_spec' {n : Nat} {ops : List Oper} {d : Tmp} (h : apartB n ops d = true) {i : Nat} {oi : Oper} (hi : i < n) (ho : ops.toArray[i]? = some oi) : d ∉ oi.looksAt ops.toArray ∧ oi.dst ≠ some d := by
  unfold apartB at h
  rw [List.all_eq_true] at h
  have hm : oi ∈ ops.take n := by
    have : (ops.take n)[i]? = some oi := by rw [List.getElem?_take, if_pos hi]; simpa using ho
    exact List.mem_of_getElem? this
  have := h oi hm
  simpa using this
section
variable {P : Program} {id : Nat} {Q : Exit → Act → World → Prop} {a : Act} {w : World} {ops : List Oper} {n k : Nat}
theorem wp_region_allocs {dd : Nat → Tmp} {tt : Nat → TypeId} {cc : Nat → Array Value} (hm : P.follows .mixedOrders = true) (hB : partAB n k ops = true) (hd : dstsB a.tmps.size (ops.take n) = true)
    (hal : ∀ j, n ≤ j → j < n + k → ∃ o, ops.toArray[j]? = some o ∧ IsAlloc P o (dd j) (tt j) (cc j) ∧ apartB n ops (dd j) = true) {af : Act}
    (h1 : ∀ W0, Below w.heap.size w W0 → wpQuiet P ops.toArray (fun W => ∃ x, W = over W0.heap.size W0 x) (fun a' => a' = af) (ops.take n) a)
    (h2 : ∀ L W, Below w.heap.size w W → Laid n (n + k) tt cc w.heap.size L W → (∀ j, n ≤ j → j < n + k → j ∈ L.map Prod.fst) → wpList P ops.toArray Q (ops.drop (n + k)) (puts (toG dd L) af) W) : (Code.region id ops.toArray true).wp P Q a w := by
  simp only [partAB, Bool.and_eq_true, decide_eq_true_eq] at hB
  obtain ⟨⟨⟨⟨hn, hs⟩, hx⟩, hsp⟩, ht⟩ := hB
  have htl : (ops.take n).length = n := by rw [List.length_take]; omega
  have hR := wpR_of (P := P) (ops := ops.toArray) (D := fun W => Below w.heap.size w W) ⟨w, Below.refl _ _⟩ (ops.take n) a hd h1
  have hN := wpAnyR_lex (md := .any) (n := n) hs (ops.take n) 0 (Array.replicate ops.length false) a (fun j o hj => by
    rw [List.getElem?_take] at hj
    split at hj
    · simpa using hj
    · cases hj) (by omega) (by rw [htl]; exact hx) hR
  rw [htl] at hN
  refine wp_region_any hm ?_
  have hfalse : ∀ i, (Array.replicate ops.length false).getD i false = false := fun i => by simp [Array.getElem?_replicate]; split <;> rfl
  have := wpAny_of_R (Q' := Q) (m := n + k) (mr := ops.length - (n + k)) (w0 := w) (dd := dd) (tt := tt) (cc := cc) (Nat.le_add_right n k) (by simpa using hn) hs hsp (fun j hj1 hj2 => by
      obtain ⟨o, ho, ha, hp⟩ := hal j hj1 hj2
      exact ⟨o, ho, ha, fun i oi hi hoi => apart_spec' hp hi hoi⟩)
    (fun a' W L listed hD hsz hlo hhi hG hco hq => by
      have e : listed = (List.replicate (n + k) true ++ List.replicate (ops.length - (n + k)) false).toArray := by
        apply Array.ext
        · simp at hsz ⊢; omega
        · intro i hi1 hi2
          have hi3 : i < n + k + (ops.length - (n + k)) := by simpa using hi2
          by_cases hil : i < n + k
          · have := hlo i hil
            simp [hi1] at this
            rw [this, List.getElem_toArray, List.getElem_append_left (by simpa using hil), List.getElem_replicate]
          · have := hhi i (by omega)
            simp [hi1] at this
            rw [this, List.getElem_toArray, List.getElem_append_right (by simp; omega), List.getElem_replicate]
      rw [e]
      have hdl : (ops.drop (n + k)).length = ops.length - (n + k) := by simp
      rw [← hdl]
      rw [← hdl] at ht
      subst hq
      exact wpAny_of_list (ops.drop (n + k)) (n + k) _ _ W (fun j o hj => by rw [List.getElem?_drop] at hj; simpa using hj) ht (h2 L W hD hG hco))
    (n + k) n (List.range' n k) (Array.replicate ops.length false) a [] w.drew (by simp) (List.nodup_range' (step := 1)) (fun j hj => by have := List.mem_range'_1.1 hj; exact ⟨this.1, this.2, hfalse j⟩)
    (fun j h1 h2 => .inl (List.mem_range'_1.2 ⟨h1, h2⟩)) (by simp) (by simp) (fun j _ => hfalse j) (fun i k hi _ => by rw [hfalse] at hi; cases hi) ((Below.refl _ _).drew) ⟨by simp, by simp⟩ hN
  have e2 : n + k + (ops.length - (n + k)) = ops.toArray.size := by simp; omega
  rw [e2] at this
  simpa [puts, toG] using this
/-- One allocation behind the quiet operations. -/
theorem wp_region_alloc1 (n : Nat) {o1 : Oper} {d1 : Tmp} {t1 : TypeId} {cs1 : Array Value} {af : Act} (hm : P.follows .mixedOrders = true) (hB : partAB n 1 ops = true) (hd : dstsB a.tmps.size (ops.take n) = true)
    (ho1 : ops.toArray[n]? = some o1) (ha1 : IsAlloc P o1 d1 t1 cs1) (hp1 : apartB n ops d1 = true)
    (h1 : ∀ W0, Below w.heap.size w W0 → wpQuiet P ops.toArray (fun W => ∃ x, W = over W0.heap.size W0 x) (fun a' => a' = af) (ops.take n) a)
    (h2 : ∀ g1 W, w.heap.size ≤ g1 → Below w.heap.size w W → Blk W g1 t1 cs1 → wpList P ops.toArray Q (ops.drop (n + 1)) (af.put (some d1) (.pointer (some ⟨g1, 0, none⟩))) W) : (Code.region id ops.toArray true).wp P Q a w := by
  refine wp_region_allocs (k := 1) (dd := fun _ => d1) (tt := fun _ => t1) (cc := fun _ => cs1) hm hB hd (fun j hj1 hj2 => by
    obtain rfl : j = n := by omega
    exact ⟨o1, ho1, ha1, hp1⟩) h1 (fun L W hD hG hco => ?_)
  obtain ⟨⟨j, g⟩, hx, hj⟩ := List.mem_map.1 (hco n (Nat.le_refl _) (by omega))
  simp only at hj; subst hj
  obtain ⟨h3, h4⟩ := hG
  match L, hx, h3, h4 with
  | [y], hx, h3, _ =>
    obtain rfl : (j, g) = y := by simpa using hx
    exact h2 g W (h3 _ hx).2.2.1 hD (h3 _ hx).2.2.2
  | y :: z :: L, _, h3, h4 =>
    exfalso
    have e1 := h3 y (by simp)
    have e2 := h3 z (by simp)
    exact (((List.pairwise_cons.1 h4).1 z (by simp)).1) (by omega)
/-- Two allocations behind the quiet operations. -/
theorem wp_region_alloc2 (n : Nat) {o1 o2 : Oper} {d1 d2 : Tmp} {t1 t2 : TypeId} {cs1 cs2 : Array Value} {af : Act} (hm : P.follows .mixedOrders = true) (hB : partAB n 2 ops = true) (hd : dstsB a.tmps.size (ops.take n) = true)
    (ho1 : ops.toArray[n]? = some o1) (ha1 : IsAlloc P o1 d1 t1 cs1) (hp1 : apartB n ops d1 = true) (ho2 : ops.toArray[n + 1]? = some o2) (ha2 : IsAlloc P o2 d2 t2 cs2) (hp2 : apartB n ops d2 = true) (hne : d1 ≠ d2)
    (h1 : ∀ W0, Below w.heap.size w W0 → wpQuiet P ops.toArray (fun W => ∃ x, W = over W0.heap.size W0 x) (fun a' => a' = af) (ops.take n) a)
    (h2 : ∀ g1 g2 W, w.heap.size ≤ g1 → w.heap.size ≤ g2 → g1 ≠ g2 → Below w.heap.size w W → Blk W g1 t1 cs1 → Blk W g2 t2 cs2 → wpList P ops.toArray Q (ops.drop (n + 2)) ((af.put (some d1) (.pointer (some ⟨g1, 0, none⟩))).put (some d2) (.pointer (some ⟨g2, 0, none⟩))) W) : (Code.region id ops.toArray true).wp P Q a w := by
  refine wp_region_allocs (k := 2) (dd := fun j => if j = n then d1 else d2) (tt := fun j => if j = n then t1 else t2) (cc := fun j => if j = n then cs1 else cs2) hm hB hd (fun j hj1 hj2 => by
    by_cases hj : j = n
    · subst hj; simp only [if_true]; exact ⟨o1, ho1, ha1, hp1⟩
    · obtain rfl : j = n + 1 := by omega
      simp only [if_neg hj]; exact ⟨o2, ho2, ha2, hp2⟩) h1 (fun L W hD hG hco => ?_)
  obtain ⟨⟨j, g1⟩, hx, hj⟩ := List.mem_map.1 (hco n (Nat.le_refl _) (by omega))
  obtain ⟨⟨j', g2⟩, hx', hj'⟩ := List.mem_map.1 (hco (n + 1) (by omega) (by omega))
  simp only at hj hj'; subst hj; subst hj'
  obtain ⟨h3, h4⟩ := hG
  have e1 := h3 _ hx
  have e2 := h3 _ hx'
  have hne' : ¬ (j + 1 = j) := by omega
  simp only [if_true, if_neg hne'] at e1 e2
  match L, hx, hx', h3, h4 with
  | [y], hx, hx', _, _ =>
    exfalso
    simp at hx hx'
    rw [← hx] at hx'
    exact absurd (congrArg Prod.fst hx') (by simp)
  | [y, z], hx, hx', h3, h4 =>
    have hp := (List.pairwise_cons.1 h4).1 z (by simp)
    simp only [List.mem_cons, List.not_mem_nil, or_false] at hx hx'
    rcases hx with rfl | rfl <;> rcases hx' with q | q
    · exact absurd (congrArg Prod.fst q) (by simp)
    · subst q
      have := h2 g1 g2 W e1.2.2.1 e2.2.2.1 (by simpa using hp.2) hD e1.2.2.2 e2.2.2.2
      simpa [puts, toG] using this
    · subst q
      have := h2 g1 g2 W e1.2.2.1 e2.2.2.1 (fun q => hp.2 q.symm) hD e1.2.2.2 e2.2.2.2
      rw [Act.put_comm af _ _ (fun d hd => by cases hd; exact fun q => hne (Option.some.inj q).symm)] at this
      simpa [puts, toG] using this
    · exact absurd (congrArg Prod.fst q) (by simp)
  | x :: y :: z :: L, _, _, h3, h4 =>
    exfalso
    have e1 := h3 x (by simp)
    have e2 := h3 y (by simp)
    have e3 := h3 z (by simp)
    have p1 := ((List.pairwise_cons.1 h4).1 y (by simp)).1
    have p2 := ((List.pairwise_cons.1 h4).1 z (by simp)).1
    have p3 := ((List.pairwise_cons.1 (List.pairwise_cons.1 h4).2).1 z (by simp)).1
    omega
end
end Go.Proofs.YtnndaipnfniciaaGreatDoor

namespace Go.Proofs.YtnndaipnfniciaaGreatDoor
open Go.RowKit
set_option maxRecDepth 100000

section
variable {P : Program} {ops : Array Oper} {md : Region.Mode} {D : World → Prop} {p : Nat → Bool}

def readyP (md : Region.Mode) (ops : Array Oper) (p : Nat → Bool) (listed : Array Bool) : List Nat := (Region.ready md ops listed).filter p
theorem mem_readyP {listed : Array Bool} {i : Nat} : i ∈ readyP md ops p listed ↔ i ∈ Region.ready md ops listed ∧ p i = true := by simp [readyP]
def wpAnyP (P : Program) (md : Region.Mode) (ops : Array Oper) (D : World → Prop) (p : Nat → Bool) (Q : Act → Prop) : Nat → Array Bool → Act → Prop
  | 0, listed, a => readyP md ops p listed = [] ∧ Q a
  | fuel + 1, listed, a => (readyP md ops p listed = [] → Q a) ∧ ∀ i ∈ readyP md ops p listed, qR P ops D i (wpAnyP P md ops D p Q fuel (listed.setIfInBounds i true)) a
theorem wpAnyP_first {Q : Act → Prop} {i : Nat} {oi : Oper} {v : Value} (hin : p i = true) (hi : ops[i]? = some oi) (hsel : ∀ (j : Nat) (o : Oper) cs b, ops[j]? = some o → o.op ≠ .select cs b) :
    ∀ (fuel : Nat) (listed : Array Bool) (a : Act),
      (∀ j oj, ops[j]? = some oj → j ≠ i → listed.getD j true = false → (∀ e ∈ oj.after, Region.binds md e = true → e.on ≠ i) → oi.apart ops oj = true) →
      i ∈ Region.ready md ops listed → YR P ops D oi v a →
      wpAnyP P md ops D p Q fuel (listed.setIfInBounds i true) (a.put oi.dst v) → wpAnyP P md ops D p Q (fuel + 1) listed a := by
  intro fuel
  induction fuel with
  | zero =>
    intro listed a _ hr hy H
    refine ⟨fun h => (by have := mem_readyP.2 ⟨hr, hin⟩; rw [h] at this; cases this), fun j hj => ?_⟩
    obtain ⟨hj1, hj2⟩ := mem_readyP.1 hj
    by_cases hji : j = i
    · subst hji; exact (qR_some hi).2 ⟨v, hy, H⟩
    · have := mem_readyP.2 ⟨ready_mono hj1 hji, hj2⟩
      rw [H.1] at this
      cases this
  | succ fuel ih =>
    intro listed a hfree hr hy H
    refine ⟨fun h => (by have := mem_readyP.2 ⟨hr, hin⟩; rw [h] at this; cases this), fun j hj => ?_⟩
    obtain ⟨hj1, hj2⟩ := mem_readyP.1 hj
    by_cases hji : j = i
    · subst hji; exact (qR_some hi).2 ⟨v, hy, H⟩
    · have h1 := H.2 j (mem_readyP.2 ⟨ready_mono hj1 hji, hj2⟩)
      obtain ⟨hjun, oj, hoj, hall⟩ := mem_ready.1 hj1
      have hnot : ∀ e ∈ oj.after, Region.binds md e = true → e.on ≠ i := fun e he hb heq => by
        have h1 := hall e he hb
        have h0 := (mem_ready.1 hr).1
        rw [heq] at h1
        rcases Nat.lt_or_ge i listed.size with h' | h'
        · simp [h'] at h0 h1; rw [h0] at h1; cases h1
        · simp [Array.getElem?_eq_none h'] at h1
      have h2 := qR_put hoj (hfree j oj hoj hji hjun hnot) (fun cs b => hsel i oi cs b hi) (fun cs b => hsel j oj cs b hoj) hy h1
      have hfree' : ∀ k ok, ops[k]? = some ok → k ≠ i → (listed.setIfInBounds j true).getD k true = false →
          (∀ e ∈ ok.after, Region.binds md e = true → e.on ≠ i) → oi.apart ops ok = true := fun k ok hk hki hun hno => by
        refine hfree k ok hk hki ?_ hno
        by_cases hjk : j = k
        · subst hjk; exact hjun
        · rw [getD_set_ne true hjk] at hun; exact hun
      refine qR_mono (fun a' h3 => ih (listed.setIfInBounds j true) a' hfree' (ready_mono hr (Ne.symm hji)) h3.1 ?_) h2
      rw [Array.setIfInBounds_comm _ _ hji]
      exact h3.2
def lexP (md : Region.Mode) (ops : Array Oper) (p : Nat → Bool) : List Nat → Array Bool → Bool
  | [], listed => (readyP md ops p listed).isEmpty
  | k :: ks, listed => (Region.ready md ops listed).contains k && p k && Region.free md ops listed k && lexP md ops p ks (listed.setIfInBounds k true)
theorem wpAnyP_lex {Q : Act → Prop} (hs : Region.noSelect ops = true) : ∀ (ks : List Nat) (l : List Oper) (listed : Array Bool) (a : Act), l.map some = ks.map (fun k => ops[k]?) →
    lexP md ops p ks listed = true → wpR P ops D Q l a → wpAnyP P md ops D p Q ks.length listed a
  | [], [], _, _, _, hB, h => ⟨by simpa [lexP] using hB, h⟩
  | [], _ :: _, _, _, hl, _, _ => by simp at hl
  | _ :: _, [], _, _, hl, _, _ => by simp at hl
  | k :: ks, o :: l, listed, a, hl, hB, h => by
    simp only [List.map_cons, List.cons.injEq] at hl
    simp only [lexP, Bool.and_eq_true] at hB
    obtain ⟨⟨⟨hr, hp⟩, hf⟩, hB'⟩ := hB
    obtain ⟨v, hy, hK⟩ := h
    exact wpAnyP_first hp hl.1.symm (Region.noSelect_spec hs) ks.length listed a (Region.free_spec hl.1.symm hf) (by simpa using hr) hy (wpAnyP_lex hs ks l _ _ hl.2 hB' hK)
/-- What is left of the quiet operations fills slots of its own. -/
theorem left_puts {af : Act} : ∀ (f : Nat) (listed : Array Bool) (a : Act), wpAnyP P md ops D p (fun a' => a' = af) f listed a →
    ∃ R : List (Tmp × Value), af = puts R a ∧ ∀ q ∈ R, ∃ k o, p k = true ∧ listed.getD k true = false ∧ ops[k]? = some o ∧ o.dst = some q.1
  | 0, listed, a, h => ⟨[], h.2.symm, by simp⟩
  | f + 1, listed, a, h => by
    by_cases hr : readyP md ops p listed = []
    · exact ⟨[], (h.1 hr).symm, by simp⟩
    · obtain ⟨i, hi⟩ := List.exists_mem_of_ne_nil _ hr
      obtain ⟨hi1, hi2⟩ := mem_readyP.1 hi
      obtain ⟨hun, o, ho, _⟩ := mem_ready.1 hi1
      obtain ⟨v, _, hk⟩ := (qR_some ho).1 (h.2 i hi)
      obtain ⟨R, e, hR⟩ := left_puts f _ _ hk
      have hR' : ∀ q ∈ R, ∃ k o, p k = true ∧ listed.getD k true = false ∧ ops[k]? = some o ∧ o.dst = some q.1 := fun q hq => by
        obtain ⟨k, o', h1, h2, h3, h4⟩ := hR q hq
        refine ⟨k, o', h1, ?_, h3, h4⟩
        by_cases e : i = k
        · subst e; exact hun
        · rwa [getD_set_ne true e] at h2
      cases hd : o.dst with
      | none => rw [hd] at e; exact ⟨R, e, hR'⟩
      | some d =>
        rw [hd] at e
        refine ⟨(d, v) :: R, e, fun q hq => ?_⟩
        rcases List.mem_cons.1 hq with rfl | hq
        · exact ⟨i, o, hi2, hun, ho, hd⟩
        · exact hR' q hq
theorem readyP_set {listed : Array Bool} {j : Nat} (hd : ∀ i, p i = true → ∀ k ∈ aft md ops i, p k = true) (hj : p j = false) : readyP md ops p (listed.setIfInBounds j true) = readyP md ops p listed := by
  unfold readyP Region.ready
  rw [List.filter_filter, List.filter_filter]
  refine List.filter_congr fun i _ => ?_
  cases hi : p i with
  | false => simp
  | true =>
    have hne : ∀ k, p k = true → j ≠ k := fun k hk e => by rw [e, hk] at hj; cases hj
    have h1 : (listed.setIfInBounds j true).getD i true = listed.getD i true := getD_set_ne true (hne i hi)
    rw [h1]
    cases ho : ops[i]? with
    | none => rfl
    | some o =>
      have : (o.after.all fun e => !Region.binds md e || (listed.setIfInBounds j true).getD e.on false) = (o.after.all fun e => !Region.binds md e || listed.getD e.on false) := by
        rw [Bool.eq_iff_iff]
        simp only [Array.all_eq_true', Bool.or_eq_true, Bool.not_eq_true']
        refine ⟨fun h e he => ?_, fun h e he => ?_⟩
        · rcases h e he with q | q
          · exact .inl q
          · cases hb : Region.binds md e
            · exact .inl rfl
            · rw [getD_set_ne false (hne _ (hd i hi _ (mem_aft ho he hb)))] at q; exact .inr q
        · rcases h e he with q | q
          · exact .inl q
          · cases hb : Region.binds md e
            · exact .inl rfl
            · rw [getD_set_ne false (hne _ (hd i hi _ (mem_aft ho he hb)))]; exact .inr q
      simp only [Option.map_some, this]
theorem wpAnyP_set {Q : Act → Prop} {j : Nat} (hd : ∀ i, p i = true → ∀ k ∈ aft md ops i, p k = true) (hj : p j = false) : ∀ (f : Nat) (listed : Array Bool) (a : Act), wpAnyP P md ops D p Q f listed a → wpAnyP P md ops D p Q f (listed.setIfInBounds j true) a
  | 0, listed, a, h => ⟨by rw [readyP_set hd hj]; exact h.1, h.2⟩
  | f + 1, listed, a, h => by
    refine ⟨fun e => h.1 (by rwa [readyP_set hd hj] at e), fun i hi => ?_⟩
    rw [readyP_set hd hj] at hi
    have hpi := (mem_readyP.1 hi).2
    refine qR_mono (fun a' h' => ?_) (h.2 i hi)
    rw [Array.setIfInBounds_comm _ _ (fun e => by rw [e, hpi] at hj; cases hj)]
    exact wpAnyP_set hd hj f _ a' h'

/-! ### The chain -/
/-- What is asked behind each operation of a chain. -/
structure Link (B : Nat) (w0 : World) (K : Act → World → Prop) (ds : List Deferred) (e : Exit) (a' : Act) (W' : World) : Prop where
  nm : e = .normal
  df : a'.defers = ds
  bl : Below B w0 W'
  nx : ∀ W2, Below W'.heap.size W' W2 → K a' W2
theorem Link.go {B : Nat} {w0 : World} {K : Act → World → Prop} {ds : List Deferred} {a' : Act} {W' : World} (hd : a'.defers = ds) (hb : Below B w0 W') (h : ∀ W2, Below W'.heap.size W' W2 → K a' W2) : Link B w0 K ds .normal a' W' := ⟨rfl, hd, hb, h⟩
/-- The chain's operations one behind the other; between two of them worlds may grow. -/
def chainC (P : Program) (ops : Array Oper) (B : Nat) (w0 : World) (Q : Exit → Act → World → Prop) : List Oper → Act → World → Prop
  | [], a, W => Q .normal a W
  | o :: l, a, W => wpList P ops (Link B w0 (chainC P ops B w0 Q l) a.defers) [o] a W
theorem chainC_cons {B : Nat} {o : Oper} {l : List Oper} {w0 : World} {Q : Exit → Act → World → Prop} {a : Act} {W : World} (h : wpList P ops (Link B w0 (chainC P ops B w0 Q l) a.defers) [o] a W) : chainC P ops B w0 Q (o :: l) a W := h
theorem chainC_nil {B : Nat} {w0 : World} {Q : Exit → Act → World → Prop} {a : Act} {W : World} (h : Q .normal a W) : chainC P ops B w0 Q [] a W := h
theorem chain_step {B : Nat} {j : Nat} {o : Oper} {l : List Oper} {w0 W : World} {A F : Act} {Q : Exit → Act → World → Prop} (hj : ops[j]? = some o) (he : execOp A.eval o = execOp F.eval o) (hw : Region.wanted o (yielded ops A.tmps) = Region.wanted o (yielded ops F.tmps)) (_hdf : A.defers = F.defers)
    (_hD : Below B w0 W) (hc : chainC P ops B w0 Q (o :: l) F W) :
    wpOp P ops Q j (fun A' W' => ∃ v, A' = A.put o.dst v ∧ Below B w0 W' ∧ ∀ W2, Below W'.heap.size W' W2 → chainC P ops B w0 Q l (F.put o.dst v) W2) A W := by
  have pd : ∀ (a : Act) (d : Option Tmp) (v : Value), (a.put d v).defers = a.defers := fun a d v => by cases d <;> rfl
  simp only [chainC, wpList] at hc
  unfold wpOp
  simp only [hj]
  rw [hw]
  split at hc
  · rename_i hwt
    rw [if_pos hwt]
    left
    rcases hc with hc | ⟨_, a', w', hq⟩
    · unfold Oper.wp at hc ⊢
      rw [he]
      generalize (execOp F.eval o).run P W = r at *
      cases r with
      | ok x w' =>
        cases x <;> simp only [Oper.upon] at hc ⊢
        case value v => exact ⟨v, rfl, hc.bl, hc.nx⟩
        case skip => exact ⟨undef, rfl, hc.bl, hc.nx⟩
        case defer d =>
          have := hc.df
          rw [pd] at this
          have := congrArg List.length this
          simp at this
        case enter f args =>
          refine Calls.mono hc fun e w'' h => ?_
          cases e with
          | returned v => exact ⟨v, rfl, h.bl, h.nx⟩
          | panicked ch => exact absurd h.nm (by intro q; cases q)
          | outgrown => obtain ⟨a', w', hq⟩ := h; exact absurd hq.nm (by intro q; cases q)
        case row row args => exact Rows.mono hc fun v w'' h => ⟨v, rfl, h.bl, h.nx⟩
      | halt x w' => cases x <;> simp only [Oper.upon] at hc ⊢ <;> exact absurd hc.nm (by intro q; cases q)
    · exact absurd hq.nm (by intro q; cases q)
  · rename_i hwt
    rw [if_neg hwt]
    exact ⟨undef, rfl, hc.bl, hc.nx⟩
/-- Each operation of the chain waits, at length, for those ahead of it. -/
def ordB (md : Region.Mode) (ops : Array Oper) : List Nat → Bool
  | [] => true
  | x :: l => (l.all fun y => (sweep md ops (List.range ops.size).reverse (aft md ops y)).contains x) && ordB md ops l
theorem wpAny_of_C {Q' : Exit → Act → World → Prop} {B : Nat} {w0 : World} {af : Act} (hBw : B ≤ w0.heap.size) (hs : Region.noSelect ops = true)
    (hd : ∀ i, i < ops.size → ∀ k ∈ aft md ops i, k < i) (hdp : ∀ i, p i = true → ∀ k ∈ aft md ops i, p k = true)
    (hap : ∀ k ok i oi, p k = true → p i = false → ops[k]? = some ok → ops[i]? = some oi → (∀ d, oi.dst = some d → d ∉ ok.looksAt ops ∧ ok.dst ≠ some d) ∧ (k ∈ aft md ops i ∨ ∀ d, ok.dst = some d → d ∉ oi.looksAt ops)) :
    ∀ (t f : Nat) (cl : List Nat) (lo : List Oper) (listed : Array Bool) (a : Act) (G : List (Tmp × Value)) (W : World), t = f + cl.length → lo.map some = cl.map (fun k => ops[k]?) → ordB md ops cl = true → cl.Nodup →
      (∀ i ∈ cl, p i = false ∧ listed.getD i false = false) → (∀ i, i < ops.size → p i = false → i ∈ cl ∨ listed.getD i false = true) →
      (∀ q ∈ G, ∃ i o, p i = false ∧ ops[i]? = some o ∧ o.dst = some q.1) → listed.size = ops.size → Closed md ops listed → Below B w0 W →
      wpAnyP P md ops (fun W => Below B w0 W) p (fun a' => a' = af) f listed a → (∀ W2, Below W.heap.size W W2 → chainC P ops B w0 Q' lo (puts G af) W2) → wpAny P md ops Q' t listed (puts G a) W := by
  have hsel := Region.noSelect_spec hs
  have pd : ∀ (a : Act) (d : Option Tmp) (v : Value), (a.put d v).defers = a.defers := fun a d v => by cases d <;> rfl
  have pds : ∀ (G : List (Tmp × Value)) (a : Act), (puts G a).defers = a.defers := by
    intro G
    induction G with
    | nil => intro a; rfl
    | cons q G ih => intro a; exact (ih _).trans (pd a _ _)
  intro t
  induction t with
  | zero =>
    intro f cl lo listed a G W ht hlo hor hnd hcl hco hG hsz hclo hD h hC
    have hf : f = 0 := by omega
    have hc0 : cl = [] := List.eq_nil_of_length_eq_zero (by omega)
    subst hf; subst hc0
    have hl0 : lo = [] := by simpa using hlo
    subst hl0
    refine ⟨List.eq_nil_iff_forall_not_mem.2 fun i hi => ?_, ?_⟩
    · cases hp : p i with
      | true => have := mem_readyP.2 ⟨hi, hp⟩; rw [h.1] at this; cases this
      | false =>
        have hi2 : i < ops.size := by obtain ⟨_, o, ho, _⟩ := mem_ready.1 hi; exact (Array.getElem?_eq_some_iff.1 ho).1
        rcases hco i hi2 hp with q | q
        · cases q
        · rw [unlisted_of_ready hsz hi] at q; cases q
    · rw [h.2]; exact hC W (Below.refl _ _)
  | succ t ih =>
    intro f cl lo listed a G W ht hlo hor hnd hcl hco hG hsz hclo hD h hC
    refine ⟨fun h0 => ?_, fun i hi => ?_⟩
    · have hrp : readyP md ops p listed = [] := by unfold readyP; rw [h0]; rfl
      have hall : ∀ i, i < ops.size → listed.getD i false = true := all_listed (n := ops.size) hsz (Nat.le_refl _) hd (by unfold readyN; rw [h0]; rfl)
      have hc0 : cl = [] := List.eq_nil_iff_forall_not_mem.2 fun i hi => by
        have h1 := (hcl i hi).2
        by_cases hi2 : i < ops.size
        · rw [hall i hi2] at h1; cases h1
        · have : i ∈ cl := hi
          obtain ⟨j, hj⟩ := List.getElem?_of_mem this
          have e := congrArg (fun l => l[j]?) hlo
          simp only [List.getElem?_map, hj, Option.map_some] at e
          rw [Array.getElem?_eq_none (by omega)] at e
          cases hq : lo[j]? <;> rw [hq] at e <;> simp at e
      subst hc0
      have hl0 : lo = [] := by simpa using hlo
      subst hl0
      have hq : a = af := by
        cases f with
        | zero => exact h.2
        | succ f => exact h.1 hrp
      rw [hq]; exact hC W (Below.refl _ _)
    · have hui := unlisted_of_ready hsz hi
      have hcl' := closed_set hsz hclo hi
      obtain ⟨hun, o, ho, hall⟩ := mem_ready.1 hi
      have hi2 : i < ops.size := (Array.getElem?_eq_some_iff.1 ho).1
      have hset : ∀ j, j ≠ i → (listed.setIfInBounds i true).getD j false = listed.getD j false := fun j hj => getD_set_ne false (fun q => hj q.symm)
      have hseti : (listed.setIfInBounds i true).getD i false = true := by have : i < listed.size := by omega
                                                                           simp [this]
      cases hp : p i with
      | true =>
        have hi3 := mem_readyP.2 ⟨hi, hp⟩
        obtain ⟨f', rfl⟩ : ∃ f', f = f' + 1 := by
          cases f with
          | zero => rw [h.1] at hi3; cases hi3
          | succ f => exact ⟨f, rfl⟩
        refine wpOp_mono (fun A' W' hA => ?_) (qR_wp (G := G) ho (fun cs b => hsel i _ cs b ho) (fun q hq => ?_) hD (h.2 i hi3))
        · obtain ⟨a', rfl, hk, hb⟩ := hA
          refine ih f' cl lo _ a' G W' (by omega) hlo hor hnd (fun j hj => ?_) (fun j hj hpj => ?_) hG (by simpa using hsz) hcl' (below_step hD hb (Nat.le_trans hBw hD.size)) hk (fun W2 h2 => hC W2 (below_step hb h2 hb.size))
          · have := hcl j hj
            exact ⟨this.1, by rw [hset j (fun e => by rw [e, hp] at this; cases this.1)]; exact this.2⟩
          · rcases hco j hj hpj with q | q
            · exact .inl q
            · right; rw [hset j (fun e => by rw [e, hp] at hpj; cases hpj)]; exact q
        · obtain ⟨j, oj, hpj, hoj, hdj⟩ := hG q hq
          exact (hap i o j oj hp hpj ho hoj).1 _ hdj
      | false =>
        have hic : i ∈ cl := (hco i hi2 hp).resolve_right fun q => by rw [hui] at q; cases q
        cases cl with
        | nil => cases hic
        | cons x cl =>
          cases lo with
          | nil => simp at hlo
          | cons ox lo =>
            simp only [List.map_cons, List.cons.injEq] at hlo
            simp only [ordB, Bool.and_eq_true, List.all_eq_true] at hor
            obtain ⟨hor1, hor2⟩ := hor
            rw [List.nodup_cons] at hnd
            have hix : i = x := by
              rcases List.mem_cons.1 hic with e | e
              · exact e
              · exfalso
                have h1 := hor1 i e
                rw [List.contains_iff_mem] at h1
                have h2 := sweep_in hclo (List.range ops.size).reverse (aft md ops i) (fun y hy => by
                  obtain ⟨o', e', ho', he', hb', rfl⟩ := aft_mem hy
                  rw [ho] at ho'; cases ho'
                  exact hall e' he' hb') x h1
                rw [(hcl x (by simp)).2] at h2
                cases h2
            subst hix
            have hox : ox = o := by have := hlo.1; rw [ho] at this; exact Option.some.inj this
            subst hox
            obtain ⟨R, eR, hR⟩ := left_puts f listed a h
            have hRl : ∀ q ∈ R, q.1 ∉ ox.looksAt ops := fun q hq => by
              obtain ⟨k, ok, hpk, hku, hok, hdk⟩ := hR q hq
              rcases (hap k ok i ox hpk hp hok ho).2 with hk | hk
              · exfalso
                obtain ⟨o', e', ho', he', hb', rfl⟩ := aft_mem hk
                rw [ho] at ho'; cases ho'
                have h1 := hall e' he' hb'
                have : e'.on < listed.size := by have := (Array.getElem?_eq_some_iff.1 hok).1; omega
                simp [this] at h1 hku
                rw [h1] at hku; cases hku
              · exact hk _ hdk
            have comm : puts G af = puts R (puts G a) := by
              rw [eR]
              have : ∀ (R : List (Tmp × Value)) (a : Act), (∀ q ∈ R, ∀ g ∈ G, some q.1 ≠ some g.1) → puts G (puts R a) = puts R (puts G a) := by
                intro R
                induction R with
                | nil => intro a _; rfl
                | cons q R ih2 =>
                  intro a hq
                  show puts G (puts R (a.put (some q.1) q.2)) = puts R ((puts G a).put (some q.1) q.2)
                  rw [ih2 _ fun q' hq' => hq q' (by simp [hq']), puts_put G a (some q.1) q.2 fun g hg => hq q (by simp) g hg]
              refine this R a fun q hq g hg => ?_
              obtain ⟨k, ok, hpk, _, hok, hdk⟩ := hR q hq
              obtain ⟨j, oj, hpj, hoj, hdj⟩ := hG g hg
              have := ((hap k ok j oj hpk hpj hok hoj).1 _ hdj).2
              rw [hdk] at this
              exact this
            obtain ⟨e1, e2⟩ := exec_puts (ops := ops) ox (fun cs b => hsel i _ cs b ho) R (puts G a) hRl
            rw [← comm] at e1 e2
            have hdf : (puts G a).defers = (puts G af).defers := by rw [pds, pds, eR, pds]
            refine wpOp_mono (fun A' W' hA => ?_) (chain_step (Q := Q') (w0 := w0) (l := lo) ho e1.symm e2.symm hdf hD (hC W (Below.refl _ _)))
            obtain ⟨v, rfl, hDW, hnext⟩ := hA
            have fin : ∀ G', (∀ q ∈ G', ∃ i o, p i = false ∧ ops[i]? = some o ∧ o.dst = some q.1) → (puts G a).put ox.dst v = puts G' a → (puts G af).put ox.dst v = puts G' af → wpAny P md ops Q' t (listed.setIfInBounds i true) ((puts G a).put ox.dst v) W' := by
              intro G' hG' g1 g2
              rw [g1]
              rw [g2] at hnext
              refine ih f cl lo _ a G' W' (by simp at ht; omega) hlo.2 hor2 hnd.2 (fun j hj => ?_) (fun j hj hpj => ?_) hG' (by simpa using hsz) hcl' hDW (wpAnyP_set hdp hp f _ a h) hnext
              · have := hcl j (by simp [hj])
                exact ⟨this.1, by rw [hset j (fun e => hnd.1 (e ▸ hj))]; exact this.2⟩
              · by_cases hji : j = i
                · right; rw [hji]; exact hseti
                · rcases hco j hj hpj with q | q
                  · rcases List.mem_cons.1 q with q | q
                    · exact absurd q hji
                    · exact .inl q
                  · right; rw [hset j hji]; exact q
            cases hdo : ox.dst with
            | none => rw [hdo] at fin; exact fin G hG rfl rfl
            | some d =>
              rw [hdo] at fin
              refine fin (G ++ [(d, v)]) (fun q hq => ?_) (puts_snoc G (d, v) a).symm (puts_snoc G (d, v) af).symm
              rcases List.mem_append.1 hq with hq | hq
              · exact hG q hq
              · simp at hq; subst hq; exact ⟨i, ox, hp, ho, hdo⟩
end
def selT : List Bool → List Oper → List Oper
  | true :: bs, o :: l => o :: selT bs l
  | false :: bs, _ :: l => selT bs l
  | _, _ => []
def selF : List Bool → List Oper → List Oper
  | false :: bs, o :: l => o :: selF bs l
  | true :: bs, _ :: l => selF bs l
  | _, _ => []
def qix (qs : List Bool) : List Nat := (List.range qs.length).filter fun i => qs.getD i false
def cix (qs : List Bool) : List Nat := (List.range qs.length).filter fun i => !qs.getD i false
def chainB (qs : List Bool) (ops : List Oper) : Bool :=
  let A := ops.toArray
  let p := fun i => qs.getD i false
  decide (qs.length = ops.length) && Region.noSelect A && lexP .any A p (qix qs) (Array.replicate ops.length false) && ordB .any A (cix qs) &&
    ((List.range ops.length).all fun i => (aft .any A i).all fun k => decide (k < i) && (!p i || p k)) &&
    ((List.range ops.length).all fun k => !p k || match A[k]? with
      | none => true
      | some ok => (List.range ops.length).all fun i => p i || match A[i]? with
        | none => true
        | some oi => (match oi.dst with
          | none => true
          | some d => !(ok.looksAt A).contains d && ok.dst != some d) && ((aft .any A i).contains k || match ok.dst with
          | none => true
          | some d => !(oi.looksAt A).contains d))
theorem selT_map : ∀ (qs : List Bool) (ops pre : List Oper), qs.length = ops.length → (selT qs ops).map some = ((List.range' pre.length qs.length).filter fun i => qs.getD (i - pre.length) false).map fun k => (pre ++ ops)[k]?
  | [], [], _, _ => rfl
  | [], _ :: _, _, h => by simp at h
  | _ :: _, [], _, h => by simp at h
  | b :: qs, o :: ops, pre, h => by
    have ih := selT_map qs ops (pre ++ [o]) (by simpa using h)
    have e : ((List.range' (pre.length + 1) qs.length).filter fun i => (b :: qs).getD (i - pre.length) false) = (List.range' (pre.length + 1) qs.length).filter fun i => qs.getD (i - (pre ++ [o]).length) false := by
      refine List.filter_congr fun i hi => ?_
      have := List.mem_range'_1.1 hi
      rw [show i - pre.length = (i - (pre.length + 1)) + 1 by omega]
      simp
    rw [List.length_cons, List.range'_succ, List.filter_cons, e]
    rw [List.length_append, List.length_singleton, List.append_assoc] at ih
    cases b with
    | true => simp only [selT, List.map_cons, Nat.sub_self, List.getD_cons_zero, if_true]; rw [ih]; simp
    | false => simp only [selT, Nat.sub_self, List.getD_cons_zero]; rw [ih]; simp
theorem selF_map : ∀ (qs : List Bool) (ops pre : List Oper), qs.length = ops.length → (selF qs ops).map some = ((List.range' pre.length qs.length).filter fun i => !qs.getD (i - pre.length) false).map fun k => (pre ++ ops)[k]?
  | [], [], _, _ => rfl
  | [], _ :: _, _, h => by simp at h
  | _ :: _, [], _, h => by simp at h
  | b :: qs, o :: ops, pre, h => by
    have ih := selF_map qs ops (pre ++ [o]) (by simpa using h)
    have e : ((List.range' (pre.length + 1) qs.length).filter fun i => !(b :: qs).getD (i - pre.length) false) = (List.range' (pre.length + 1) qs.length).filter fun i => !qs.getD (i - (pre ++ [o]).length) false := by
      refine List.filter_congr fun i hi => ?_
      have := List.mem_range'_1.1 hi
      rw [show i - pre.length = (i - (pre.length + 1)) + 1 by omega]
      simp
    rw [List.length_cons, List.range'_succ, List.filter_cons, e]
    rw [List.length_append, List.length_singleton, List.append_assoc] at ih
    cases b with
    | true => simp only [selF, Nat.sub_self, List.getD_cons_zero, Bool.not_true]; rw [ih]; simp
    | false => simp only [selF, List.map_cons, Nat.sub_self, List.getD_cons_zero, Bool.not_false, if_true]; rw [ih]; simp
/-- **QUIET OPERATIONS AND A CHAIN.** -/
theorem wp_region_chain (qs : List Bool) (B : Nat) {P : Program} {id : Nat} {Q : Exit → Act → World → Prop} {a : Act} {w : World} {ops : List Oper} {af : Act} (hBw : B ≤ w.heap.size) (hm : P.follows .mixedOrders = true) (hB : chainB qs ops = true) (hd : dstsB a.tmps.size (selT qs ops) = true)
    (h1 : ∀ W0, Below B w W0 → wpQuiet P ops.toArray (fun W => ∃ x, W = over W0.heap.size W0 x) (fun a' => a' = af) (selT qs ops) a)
    (h2 : ∀ W, Below w.heap.size w W → chainC P ops.toArray B w Q (selF qs ops) af W) : (Code.region id ops.toArray true).wp P Q a w := by
  simp only [chainB, Bool.and_eq_true, decide_eq_true_eq] at hB
  obtain ⟨⟨⟨⟨⟨hlen, hs⟩, hx⟩, hor⟩, hdd⟩, hap⟩ := hB
  simp only [List.all_eq_true, List.mem_range, Bool.and_eq_true, decide_eq_true_eq, Bool.or_eq_true, Bool.not_eq_true'] at hdd
  have hpl : ∀ i, qs.getD i false = true → i < ops.length := fun i hi => by
    rw [← hlen]
    rcases Nat.lt_or_ge i qs.length with q | q
    · exact q
    · rw [List.getD_eq_getElem?_getD, List.getElem?_eq_none q] at hi; cases hi
  have hR := wpR_of (P := P) (ops := ops.toArray) (D := fun W => Below B w W) ⟨w, Below.refl _ _⟩ (selT qs ops) a hd h1
  have hqm : (selT qs ops).map some = (qix qs).map fun k => ops.toArray[k]? := by
    have := selT_map qs ops [] hlen
    rw [this]; simp [qix, List.range_eq_range']
  have hcm : (selF qs ops).map some = (cix qs).map fun k => ops.toArray[k]? := by
    have := selF_map qs ops [] hlen
    rw [this]; simp [cix, List.range_eq_range']
  have hN := wpAnyP_lex (md := .any) (p := fun i => qs.getD i false) hs (qix qs) (selT qs ops) (Array.replicate ops.length false) a hqm hx hR
  refine wp_region_any hm ?_
  have hfalse : ∀ i, (Array.replicate ops.length false).getD i false = false := fun i => by simp [Array.getElem?_replicate]; split <;> rfl
  have hsum : (qix qs).length + (cix qs).length = ops.toArray.size := by
    have : ∀ (l : List Nat) (f : Nat → Bool), (l.filter f).length + (l.filter fun i => !f i).length = l.length := by
      intro l f
      induction l with
      | nil => rfl
      | cons x l ih => simp only [List.filter_cons]; cases f x <;> simp <;> omega
    have := this (List.range qs.length) (fun i => qs.getD i false)
    simp only [qix, cix]
    rw [this]; simp [hlen]
  have key := wpAny_of_C (Q' := Q) (md := .any) (p := fun i => qs.getD i false) (w0 := w) (af := af) hBw hs (fun i hi k hk => (hdd i (by simpa using hi) k hk).1) (fun i hi k hk => by
      rcases (hdd i (hpl i hi) k hk).2 with q | q
      · rw [hi] at q; cases q
      · exact q)
    (fun k ok i oi hk hi hok hoi => by
      rw [List.all_eq_true] at hap
      have h1 := hap k (List.mem_range.2 (hpl k hk))
      rw [hk] at h1
      simp only [Bool.not_true, Bool.false_or, hok, List.all_eq_true] at h1
      have h2 := h1 i (List.mem_range.2 (by have := (Array.getElem?_eq_some_iff.1 hoi).1; simpa using this))
      rw [hi] at h2
      simp only [Bool.false_or, hoi, Bool.and_eq_true, Bool.or_eq_true] at h2
      refine ⟨fun d hd => ?_, h2.2.imp (fun q => by simpa using q) fun q d hd => ?_⟩
      · have := h2.1
        rw [hd] at this
        simpa using this
      · rw [hd] at q
        simpa using q)
    ((qix qs).length + (cix qs).length) (qix qs).length (cix qs) (selF qs ops) (Array.replicate ops.length false) a [] w.drew rfl hcm hor (List.Pairwise.filter _ List.nodup_range) (fun i hi => ⟨by simpa [cix] using (List.mem_filter.1 hi).2, hfalse i⟩)
    (fun i hi hp => .inl (List.mem_filter.2 ⟨List.mem_range.2 (by rw [hlen]; simpa using hi), by simpa using hp⟩)) (by simp) (by simp) (fun i k hi _ => by rw [hfalse] at hi; cases hi) ((Below.refl _ _).drew) hN
    (fun W2 h => h2 W2 (((Below.refl _ _).drew).trans (h.mono (by simp))))
  rw [hsum] at key
  exact key
end Go.Proofs.YtnndaipnfniciaaGreatDoor
