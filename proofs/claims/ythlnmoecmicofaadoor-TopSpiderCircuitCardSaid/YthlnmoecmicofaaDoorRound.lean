/- A region that draws its order, in the body of a loop over an iterator. -/
import Derived.Test.YthlnmoecmicofaaDoorRange
import Derived.Test.YthlnmoecmicofaaDoorOver
import Derived.Sort.QuietTacIn
namespace Go.Proofs.YthlnmoecmicofaaDoor
open Go.RowKit Go.Shelf
set_option maxRecDepth 100000

theorem oper_inRound {n : Nat} {P : Program} {o : Oper} {a : Act} {w : World} {K : Act → World → Prop} {Q : Exit → Act → World → Prop} (l : Nat) (hd : ∀ c, o.op ≠ .defer c)
    (h : Oper.wpIn Fence.wide n P o a w K Q) : Oper.wpIn (Fence.wide.inRound l) n P o a w K Q := by
  unfold Oper.wpIn at *
  refine ⟨fun f hf => h.1 f hf, ?_⟩
  have h2 := h.2
  rw [Oper.semAt_eq _ _ _ hd] at h2 ⊢
  exact h2
theorem wpAnyIn_inRound {n : Nat} {P : Program} {md : Region.Mode} {ops : Array Oper} {Q : Exit → Act → World → Prop} (l : Nat) (hd : ∀ o ∈ ops.toList, ∀ c, o.op ≠ .defer c) :
    ∀ (fuel : Nat) (listed : Array Bool) (a : Act) (w : World), wpAnyIn Fence.wide n P md ops Q fuel listed a w → wpAnyIn (Fence.wide.inRound l) n P md ops Q fuel listed a w
  | 0, _, _, _, h => h
  | fuel + 1, listed, a, w, h => ⟨h.1, fun i hi => by
    have h2 := h.2 i hi
    unfold wpOpIn at h2 ⊢
    split
    · rename_i hn
      rw [hn] at h2
      exact wpAnyIn_inRound l hd fuel _ _ _ h2
    · rename_i o ho
      rw [ho] at h2
      simp only at h2 ⊢
      split
      · rename_i hw
        rw [if_pos hw] at h2
        exact oper_inRound l (hd o (List.mem_of_getElem? (by simpa using ho))) (Oper.wpIn_mono (fun a w hh => wpAnyIn_inRound l hd fuel _ a w hh) h2)
      · rename_i hw
        rw [if_neg hw] at h2
        exact ⟨fun f hf => h2.1 f hf, wpAnyIn_inRound l hd fuel _ _ _ h2.2⟩⟩

theorem wpIn_region_over (l0 B : Nat) {n : Nat} {P : Program} {id : Nat} {Q : Exit → Act → World → Prop} {a : Act} {w : World} {l : List Oper} (hm : P.follows .mixedOrders = true) (hB : Region.lexB .any l.toArray = true) (hd : (l.all fun o => match o.op with | .defer _ => false | _ => true) = true)
    (h : wpQuietIn Fence.wide n P l.toArray (fun w' => ∃ x, w' = over B w x) (fun a' => ∀ w', (∃ x, w' = over B w x) → Q .normal a' w') l a) : (Code.region id l.toArray true).wpIn (Fence.wide.inRound l0) n P Q a w := by
  have hd' : ∀ o ∈ l.toArray.toList, ∀ c, o.op ≠ .defer c := by
    intro o ho c hc
    have := List.all_eq_true.1 hd o (by simpa using ho)
    rw [hc] at this
    cases this
  have hB2 := hB
  simp only [Region.lexB, Bool.and_eq_true] at hB2
  refine wpIn_region_any hm (wpAnyIn_inRound l0 hd' _ _ _ _ (wpAnyIn_of_quiet (F := Fence.wide) (C := fun w' => ∃ x, w' = over B w x) (Q := fun a' => ∀ w', (∃ x, w' = over B w x) → Q .normal a' w') rfl (fun _ w' hw' h => h w' hw') _ _ _ _ ⟨w.drew, over_eq ((Below.refl _ _).drew)⟩ ?_))
  have := wpAnyQIn_lex (F := Fence.wide) (n := n) (C := fun w' => ∃ x, w' = over B w x) (md := .any) hB2.1 l.toArray.toList 0 (Array.replicate l.toArray.size false) a (by simp) (by simpa using hB2.2) h
  simpa using this
end Go.Proofs.YthlnmoecmicofaaDoor
