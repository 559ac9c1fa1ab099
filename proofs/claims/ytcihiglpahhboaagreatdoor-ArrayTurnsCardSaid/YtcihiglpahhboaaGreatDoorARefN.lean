/- Plain: how the reference finds the weights: x by x, at each x the lowest place that is not done. No program in sight. -/
import Derived.Test.YtcihiglpahhboaaGreatDoorPlainA
namespace Go.Proofs.YtcihiglpahhboaaGreatDoor
open Go.RowKit
set_option maxRecDepth 100000

/-- The weights left of x, and those at x. -/
def wLt (l : List Src) (x : Int) : List Wt := (allW l).filter fun w => decide (w.x < x)
def wAt (l : List Src) (x : Int) : List Wt := (allW l).filter fun w => decide (w.x = x)
theorem filter_next {L : List Wt} (h : L.Pairwise Wt.lt) (x : Int) : (L.filter fun w => decide (w.x < x + 1)) = (L.filter fun w => decide (w.x < x)) ++ (L.filter fun w => decide (w.x = x)) := by
  induction L with
  | nil => rfl
  | cons a L ih =>
    have hp := List.pairwise_cons.1 h
    have ih := ih hp.2
    by_cases h1 : a.x < x
    · have e1 : decide (a.x < x + 1) = true := by simp; omega
      have e2 : decide (a.x < x) = true := by simpa using h1
      have e3 : decide (a.x = x) = false := by simp; omega
      rw [List.filter_cons, List.filter_cons, List.filter_cons, e1, e2, e3, ih]; rfl
    · have e2 : decide (a.x < x) = false := by simpa using h1
      have hno : (L.filter fun w => decide (w.x < x)) = [] := by
        rw [List.filter_eq_nil_iff]
        intro b hb
        have := hp.1 b hb
        unfold Wt.lt at this
        simp; omega
      by_cases h2 : a.x = x
      · have e1 : decide (a.x < x + 1) = true := by simp; omega
        have e3 : decide (a.x = x) = true := by simpa using h2
        rw [List.filter_cons, List.filter_cons, List.filter_cons, e1, e2, e3, ih, hno]; rfl
      · have e1 : decide (a.x < x + 1) = false := by simp; omega
        have e3 : decide (a.x = x) = false := by simpa using h2
        rw [List.filter_cons, List.filter_cons, List.filter_cons, e1, e2, e3, ih, hno]; rfl
theorem wLt_next (l : List Src) (x : Int) : wLt l (x + 1) = wLt l x ++ wAt l x := filter_next (allW_sorted l) x
theorem wLt_none {l : List Src} (h : LOk l) : wLt l (-100) = [] := by
  unfold wLt
  rw [List.filter_eq_nil_iff]
  intro w hw
  obtain ⟨⟨s, hs, e1, e2⟩, _⟩ := allW_mem.1 hw
  have := (h.all s hs).x1
  simp; omega
theorem wLt_all {l : List Src} (h : LOk l) : wLt l 101 = allW l := by
  unfold wLt
  rw [List.filter_eq_self]
  intro w hw
  obtain ⟨⟨s, hs, e1, e2⟩, _⟩ := allW_mem.1 hw
  have := (h.all s hs).x2
  simp; omega
theorem wAt_mem {l : List Src} {x : Int} {w : Wt} : w ∈ wAt l x ↔ w.x = x ∧ (∃ s ∈ l, s.x = x ∧ s.y = w.y) ∧ w.z = sumAt l x w.y := by
  unfold wAt
  rw [List.mem_filter, allW_mem, decide_eq_true_eq]
  constructor
  · rintro ⟨⟨h1, h2⟩, rfl⟩; exact ⟨rfl, h1, h2⟩
  · rintro ⟨rfl, h1, h2⟩; exact ⟨⟨h1, h2⟩, rfl⟩
theorem wAt_sorted (l : List Src) (x : Int) : (wAt l x).Pairwise fun a b => a.y < b.y := by
  have h : (wAt l x).Pairwise Wt.lt := (allW_sorted l).sublist List.filter_sublist
  refine h.imp_of_mem fun {a b} ha hb hab => ?_
  have e1 := (wAt_mem.1 ha).1
  have e2 := (wAt_mem.1 hb).1
  unfold Wt.lt at hab
  omega
/-- How many sources stand at x. -/
def hits (l : List Src) (x : Int) : Nat := (l.filter fun s => decide (s.x = x)).length
theorem hits_snoc (l : List Src) (s : Src) (x : Int) : hits (l ++ [s]) x = hits l x + if s.x = x then 1 else 0 := by
  unfold hits
  rw [List.filter_append, List.length_append, List.filter_cons]
  by_cases h : s.x = x <;> simp [h]
theorem wAt_len (l : List Src) (x : Int) : (wAt l x).length ≤ hits l x := by
  have e : (wAt l x).length = ((plcs l).filter fun q => decide (q.1 = x)).length := by
    unfold wAt allW
    rw [List.filter_map, List.length_map]; rfl
  rw [e]
  have key : ∀ (p : Int × Int) (L : List (Int × Int)), ((insP p L).filter fun q => decide (q.1 = x)).length ≤ (L.filter fun q => decide (q.1 = x)).length + if p.1 = x then 1 else 0 := by
    intro p L
    induction L with
    | nil => by_cases h : p.1 = x <;> simp [insP, h]
    | cons a L ih =>
      unfold insP
      split
      · by_cases h : p.1 = x <;> simp [List.filter_cons, h]
      · split
        · exact Nat.le_add_right _ _
        · rw [List.filter_cons, List.filter_cons]
          by_cases h : a.1 = x
          · simp only [h, decide_true, if_true, List.length_cons]; omega
          · simp only [h, decide_false, Bool.false_eq_true, if_false]; exact ih
  induction l with
  | nil => simp [plcs, hits]
  | cons s l ih =>
    have h1 := key (s.x, s.y) (plcs l)
    have h2 : hits (s :: l) x = hits l x + if s.x = x then 1 else 0 := by
      unfold hits
      rw [List.filter_cons]
      by_cases h : s.x = x <;> simp [h]
    simp only [plcs]
    simp only at h1
    have := ih (by unfold wAt allW; rw [List.filter_map, List.length_map]; rfl)
    omega
/-! ### The lowest place -/
/-- Is a y done, if the last weight that is done is this one? -/
def stops (done : List Wt) (x y : Int) : Bool := match done.getLast? with | none => false | some w => decide (w.x = x) && decide (y ≤ w.y)
def lowF (done : List Wt) (x : Int) (a : Int) (s : Src) : Int := if s.x = x ∧ stops done x s.y = false then min a s.y else a
/-- The least y at x that is not done, or 101. -/
def lwst (l : List Src) (x : Int) (done : List Wt) : Int := l.foldl (lowF done x) 101
theorem lwst_spec (l : List Src) (x : Int) (done : List Wt) (a : Int) : (l.foldl (lowF done x) a = a ∨ ∃ s ∈ l, s.x = x ∧ stops done x s.y = false ∧ l.foldl (lowF done x) a = s.y) ∧ l.foldl (lowF done x) a ≤ a ∧ ∀ s ∈ l, s.x = x → stops done x s.y = false → l.foldl (lowF done x) a ≤ s.y := by
  induction l generalizing a with
  | nil => exact ⟨.inl rfl, Int.le_refl _, by simp⟩
  | cons s l ih =>
    obtain ⟨h1, h2, h3⟩ := ih (lowF done x a s)
    rw [List.foldl_cons]
    generalize l.foldl (lowF done x) (lowF done x a s) = v at *
    by_cases hc : s.x = x ∧ stops done x s.y = false
    · have e : lowF done x a s = min a s.y := if_pos hc
      rw [e] at h1 h2
      refine ⟨?_, by omega, ?_⟩
      · rcases h1 with h1 | ⟨t, ht, h4, h5, h6⟩
        · by_cases hm : a ≤ s.y
          · left; omega
          · right; exact ⟨s, by simp, hc.1, hc.2, by omega⟩
        · right; exact ⟨t, by simp [ht], h4, h5, h6⟩
      · intro t ht h4 h5
        rcases List.mem_cons.1 ht with rfl | ht
        · omega
        · exact h3 t ht h4 h5
    · have e : lowF done x a s = a := if_neg hc
      rw [e] at h1 h2
      refine ⟨?_, by omega, ?_⟩
      · rcases h1 with h1 | ⟨t, ht, h4, h5, h6⟩
        · exact .inl h1
        · right; exact ⟨t, by simp [ht], h4, h5, h6⟩
      · intro t ht h4 h5
        rcases List.mem_cons.1 ht with rfl | ht
        · exact absurd ⟨h4, h5⟩ hc
        · exact h3 t ht h4 h5
theorem stops_done {l : List Src} {x : Int} {m : Nat} (hm : m ≤ (wAt l x).length) (y : Int) : stops (wLt l x ++ (wAt l x).take m) x y = match (wAt l x)[m - 1]? with | none => false | some w => decide (m ≠ 0) && decide (y ≤ w.y) := by
  unfold stops
  cases m with
  | zero =>
    have : ∀ w ∈ wLt l x, w.x ≠ x := fun w hw e => by
      unfold wLt at hw
      rw [List.mem_filter, decide_eq_true_eq] at hw
      omega
    rw [List.take_zero, List.append_nil]
    cases hg : (wLt l x).getLast? with
    | none => cases (wAt l x)[0 - 1]? <;> rfl
    | some w =>
      have := this w (List.mem_of_getLast? hg)
      have e : decide (w.x = x) = false := by simpa using this
      simp only [e, Bool.false_and]
      cases (wAt l x)[0 - 1]? <;> rfl
  | succ m =>
    obtain ⟨w, hw⟩ : ∃ w, (wAt l x)[m]? = some w := ⟨_, List.getElem?_eq_getElem (by omega)⟩
    have e1 : (wAt l x).take (m + 1) = (wAt l x).take m ++ [w] := by rw [List.take_add_one, hw]; rfl
    rw [e1, ← List.append_assoc, List.getLast?_append]
    have e2 : (wAt l x)[m + 1 - 1]? = some w := hw
    rw [e2]
    have := (wAt_mem.1 (List.mem_of_getElem? hw)).1
    simp [this]
theorem lwst_next {l : List Src} (h : LOk l) {x : Int} {m : Nat} (hm : m < (wAt l x).length) : lwst l x (wLt l x ++ (wAt l x).take m) = ((wAt l x)[m]).y := by
  obtain ⟨h1, h2, h3⟩ := lwst_spec l x (wLt l x ++ (wAt l x).take m) 101
  have hs := wAt_sorted l x
  obtain ⟨hx, ⟨s, hsm, e1, e2⟩, _⟩ := wAt_mem.1 (List.getElem_mem hm)
  have hlt : ∀ i j (hi : i < (wAt l x).length) (hj : j < (wAt l x).length), i < j → ((wAt l x)[i]).y < ((wAt l x)[j]).y := fun i j hi hj hij => List.pairwise_iff_getElem.1 hs i j hi hj hij
  have hst : stops (wLt l x ++ (wAt l x).take m) x s.y = false := by
    rw [stops_done (by omega)]
    rw [List.getElem?_eq_getElem (show m - 1 < (wAt l x).length by omega)]
    by_cases h0 : m = 0
    · simp [h0]
    · have := hlt (m - 1) m (by omega) hm (by omega)
      have e : decide (s.y ≤ ((wAt l x)[m - 1]).y) = false := by simp; omega
      simp only [e, Bool.and_false]
  have hle := h3 s hsm e1 hst
  have hy := (h.all s hsm).y2
  unfold lwst
  rcases h1 with h1 | ⟨t, ht, f1, f2, f3⟩
  · omega
  · obtain ⟨w, hw, hwy⟩ : ∃ w ∈ wAt l x, w.y = t.y := ⟨⟨x, t.y, sumAt l x t.y⟩, wAt_mem.2 ⟨rfl, ⟨t, ht, f1, rfl⟩, rfl⟩, rfl⟩
    obtain ⟨j, hj, rfl⟩ := List.getElem_of_mem hw
    have hjm : m ≤ j := by
      rcases Nat.lt_or_ge j m with hlt2 | hge
      · exfalso
        rw [stops_done (by omega), List.getElem?_eq_getElem (show m - 1 < (wAt l x).length by omega)] at f2
        have : ((wAt l x)[j]).y ≤ ((wAt l x)[m - 1]).y := by
          rcases Nat.lt_or_ge j (m - 1) with h4 | h4
          · exact Int.le_of_lt (hlt j (m - 1) hj (by omega) h4)
          · have : j = m - 1 := by omega
            subst this; exact Int.le_refl _
        simp at f2
        omega
      · exact hge
    have : ((wAt l x)[m]).y ≤ ((wAt l x)[j]).y := by
      rcases Nat.lt_or_ge m j with h4 | h4
      · exact Int.le_of_lt (hlt m j hm hj h4)
      · have : j = m := by omega
        subst this; exact Int.le_refl _
    omega
theorem lwst_end {l : List Src} {x : Int} {m : Nat} (hm : m = (wAt l x).length) : lwst l x (wLt l x ++ (wAt l x).take m) = 101 := by
  obtain ⟨h1, h2, h3⟩ := lwst_spec l x (wLt l x ++ (wAt l x).take m) 101
  have hs := wAt_sorted l x
  unfold lwst
  rcases h1 with h1 | ⟨t, ht, f1, f2, f3⟩
  · exact h1
  · exfalso
    obtain ⟨w, hw, hwy⟩ : ∃ w ∈ wAt l x, w.y = t.y := ⟨⟨x, t.y, sumAt l x t.y⟩, wAt_mem.2 ⟨rfl, ⟨t, ht, f1, rfl⟩, rfl⟩, rfl⟩
    obtain ⟨j, hj, rfl⟩ := List.getElem_of_mem hw
    rw [stops_done (by omega), List.getElem?_eq_getElem (show m - 1 < (wAt l x).length by omega)] at f2
    have : ((wAt l x)[j]).y ≤ ((wAt l x)[m - 1]).y := by
      rcases Nat.lt_or_ge j (m - 1) with h4 | h4
      · exact Int.le_of_lt (List.pairwise_iff_getElem.1 hs j (m - 1) hj (by omega) h4)
      · have : j = m - 1 := by omega
        subst this; exact Int.le_refl _
    simp at f2
    omega
end Go.Proofs.YtcihiglpahhboaaGreatDoor
