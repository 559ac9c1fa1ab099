/- Plain: the lines of a text, each with its end. No program in sight. -/
import Derived.Test.YtpcmflfinlkeiaaGreatDoorSTxtP
import Derived.Lib.IndexMore
import Derived.Lib.Bytealg
import Derived.Lib.Strings
namespace Go.Proofs.YtpcmflfinlkeiaaGreatDoor
open Go Go.RowKit
set_option maxRecDepth 100000
/-- The lines of a text, each with its end; the last one perhaps without. -/
def lnl : List UInt8 → List (List UInt8)
  | [] => []
  | x :: l => if x = 10 then [10] :: lnl l else match lnl l with
    | [] => [[x]]
    | h :: t => (x :: h) :: t
theorem lnl_hit (l : List UInt8) : lnl (10 :: l) = [10] :: lnl l := by rw [lnl, if_pos rfl]
theorem lnl_part (l : List UInt8) : ∀ {a : List UInt8}, (10 : UInt8) ∉ a → lnl (a ++ 10 :: l) = (a ++ [10]) :: lnl l := by
  intro a
  induction a with
  | nil => intro _; exact lnl_hit l
  | cons x a ih =>
    intro h
    rw [List.mem_cons, not_or] at h
    rw [List.cons_append, lnl, if_neg (fun e => h.1 e.symm), ih h.2]; rfl
theorem lnl_last : ∀ {a : List UInt8}, (10 : UInt8) ∉ a → a ≠ [] → lnl a = [a] := by
  intro a
  induction a with
  | nil => intro _ h; exact absurd rfl h
  | cons x a ih =>
    intro h _
    rw [List.mem_cons, not_or] at h
    rw [lnl, if_neg (fun e => h.1 e.symm)]
    by_cases ha : a = []
    · subst ha; rfl
    · rw [ih h.2 ha]
theorem ten_split (s : List UInt8) : (∃ a l, s = a ++ 10 :: l ∧ (10 : UInt8) ∉ a) ∨ (10 : UInt8) ∉ s := by
  induction s with
  | nil => exact .inr (by simp)
  | cons x s ih =>
    by_cases h : x = 10
    · subst h; exact .inl ⟨[], s, rfl, by simp⟩
    · rcases ih with ⟨a, l, rfl, ha⟩ | hs
      · exact .inl ⟨x :: a, l, rfl, by rw [List.mem_cons, not_or]; exact ⟨fun e => h e.symm, ha⟩⟩
      · exact .inr (by rw [List.mem_cons, not_or]; exact ⟨fun e => h e.symm, hs⟩)
theorem lnl_nil {s : List UInt8} (h : lnl s = []) : s = [] := by
  rcases ten_split s with ⟨a, l, rfl, ha⟩ | hs
  · rw [lnl_part l ha] at h; cases h
  · by_cases hz : s = []
    · exact hz
    · rw [lnl_last hs hz] at h; cases h
/-- The first line, and what is behind it. -/
theorem lnl_cons {s x : List UInt8} {t : List (List UInt8)} (h : lnl s = x :: t) :
    (∃ a l, x = a ++ [10] ∧ (10 : UInt8) ∉ a ∧ s = a ++ 10 :: l ∧ t = lnl l ∧ spl 10 s = a :: spl 10 l) ∨ (x = s ∧ (10 : UInt8) ∉ s ∧ s ≠ [] ∧ t = [] ∧ spl 10 s = [s]) := by
  rcases ten_split s with ⟨a, l, rfl, ha⟩ | hs
  · rw [lnl_part l ha] at h
    cases h
    exact .inl ⟨a, l, rfl, ha, rfl, rfl, spl_part l ha⟩
  · by_cases hz : s = []
    · subst hz; cases h
    · rw [lnl_last hs hz] at h
      cases h
      exact .inr ⟨rfl, hs, hz, rfl, spl_none hs⟩
theorem index_part {a l : List UInt8} (ha : (10 : UInt8) ∉ a) : Lib.indexByte (a ++ 10 :: l) 10 = (a.length : Nat) := by
  induction a with
  | nil => simp [Lib.indexByte]
  | cons x a ih =>
    rw [List.mem_cons, not_or] at ha
    have := ih ha.2
    rw [List.cons_append]
    unfold Lib.indexByte
    rw [if_neg (by simpa using fun e : x = 10 => ha.1 e.symm), this]
    simp
theorem index_none10 {a : List UInt8} (ha : (10 : UInt8) ∉ a) : Lib.indexByte a 10 = -1 := by
  induction a with
  | nil => simp [Lib.indexByte]
  | cons x a ih =>
    rw [List.mem_cons, not_or] at ha
    have := ih ha.2
    unfold Lib.indexByte
    rw [if_neg (by simpa using fun e : x = 10 => ha.1 e.symm), this]
    rfl
theorem suffix_yes (a : List UInt8) : Lib.hasSuffix (a ++ [10]) [10] = true ∧ Lib.trimSuffix (a ++ [10]) [10] = a := by
  have h : Lib.hasSuffix (a ++ [10]) [10] = true := by
    unfold Lib.hasSuffix
    rw [List.isSuffixOf_iff_suffix]
    exact ⟨a, rfl⟩
  refine ⟨h, ?_⟩
  unfold Lib.trimSuffix
  rw [if_pos h]
  simp
theorem suffix_no {s : List UInt8} (hs : (10 : UInt8) ∉ s) : Lib.hasSuffix s [10] = false ∧ Lib.trimSuffix s [10] = s := by
  have h : Lib.hasSuffix s [10] = false := by
    cases hq : Lib.hasSuffix s [10] with
    | false => rfl
    | true =>
      unfold Lib.hasSuffix at hq
      rw [List.isSuffixOf_iff_suffix] at hq
      obtain ⟨a, rfl⟩ := hq
      exact absurd (by simp) hs
  refine ⟨h, ?_⟩
  unfold Lib.trimSuffix
  rw [h]
  rfl
end Go.Proofs.YtpcmflfinlkeiaaGreatDoor
