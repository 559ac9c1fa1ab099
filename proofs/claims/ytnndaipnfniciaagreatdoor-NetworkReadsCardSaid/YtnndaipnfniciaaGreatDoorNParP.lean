/- Plain mathematics: the ladder of a text. No program in sight. -/
import Derived.Test.YtnndaipnfniciaaGreatDoorNStrP
import Derived.Test.YtnndaipnfniciaaGreatDoorPlainA
namespace Go.Proofs.YtnndaipnfniciaaGreatDoor
open Go
set_option maxRecDepth 100000
/-- The element of a word. -/
def pword (w : List UInt8) : Option El := match spl 58 w with
  | [k, a, b] => if k = [] then none else match num a, num b with
    | some x, some y => some ⟨⟨k.toArray⟩, x, y⟩
    | _, _ => none
  | _ => none
/-- The elements of words. -/
def pws : List (List UInt8) → Option (List El)
  | [] => some []
  | w :: t => match pword w, pws t with
    | some x, some l => some (x :: l)
    | _, _ => none
/-- The ladder of a text, and the error. -/
def prs (s : List UInt8) : List El × Int :=
  if 4096 < s.length then ([], 27) else if s = [119, 105, 114, 101] then ([], 0) else match pws (spl 32 s) with
    | none => ([], 26)
    | some l => if ladErr l = 0 then (l, 0) else ([], ladErr l)
theorem pws_all : ∀ {ws : List (List UInt8)} {l : List El}, ws.map pword = l.map some → pws ws = some l := by
  intro ws
  induction ws with
  | nil => intro l h; cases l <;> simp_all [pws]
  | cons w t ih =>
    intro l h
    cases l with
    | nil => simp at h
    | cons x l =>
      simp only [List.map_cons, List.cons.injEq] at h
      unfold pws
      rw [h.1, ih h.2]
theorem pws_none : ∀ {ws : List (List UInt8)} {k : Nat} {w : List UInt8}, ws[k]? = some w → pword w = none → pws ws = none := by
  intro ws
  induction ws with
  | nil => intro k w h; simp at h
  | cons v t ih =>
    intro k w h hw
    unfold pws
    cases k with
    | zero => simp at h; subst h; rw [hw]
    | succ k =>
      rw [ih (by simpa using h) hw]
      cases pword v <;> rfl
theorem pws_len : ∀ {ws : List (List UInt8)} {l : List El}, pws ws = some l → l.length = ws.length := by
  intro ws
  induction ws with
  | nil => intro l h; simp [pws] at h; subst h; rfl
  | cons w t ih =>
    intro l h
    unfold pws at h
    split at h
    · rename_i h1 h2
      cases h
      simp [ih h2]
    · cases h
theorem prs_long {s : List UInt8} (h : 4096 < s.length) : prs s = ([], 27) := by unfold prs; rw [if_pos h]
theorem prs_wire {s : List UInt8} (h : s = [119, 105, 114, 101]) : prs s = ([], 0) := by subst h; unfold prs; rw [if_neg (by decide), if_pos rfl]
theorem prs_bad {s : List UInt8} (h1 : ¬ 4096 < s.length) (h2 : ¬ s = [119, 105, 114, 101]) (h3 : pws (spl 32 s) = none) : prs s = ([], 26) := by
  unfold prs; rw [if_neg h1, if_neg h2, h3]
theorem prs_lad {s : List UInt8} {l : List El} (h1 : ¬ 4096 < s.length) (h2 : ¬ s = [119, 105, 114, 101]) (h3 : pws (spl 32 s) = some l) : prs s = if ladErr l = 0 then (l, 0) else ([], ladErr l) := by
  unfold prs; rw [if_neg h1, if_neg h2, h3]
theorem pword_len {w : List UInt8} {ps : List (List UInt8)} (h : spl 58 w = ps) (hl : ps.length ≠ 3) : pword w = none := by
  unfold pword
  rw [h]
  match ps, hl with
  | [], _ => rfl
  | [_], _ => rfl
  | [_, _], _ => rfl
  | [_, _, _], hl => exact absurd rfl hl
  | _ :: _ :: _ :: _ :: _, _ => rfl
theorem pword_empty {w a b : List UInt8} (h : spl 58 w = [[], a, b]) : pword w = none := by unfold pword; rw [h]; rfl
theorem pword_wrong {w k a b : List UInt8} (h : spl 58 w = [k, a, b]) (hn : num a = none ∨ num b = none) : pword w = none := by
  unfold pword
  rw [h]
  simp only
  split
  · rfl
  · rcases hn with q | q
    · rw [q]
    · rw [q]; cases num a <;> rfl
theorem pword_right {w k a b : List UInt8} {x y : Nat} (h : spl 58 w = [k, a, b]) (hk : k ≠ []) (ha : num a = some x) (hb : num b = some y) : pword w = some ⟨⟨k.toArray⟩, x, y⟩ := by
  unfold pword
  rw [h]
  simp only
  rw [if_neg hk, ha, hb]
end Go.Proofs.YtnndaipnfniciaaGreatDoor
