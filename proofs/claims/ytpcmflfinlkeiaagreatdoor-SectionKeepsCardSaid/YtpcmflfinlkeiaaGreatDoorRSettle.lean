/- Cycles: the mathematics of Settle; the reference's Settle. -/
import Derived.Test.YtpcmflfinlkeiaaGreatDoorBaseC
namespace Go.Proofs.YtpcmflfinlkeiaaGreatDoor
open Go.RowKit Go.Shelf
set_option maxRecDepth 100000

def St.eqB (a b : St) : Bool := a.x1 == b.x1 && (a.x2 == b.x2 && (a.y1 == b.y1 && a.y2 == b.y2))
theorem St.eqB_iff {a b : St} : a.eqB b = true ↔ a = b := by
  obtain ⟨a1, a2, a3, a4⟩ := a
  obtain ⟨b1, b2, b3, b4⟩ := b
  simp [St.eqB]
/-- The state behind n steps without input. -/
def Sec.orb (s : Sec) (x : St) : Nat → St
  | 0 => x
  | n + 1 => s.next (s.orb x n) 0
/-- The first place among the states ahead of n that has the state n. -/
def Sec.hit (s : Sec) (x : St) (n : Nat) : Option Nat := (List.range n).find? fun i => (s.orb x i).eqB (s.orb x n)
/-- The first cycle from place n on, at most so many steps. -/
def Sec.cyc (s : Sec) (x : St) : Nat → Nat → Option (Nat × Nat)
  | 0, _ => none
  | f + 1, n => match s.hit x n with
    | some i => some (i, n - i)
    | none => s.cyc x f (n + 1)
def Sec.settle (s : Sec) (x : St) : Option (Nat × Nat) := s.cyc x 4096 1
theorem orb_ok {s : Sec} {x : St} (hx : x.Ok) (n : Nat) : (s.orb x n).Ok := by
  induction n with
  | zero => exact hx
  | succ n ih => exact next_ok ih (by omega) (by omega)
theorem hit_none {s : Sec} {x : St} {n : Nat} (h : ∀ i, i < n → (s.orb x i).eqB (s.orb x n) = false) : s.hit x n = none := by
  unfold Sec.hit
  rw [List.find?_eq_none]
  intro i hi
  simp [h i (by simpa using hi)]
theorem hit_some {s : Sec} {x : St} {n i : Nat} (hi : i < n) (h : ∀ j, j < i → (s.orb x j).eqB (s.orb x n) = false) (he : (s.orb x i).eqB (s.orb x n) = true) : s.hit x n = some i := by
  unfold Sec.hit
  rw [List.find?_range_eq_some]
  exact ⟨he, by simpa using hi, fun j hj => by simp [h j hj]⟩
theorem cyc_hit {s : Sec} {x : St} {f n i : Nat} (h : s.hit x n = some i) : s.cyc x (f + 1) n = some (i, n - i) := by
  simp [Sec.cyc, h]
theorem cyc_miss {s : Sec} {x : St} {f n : Nat} (h : s.hit x n = none) : s.cyc x (f + 1) n = s.cyc x f (n + 1) := by
  simp [Sec.cyc, h]
/-- What Settle returns. -/
def setRes : Option (Nat × Nat) → Value
  | none => .tuple #[.int .i64 0, .int .i64 0, .int .i64 23]
  | some (i, p) => .tuple #[.int .i64 i, .int .i64 p, .int .i64 0]

/-- States as cells. -/
def stCells (x : St) : List Value := [.int .i64 x.x1, .int .i64 x.x2, .int .i64 x.y1, .int .i64 x.y2]
def orbCells (s : Sec) (x : St) (n : Nat) : List Value := (List.range n).flatMap fun i => stCells (s.orb x i)
theorem orbCells_succ (s : Sec) (x : St) (n : Nat) : orbCells s x (n + 1) = orbCells s x n ++ stCells (s.orb x n) := by
  simp [orbCells, List.range_succ]
theorem orbCells_len (s : Sec) (x : St) (n : Nat) : (orbCells s x n).length = n * 4 := by
  induction n with
  | zero => rfl
  | succ n ih => rw [orbCells_succ, List.length_append, ih]; simp [stCells]; omega
theorem orbCells_at (s : Sec) (x : St) {n k j : Nat} (hk : k < n) (hj : j < 4) : (orbCells s x n)[4 * k + j]? = (stCells (s.orb x k))[j]? := by
  induction n with
  | zero => omega
  | succ n ih =>
    rw [orbCells_succ]
    by_cases h : k < n
    · rw [List.getElem?_append_left (by rw [orbCells_len]; omega)]; exact ih h
    · obtain rfl : k = n := by omega
      rw [List.getElem?_append_right (by rw [orbCells_len]; omega), orbCells_len]
      congr 1; omega
theorem one_st (x : St) : ∀ u ∈ stCells x, u.oneCell' = true := by intro u hu; simp [stCells] at hu; rcases hu with rfl | rfl | rfl | rfl <;> rfl
end Go.Proofs.YtpcmflfinlkeiaaGreatDoor
