/- Plain: texts cut at a byte; the words that a taker takes. No program in sight. -/
import Derived.Test.YtcihiglpahhboaaGreatDoorATxtP
import Derived.Lib.CutLaws
namespace Go.Proofs.YtcihiglpahhboaaGreatDoor
open Go Go.RowKit
set_option maxRecDepth 100000
theorem cut_spl (c : UInt8) : ∀ l : List UInt8,
    ((Lib.cut l [c]).2.2 = true ∧ spl c l = (Lib.cut l [c]).1 :: spl c (Lib.cut l [c]).2.1 ∧ (Lib.cut l [c]).1.length + (Lib.cut l [c]).2.1.length + 1 = l.length) ∨
    ((Lib.cut l [c]).2.2 = false ∧ spl c l = [l] ∧ (Lib.cut l [c]).1 = l ∧ (Lib.cut l [c]).2.1 = []) := by
  intro l
  have hidx : (∃ i : Nat, Lib.index l [c] = i ∧ i < l.length ∧ spl c l = l.take i :: spl c (l.drop (i + 1))) ∨ (Lib.index l [c] = -1 ∧ spl c l = [l]) := by
    induction l with
    | nil => exact .inr ⟨rfl, rfl⟩
    | cons x l ih =>
      by_cases h : x = c
      · subst h
        have hi : Lib.index (x :: l) [x] = ((0 : Nat) : Int) := by unfold Lib.index; rw [pre_one]; simp
        exact .inl ⟨0, hi, by simp, by rw [spl_hit]; simp⟩
      · have hp : ([c] : List UInt8).isPrefixOf (x :: l) = false := by rw [pre_one]; simpa using fun e : c = x => h e.symm
        have hx : Lib.index (x :: l) [c] = if Lib.index l [c] == -1 then -1 else Lib.index l [c] + 1 := by
          conv => lhs; unfold Lib.index
          rw [hp]; rfl
        rcases ih with ⟨i, h1, h2, h3⟩ | ⟨h1, h2⟩
        · refine .inl ⟨i + 1, ?_, by simp; omega, ?_⟩
          · rw [hx, h1, if_neg (by simp)]; rfl
          · rw [spl_miss h h3]; rfl
        · exact .inr ⟨by rw [hx, h1]; rfl, by rw [spl_miss h h2]⟩
  rcases hidx with ⟨i, h1, h2, h3⟩ | ⟨h1, h2⟩
  · have e : Lib.cut l [c] = (l.take i, l.drop (i + 1), true) := by
      unfold Lib.cut
      rw [h1, if_pos (by omega)]; rfl
    rw [e]
    refine .inl ⟨rfl, h3, ?_⟩
    simp only [List.length_take, List.length_drop]
    omega
  · have e : Lib.cut l [c] = (l, [], false) := by
      unfold Lib.cut
      rw [h1, if_neg (by omega)]
    rw [e]
    exact .inr ⟨rfl, h2, rfl, rfl⟩
/-- What a cut of a text gives. -/
def Cutd (c : UInt8) (s a r : List UInt8) (b : Bool) : Prop := (b = true → spl c s = a :: spl c r ∧ a.length + r.length + 1 = s.length) ∧ (b = false → spl c s = [s] ∧ a = s ∧ r = [])
theorem cut_is (c : UInt8) (s : List UInt8) : Cutd c s (Lib.cut s [c]).1 (Lib.cut s [c]).2.1 (Lib.cut s [c]).2.2 := by
  rcases cut_spl c s with ⟨h1, h2, h3⟩ | ⟨h1, h2, h3, h4⟩
  · exact ⟨fun _ => ⟨h2, h3⟩, fun h => (by rw [h1] at h; cases h)⟩
  · exact ⟨fun h => (by rw [h1] at h; cases h), fun _ => ⟨h2, h3, h4⟩⟩
theorem Cutd.le {c : UInt8} {s a r : List UInt8} {b : Bool} (h : Cutd c s a r b) : a.length ≤ s.length ∧ r.length ≤ s.length := by
  cases b with
  | true => have := (h.1 rfl).2; omega
  | false => obtain ⟨_, rfl, rfl⟩ := h.2 rfl; simp
/-- The number of the first word. -/
def hd (ws : List (List UInt8)) : Option Int := match ws with
  | [] => none
  | w :: _ => snum w
/-- The source of a line: what the program asks of it. -/
def fourOk (ws : List (List UInt8)) : Bool := (hd ws).isSome && ((hd ws.tail).isSome && ((hd ws.tail.tail).isSome && ((hd ws.tail.tail.tail).isSome && decide (ws.tail.tail.tail.tail.length = 0))))
theorem pnums_four {ws : List (List UInt8)} {a b c d : Int} (ha : ∀ v, hd ws = some v → a = v) (hb : ∀ v, hd ws.tail = some v → b = v) (hc : ∀ v, hd ws.tail.tail = some v → c = v) (hd' : ∀ v, hd ws.tail.tail.tail = some v → d = v) (h : fourOk ws = true) : pnums ws = some ⟨a, b, c, d⟩ := by
  unfold fourOk at h
  simp only [Bool.and_eq_true, decide_eq_true_eq] at h
  obtain ⟨h1, h2, h3, h4, h5⟩ := h
  obtain ⟨x, hx⟩ := Option.isSome_iff_exists.1 h1
  obtain ⟨y, hy⟩ := Option.isSome_iff_exists.1 h2
  obtain ⟨z, hz⟩ := Option.isSome_iff_exists.1 h3
  obtain ⟨u, hu⟩ := Option.isSome_iff_exists.1 h4
  obtain rfl := ha _ hx
  obtain rfl := hb _ hy
  obtain rfl := hc _ hz
  obtain rfl := hd' _ hu
  match ws, hx, hy, hz, hu, h5 with
  | [], hx, _, _, _, _ => cases hx
  | [_], _, hy, _, _, _ => cases hy
  | [_, _], _, _, hz, _, _ => cases hz
  | [_, _, _], _, _, _, hu, _ => cases hu
  | [p, q, r, s], hx, hy, hz, hu, _ =>
    simp only [hd, List.tail] at hx hy hz hu
    unfold pnums
    simp only [hx, hy, hz, hu]
  | _ :: _ :: _ :: _ :: _ :: _, _, _, _, _, h5 => simp at h5
theorem pnums_bad {ws : List (List UInt8)} (h : fourOk ws = false) : pnums ws = none := by
  cases hp : pnums ws with
  | none => rfl
  | some s =>
    exfalso
    unfold pnums at hp
    split at hp
    · split at hp
      · rename_i h1 h2 h3 h4
        simp only [fourOk, hd, List.tail, h1, h2, h3, h4] at h
        simp at h
      · cases hp
    · cases hp
theorem pline_more {l k r : List UInt8} (h : spl 32 l = k :: spl 32 r) : pline l = if k = wordS then pnums (spl 32 r) else none := by
  unfold pline
  rw [h]
theorem pline_less {l : List UInt8} (h : spl 32 l = [l]) : pline l = none := by
  unfold pline
  rw [h]
  simp only
  split
  · rfl
  · rfl
end Go.Proofs.YtcihiglpahhboaaGreatDoor
