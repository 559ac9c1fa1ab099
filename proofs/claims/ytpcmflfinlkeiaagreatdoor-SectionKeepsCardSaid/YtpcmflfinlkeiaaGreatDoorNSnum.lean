/- Plain mathematics: numerals with or without a sign. No program in sight. -/
import Derived.Test.YtpcmflfinlkeiaaGreatDoorNStrP
import Derived.Lib.ItoaMem
namespace Go.Proofs.YtpcmflfinlkeiaaGreatDoor
open Go
set_option maxRecDepth 100000
/-- The integer of a numeral of at most 9 digits, with or without - in front, but not of -0. -/
def snum (l : List UInt8) : Option Int := match l with
  | 45 :: t => match num t with
    | some (m + 1) => some (-((m + 1 : Nat) : Int))
    | _ => none
  | l => (num l).map Int.ofNat
theorem snum_minus (t : List UInt8) : snum (45 :: t) = match num t with
    | some (m + 1) => some (-((m + 1 : Nat) : Int))
    | _ => none := rfl
theorem snum_plain {l : List UInt8} (h : l.head? ≠ some 45) : snum l = (num l).map Int.ofNat := by
  unfold snum
  split
  · rename_i t; exact absurd rfl h
  · rfl
theorem snum_cases {l : List UInt8} {v : Int} (h : snum l = some v) : (∃ m : Nat, v = m ∧ num l = some m) ∨ (∃ t, ∃ m : Nat, l = 45 :: t ∧ 0 < m ∧ v = -(m : Int) ∧ num t = some m) := by
  unfold snum at h
  split at h
  · rename_i t
    split at h
    · rename_i m hm
      cases h
      exact .inr ⟨t, m + 1, rfl, by omega, rfl, hm⟩
    · cases h
  · cases hn : num l with
    | none => rw [hn] at h; cases h
    | some m =>
      rw [hn] at h
      simp only [Option.map_some, Option.some.injEq] at h
      exact .inl ⟨m, h.symm, rfl⟩
theorem snum_bd {l : List UInt8} {v : Int} (h : snum l = some v) : -1000000000 < v ∧ v < 1000000000 := by
  rcases snum_cases h with ⟨m, rfl, hm⟩ | ⟨t, m, rfl, h0, rfl, hm⟩
  · have := num_lt hm; omega
  · have := num_lt hm; omega
/-- What is spelled is spelled back. -/
theorem snum_itoa {l : List UInt8} {v : Int} (h : snum l = some v) : Lib.itoa v = l := by
  rcases snum_cases h with ⟨m, rfl, hm⟩ | ⟨t, m, rfl, h0, rfl, hm⟩
  · rw [Lib.itoa_nonneg]; exact num_digits hm
  · rw [Lib.itoa_neg m h0, num_digits hm]
theorem dec_len {m : Nat} (h : m < 1000000000) : (Lib.decDigits m).length ≤ 9 := by
  have key : ∀ k m : Nat, m < 10 ^ (k + 1) → (Lib.decDigits m).length ≤ k + 1 := by
    intro k
    induction k with
    | zero => intro m h; rw [Lib.decDigits_one (by omega)]; simp
    | succ k ih =>
      intro m h
      by_cases h10 : m < 10
      · rw [Lib.decDigits_one h10]; simp
      · rw [Lib.decDigits, dif_neg h10, List.length_append]
        have := ih (m / 10) (by rw [Nat.pow_succ] at h; omega)
        simp; omega
  exact key 8 m (by omega)
theorem dec_head (m : Nat) : (Lib.decDigits m).head? ≠ some 45 := by
  intro h
  have hl := (dec_of m).1
  cases hd : Lib.decDigits m with
  | nil => rw [hd] at h; cases h
  | cons x r =>
    rw [hd] at h hl
    simp only [List.head?_cons, Option.some.injEq] at h
    subst h
    unfold Lib.decFrom at hl
    have : Lib.digitVal 45 = none := by decide
    rw [this] at hl
    cases hl
/-- What is written reads back. -/
theorem itoa_snum {v : Int} (h : -1000000000 < v ∧ v < 1000000000) : snum (Lib.itoa v) = some v := by
  by_cases h0 : 0 ≤ v
  · obtain ⟨m, rfl⟩ := Int.eq_ofNat_of_zero_le h0
    rw [Lib.itoa_nonneg, snum_plain (dec_head m), num_dec (dec_len (by omega))]; rfl
  · obtain ⟨m, rfl⟩ : ∃ m : Nat, v = -(m : Int) := ⟨v.natAbs, by omega⟩
    obtain ⟨k, rfl⟩ : ∃ k, m = k + 1 := ⟨m - 1, by omega⟩
    rw [Lib.itoa_neg (k + 1) (by omega), snum_minus, num_dec (dec_len (by omega))]
theorem atoi_snum {l : List UInt8} {v : Int} (h : snum l = some v) : Lib.atoiAll l = .ok v := by
  rcases snum_cases h with ⟨m, rfl, hm⟩ | ⟨t, m, rfl, h0, rfl, hm⟩
  · exact atoi_num hm
  · obtain ⟨h1, h2, h3⟩ := num_some hm
    have hl := num_lt hm
    have hp := parse_dec t 0 m h1 hl
    have hmag : Lib.parseMag t = .ok m := by unfold Lib.parseMag; rw [if_neg (by simpa using h2.1)]; exact hp
    unfold Lib.atoiAll
    simp only
    rw [if_pos (by decide), hmag]
    simp only
    rw [if_neg (by intro q; exact q.1 (by decide)), if_neg (by intro q; omega), if_pos (by decide)]
theorem trim_no {l : List UInt8} (h : l.head? ≠ some 45) : Lib.trimPrefix l [45] = l := by
  unfold Lib.trimPrefix
  rw [if_neg]
  unfold Lib.hasPrefix
  cases l with
  | nil => simp
  | cons x r => simp at h ⊢; exact fun e => h e.symm
theorem trim_yes (t : List UInt8) : Lib.trimPrefix (45 :: t) [45] = t := by
  unfold Lib.trimPrefix
  rw [if_pos (by unfold Lib.hasPrefix; simp)]; rfl
/-- What the program asks of what Atoi gives. -/
theorem atoi_sback {l : List UInt8} {v : Int} (h : Lib.itoa v = l) (h9 : (Lib.trimPrefix l [45]).length ≤ 9) : snum l = some v := by
  subst h
  by_cases h0 : 0 ≤ v
  · obtain ⟨m, rfl⟩ := Int.eq_ofNat_of_zero_le h0
    rw [Lib.itoa_nonneg] at h9 ⊢
    rw [trim_no (dec_head m)] at h9
    rw [snum_plain (dec_head m), num_dec h9]; rfl
  · obtain ⟨m, rfl⟩ : ∃ m : Nat, v = -(m : Int) := ⟨v.natAbs, by omega⟩
    obtain ⟨k, rfl⟩ : ∃ k, m = k + 1 := ⟨m - 1, by omega⟩
    rw [Lib.itoa_neg (k + 1) (by omega)] at h9 ⊢
    rw [trim_yes] at h9
    rw [snum_minus, num_dec h9]
theorem snum_trim {l : List UInt8} {v : Int} (h : snum l = some v) : (Lib.trimPrefix l [45]).length ≤ 9 := by
  rcases snum_cases h with ⟨m, rfl, hm⟩ | ⟨t, m, rfl, h0, rfl, hm⟩
  · have hd := num_digits hm
    have hh := dec_head m
    rw [hd] at hh
    rw [trim_no hh]
    exact (num_some hm).2.2
  · rw [trim_yes]
    exact (num_some hm).2.2
end Go.Proofs.YtpcmflfinlkeiaaGreatDoor
