/- Plain mathematics: texts: the parts between a byte; the numbers of digits alone. No program in sight. -/
import Derived.Lib.Split
import Derived.Lib.Atoi
import Derived.Lib.AtoiAll
import Derived.Lib.ItoaNum
namespace Go.Proofs.YtpcmflfinlkeiaaGreatDoor
open Go
set_option maxRecDepth 100000
/-- The parts of a text between a byte. -/
def spl (c : UInt8) : List UInt8 → List (List UInt8)
  | [] => [[]]
  | x :: l => if x = c then [] :: spl c l else match spl c l with
    | h :: t => (x :: h) :: t
    | [] => [[x]]
theorem spl_ne (c : UInt8) : ∀ l : List UInt8, spl c l ≠ [] := by
  intro l
  cases l with
  | nil => simp [spl]
  | cons x l =>
    unfold spl
    split
    · simp
    · split <;> simp
theorem spl_hit (c : UInt8) (l : List UInt8) : spl c (c :: l) = [] :: spl c l := by rw [spl, if_pos rfl]
theorem spl_miss {c x : UInt8} (h : ¬ x = c) {l h' : List UInt8} {t : List (List UInt8)} (e : spl c l = h' :: t) : spl c (x :: l) = (x :: h') :: t := by rw [spl, if_neg h, e]
theorem spl_cons (c : UInt8) (l : List UInt8) : ∃ h t, spl c l = h :: t := by
  cases e : spl c l with
  | nil => exact absurd e (spl_ne c l)
  | cons h t => exact ⟨h, t, rfl⟩
theorem spl_len (c : UInt8) : ∀ l : List UInt8, (spl c l).length ≤ l.length + 1 := by
  intro l
  induction l with
  | nil => simp [spl]
  | cons x l ih =>
    by_cases h : x = c
    · subst h; rw [spl_hit]; simp; omega
    · obtain ⟨h0, t0, e0⟩ := spl_cons c l
      rw [spl_miss h e0]
      rw [e0] at ih
      simp at ih ⊢; omega
theorem spl_mem (c : UInt8) : ∀ l p : List UInt8, p ∈ spl c l → p.length ≤ l.length := by
  intro l
  induction l with
  | nil => intro p h; simp [spl] at h; subst h; simp
  | cons x l ih =>
    intro p hp
    by_cases h : x = c
    · subst h; rw [spl_hit] at hp
      rcases List.mem_cons.1 hp with rfl | hp
      · simp
      · have := ih p hp; simp; omega
    · obtain ⟨h0, t0, e0⟩ := spl_cons c l
      rw [spl_miss h e0] at hp
      rw [e0] at ih
      rcases List.mem_cons.1 hp with rfl | hp
      · have := ih h0 (by simp); simp; omega
      · have := ih p (by simp [hp]); simp; omega
theorem pre_one (c x : UInt8) (l : List UInt8) : ([c] : List UInt8).isPrefixOf (x :: l) = (c == x) := by simp [List.isPrefixOf]
theorem splitK_spl (c : UInt8) : ∀ l : List UInt8, Lib.splitK [c] 0 (Lib.count l [c]) l = spl c l := by
  intro l
  induction l with
  | nil => rfl
  | cons x l ih =>
    by_cases h : x = c
    · subst h
      have hi : Lib.index (x :: l) [x] = ((0 : Nat) : Int) := by unfold Lib.index; rw [pre_one]; simp
      have hc := Lib.count_hit (s := x :: l) (sub := [x]) (by simp) hi
      rw [hc, Nat.add_comm 1, Lib.splitK, hi, spl_hit]
      simpa using ih
    · have hp : ([c] : List UInt8).isPrefixOf (x :: l) = false := by rw [pre_one]; simpa using fun e : c = x => h e.symm
      have hx : Lib.index (x :: l) [c] = if Lib.index l [c] == -1 then -1 else Lib.index l [c] + 1 := by
        conv => lhs; unfold Lib.index
        rw [hp]; rfl
      by_cases hm : Lib.index l [c] = -1
      · have e1 : Lib.index (x :: l) [c] = -1 := by rw [hx, if_pos (by simpa using hm)]
        rw [Lib.count_miss hm] at ih
        rw [Lib.count_miss e1]
        have ih' : spl c l = [l] := ih.symm
        rw [spl_miss h ih']; rfl
      · have hg := Lib.index_ge l [c]
        obtain ⟨i, hi⟩ : ∃ i : Nat, Lib.index l [c] = i := ⟨(Lib.index l [c]).toNat, by omega⟩
        have e1 : Lib.index (x :: l) [c] = ((i + 1 : Nat) : Int) := by rw [hx, if_neg (by simpa using hm), hi]; rfl
        have c1 := Lib.count_hit (s := l) (sub := [c]) (by simp) hi
        have c2 := Lib.count_hit (s := x :: l) (sub := [c]) (by simp) e1
        have d : (x :: l).drop (i + 1 + [c].length) = l.drop (i + [c].length) := rfl
        rw [d] at c2
        rw [c1, Nat.add_comm 1, Lib.splitK, if_neg (by simpa using hm)] at ih
        rw [c2, Nat.add_comm 1, Lib.splitK, if_neg (by rw [e1]; simp; omega), e1, Int.toNat_natCast, d]
        rw [hi, Int.toNat_natCast] at ih
        rw [spl_miss h ih.symm]
        rfl
/-- One byte more at the end. -/
theorem spl_snoc (c x : UInt8) : ∀ (l : List UInt8) (d : List (List UInt8)) (e : List UInt8), spl c l = d ++ [e] → spl c (l ++ [x]) = if x = c then d ++ [e] ++ [[]] else d ++ [e ++ [x]] := by
  intro l
  induction l with
  | nil =>
    intro d e h
    have hd : d = [] ∧ e = [] := by
      cases d with
      | nil => simp [spl] at h; exact ⟨rfl, h⟩
      | cons a d => simp [spl] at h
    obtain ⟨rfl, rfl⟩ := hd
    by_cases hx : x = c
    · subst hx; simp [spl]
    · simp [spl, hx]
  | cons y l ih =>
    intro d e h
    obtain ⟨h0, t0, e0⟩ := spl_cons c l
    by_cases hy : y = c
    · subst hy
      rw [spl_hit] at h
      cases d with
      | nil => simp at h; exact absurd h.2 (spl_ne _ _)
      | cons a d =>
        simp only [List.cons_append, List.cons.injEq] at h
        obtain ⟨rfl, h⟩ := h
        rw [List.cons_append, spl_hit, ih d e h]
        split <;> simp
    · rw [spl_miss hy e0] at h
      rw [List.cons_append]
      cases d with
      | nil =>
        simp only [List.nil_append, List.cons.injEq] at h
        obtain ⟨rfl, rfl⟩ := h
        have := ih [] h0 e0
        by_cases hx : x = c
        · rw [if_pos hx] at this ⊢
          rw [spl_miss hy this]; rfl
        · rw [if_neg hx] at this ⊢
          rw [spl_miss hy this]; rfl
      | cons a d =>
        simp only [List.cons_append, List.cons.injEq] at h
        obtain ⟨rfl, rfl⟩ := h
        have := ih (h0 :: d) e e0
        by_cases hx : x = c
        · rw [if_pos hx] at this ⊢
          rw [spl_miss hy this]; rfl
        · rw [if_neg hx] at this ⊢
          rw [spl_miss hy this]; rfl
/-- The integer of a text of digits alone, at most 9 of them, without leading zeros. -/
def num (l : List UInt8) : Option Nat := if l.length = 0 ∨ 9 < l.length ∨ (1 < l.length ∧ l.head? = some 48) then none else Lib.decFrom 0 l
theorem decFrom_snoc : ∀ (l : List UInt8) (a : Nat) (b : UInt8), Lib.decFrom a (l ++ [b]) = (Lib.decFrom a l).bind fun q => (Lib.digitVal b).map fun d => q * 10 + d := by
  intro l
  induction l with
  | nil =>
    intro a b
    show Lib.decFrom a [b] = _
    unfold Lib.decFrom
    cases Lib.digitVal b <;> rfl
  | cons x l ih =>
    intro a b
    rw [List.cons_append]
    conv => lhs; unfold Lib.decFrom
    conv => rhs; unfold Lib.decFrom
    cases Lib.digitVal x with
    | none => rfl
    | some d => exact ih _ b
theorem dig_of {b : UInt8} {d : Nat} (h : Lib.digitVal b = some d) : d ≤ 9 ∧ b.toNat = 48 + d ∧ UInt8.ofNat (48 + d) = b := by
  unfold Lib.digitVal at h
  split at h
  · cases h
    refine ⟨by omega, by omega, ?_⟩
    rw [show 48 + (b.toNat - 48) = b.toNat by omega]
    exact UInt8.ofNat_toNat
  · cases h
theorem dig_mk {d : Nat} (h : d ≤ 9) : Lib.digitVal (UInt8.ofNat (48 + d)) = some d := by
  have e : (UInt8.ofNat (48 + d)).toNat = 48 + d := by simp; omega
  unfold Lib.digitVal
  rw [e, if_pos (by omega)]
  congr 1; omega
/-- Digits from 0 on, one behind the other: not above 10 to their number. -/
theorem decFrom_lt : ∀ (l : List UInt8) (a m : Nat), Lib.decFrom a l = some m → m < (a + 1) * 10 ^ l.length ∧ a * 10 ^ l.length ≤ m := by
  intro l
  induction l with
  | nil => intro a m h; simp [Lib.decFrom] at h; subst h; simp
  | cons x l ih =>
    intro a m h
    unfold Lib.decFrom at h
    cases hx : Lib.digitVal x with
    | none => rw [hx] at h; cases h
    | some d =>
      rw [hx] at h
      obtain ⟨h1, h2⟩ := ih _ _ h
      obtain ⟨h3, _, _⟩ := dig_of hx
      rw [List.length_cons, Nat.pow_succ]
      have p := Nat.pow_pos (n := l.length) (show 0 < 10 by decide)
      constructor
      · refine Nat.lt_of_lt_of_le h1 ?_
        have : (a * 10 + d + 1) ≤ (a + 1) * 10 := by omega
        calc (a * 10 + d + 1) * 10 ^ l.length ≤ ((a + 1) * 10) * 10 ^ l.length := Nat.mul_le_mul_right _ this
          _ = (a + 1) * (10 ^ l.length * 10) := by grind
      · calc a * (10 ^ l.length * 10) = (a * 10) * 10 ^ l.length := by grind
          _ ≤ (a * 10 + d) * 10 ^ l.length := Nat.mul_le_mul_right _ (by omega)
          _ ≤ m := h2
/-- No leading zero. -/
def Lean0 (l : List UInt8) : Prop := l ≠ [] ∧ (1 < l.length → l.head? ≠ some 48)
theorem head_app {i : List UInt8} (l : List UInt8) (h : i ≠ []) : (i ++ l).head? = i.head? := by
  cases i with
  | nil => exact absurd rfl h
  | cons x i => rfl
theorem snoc_of {l : List UInt8} (h : l ≠ []) : ∃ i b, l = i ++ [b] := ⟨l.dropLast, l.getLast h, (List.dropLast_concat_getLast h).symm⟩
/-- The numeral of a number is the one text without leading zeros that spells it. -/
theorem dec_uni : ∀ (n : Nat) (l : List UInt8) (m : Nat), l.length ≤ n → Lean0 l → Lib.decFrom 0 l = some m → Lib.decDigits m = l := by
  intro n
  induction n with
  | zero =>
    intro l m h hl _
    have : l = [] := by cases l <;> simp_all
    exact absurd this hl.1
  | succ n ih =>
    intro l m h hl hm
    obtain ⟨i, b, rfl⟩ := snoc_of hl.1
    rw [decFrom_snoc] at hm
    cases hi : Lib.decFrom 0 i with
    | none => rw [hi] at hm; cases hm
    | some q =>
      rw [hi] at hm
      simp only [Option.bind_some] at hm
      cases hb : Lib.digitVal b with
      | none => rw [hb] at hm; cases hm
      | some d =>
        rw [hb] at hm
        simp only [Option.map_some, Option.some.injEq] at hm
        obtain ⟨d1, d2, d3⟩ := dig_of hb
        by_cases hz : i = []
        · subst hz
          have : q = 0 := by simp [Lib.decFrom] at hi; exact hi.symm
          subst this
          have : m = d := by omega
          subst this
          rw [Lib.decDigits, dif_pos (by omega), d3]; rfl
        · have hlen : 1 < (i ++ [b]).length := by
            have : i.length ≠ 0 := fun e => hz (List.eq_nil_of_length_eq_zero e)
            rw [List.length_append]; simp; omega
          have hh : i.head? ≠ some 48 := by
            have := hl.2 hlen
            rwa [head_app _ hz] at this
          have hq : 0 < q := by
            cases i with
            | nil => exact absurd rfl hz
            | cons x i =>
              unfold Lib.decFrom at hi
              cases hx : Lib.digitVal x with
              | none => rw [hx] at hi; cases hi
              | some e =>
                rw [hx] at hi
                obtain ⟨e1, e2, e3⟩ := dig_of hx
                have h2 := (decFrom_lt i _ _ hi).2
                have p := Nat.pow_pos (n := i.length) (show 0 < 10 by decide)
                rcases Nat.eq_zero_or_pos e with rfl | he
                · exfalso; apply hh
                  rw [List.head?_cons, ← e3]; rfl
                · have : 1 * 1 ≤ (0 * 10 + e) * 10 ^ i.length := Nat.mul_le_mul (by omega) p
                  omega
          have := ih i q (by rw [List.length_append] at h; simp at h; omega) ⟨hz, fun _ => hh⟩ hi
          rw [Lib.decDigits, dif_neg (by omega), show m / 10 = q by omega, show m % 10 = d by omega, this, d3]
/-- And it spells the number. -/
theorem dec_of : ∀ m : Nat, Lib.decFrom 0 (Lib.decDigits m) = some m ∧ Lean0 (Lib.decDigits m) := by
  intro m
  induction m using Nat.strongRecOn with
  | _ m ih =>
    by_cases h : m < 10
    · rw [Lib.decDigits, dif_pos h]
      refine ⟨?_, by simp, by simp⟩
      unfold Lib.decFrom
      rw [dig_mk (by omega)]
      simp [Lib.decFrom]
    · obtain ⟨h1, h2⟩ := ih (m / 10) (by omega)
      rw [Lib.decDigits, dif_neg h]
      refine ⟨?_, by simp, fun _ => ?_⟩
      · rw [decFrom_snoc, h1, dig_mk (by omega)]
        simp; omega
      · rw [head_app _ h2.1]
        by_cases h3 : 1 < (Lib.decDigits (m / 10)).length
        · exact h2.2 h3
        · have h4 : m / 10 < 10 := by
            rcases Nat.lt_or_ge (m / 10) 10 with q | q
            · exact q
            · exfalso; apply h3
              rw [Lib.decDigits, dif_neg (by omega), List.length_append]
              have : (Lib.decDigits (m / 10 / 10)).length ≠ 0 := fun e => (ih (m / 10 / 10) (by omega)).2.1 (List.eq_nil_of_length_eq_zero e)
              simp; omega
          rw [Lib.decDigits, dif_pos h4, List.head?_cons]
          intro e
          have := congrArg UInt8.toNat (Option.some.inj e)
          simp at this
          omega
theorem num_dec {m : Nat} (h : (Lib.decDigits m).length ≤ 9) : num (Lib.decDigits m) = some m := by
  obtain ⟨h1, h2, h3⟩ := dec_of m
  unfold num
  rw [if_neg, h1]
  rintro (q | q | ⟨q1, q2⟩)
  · exact h2 (List.eq_nil_of_length_eq_zero q)
  · omega
  · exact h3 q1 q2
theorem num_some {l : List UInt8} {m : Nat} (h : num l = some m) : Lib.decFrom 0 l = some m ∧ Lean0 l ∧ l.length ≤ 9 := by
  unfold num at h
  split at h
  · cases h
  · rename_i q
    refine ⟨h, ⟨fun e => q (.inl (by rw [e]; rfl)), fun h1 h2 => q (.inr (.inr ⟨h1, h2⟩))⟩, by omega⟩
theorem num_digits {l : List UInt8} {m : Nat} (h : num l = some m) : Lib.decDigits m = l := by
  obtain ⟨h1, h2, _⟩ := num_some h
  exact dec_uni l.length l m (Nat.le_refl _) h2 h1
theorem num_lt {l : List UInt8} {m : Nat} (h : num l = some m) : m < 1000000000 := by
  obtain ⟨h1, _, h3⟩ := num_some h
  have := (decFrom_lt l 0 m h1).1
  have p : 10 ^ l.length ≤ 10 ^ 9 := Nat.pow_le_pow_right (by decide) h3
  omega
/-! ### The library's Atoi, at what the program takes -/
theorem parse_dec : ∀ (l : List UInt8) (a m : Nat), Lib.decFrom a l = some m → m < 1000000000 → Lib.parseUint10 a l = .ok m := by
  intro l
  induction l with
  | nil => intro a m h _; simp [Lib.decFrom] at h; subst h; rfl
  | cons x l ih =>
    intro a m h hm
    unfold Lib.decFrom at h
    cases hx : Lib.digitVal x with
    | none => rw [hx] at h; cases h
    | some d =>
      rw [hx] at h
      obtain ⟨d1, d2, _⟩ := dig_of hx
      have h2 := (decFrom_lt l _ _ h).2
      have p := Nat.pow_pos (n := l.length) (show 0 < 10 by decide)
      have h3 : (a * 10 + d) * 1 ≤ (a * 10 + d) * 10 ^ l.length := Nat.mul_le_mul_left _ p
      unfold Lib.parseUint10
      rw [if_pos (by omega), if_neg (by omega), if_neg (by omega), show x.toNat - 48 = d by omega]
      exact ih _ _ h hm
theorem atoi_num {l : List UInt8} {m : Nat} (h : num l = some m) : Lib.atoiAll l = .ok (m : Int) := by
  obtain ⟨h1, h2, h3⟩ := num_some h
  have hm := num_lt h
  have hp := parse_dec l 0 m h1 hm
  cases l with
  | nil => exact absurd rfl h2.1
  | cons x l =>
    unfold Lib.decFrom at h1
    cases hx : Lib.digitVal x with
    | none => rw [hx] at h1; cases h1
    | some d =>
      obtain ⟨d1, d2, _⟩ := dig_of hx
      have hmag : Lib.parseMag (x :: l) = .ok m := by unfold Lib.parseMag; rw [if_neg (by simp)]; exact hp
      unfold Lib.atoiAll
      simp only
      rw [if_neg (by omega), hmag]
      simp only
      rw [if_neg (by omega), if_neg (by omega), if_neg (by omega)]
/-- What the program asks of what Atoi gives. -/
theorem atoi_back {l : List UInt8} {v : Int} (h : Lib.itoa v = l) (h0 : 0 ≤ v) (h9 : l.length ≤ 9) : num l = some v.toNat := by
  subst h
  unfold Lib.itoa at h9 ⊢
  rw [if_neg (by omega)] at h9 ⊢
  exact num_dec h9
end Go.Proofs.YtpcmflfinlkeiaaGreatDoor
