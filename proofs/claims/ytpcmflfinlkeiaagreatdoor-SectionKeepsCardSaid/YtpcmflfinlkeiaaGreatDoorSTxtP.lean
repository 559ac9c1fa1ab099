/- Plain: the text of sections: what a parser of it gives; it reads back; packed numbers. No program in sight. -/
import Derived.Test.YtpcmflfinlkeiaaGreatDoorNSnum
import Derived.Lib.Join
import Derived.Test.YtpcmflfinlkeiaaGreatDoorSecs
namespace Go.Proofs.YtpcmflfinlkeiaaGreatDoor
open Go Go.RowKit
set_option maxRecDepth 100000
/-! ### Texts between a byte -/
theorem join_spl (c : UInt8) : ∀ l : List UInt8, Lib.join (spl c l) [c] = l := by
  intro l
  induction l with
  | nil => simp [spl, Lib.join_one]
  | cons x l ih =>
    obtain ⟨h, t, e⟩ := spl_cons c l
    rw [e, Lib.join_cons] at ih
    by_cases hx : x = c
    · subst hx
      rw [spl_hit, e, Lib.join_cons]
      have : Lib.joinTail [x] (h :: t) = [x] ++ h ++ Lib.joinTail [x] t := by simp [Lib.joinTail]
      rw [this, List.nil_append, List.append_assoc, ih]; rfl
    · rw [spl_miss hx e, Lib.join_cons, List.cons_append, ih]
theorem spl_none {c : UInt8} : ∀ {a : List UInt8}, c ∉ a → spl c a = [a] := by
  intro a
  induction a with
  | nil => intro _; rfl
  | cons x a ih =>
    intro h
    rw [List.mem_cons, not_or] at h
    exact spl_miss (fun e => h.1 e.symm) (ih h.2)
theorem spl_part {c : UInt8} (l : List UInt8) : ∀ {a : List UInt8}, c ∉ a → spl c (a ++ c :: l) = a :: spl c l := by
  intro a
  induction a with
  | nil => intro _; exact spl_hit c l
  | cons x a ih =>
    intro h
    rw [List.mem_cons, not_or] at h
    rw [List.cons_append]
    exact spl_miss (fun e => h.1 e.symm) (ih h.2)
theorem decFrom_dig : ∀ (l : List UInt8) (a m : Nat), Lib.decFrom a l = some m → ∀ x ∈ l, 48 ≤ x.toNat ∧ x.toNat ≤ 57 := by
  intro l
  induction l with
  | nil => intro a m _ x hx; simp at hx
  | cons y l ih =>
    intro a m h x hx
    unfold Lib.decFrom at h
    cases hy : Lib.digitVal y with
    | none => rw [hy] at h; cases h
    | some d =>
      rw [hy] at h
      rcases List.mem_cons.1 hx with rfl | hx
      · obtain ⟨h1, h2, _⟩ := dig_of hy
        omega
      · exact ih _ _ h x hx
theorem dec_no {m : Nat} {c : UInt8} (hc : c.toNat < 48 ∨ 57 < c.toNat) : c ∉ Lib.decDigits m := fun h => by
  have := decFrom_dig _ _ _ (dec_of m).1 c h
  omega
theorem itoa_no {n : Int} {c : UInt8} (hc : c.toNat < 45) : c ∉ Lib.itoa n := by
  by_cases h0 : 0 ≤ n
  · obtain ⟨m, rfl⟩ := Int.eq_ofNat_of_zero_le h0
    rw [Lib.itoa_nonneg]
    exact dec_no (.inl (by omega))
  · obtain ⟨m, rfl⟩ : ∃ m : Nat, n = -(m : Int) := ⟨n.natAbs, by omega⟩
    rw [Lib.itoa_neg m (by omega)]
    rw [List.mem_cons, not_or]
    refine ⟨fun e => ?_, dec_no (.inl (by omega))⟩
    subst e
    exact absurd hc (by decide)
/-! ### Lines -/
/-- The line of a section. -/
def lineOf (s : Sec) : List UInt8 := Lib.join ([s.b0, s.b1, s.b2, s.a1, s.a2, s.sh].map Lib.itoa) [32]
/-- Six numbers. -/
def nums : List (List UInt8) → Option (List Int)
  | [] => some []
  | w :: t => match snum w, nums t with
    | some x, some l => some (x :: l)
    | _, _ => none
/-- The section of six numbers. -/
def secOf : List Int → Option Sec
  | [a, b, c, d, e, f] => some ⟨a, b, c, d, e, f⟩
  | _ => none
/-- The section of a line. -/
def pline (l : List UInt8) : Option Sec := (nums (spl 32 l)).bind secOf
/-- What the lines that are left give, behind the sections that are read: sections, the index of a wrong line, an error. -/
def pgo (acc : List Sec) : List (List UInt8) → List Sec × Int × Int
  | [] => ([], (acc.length : Int), 26)
  | w :: r => match r with
    | [] => if w = [] then (if secErr acc = 0 then (acc, 0, 0) else ([], (acc.length : Int), secErr acc)) else ([], (acc.length : Int), 26)
    | _ :: _ => match pline w with
      | some s => pgo (acc ++ [s]) r
      | none => ([], (acc.length : Int), 26)
/-- The sections of a text. -/
def parS (s : List UInt8) : List Sec × Int × Int := if 4096 < s.length then ([], 0, 27) else pgo [] (spl 10 s)
theorem pgo_last (acc : List Sec) {w : List UInt8} (h : w ≠ []) : pgo acc [w] = ([], (acc.length : Int), 26) := by simp [pgo, h]
theorem pgo_end (acc : List Sec) : pgo acc [[]] = if secErr acc = 0 then (acc, 0, 0) else ([], (acc.length : Int), secErr acc) := by simp [pgo]
theorem pgo_bad (acc : List Sec) {w : List UInt8} {r : List (List UInt8)} (hr : r ≠ []) (h : pline w = none) : pgo acc (w :: r) = ([], (acc.length : Int), 26) := by
  cases r with
  | nil => exact absurd rfl hr
  | cons a r => simp [pgo, h]
theorem pgo_good (acc : List Sec) {w : List UInt8} {r : List (List UInt8)} {s : Sec} (hr : r ≠ []) (h : pline w = some s) : pgo acc (w :: r) = pgo (acc ++ [s]) r := by
  cases r with
  | nil => exact absurd rfl hr
  | cons a r => simp [pgo, h]
theorem nums_len : ∀ {ws : List (List UInt8)} {l : List Int}, nums ws = some l → l.length = ws.length := by
  intro ws
  induction ws with
  | nil => intro l h; simp [nums] at h; subst h; rfl
  | cons w t ih =>
    intro l h
    unfold nums at h
    split at h
    · rename_i h1 h2
      cases h
      simp [ih h2]
    · cases h
theorem nums_all : ∀ {ws : List (List UInt8)} {l : List Int}, ws.map snum = l.map some → nums ws = some l := by
  intro ws
  induction ws with
  | nil => intro l h; cases l <;> simp_all [nums]
  | cons w t ih =>
    intro l h
    cases l with
    | nil => simp at h
    | cons x l =>
      simp only [List.map_cons, List.cons.injEq] at h
      unfold nums
      rw [h.1, ih h.2]
theorem nums_of : ∀ {ws : List (List UInt8)} {l : List Int}, nums ws = some l → ws.map snum = l.map some := by
  intro ws
  induction ws with
  | nil => intro l h; simp [nums] at h; subst h; rfl
  | cons w t ih =>
    intro l h
    unfold nums at h
    split at h
    · rename_i h1 h2
      cases h
      simp [h1, ih h2]
    · cases h
theorem nums_none : ∀ {ws : List (List UInt8)} {k : Nat} {w : List UInt8}, ws[k]? = some w → snum w = none → nums ws = none := by
  intro ws
  induction ws with
  | nil => intro k w h; simp at h
  | cons v t ih =>
    intro k w h hw
    unfold nums
    cases k with
    | zero => simp at h; subst h; rw [hw]
    | succ k =>
      rw [ih (by simpa using h) hw]
      cases snum v <;> rfl
theorem spl_line (s : Sec) : spl 32 (lineOf s) = [Lib.itoa s.b0, Lib.itoa s.b1, Lib.itoa s.b2, Lib.itoa s.a1, Lib.itoa s.a2, Lib.itoa s.sh] := by
  have e : lineOf s = Lib.itoa s.b0 ++ 32 :: (Lib.itoa s.b1 ++ 32 :: (Lib.itoa s.b2 ++ 32 :: (Lib.itoa s.a1 ++ 32 :: (Lib.itoa s.a2 ++ 32 :: Lib.itoa s.sh)))) := by
    simp [lineOf, Lib.join_cons, Lib.joinTail]
  have hc : (32 : UInt8).toNat < 45 := by decide
  rw [e, spl_part _ (itoa_no hc), spl_part _ (itoa_no hc), spl_part _ (itoa_no hc), spl_part _ (itoa_no hc), spl_part _ (itoa_no hc), spl_none (itoa_no hc)]
theorem pline_line {s : Sec} (h : s.Ok) : pline (lineOf s) = some s := by
  unfold pline
  rw [spl_line]
  have := h.b0l; have := h.b0h; have := h.b1l; have := h.b1h; have := h.b2l; have := h.b2h; have := h.a1l; have := h.a1h; have := h.a2l; have := h.a2h; have := h.shl; have := h.shh
  have e : nums [Lib.itoa s.b0, Lib.itoa s.b1, Lib.itoa s.b2, Lib.itoa s.a1, Lib.itoa s.a2, Lib.itoa s.sh] = some [s.b0, s.b1, s.b2, s.a1, s.a2, s.sh] := by
    refine nums_all ?_
    simp only [List.map_cons, List.map_nil]
    rw [itoa_snum (v := s.b0) (by omega), itoa_snum (v := s.b1) (by omega), itoa_snum (v := s.b2) (by omega), itoa_snum (v := s.a1) (by omega), itoa_snum (v := s.a2) (by omega), itoa_snum (v := s.sh) (by omega)]
  rw [e]
  rfl
theorem secOf_some {l : List Int} {s : Sec} (h : secOf l = some s) : l = [s.b0, s.b1, s.b2, s.a1, s.a2, s.sh] := by
  unfold secOf at h
  split at h
  · cases h; rfl
  · cases h
theorem secOf_none {l : List Int} (h : l.length ≠ 6) : secOf l = none := by
  unfold secOf
  split
  · exact absurd rfl h
  · rfl
theorem nums_itoa : ∀ {ws : List (List UInt8)} {l : List Int}, nums ws = some l → ws = l.map Lib.itoa := by
  intro ws
  induction ws with
  | nil => intro l h; simp [nums] at h; subst h; rfl
  | cons w t ih =>
    intro l h
    unfold nums at h
    split at h
    · rename_i h1 h2
      cases h
      rw [List.map_cons, ← ih h2, snum_itoa h1]
    · cases h
theorem pline_some {w : List UInt8} {s : Sec} (h : pline w = some s) : w = lineOf s := by
  unfold pline at h
  obtain ⟨l, h1, h2⟩ := Option.bind_eq_some_iff.1 h
  have hl := secOf_some h2
  subst hl
  have := nums_itoa h1
  rw [← join_spl 32 w, this]; rfl
theorem line_no (s : Sec) : (10 : UInt8) ∉ lineOf s := by
  have e : lineOf s = Lib.itoa s.b0 ++ 32 :: (Lib.itoa s.b1 ++ 32 :: (Lib.itoa s.b2 ++ 32 :: (Lib.itoa s.a1 ++ 32 :: (Lib.itoa s.a2 ++ 32 :: Lib.itoa s.sh)))) := by
    simp [lineOf, Lib.join_cons, Lib.joinTail]
  have hc : (10 : UInt8).toNat < 45 := by decide
  rw [e]
  simp only [List.mem_append, List.mem_cons, not_or]
  exact ⟨itoa_no hc, by decide, itoa_no hc, by decide, itoa_no hc, by decide, itoa_no hc, by decide, itoa_no hc, by decide, itoa_no hc⟩
/-- The text of sections. -/
def txtS (l : List Sec) : List UInt8 := l.flatMap fun s => lineOf s ++ [10]
theorem txtS_cons (s : Sec) (l : List Sec) : txtS (s :: l) = lineOf s ++ 10 :: txtS l := by simp [txtS]
theorem spl_txt (l : List Sec) (t : List UInt8) : spl 10 (txtS l ++ t) = l.map lineOf ++ spl 10 t := by
  induction l with
  | nil => rfl
  | cons s l ih => rw [txtS_cons, List.append_assoc, List.cons_append, spl_part _ (line_no s), ih]; rfl
theorem pgo_lines {l : List Sec} (h : ∀ s ∈ l, s.Ok) (acc : List Sec) {r : List (List UInt8)} (hr : r ≠ []) : pgo acc (l.map lineOf ++ r) = pgo (acc ++ l) r := by
  induction l generalizing acc with
  | nil => rw [List.append_nil]; rfl
  | cons s l ih =>
    rw [List.map_cons, List.cons_append, pgo_good acc (by simp [hr]) (pline_line (h s (by simp))), ih (fun t ht => h t (by simp [ht])), List.append_assoc]; rfl
theorem pgo_back : ∀ {ls : List (List UInt8)} {acc : List Sec}, (pgo acc ls).2.2 = 0 → ∃ r, (pgo acc ls).1 = acc ++ r ∧ ls = r.map lineOf ++ [[]] ∧ secErr (acc ++ r) = 0 := by
  intro ls
  induction ls with
  | nil => intro acc h; simp [pgo] at h
  | cons w r ih =>
    intro acc h
    cases r with
    | nil =>
      by_cases hw : w = []
      · subst hw
        rw [pgo_end] at h ⊢
        by_cases h0 : secErr acc = 0
        · rw [if_pos h0]
          exact ⟨[], by simp, by simp, by simpa using h0⟩
        · rw [if_neg h0] at h
          exact absurd h h0
      · rw [pgo_last acc hw] at h
        cases h
    | cons v r =>
      cases hp : pline w with
      | none => rw [pgo_bad acc (by simp) hp] at h; cases h
      | some s =>
        rw [pgo_good acc (by simp) hp] at h ⊢
        obtain ⟨q, h1, h2, h3⟩ := ih h
        refine ⟨s :: q, by rw [h1]; simp, by rw [List.map_cons, List.cons_append, ← h2, ← pline_some hp], by simpa using h3⟩
/-- What was read prints back. -/
theorem parS_back {s : List UInt8} (h : (parS s).2.2 = 0) : secErr (parS s).1 = 0 ∧ txtS (parS s).1 = s := by
  unfold parS at h ⊢
  split
  · rename_i h1; rw [if_pos h1] at h; cases h
  · rename_i h1
    rw [if_neg h1] at h
    obtain ⟨r, e1, e2, e3⟩ := pgo_back h
    rw [List.nil_append] at e1 e3
    rw [e1]
    refine ⟨e3, ?_⟩
    have hj := join_spl 10 s
    rw [e2] at hj
    rw [← hj]
    clear hj e2 e1 h e3
    induction r with
    | nil => rfl
    | cons a r ih =>
      rw [txtS_cons, ih]
      cases r with
      | nil => simp [Lib.join_cons, Lib.joinTail]
      | cons b r => simp [Lib.join_cons, Lib.joinTail]
/-- What is printed reads back. -/
theorem parS_txt {l : List Sec} (h : secErr l = 0) (ho : ∀ s ∈ l, s.Ok) (hz : (txtS l).length ≤ 4096) : parS (txtS l) = (l, 0, 0) := by
  unfold parS
  rw [if_neg (by omega)]
  have e := spl_txt l []
  rw [List.append_nil] at e
  rw [e, pgo_lines ho [] (by simp [spl]), show spl 10 [] = [[]] from rfl, pgo_end, List.nil_append, if_pos h]
/-! ### Packed numbers -/
/-- The six numbers of a section. -/
def six (s : Sec) : List Int := [s.b0, s.b1, s.b2, s.a1, s.a2, s.sh]
def pack (l : List Sec) : List Int := l.flatMap six
/-- The sections of packed numbers. -/
def unpk : List Int → List Sec
  | a :: b :: c :: d :: e :: f :: r => ⟨a, b, c, d, e, f⟩ :: unpk r
  | _ => []
theorem pack_len (l : List Sec) : (pack l).length = l.length * 6 := by
  induction l with
  | nil => rfl
  | cons s l ih => simp only [pack, List.flatMap_cons, List.length_append, List.length_cons] at ih ⊢; rw [ih]; simp [six]; omega
theorem unpk_pack (l : List Sec) : unpk (pack l) = l := by
  induction l with
  | nil => rfl
  | cons s l ih =>
    have : pack (s :: l) = s.b0 :: s.b1 :: s.b2 :: s.a1 :: s.a2 :: s.sh :: pack l := by simp [pack, six]
    rw [this, unpk, ih]
/-- What unpacking gives: sections and an error. -/
def upk (xs : List Int) : List Sec × Int := if 48 < xs.length then ([], 5) else if xs.length % 6 ≠ 0 then ([], 2) else if secErr (unpk xs) = 0 then (unpk xs, 0) else ([], secErr (unpk xs))
end Go.Proofs.YtpcmflfinlkeiaaGreatDoor
