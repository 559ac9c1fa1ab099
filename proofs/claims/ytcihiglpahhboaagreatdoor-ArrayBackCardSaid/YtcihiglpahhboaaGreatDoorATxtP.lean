/- Plain: the text of sources: what a parser of it gives; it reads back. No program in sight. -/
import Derived.Test.YtcihiglpahhboaaGreatDoorNSnum
import Derived.Lib.Join
import Derived.Test.YtcihiglpahhboaaGreatDoorPlainA
namespace Go.Proofs.YtcihiglpahhboaaGreatDoor
open Go Go.RowKit
set_option maxRecDepth 100000
/-! ### Texts between a byte -/
theorem join_spl (c : UInt8) : ∀ l : List UInt8, Lib.join (spl c l) [c] = l := by
  intro l
  induction l with
  | nil => simp [spl, Lib.join_one]
  | cons x l ih =>
    obtain ⟨h, t, e⟩ := spl_cons c l
    rw [e, Lib.join_cons] at ih
    by_cases hx : x = c
    · subst hx
      rw [spl_hit, e, Lib.join_cons]
      have : Lib.joinTail [x] (h :: t) = [x] ++ h ++ Lib.joinTail [x] t := by simp [Lib.joinTail]
      rw [this, List.nil_append, List.append_assoc, ih]; rfl
    · rw [spl_miss hx e, Lib.join_cons, List.cons_append, ih]
theorem spl_none {c : UInt8} : ∀ {a : List UInt8}, c ∉ a → spl c a = [a] := by
  intro a
  induction a with
  | nil => intro _; rfl
  | cons x a ih =>
    intro h
    rw [List.mem_cons, not_or] at h
    exact spl_miss (fun e => h.1 e.symm) (ih h.2)
theorem spl_part {c : UInt8} (l : List UInt8) : ∀ {a : List UInt8}, c ∉ a → spl c (a ++ c :: l) = a :: spl c l := by
  intro a
  induction a with
  | nil => intro _; exact spl_hit c l
  | cons x a ih =>
    intro h
    rw [List.mem_cons, not_or] at h
    rw [List.cons_append]
    exact spl_miss (fun e => h.1 e.symm) (ih h.2)
theorem decFrom_dig : ∀ (l : List UInt8) (a m : Nat), Lib.decFrom a l = some m → ∀ x ∈ l, 48 ≤ x.toNat ∧ x.toNat ≤ 57 := by
  intro l
  induction l with
  | nil => intro a m _ x hx; simp at hx
  | cons y l ih =>
    intro a m h x hx
    unfold Lib.decFrom at h
    cases hy : Lib.digitVal y with
    | none => rw [hy] at h; cases h
    | some d =>
      rw [hy] at h
      rcases List.mem_cons.1 hx with rfl | hx
      · obtain ⟨h1, h2, _⟩ := dig_of hy
        omega
      · exact ih _ _ h x hx
theorem dec_no {m : Nat} {c : UInt8} (hc : c.toNat < 48 ∨ 57 < c.toNat) : c ∉ Lib.decDigits m := fun h => by
  have := decFrom_dig _ _ _ (dec_of m).1 c h
  omega
theorem itoa_no {n : Int} {c : UInt8} (hc : c.toNat < 45) : c ∉ Lib.itoa n := by
  by_cases h0 : 0 ≤ n
  · obtain ⟨m, rfl⟩ := Int.eq_ofNat_of_zero_le h0
    rw [Lib.itoa_nonneg]
    exact dec_no (.inl (by omega))
  · obtain ⟨m, rfl⟩ : ∃ m : Nat, n = -(m : Int) := ⟨n.natAbs, by omega⟩
    rw [Lib.itoa_neg m (by omega)]
    rw [List.mem_cons, not_or]
    refine ⟨fun e => ?_, dec_no (.inl (by omega))⟩
    subst e
    exact absurd hc (by decide)
/-! ### Lines -/
def wordS : List UInt8 := [115, 111, 117, 114, 99, 101]
/-- The line of a source. -/
def lineOf (s : Src) : List UInt8 := [115, 111, 117, 114, 99, 101, 32] ++ Lib.join ([s.x, s.y, s.g, s.p].map Lib.itoa) [32]
/-- The source of four words. -/
def pnums : List (List UInt8) → Option Src
  | [a, b, c, d] => match snum a, snum b, snum c, snum d with
    | some x, some y, some g, some p => some ⟨x, y, g, p⟩
    | _, _, _, _ => none
  | _ => none
/-- The source of a line. -/
def pline (l : List UInt8) : Option Src := match spl 32 l with
  | k :: r => if k = wordS then pnums r else none
  | [] => none
/-- What the lines that are left give, behind the sources that are read: sources, the index of a wrong line, an error. -/
def pgo (acc : List Src) : List (List UInt8) → List Src × Int × Int
  | [] => ([], (acc.length : Int), 26)
  | w :: r => match r with
    | [] => if w = [] then (if lstErr acc = 0 then (acc, 0, 0) else ([], (acc.length : Int), lstErr acc)) else ([], (acc.length : Int), 26)
    | _ :: _ => match pline w with
      | some s => pgo (acc ++ [s]) r
      | none => ([], (acc.length : Int), 26)
/-- The sources of a text. -/
def parS (s : List UInt8) : List Src × Int × Int := if 4096 < s.length then ([], 0, 27) else pgo [] (spl 10 s)
theorem pgo_last (acc : List Src) {w : List UInt8} (h : w ≠ []) : pgo acc [w] = ([], (acc.length : Int), 26) := by simp [pgo, h]
theorem pgo_end (acc : List Src) : pgo acc [[]] = if lstErr acc = 0 then (acc, 0, 0) else ([], (acc.length : Int), lstErr acc) := by simp [pgo]
theorem pgo_bad (acc : List Src) {w : List UInt8} {r : List (List UInt8)} (hr : r ≠ []) (h : pline w = none) : pgo acc (w :: r) = ([], (acc.length : Int), 26) := by
  cases r with
  | nil => exact absurd rfl hr
  | cons a r => simp [pgo, h]
theorem pgo_good (acc : List Src) {w : List UInt8} {r : List (List UInt8)} {s : Src} (hr : r ≠ []) (h : pline w = some s) : pgo acc (w :: r) = pgo (acc ++ [s]) r := by
  cases r with
  | nil => exact absurd rfl hr
  | cons a r => simp [pgo, h]
theorem spl_line (s : Src) : spl 32 (lineOf s) = [wordS, Lib.itoa s.x, Lib.itoa s.y, Lib.itoa s.g, Lib.itoa s.p] := by
  have e : lineOf s = wordS ++ 32 :: (Lib.itoa s.x ++ 32 :: (Lib.itoa s.y ++ 32 :: (Lib.itoa s.g ++ 32 :: Lib.itoa s.p))) := by
    simp [lineOf, wordS, Lib.join_cons, Lib.joinTail]
  have hc : (32 : UInt8).toNat < 45 := by decide
  rw [e, spl_part _ (by decide), spl_part _ (itoa_no hc), spl_part _ (itoa_no hc), spl_part _ (itoa_no hc), spl_none (itoa_no hc)]
theorem pline_line {s : Src} (h : s.Ok) : pline (lineOf s) = some s := by
  unfold pline
  rw [spl_line]
  simp only [if_true, pnums]
  have := h.x1; have := h.x2; have := h.y1; have := h.y2; have := h.g1; have := h.g2; have := h.p1; have := h.p2
  rw [itoa_snum (v := s.x) (by omega), itoa_snum (v := s.y) (by omega), itoa_snum (v := s.g) (by omega), itoa_snum (v := s.p) (by omega)]
theorem pnums_some {r : List (List UInt8)} {s : Src} (h : pnums r = some s) : r = [Lib.itoa s.x, Lib.itoa s.y, Lib.itoa s.g, Lib.itoa s.p] := by
  unfold pnums at h
  split at h
  · split at h
    · rename_i h1 h2 h3 h4
      cases h
      rw [snum_itoa h1, snum_itoa h2, snum_itoa h3, snum_itoa h4]
    · cases h
  · cases h
theorem pline_some {w : List UInt8} {s : Src} (h : pline w = some s) : w = lineOf s := by
  unfold pline at h
  split at h
  · rename_i k r e
    split at h
    · rename_i hk
      subst hk
      have hp := pnums_some h
      have hj := join_spl 32 w
      rw [e, hp] at hj
      rw [← hj]
      simp [lineOf, wordS, Lib.join_cons, Lib.joinTail]
    · cases h
  · cases h
theorem line_no (s : Src) : (10 : UInt8) ∉ lineOf s := by
  have e : lineOf s = wordS ++ 32 :: (Lib.itoa s.x ++ 32 :: (Lib.itoa s.y ++ 32 :: (Lib.itoa s.g ++ 32 :: Lib.itoa s.p))) := by
    simp [lineOf, wordS, Lib.join_cons, Lib.joinTail]
  have hc : (10 : UInt8).toNat < 45 := by decide
  rw [e]
  simp only [List.mem_append, List.mem_cons, not_or]
  exact ⟨by decide, by decide, itoa_no hc, by decide, itoa_no hc, by decide, itoa_no hc, by decide, itoa_no hc⟩
theorem line_ne (s : Src) : lineOf s ≠ [] := by simp [lineOf]
/-- The text of sources. -/
def txtS (l : List Src) : List UInt8 := l.flatMap fun s => lineOf s ++ [10]
theorem txtS_cons (s : Src) (l : List Src) : txtS (s :: l) = lineOf s ++ 10 :: txtS l := by simp [txtS]
theorem spl_txt (l : List Src) (t : List UInt8) : spl 10 (txtS l ++ t) = l.map lineOf ++ spl 10 t := by
  induction l with
  | nil => rfl
  | cons s l ih => rw [txtS_cons, List.append_assoc, List.cons_append, spl_part _ (line_no s), ih]; rfl
theorem pgo_lines {l : List Src} (h : ∀ s ∈ l, s.Ok) (acc : List Src) {r : List (List UInt8)} (hr : r ≠ []) : pgo acc (l.map lineOf ++ r) = pgo (acc ++ l) r := by
  induction l generalizing acc with
  | nil => rw [List.append_nil]; rfl
  | cons s l ih =>
    rw [List.map_cons, List.cons_append, pgo_good acc (by simp [hr]) (pline_line (h s (by simp))), ih (fun t ht => h t (by simp [ht])), List.append_assoc]; rfl
theorem pgo_back : ∀ {ls : List (List UInt8)} {acc : List Src}, (pgo acc ls).2.2 = 0 → ∃ r, (pgo acc ls).1 = acc ++ r ∧ ls = r.map lineOf ++ [[]] ∧ lstErr (acc ++ r) = 0 := by
  intro ls
  induction ls with
  | nil => intro acc h; simp [pgo] at h
  | cons w r ih =>
    intro acc h
    cases r with
    | nil =>
      by_cases hw : w = []
      · subst hw
        rw [pgo_end] at h ⊢
        by_cases h0 : lstErr acc = 0
        · rw [if_pos h0]
          exact ⟨[], by simp, by simp, by simpa using h0⟩
        · rw [if_neg h0] at h
          exact absurd h h0
      · rw [pgo_last acc hw] at h
        cases h
    | cons v r =>
      cases hp : pline w with
      | none => rw [pgo_bad acc (by simp) hp] at h; cases h
      | some s =>
        rw [pgo_good acc (by simp) hp] at h ⊢
        obtain ⟨q, h1, h2, h3⟩ := ih h
        refine ⟨s :: q, by rw [h1]; simp, by rw [List.map_cons, List.cons_append, ← h2, ← pline_some hp], by simpa using h3⟩
/-- What was read prints back. -/
theorem parS_back {s : List UInt8} (h : (parS s).2.2 = 0) : lstErr (parS s).1 = 0 ∧ txtS (parS s).1 = s := by
  unfold parS at h ⊢
  split
  · rename_i h1; rw [if_pos h1] at h; cases h
  · rename_i h1
    rw [if_neg h1] at h
    obtain ⟨r, e1, e2, e3⟩ := pgo_back h
    rw [List.nil_append] at e1 e3
    rw [e1]
    refine ⟨e3, ?_⟩
    have hj := join_spl 10 s
    rw [e2] at hj
    rw [← hj]
    clear hj e2 e1 h e3
    induction r with
    | nil => rfl
    | cons a r ih =>
      rw [txtS_cons, ih]
      cases r with
      | nil => simp [Lib.join_cons, Lib.joinTail]
      | cons b r => simp [Lib.join_cons, Lib.joinTail]
/-- What is printed reads back. -/
theorem parS_txt {l : List Src} (h : LOk l) (hz : (txtS l).length ≤ 4096) : parS (txtS l) = (l, 0, 0) := by
  unfold parS
  rw [if_neg (by omega)]
  have e := spl_txt l []
  rw [List.append_nil] at e
  rw [e, pgo_lines h.all [] (by simp [spl]), show spl 10 [] = [[]] from rfl, pgo_end, List.nil_append, if_pos (ok_lst h)]
theorem spl_txt_len (l : List Src) : (spl 10 (txtS l)).length = l.length + 1 := by
  have e := spl_txt l []
  rw [List.append_nil] at e
  rw [e]
  simp [spl]
theorem txtS_snoc (l : List Src) (s : Src) : txtS (l ++ [s]) = txtS l ++ lineOf s ++ [10] := by simp [txtS]
/-- A text without its last byte is not read. -/
theorem parS_cut {l : List Src} (h : LOk l) (hne : l ≠ []) (hz : (txtS l).length ≤ 4096) : parS ((txtS l).take ((txtS l).length - 1)) = ([], (l.length : Int) - 1, 26) := by
  obtain ⟨i, s, rfl⟩ : ∃ i s, l = i ++ [s] := ⟨l.dropLast, l.getLast hne, (List.dropLast_concat_getLast hne).symm⟩
  have hc : (txtS (i ++ [s])).take ((txtS (i ++ [s])).length - 1) = txtS i ++ lineOf s := by
    rw [txtS_snoc, List.length_append, List.length_singleton, Nat.add_sub_cancel, List.take_left]
  rw [hc]
  have hl : (txtS i ++ lineOf s).length ≤ 4096 := by
    rw [txtS_snoc, List.length_append] at hz
    omega
  unfold parS
  rw [if_neg (by omega), spl_txt, pgo_lines (fun t ht => h.all t (by simp [ht])) [] (spl_ne _ _), spl_none (line_no s), pgo_last _ (line_ne s), List.nil_append]
  simp
end Go.Proofs.YtcihiglpahhboaaGreatDoor
