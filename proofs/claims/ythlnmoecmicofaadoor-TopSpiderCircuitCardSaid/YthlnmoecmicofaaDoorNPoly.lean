/- Plain mathematics of polynomials: lists of coefficients without last zeros. No program in sight. -/
import Derived.Test.YthlnmoecmicofaaDoorNPass
namespace Go.Proofs.YthlnmoecmicofaaDoor
open Go.RowKit
set_option maxRecDepth 100000

/-- The coefficient at a place. -/
def co (l : List Int) (k : Nat) : Int := (l[k]?).getD 0
/-- Without last zeros. -/
def trim : List Int → List Int
  | [] => []
  | a :: l => if a = 0 ∧ trim l = [] then [] else a :: trim l
theorem co_nil (k : Nat) : co [] k = 0 := by simp [co]
theorem co_cons_zero (a : Int) (l : List Int) : co (a :: l) 0 = a := by simp [co]
theorem co_cons_succ (a : Int) (l : List Int) (k : Nat) : co (a :: l) (k + 1) = co l k := by simp [co]
theorem co_trim (l : List Int) : ∀ k, co (trim l) k = co l k := by
  induction l with
  | nil => intro k; rfl
  | cons a l ih =>
    intro k
    unfold trim
    split
    · rename_i h
      rw [co_nil]
      cases k with
      | zero => rw [co_cons_zero]; exact h.1.symm
      | succ k => rw [co_cons_succ, ← ih, h.2, co_nil]
    · cases k with
      | zero => rw [co_cons_zero, co_cons_zero]
      | succ k => rw [co_cons_succ, co_cons_succ, ih]
theorem trim_zero {l : List Int} (h : ∀ k, co l k = 0) : trim l = [] := by
  induction l with
  | nil => rfl
  | cons a l ih =>
    unfold trim
    rw [if_pos ⟨h 0, ih fun k => h (k + 1)⟩]
theorem trim_ext : ∀ {l m : List Int}, (∀ k, co l k = co m k) → trim l = trim m := by
  intro l
  induction l with
  | nil => intro m h; rw [trim_zero (l := m) (fun k => by rw [← h, co_nil])]; rfl
  | cons a l ih =>
    intro m h
    cases m with
    | nil => rw [trim_zero (l := a :: l) (fun k => by rw [h, co_nil])]; rfl
    | cons b m =>
      have h0 : a = b := h 0
      have := ih (m := m) (fun k => h (k + 1))
      unfold trim
      rw [h0, this]
theorem trim_trim (l : List Int) : trim (trim l) = trim l := trim_ext (co_trim l)
/-- It has no last zeros. -/
def Trim (l : List Int) : Prop := trim l = l
theorem trim_is (l : List Int) : Trim (trim l) := trim_trim l
theorem Trim.ext {l m : List Int} (hl : Trim l) (hm : Trim m) (h : ∀ k, co l k = co m k) : l = m := by
  rw [← hl, ← hm]; exact trim_ext h
theorem trim_len (l : List Int) : (trim l).length ≤ l.length := by
  induction l with
  | nil => exact Nat.le_refl _
  | cons a l ih => unfold trim; split <;> simp <;> omega
/-- The loop that drops the last zeros. -/
theorem trim_take (l : List Int) (n : Nat) (h : ∀ k, n ≤ k → co l k = 0) : trim (l.take n) = trim l := by
  refine trim_ext fun k => ?_
  unfold co
  rw [List.getElem?_take]
  split
  · rfl
  · have := h k (by omega)
    unfold co at this
    rw [this]; rfl
theorem trim_last {l : List Int} (h : l = [] ∨ co l (l.length - 1) ≠ 0) : Trim l := by
  induction l with
  | nil => rfl
  | cons a l ih =>
    unfold Trim trim
    rcases h with h | h
    · cases h
    · cases l with
      | nil =>
        have : a ≠ 0 := h
        rw [if_neg (fun e => this e.1)]; rfl
      | cons b l =>
        have h2 : co (b :: l) ((b :: l).length - 1) ≠ 0 := by
          simp only [List.length_cons, Nat.add_sub_cancel] at h ⊢
          rwa [co_cons_succ] at h
        have := ih (.inr h2)
        unfold Trim at this
        rw [this]; simp
theorem last_trim {l : List Int} (h : Trim l) : l = [] ∨ co l (l.length - 1) ≠ 0 := by
  rcases Nat.eq_zero_or_pos l.length with h0 | h0
  · exact .inl (List.eq_nil_of_length_eq_zero h0)
  · right
    intro hz
    have h1 : trim (l.take (l.length - 1)) = trim l := trim_take l _ fun k hk => by
      rcases Nat.lt_or_ge k l.length with q | q
      · have : k = l.length - 1 := by omega
        rw [this]; exact hz
      · unfold co; rw [List.getElem?_eq_none q]; rfl
    unfold Trim at h
    rw [h] at h1
    have := trim_len (l.take (l.length - 1))
    rw [h1, List.length_take] at this
    omega

/-! ### Products -/
/-- out with x b added from place i on. -/
def addRow (out : List Int) (i : Nat) (x : Int) (b : List Int) : List Int := out.mapIdx fun j y => if i ≤ j then y + x * co b (j - i) else y
theorem addRow_len (out : List Int) (i : Nat) (x : Int) (b : List Int) : (addRow out i x b).length = out.length := by simp [addRow]
theorem co_addRow {out : List Int} {i : Nat} {x : Int} {b : List Int} {k : Nat} (hk : k < out.length) : co (addRow out i x b) k = co out k + (if i ≤ k then x * co b (k - i) else 0) := by
  have e : (addRow out i x b)[k]? = some (if i ≤ k then out[k] + x * co b (k - i) else out[k]) := by
    unfold addRow; rw [List.getElem?_mapIdx, List.getElem?_eq_getElem hk]; rfl
  have e2 : co out k = out[k] := by unfold co; rw [List.getElem?_eq_getElem hk]; rfl
  rw [e2]
  show ((addRow out i x b)[k]?).getD 0 = _
  rw [e, Option.getD_some]
  split <;> omega
/-- The sum of all x[i] b[k - i] for the first places i. -/
def cv (a b : List Int) (k : Nat) : Nat → Int
  | 0 => 0
  | n + 1 => cv a b k n + (if n ≤ k then co a n * co b (k - n) else 0)
/-- out with a b added, by the first n rows. -/
def addRows (out a b : List Int) : Nat → List Int
  | 0 => out
  | n + 1 => addRow (addRows out a b n) n (co a n) b
theorem addRows_len (out a b : List Int) (n : Nat) : (addRows out a b n).length = out.length := by
  induction n with
  | zero => rfl
  | succ n ih => show (addRow _ _ _ _).length = _; rw [addRow_len, ih]
theorem co_addRows {out a b : List Int} {n k : Nat} (hk : k < out.length) : co (addRows out a b n) k = co out k + cv a b k n := by
  induction n with
  | zero => simp [addRows, cv]
  | succ n ih =>
    show co (addRow _ _ _ _) k = _
    rw [co_addRow (by rw [addRows_len]; exact hk), ih, cv]
    omega
theorem cv_stop (a b : List Int) (k : Nat) {n m : Nat} (h : a.length ≤ n) (hm : n ≤ m) : cv a b k m = cv a b k n := by
  induction m with
  | zero => have : n = 0 := by omega
            rw [this]
  | succ m ih =>
    rcases Nat.lt_or_ge n (m + 1) with q | q
    · rw [cv, ih (by omega)]
      have : co a m = 0 := by unfold co; rw [List.getElem?_eq_none (by omega)]; rfl
      rw [this]; simp
    · have : n = m + 1 := by omega
      rw [this]
theorem cv_top (a b : List Int) (k : Nat) {n : Nat} (h : k + 1 ≤ n) : cv a b k n = cv a b k (k + 1) := by
  induction n with
  | zero => omega
  | succ n ih =>
    rcases Nat.lt_or_ge k n with q | q
    · rw [cv, ih (by omega), if_neg (by omega)]; simp
    · have : n = k := by omega
      rw [this]
/-- The coefficient of a product. -/
def pc (a b : List Int) (k : Nat) : Int := cv a b k (k + 1)
theorem cv_all {a b : List Int} {k : Nat} : cv a b k a.length = pc a b k := by
  unfold pc
  rcases Nat.lt_or_ge k a.length with q | q
  · exact cv_top a b k (by omega)
  · exact (cv_stop a b k (Nat.le_refl _) (by omega)).symm
theorem pc_far {a b : List Int} {k : Nat} (h : a.length + b.length ≤ k) : pc a b k = 0 := by
  have key : ∀ n, n ≤ a.length → cv a b k n = 0 := by
    intro n
    induction n with
    | zero => intro _; rfl
    | succ n ih =>
      intro hn
      rw [cv, ih (by omega)]
      have : co b (k - n) = 0 := by unfold co; rw [List.getElem?_eq_none (by omega)]; rfl
      rw [this]; simp
  rw [← cv_all]; exact key _ (Nat.le_refl _)
/-- p with a b added, without last zeros: of the program. -/
def padd (p a b : List Int) : List Int := trim (addRows (p ++ List.replicate (max p.length (a.length + b.length) - p.length) 0) a b a.length)
theorem co_pad (p : List Int) (n k : Nat) : co (p ++ List.replicate n 0) k = co p k := by
  unfold co
  rw [List.getElem?_append]
  split
  · rfl
  · rw [List.getElem?_replicate, List.getElem?_eq_none (l := p) (by omega)]
    split <;> rfl
theorem co_padd (p a b : List Int) (k : Nat) : co (padd p a b) k = co p k + pc a b k := by
  unfold padd
  rw [co_trim]
  rcases Nat.lt_or_ge k (max p.length (a.length + b.length)) with q | q
  · rw [co_addRows (by rw [List.length_append, List.length_replicate]; omega), co_pad, cv_all]
  · have e1 : co (addRows (p ++ List.replicate (max p.length (a.length + b.length) - p.length) 0) a b a.length) k = 0 := by
      unfold co; rw [List.getElem?_eq_none (by rw [addRows_len, List.length_append, List.length_replicate]; omega)]; rfl
    rw [e1, pc_far (by omega)]
    have : co p k = 0 := by unfold co; rw [List.getElem?_eq_none (by omega)]; rfl
    omega
theorem padd_trim (p a b : List Int) : Trim (padd p a b) := trim_is _
theorem pc_nil (b : List Int) (k : Nat) : pc [] b k = 0 := by
  have := cv_all (a := []) (b := b) (k := k)
  rw [← this]; rfl
theorem pc_nil_right (a : List Int) (k : Nat) : pc a [] k = 0 := by
  have key : ∀ n, cv a [] k n = 0 := by
    intro n
    induction n with
    | zero => rfl
    | succ n ih => rw [cv, ih, co_nil]; simp
  exact key _
theorem pc_one_right (a : List Int) (k : Nat) : pc a [1] k = co a k := by
  unfold pc
  rw [cv]
  have key : ∀ n, n ≤ k → cv a [1] k n = 0 := by
    intro n
    induction n with
    | zero => intro _; rfl
    | succ n ih =>
      intro hn
      rw [cv, ih (by omega), if_pos (by omega)]
      obtain ⟨j, hj⟩ : ∃ j, k - n = j + 1 := ⟨k - n - 1, by omega⟩
      rw [hj, co_cons_succ, co_nil]; simp
  rw [key k (Nat.le_refl _), if_pos (Nat.le_refl _), Nat.sub_self, co_cons_zero]
  omega
/-! ### The polynomials of the reference -/
def rplus (a b : List Int) : List Int := trim (List.ofFn (n := max a.length b.length) fun i => co a i + co b i)
def rtimes (a b : List Int) : List Int := padd [] a b
theorem co_ofFn (n : Nat) (f : Nat → Int) (k : Nat) : co (List.ofFn (n := n) fun i => f i) k = if k < n then f k else 0 := by
  unfold co
  rw [List.getElem?_ofFn]
  split <;> rfl
theorem co_rplus (a b : List Int) (k : Nat) : co (rplus a b) k = co a k + co b k := by
  unfold rplus
  rw [co_trim, co_ofFn (max a.length b.length) (fun i => co a i + co b i)]
  split
  · rfl
  · have h1 : co a k = 0 := by unfold co; rw [List.getElem?_eq_none (by omega)]; rfl
    have h2 : co b k = 0 := by unfold co; rw [List.getElem?_eq_none (by omega)]; rfl
    omega
theorem co_rtimes (a b : List Int) (k : Nat) : co (rtimes a b) k = pc a b k := by unfold rtimes; rw [co_padd, co_nil]; omega
/-- Polynomials of a matrix. -/
structure PM where
  a : List Int
  b : List Int
  c : List Int
  d : List Int
theorem PM.ext' {x y : PM} (h1 : x.a = y.a) (h2 : x.b = y.b) (h3 : x.c = y.c) (h4 : x.d = y.d) : x = y := by cases x; cases y; simp_all
def PM.id : PM := ⟨[1], [], [], [1]⟩
def El.pv (x : El) : List Int := trim [x.a, x.b]
/-- The polynomials of an element: 0, 1 or its value. -/
def El.pm (x : El) : PM := if x.kind = kSeries then ⟨[1], x.pv, [], [1]⟩ else if x.kind = kShunt then ⟨[1], [], x.pv, [1]⟩ else if x.kind = kBlock then ⟨x.pv, [1], [], x.pv⟩ else ⟨x.pv, [], [1], x.pv⟩
/-- The program's step. -/
def PM.mul (m e : PM) : PM := ⟨padd (padd [] m.a e.a) m.b e.c, padd (padd [] m.a e.b) m.b e.d, padd (padd [] m.c e.a) m.d e.c, padd (padd [] m.c e.b) m.d e.d⟩
/-- The reference's step. -/
def PM.step (m : PM) (x : El) : PM :=
  if x.kind = kSeries then ⟨m.a, rplus (rtimes m.a x.pv) m.b, m.c, rplus (rtimes m.c x.pv) m.d⟩
  else if x.kind = kShunt then ⟨rplus m.a (rtimes m.b x.pv), m.b, rplus m.c (rtimes m.d x.pv), m.d⟩
  else if x.kind = kBlock then ⟨rtimes m.a x.pv, rplus m.a (rtimes m.b x.pv), rtimes m.c x.pv, rplus m.c (rtimes m.d x.pv)⟩
  else ⟨rplus (rtimes m.a x.pv) m.b, rtimes m.b x.pv, rplus (rtimes m.c x.pv) m.d, rtimes m.d x.pv⟩
structure PM.T (m : PM) : Prop where
  a : Trim m.a
  b : Trim m.b
  c : Trim m.c
  d : Trim m.d
theorem PM.mul_t (m e : PM) : (m.mul e).T := ⟨padd_trim _ _ _, padd_trim _ _ _, padd_trim _ _ _, padd_trim _ _ _⟩
theorem PM.id_t : PM.id.T := ⟨rfl, rfl, rfl, rfl⟩
theorem step_mul {m : PM} (h : m.T) (x : El) : m.step x = m.mul x.pm := by
  have key : ∀ (u p q e f : List Int), Trim u → (∀ k, co u k = pc p e k + pc q f k) → u = padd (padd [] p e) q f := fun u p q e f hu hk =>
    hu.ext (padd_trim _ _ _) fun k => by rw [co_padd, co_padd, co_nil, hk]; omega
  unfold PM.step El.pm PM.mul
  repeat' split
  all_goals
    apply PM.ext'
    all_goals
      refine key _ _ _ _ _ (by first | exact h.a | exact h.b | exact h.c | exact h.d | exact trim_is _) fun k => ?_
      simp only [co_rplus, co_rtimes, pc_nil_right, pc_one_right]
      try omega
/-- The polynomials of a ladder, behind some. -/
def pch (m : PM) (l : List El) : PM := l.foldl (fun m x => m.mul x.pm) m
def pdv (d : List Int) (l : List El) : List Int := l.foldl (fun d x => if x.divides then padd [] d x.pv else d) d
end Go.Proofs.YthlnmoecmicofaaDoor
