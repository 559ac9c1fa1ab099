/- Plain mathematics of ladders: reversed and dual ladders; powers. No program in sight. -/
import Derived.Test.YthlnmoecmicofaaDoorNMath
namespace Go.Proofs.YthlnmoecmicofaaDoor
open Go.RowKit
set_option maxRecDepth 100000

theorem chn_cons (w : Int) (x : El) (l : List El) : chn w .id (x :: l) = (x.mat (x.val w)).mul (chn w .id l) := by
  show chn w (Mat.id.mul _) l = _
  rw [Mat.id_mul, chn_start]
theorem dvs_mul (w : Int) : ∀ (l : List El) (d e : G), dvs w (d.mul e) l = d.mul (dvs w e l) := by
  intro l
  induction l with
  | nil => intro d e; rfl
  | cons x l ih =>
    intro d e
    show dvs w (if x.divides then (d.mul e).mul (x.val w) else d.mul e) l = d.mul (dvs w (if x.divides then e.mul (x.val w) else e) l)
    rw [← ih]
    split
    · congr 1
      apply G.ext' <;> simp only [G.mul] <;> grind
    · rfl
theorem G.mul_one (d : G) : d.mul .one = d := by apply G.ext' <;> simp [G.mul, G.one]
theorem G.one_mul (d : G) : G.one.mul d = d := by apply G.ext' <;> simp [G.mul, G.one]
theorem G.mul_comm (a b : G) : a.mul b = b.mul a := by apply G.ext' <;> simp only [G.mul] <;> grind
theorem dvs_start (w : Int) (d : G) (l : List El) : dvs w d l = d.mul (dvs w .one l) := by
  have := dvs_mul w l d .one
  rwa [G.mul_one] at this
theorem dvs_cons (w : Int) (x : El) (l : List El) : dvs w .one (x :: l) = if x.divides then (x.val w).mul (dvs w .one l) else dvs w .one l := by
  show dvs w (if x.divides then G.one.mul (x.val w) else G.one) l = _
  split
  · rw [G.one_mul, dvs_start]
  · rfl
theorem dvs_append (w : Int) (l r : List El) : dvs w .one (l ++ r) = (dvs w .one l).mul (dvs w .one r) := by
  show (l ++ r).foldl _ _ = _
  rw [List.foldl_append]
  exact dvs_start w _ r
theorem chn_join (w : Int) (l r : List El) : chn w .id (l ++ r) = (chn w .id l).mul (chn w .id r) := by rw [chn_append, chn_start]
theorem det_chn {w : Int} : ∀ {l : List El}, (∀ x ∈ l, x.known = true) → (chn w .id l).det = (dvs w .one l).mul (dvs w .one l) := by
  intro l
  induction l with
  | nil => intro _; apply G.ext' <;> simp [chn, dvs, Mat.det, Mat.id, G.mul, G.sub, G.one, G.zero]
  | cons x l ih =>
    intro h
    rw [chn_cons, dvs_cons, Mat.det_mul, El.mat_det (h x (by simp)), ih (fun y hy => h y (by simp [hy]))]
    split
    · apply G.ext' <;> simp only [G.mul] <;> grind
    · rw [G.one_mul]

/-! ### Reversed, dual -/
def Mat.rev (m : Mat) : Mat := ⟨m.d, m.b, m.c, m.a⟩
def Mat.dual (m : Mat) : Mat := ⟨m.d, m.c, m.b, m.a⟩
theorem Mat.rev_mul (x y : Mat) : (x.mul y).rev = y.rev.mul x.rev := by
  apply Mat.ext' <;> apply G.ext' <;> simp only [Mat.rev, Mat.mul, G.mul, G.add] <;> grind
theorem Mat.dual_mul (x y : Mat) : (x.mul y).dual = x.dual.mul y.dual := by
  apply Mat.ext' <;> apply G.ext' <;> simp only [Mat.dual, Mat.mul, G.mul, G.add] <;> grind
theorem El.mat_rev (x : El) (v : G) : (x.mat v).rev = x.mat v := by unfold El.mat; repeat' split <;> try rfl
def dualKind (k : ByteArray) : ByteArray := if k = kBlock then kTrap else if k = kSeries then kShunt else if k = kShunt then kSeries else kBlock
def El.dual (x : El) : El := ⟨dualKind x.kind, x.a, x.b⟩
theorem El.kinds {x : El} (h : x.known = true) : x.kind = kBlock ∨ x.kind = kSeries ∨ x.kind = kShunt ∨ x.kind = kTrap := by
  unfold El.known at h; exact of_decide_eq_true h
theorem El.mat_dual {x : El} (h : x.known = true) (v : G) : x.dual.mat v = (x.mat v).dual := by
  have n1 : ¬ kSeries = kBlock := by decide
  have n3 : ¬ kShunt = kBlock := by decide
  have n5 : ¬ kBlock = kSeries := by decide
  have n6 : ¬ kBlock = kShunt := by decide
  have n7 : ¬ kTrap = kSeries := by decide
  have n8 : ¬ kTrap = kShunt := by decide
  have n9 : ¬ kShunt = kSeries := by decide
  have n11 : ¬ kTrap = kBlock := by decide
  unfold El.dual dualKind El.mat
  rcases El.kinds h with h | h | h | h <;> rw [h] <;> simp [n1, n3, n5, n6, n7, n8, n9, n11, Mat.dual]
theorem chn_rev (w : Int) (l : List El) : chn w .id l.reverse = (chn w .id l).rev := by
  induction l with
  | nil => rfl
  | cons x l ih =>
    rw [List.reverse_cons, chn_join, ih, chn_cons w x l, Mat.rev_mul, El.mat_rev, chn_cons w x []]
    exact congrArg _ (Mat.mul_id _)
theorem chn_dual {w : Int} : ∀ {l : List El}, (∀ x ∈ l, x.known = true) → chn w .id (l.map El.dual) = (chn w .id l).dual := by
  intro l
  induction l with
  | nil => intro _; rfl
  | cons x l ih =>
    intro h
    rw [List.map_cons, chn_cons, chn_cons, Mat.dual_mul, ih (fun y hy => h y (by simp [hy])), show x.dual.val w = x.val w from rfl, El.mat_dual (h x (by simp))]

/-! ### Powers -/
/-- The real part of a number times the conjugate of another one. -/
def pw (p q : G) : Int := p.re * q.re + p.im * q.im
theorem pw_conj (p q : G) : (p.mul q.conj).re = pw p q := by simp only [G.mul, G.conj, pw]; grind
/-- What a matrix makes of a column. -/
def Mat.ap (m : Mat) (p q : G) : G × G := ((m.a.mul p).add (m.b.mul q), (m.c.mul p).add (m.d.mul q))
theorem Mat.ap_mul (x y : Mat) (p q : G) : (x.mul y).ap p q = x.ap (y.ap p q).1 (y.ap p q).2 := by
  unfold Mat.ap
  refine Prod.ext ?_ ?_ <;> apply G.ext' <;> simp only [Mat.mul, G.mul, G.add] <;> grind
/-- The power that an element takes. -/
def El.loss (x : El) (v p q : G) : Int := v.re * (if x.kind = kSeries ∨ x.kind = kBlock then q.sq else p.sq)
theorem El.pw_ap {x : El} (h : x.known = true) (v p q : G) : pw ((x.mat v).ap p q).1 ((x.mat v).ap p q).2 = (if x.divides then v.sq else 1) * pw p q + x.loss v p q := by
  have n1 : ¬ kSeries = kBlock := by decide
  have n2 : ¬ kSeries = kTrap := by decide
  have n3 : ¬ kShunt = kBlock := by decide
  have n4 : ¬ kShunt = kTrap := by decide
  have n5 : ¬ kBlock = kSeries := by decide
  have n6 : ¬ kBlock = kShunt := by decide
  have n7 : ¬ kTrap = kSeries := by decide
  have n8 : ¬ kTrap = kShunt := by decide
  have n9 : ¬ kShunt = kSeries := by decide
  have n11 : ¬ kTrap = kBlock := by decide
  unfold El.mat El.divides El.loss
  rcases El.kinds h with h | h | h | h <;> rw [h] <;> simp only [n1, n2, n3, n4, n5, n6, n7, n8, n9, n11, if_true, if_false, or_true, true_or, or_self, decide_true, decide_false, Mat.ap, pw, G.mul, G.add, G.sq, G.one, G.zero, Bool.false_eq_true] <;> grind
/-- What a ladder takes ahead of a column. -/
def lossOf (w : Int) (p q : G) : List El → Int
  | [] => 0
  | x :: l => (if x.divides then (x.val w).sq else 1) * lossOf w p q l + x.loss (x.val w) ((chn w .id l).ap p q).1 ((chn w .id l).ap p q).2
theorem Mat.ap_id (p q : G) : Mat.id.ap p q = (p, q) := by
  refine Prod.ext ?_ ?_ <;> apply G.ext' <;> simp [Mat.ap, Mat.id, G.mul, G.add, G.one, G.zero]
theorem pw_chn {w : Int} (p q : G) : ∀ {l : List El}, (∀ x ∈ l, x.known = true) → pw ((chn w .id l).ap p q).1 ((chn w .id l).ap p q).2 = (dvs w .one l).sq * pw p q + lossOf w p q l := by
  intro l
  induction l with
  | nil => intro _; rw [show chn w .id ([] : List El) = .id from rfl, Mat.ap_id]; simp [dvs, G.sq, G.one, lossOf]
  | cons x l ih =>
    intro h
    have := ih (fun y hy => h y (by simp [hy]))
    rw [chn_cons, Mat.ap_mul, El.pw_ap (h x (by simp)), this, dvs_cons, lossOf]
    split
    · simp only [G.sq, G.mul]; grind
    · grind
theorem El.loss_nn {x : El} (h : x.Ok) (w : Int) (p q : G) : 0 ≤ x.loss (x.val w) p q := by
  unfold El.loss
  exact Int.mul_nonneg h.al (by split <;> exact G.sq_nn _)
theorem lossOf_nn {w : Int} (p q : G) : ∀ {l : List El}, (∀ x ∈ l, x.Ok) → 0 ≤ lossOf w p q l := by
  intro l
  induction l with
  | nil => intro _; simp [lossOf]
  | cons x l ih =>
    intro h
    have h1 := ih (fun y hy => h y (by simp [hy]))
    have h2 := El.loss_nn (h x (by simp)) w ((chn w .id l).ap p q).1 ((chn w .id l).ap p q).2
    have h3 : 0 ≤ (if x.divides then (x.val w).sq else 1) := by split; exact G.sq_nn _; decide
    have := Int.mul_nonneg h3 h1
    rw [lossOf]; omega
theorem lossOf_zero {w : Int} (p q : G) : ∀ {l : List El}, (∀ x ∈ l, x.a = 0) → lossOf w p q l = 0 := by
  intro l
  induction l with
  | nil => intro _; simp [lossOf]
  | cons x l ih =>
    intro h
    rw [lossOf, ih (fun y hy => h y (by simp [hy]))]
    unfold El.loss
    rw [show (x.val w).re = 0 from h x (by simp)]
    simp
end Go.Proofs.YthlnmoecmicofaaDoor
