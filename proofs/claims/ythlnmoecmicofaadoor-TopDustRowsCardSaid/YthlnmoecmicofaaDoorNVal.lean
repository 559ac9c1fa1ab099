/- Plain mathematics: the values of the polynomials of a ladder are the entries of its chain matrix. No program in sight. -/
import Derived.Test.YthlnmoecmicofaaDoorNPoly
namespace Go.Proofs.YthlnmoecmicofaaDoor
open Go.RowKit
set_option maxRecDepth 100000

theorem G.add_zero (a : G) : a.add .zero = a := by apply G.ext' <;> simp [G.add, G.zero]
theorem G.zero_add (a : G) : G.zero.add a = a := by apply G.ext' <;> simp [G.add, G.zero]
theorem G.mul_zero (a : G) : a.mul .zero = .zero := by apply G.ext' <;> simp [G.mul, G.zero]
/-- A real number. -/
def G.of (x : Int) : G := ⟨x, 0⟩
/-- The sum of the first coefficients, each times the power of z. -/
def evf (z : G) (f : Nat → Int) : Nat → G
  | 0 => .zero
  | n + 1 => (G.of (f 0)).add (z.mul (evf z (fun k => f (k + 1)) n))
theorem evf_congr (z : G) : ∀ (n : Nat) (f g : Nat → Int), (∀ k, f k = g k) → evf z f n = evf z g n := by
  intro n
  induction n with
  | zero => intro f g _; rfl
  | succ n ih => intro f g h; rw [evf, evf, h 0, ih _ _ fun k => h (k + 1)]
theorem evf_zero (z : G) : ∀ (n : Nat) (f : Nat → Int), (∀ k, f k = 0) → evf z f n = .zero := by
  intro n
  induction n with
  | zero => intro f _; rfl
  | succ n ih => intro f h; rw [evf, h 0, ih _ fun k => h (k + 1), G.mul_zero]; rfl
theorem evf_add (z : G) : ∀ (n : Nat) (f g : Nat → Int), evf z (fun k => f k + g k) n = (evf z f n).add (evf z g n) := by
  intro n
  induction n with
  | zero => intro f g; rfl
  | succ n ih =>
    intro f g
    rw [evf, evf, evf, ih]
    apply G.ext' <;> simp only [G.add, G.mul, G.of] <;> grind
theorem evf_scale (z : G) (a : Int) : ∀ (n : Nat) (f : Nat → Int), evf z (fun k => a * f k) n = (G.of a).mul (evf z f n) := by
  intro n
  induction n with
  | zero => intro f; exact (G.mul_zero _).symm
  | succ n ih =>
    intro f
    rw [evf, evf, ih]
    apply G.ext' <;> simp only [G.add, G.mul, G.of] <;> grind
/-- The value of a polynomial. -/
def ev (z : G) (l : List Int) : G := evf z (co l) l.length
theorem ev_more (z : G) : ∀ (l : List Int) (n : Nat), l.length ≤ n → evf z (co l) n = ev z l := by
  intro l
  induction l with
  | nil => intro n _; exact evf_zero z n _ co_nil
  | cons a l ih =>
    intro n hn
    obtain ⟨m, rfl⟩ : ∃ m, n = m + 1 := ⟨n - 1, by simp at hn; omega⟩
    have e : ∀ m, evf z (fun k => co (a :: l) (k + 1)) m = evf z (co l) m := fun m => evf_congr z m _ _ fun k => co_cons_succ a l k
    show (G.of _).add (z.mul (evf z (fun k => co (a :: l) (k + 1)) m)) = (G.of _).add (z.mul (evf z (fun k => co (a :: l) (k + 1)) l.length))
    rw [e, e, ih m (by simpa using hn)]; rfl
theorem ev_cons (z : G) (a : Int) (l : List Int) : ev z (a :: l) = (G.of a).add (z.mul (ev z l)) := by
  show (G.of _).add (z.mul (evf z (fun k => co (a :: l) (k + 1)) l.length)) = _
  rw [evf_congr z _ _ _ fun k => co_cons_succ a l k]; rfl
theorem ev_ext (z : G) {l m : List Int} (h : ∀ k, co l k = co m k) : ev z l = ev z m := by
  rw [← ev_more z l (max l.length m.length) (by omega), ← ev_more z m (max l.length m.length) (by omega)]
  exact evf_congr z _ _ _ h
theorem ev_trim (z : G) (l : List Int) : ev z (trim l) = ev z l := ev_ext z (co_trim l)
theorem cv_shift (a : Int) (l b : List Int) (k : Nat) : ∀ n, cv (a :: l) b (k + 1) (n + 1) = a * co b (k + 1) + cv l b k n := by
  intro n
  induction n with
  | zero => simp [cv, co_cons_zero]
  | succ n ih =>
    rw [cv, ih, cv, co_cons_succ]
    by_cases h : n ≤ k
    · rw [if_pos (by omega), if_pos h, show k + 1 - (n + 1) = k - n by omega]; omega
    · rw [if_neg (by omega), if_neg h]; omega
theorem pc_cons_succ (a : Int) (l b : List Int) (k : Nat) : pc (a :: l) b (k + 1) = a * co b (k + 1) + pc l b k := cv_shift a l b k (k + 1)
theorem pc_cons_zero (a : Int) (l b : List Int) : pc (a :: l) b 0 = a * co b 0 := by simp [pc, cv, co_cons_zero]
theorem evf_pc (z : G) (b : List Int) : ∀ (a : List Int) (n : Nat), a.length + b.length ≤ n → evf z (pc a b) n = (ev z a).mul (ev z b) := by
  intro a
  induction a with
  | nil =>
    intro n _
    rw [evf_zero z n _ (pc_nil b)]
    exact (by rw [G.mul_comm]; exact (G.mul_zero _).symm : G.zero = G.zero.mul (ev z b))
  | cons x a ih =>
    intro n hn
    obtain ⟨m, rfl⟩ : ∃ m, n = m + 1 := ⟨n - 1, by simp at hn; omega⟩
    have h1 : evf z (fun k => pc (x :: a) b (k + 1)) m = ((G.of x).mul (evf z (fun k => co b (k + 1)) m)).add (evf z (pc a b) m) := by
      rw [evf_congr z m _ (fun k => x * co b (k + 1) + pc a b k) (pc_cons_succ x a b), evf_add, evf_scale]
    have h2 : ev z b = (G.of (co b 0)).add (z.mul (evf z (fun k => co b (k + 1)) m)) := by
      rw [← ev_more z b (m + 1) (by simp at hn; omega)]; rfl
    rw [evf, h1, pc_cons_zero, ih m (by simp at hn; omega), ev_cons]
    generalize evf z (fun k => co b (k + 1)) m = q at h2
    rw [h2]
    apply G.ext' <;> simp only [G.add, G.mul, G.of] <;> grind
theorem ev_padd (z : G) (p a b : List Int) : ev z (padd p a b) = (ev z p).add ((ev z a).mul (ev z b)) := by
  have e : ∀ N, evf z (co (padd p a b)) N = (evf z (co p) N).add (evf z (pc a b) N) := fun N => by
    rw [← evf_add]; exact evf_congr z N _ _ (co_padd p a b)
  have := e (max (padd p a b).length (max p.length (a.length + b.length)))
  rwa [ev_more z (padd p a b) _ (by omega), ev_more z p _ (by omega), evf_pc z b a _ (by omega)] at this
theorem ev_nil (z : G) : ev z [] = .zero := rfl
theorem ev_one (z : G) : ev z [1] = .one := by
  rw [ev_cons, ev_nil, G.mul_zero]; rfl
/-- i times a frequency. -/
def iw (w : Int) : G := ⟨0, w⟩
theorem ev_pv (x : El) (w : Int) : ev (iw w) x.pv = x.val w := by
  unfold El.pv
  rw [ev_trim, ev_cons, ev_cons, ev_nil, G.mul_zero]
  apply G.ext' <;> simp [G.add, G.mul, G.of, G.zero, iw, El.val]
/-- The values of polynomials of a matrix. -/
def PM.ev (m : PM) (w : Int) : Mat := ⟨Go.Proofs.YthlnmoecmicofaaDoor.ev (iw w) m.a, Go.Proofs.YthlnmoecmicofaaDoor.ev (iw w) m.b, Go.Proofs.YthlnmoecmicofaaDoor.ev (iw w) m.c, Go.Proofs.YthlnmoecmicofaaDoor.ev (iw w) m.d⟩
theorem ev_mul (m e : PM) (w : Int) : (m.mul e).ev w = (m.ev w).mul (e.ev w) := by
  apply Mat.ext' <;> simp only [PM.ev, PM.mul, Mat.mul, ev_padd, ev_nil, G.zero_add]
theorem ev_pm (x : El) (w : Int) : x.pm.ev w = x.mat (x.val w) := by
  unfold El.pm El.mat
  repeat' split
  all_goals (apply Mat.ext' <;> simp only [PM.ev, ev_one, ev_nil, ev_pv])
theorem ev_id (w : Int) : PM.id.ev w = .id := by apply Mat.ext' <;> simp only [PM.ev, PM.id, ev_one, ev_nil, Mat.id]
theorem ev_pch (w : Int) : ∀ (l : List El) (m : PM), (pch m l).ev w = chn w (m.ev w) l := by
  intro l
  induction l with
  | nil => intro m; rfl
  | cons x l ih => intro m; show (pch (m.mul x.pm) l).ev w = _; rw [ih, ev_mul, ev_pm]; rfl
theorem ev_pdv (w : Int) : ∀ (l : List El) (d : List Int), Go.Proofs.YthlnmoecmicofaaDoor.ev (iw w) (pdv d l) = dvs w (Go.Proofs.YthlnmoecmicofaaDoor.ev (iw w) d) l := by
  intro l
  induction l with
  | nil => intro d; rfl
  | cons x l ih =>
    intro d
    show Go.Proofs.YthlnmoecmicofaaDoor.ev (iw w) (pdv (if x.divides then padd [] d x.pv else d) l) = dvs w (if x.divides then (Go.Proofs.YthlnmoecmicofaaDoor.ev (iw w) d).mul (x.val w) else _) l
    rw [ih]
    split
    · rw [ev_padd, ev_nil, G.zero_add, ev_pv]
    · rfl
end Go.Proofs.YthlnmoecmicofaaDoor
