/- Plain mathematics of ladders: complex integers, elements, chain matrices. No program in sight. -/
import Derived.Test.YthlnmoecmicofaaDoorWords
namespace Go.Proofs.YthlnmoecmicofaaDoor
open Go.RowKit
set_option maxRecDepth 100000

/-- The error of a number that is to lie from lo to hi. -/
def rng (n lo hi : Int) : Int := if n < lo ∨ hi < n then 3 else 0
/-- The first number that is not 0. -/
def fnz : List Int → Int
  | [] => 0
  | a :: l => if a = 0 then fnz l else a
theorem fnz_zero {l : List Int} : fnz l = 0 ↔ ∀ x ∈ l, x = 0 := by
  induction l with
  | nil => simp [fnz]
  | cons a l ih => unfold fnz; split <;> simp_all
theorem rng_zero {n lo hi : Int} : rng n lo hi = 0 ↔ lo ≤ n ∧ n ≤ hi := by unfold rng; split <;> omega
/-- An absolute value. -/
def ab (n : Int) : Int := max n (-n)
/-- A number of 64 bits. -/
def wr (n : Int) : Int := IntKind.i64.wrap n
theorem wr_def (n : Int) : wr n = (n + 9223372036854775808) % 18446744073709551616 - 9223372036854775808 := by
  unfold wr IntKind.wrap
  simp [IntKind.signed, IntKind.bits]
  omega
theorem wr_in {n : Int} (h : -9223372036854775808 ≤ n ∧ n ≤ 9223372036854775807) : wr n = n := by rw [wr_def]; omega
theorem wr_add (a b : Int) : wr (wr a + wr b) = wr (a + b) := by simp only [wr_def]; omega
theorem wr_sub (a b : Int) : wr (wr a - wr b) = wr (a - b) := by simp only [wr_def]; omega

/-- A complex integer. -/
structure G where
  re : Int
  im : Int
instance : DecidableEq G := fun a b => decidable_of_iff (a.re = b.re ∧ a.im = b.im) (by cases a; cases b; simp)
theorem G.ext' {a b : G} (h1 : a.re = b.re) (h2 : a.im = b.im) : a = b := by cases a; cases b; simp_all
namespace G
def zero : G := ⟨0, 0⟩
def one : G := ⟨1, 0⟩
def add (a b : G) : G := ⟨a.re + b.re, a.im + b.im⟩
def mul (a b : G) : G := ⟨a.re * b.re - a.im * b.im, a.re * b.im + a.im * b.re⟩
def sub (a b : G) : G := ⟨a.re - b.re, a.im - b.im⟩
def conj (a : G) : G := ⟨a.re, -a.im⟩
def sq (a : G) : Int := a.re * a.re + a.im * a.im
/-- Its parts as numbers of 64 bits. -/
def w (a : G) : G := ⟨wr a.re, wr a.im⟩
/-- The sum of the absolute values of its parts. -/
def nrm (a : G) : Nat := a.re.natAbs + a.im.natAbs
theorem nrm_add (a b : G) : (a.add b).nrm ≤ a.nrm + b.nrm := by simp only [nrm, add]; omega
theorem nrm_mul (a b : G) : (a.mul b).nrm ≤ a.nrm * b.nrm := by
  have h1 := Int.natAbs_mul a.re b.re
  have h2 := Int.natAbs_mul a.im b.im
  have h3 := Int.natAbs_mul a.re b.im
  have h4 := Int.natAbs_mul a.im b.re
  have h5 : (a.re.natAbs + a.im.natAbs) * (b.re.natAbs + b.im.natAbs) = a.re.natAbs * b.re.natAbs + a.im.natAbs * b.im.natAbs + (a.re.natAbs * b.im.natAbs + a.im.natAbs * b.re.natAbs) := by grind
  simp only [nrm, mul]
  rw [h5, ← h1, ← h2, ← h3, ← h4]
  omega
theorem w_in {a : G} (h : a.nrm ≤ 9223372036854775807) : a.w = a := by
  unfold nrm at h
  exact G.ext' (wr_in (by omega)) (wr_in (by omega))
theorem w_add (a b : G) : (a.w.add b.w).w = (a.add b).w := G.ext' (wr_add _ _) (wr_add _ _)
theorem nrm_le {a : G} {n : Nat} (h : a.nrm ≤ n) : -(n : Int) ≤ a.re ∧ a.re ≤ n ∧ -(n : Int) ≤ a.im ∧ a.im ≤ n := by unfold nrm at h; omega
theorem sq_nn (a : G) : 0 ≤ a.sq := by
  have h1 : 0 ≤ a.re * a.re := by rcases Int.le_total 0 a.re with h | h; exact Int.mul_nonneg h h; exact Int.mul_nonneg_of_nonpos_of_nonpos h h
  have h2 : 0 ≤ a.im * a.im := by rcases Int.le_total 0 a.im with h | h; exact Int.mul_nonneg h h; exact Int.mul_nonneg_of_nonpos_of_nonpos h h
  unfold sq; omega
theorem sq_zero {a : G} (h : a.sq = 0) : a = zero := by
  have h1 : 0 ≤ a.re * a.re := by rcases Int.le_total 0 a.re with h | h; exact Int.mul_nonneg h h; exact Int.mul_nonneg_of_nonpos_of_nonpos h h
  have h2 : 0 ≤ a.im * a.im := by rcases Int.le_total 0 a.im with h | h; exact Int.mul_nonneg h h; exact Int.mul_nonneg_of_nonpos_of_nonpos h h
  unfold sq at h
  have e1 : a.re * a.re = 0 := by omega
  have e2 : a.im * a.im = 0 := by omega
  have e1 := Int.mul_eq_zero.1 e1
  have e2 := Int.mul_eq_zero.1 e2
  exact G.ext' (by rcases e1 with e | e <;> exact e) (by rcases e2 with e | e <;> exact e)
end G

/-- A chain matrix. -/
structure Mat where
  a : G
  b : G
  c : G
  d : G
theorem Mat.ext' {x y : Mat} (h1 : x.a = y.a) (h2 : x.b = y.b) (h3 : x.c = y.c) (h4 : x.d = y.d) : x = y := by cases x; cases y; simp_all
instance : DecidableEq Mat := fun x y => decidable_of_iff (x.a = y.a ∧ x.b = y.b ∧ x.c = y.c ∧ x.d = y.d) (by cases x; cases y; simp)
namespace Mat
def id : Mat := ⟨.one, .zero, .zero, .one⟩
def mul (x y : Mat) : Mat := ⟨(x.a.mul y.a).add (x.b.mul y.c), (x.a.mul y.b).add (x.b.mul y.d), (x.c.mul y.a).add (x.d.mul y.c), (x.c.mul y.b).add (x.d.mul y.d)⟩
def w (x : Mat) : Mat := ⟨x.a.w, x.b.w, x.c.w, x.d.w⟩
def det (x : Mat) : G := (x.a.mul x.d).sub (x.b.mul x.c)
/-- Rows of no more than n. -/
def In (x : Mat) (n : Nat) : Prop := x.a.nrm + x.b.nrm ≤ n ∧ x.c.nrm + x.d.nrm ≤ n
theorem In.w {x : Mat} {n : Nat} (h : x.In n) (hn : n ≤ 9223372036854775807) : x.w = x := by
  obtain ⟨h1, h2⟩ := h
  exact Mat.ext' (G.w_in (by omega)) (G.w_in (by omega)) (G.w_in (by omega)) (G.w_in (by omega))
theorem In.mul {x y : Mat} {n m : Nat} (hx : x.In n) (hy : y.In m) : (x.mul y).In (n * m) := by
  have key : ∀ p q : G, p.nrm + q.nrm ≤ n → ((p.mul y.a).add (q.mul y.c)).nrm + ((p.mul y.b).add (q.mul y.d)).nrm ≤ n * m := by
    intro p q h
    have a1 := G.nrm_add (p.mul y.a) (q.mul y.c)
    have a2 := G.nrm_add (p.mul y.b) (q.mul y.d)
    have m1 := G.nrm_mul p y.a
    have m2 := G.nrm_mul q y.c
    have m3 := G.nrm_mul p y.b
    have m4 := G.nrm_mul q y.d
    have t1 : p.nrm * y.a.nrm + p.nrm * y.b.nrm ≤ p.nrm * m := by rw [← Nat.mul_add]; exact Nat.mul_le_mul_left _ hy.1
    have t2 : q.nrm * y.c.nrm + q.nrm * y.d.nrm ≤ q.nrm * m := by rw [← Nat.mul_add]; exact Nat.mul_le_mul_left _ hy.2
    have t3 : p.nrm * m + q.nrm * m ≤ n * m := by rw [← Nat.add_mul]; exact Nat.mul_le_mul_right _ h
    omega
  exact ⟨key _ _ hx.1, key _ _ hx.2⟩
theorem det_mul (x y : Mat) : (x.mul y).det = x.det.mul y.det := by
  apply G.ext' <;> simp only [det, mul, G.mul, G.add, G.sub] <;> grind
theorem mul_assoc (x y z : Mat) : (x.mul y).mul z = x.mul (y.mul z) := by
  apply Mat.ext' <;> apply G.ext' <;> simp only [mul, G.mul, G.add] <;> grind
theorem id_mul (x : Mat) : id.mul x = x := by
  apply Mat.ext' <;> apply G.ext' <;> simp [mul, id, G.mul, G.add, G.one, G.zero]
theorem mul_id (x : Mat) : x.mul id = x := by
  apply Mat.ext' <;> apply G.ext' <;> simp [mul, id, G.mul, G.add, G.one, G.zero]
end Mat

/-! ### Elements -/
def kBlock : ByteArray := { data := #[98, 108, 111, 99, 107] }
def kSeries : ByteArray := { data := #[115, 101, 114, 105, 101, 115] }
def kShunt : ByteArray := { data := #[115, 104, 117, 110, 116] }
def kTrap : ByteArray := { data := #[116, 114, 97, 112] }
/-- An element: its kind and its two numbers. -/
structure El where
  kind : ByteArray
  a : Int
  b : Int
namespace El
def known (x : El) : Bool := decide (x.kind = kBlock ∨ x.kind = kSeries ∨ x.kind = kShunt ∨ x.kind = kTrap)
def divides (x : El) : Bool := decide (x.kind = kBlock ∨ x.kind = kTrap)
def err (x : El) : Int := fnz [if x.known then 0 else 13, rng x.a 0 8, rng x.b 0 8, if x.divides && x.a == 0 && x.b == 0 then 6 else 0]
def val (x : El) (w : Int) : G := ⟨x.a, w * x.b⟩
def mat (x : El) (v : G) : Mat := if x.kind = kSeries then ⟨.one, v, .zero, .one⟩ else if x.kind = kShunt then ⟨.one, .zero, v, .one⟩ else if x.kind = kBlock then ⟨v, .one, .zero, v⟩ else ⟨v, .zero, .one, v⟩
structure Ok (x : El) : Prop where
  kn : x.known = true
  al : 0 ≤ x.a
  ah : x.a ≤ 8
  bl : 0 ≤ x.b
  bh : x.b ≤ 8
  nz : x.divides = true → ¬ (x.a = 0 ∧ x.b = 0)
theorem err_ok {x : El} (h : x.err = 0) : x.Ok := by
  unfold err at h
  rw [fnz_zero] at h
  simp only [List.mem_cons, List.not_mem_nil, or_false, forall_eq_or_imp, forall_eq] at h
  obtain ⟨h1, h2, h3, h4⟩ := h
  rw [rng_zero] at h2 h3
  refine ⟨by cases hk : x.known <;> simp_all, h2.1, h2.2, h3.1, h3.2, fun hd hz => ?_⟩
  rw [hd, hz.1, hz.2] at h4
  simp at h4
theorem ok_err {x : El} (h : x.Ok) : x.err = 0 := by
  unfold err
  rw [fnz_zero]
  simp only [List.mem_cons, List.not_mem_nil, or_false, forall_eq_or_imp, forall_eq]
  refine ⟨by rw [h.kn]; rfl, rng_zero.2 ⟨h.al, h.ah⟩, rng_zero.2 ⟨h.bl, h.bh⟩, ?_⟩
  cases hd : x.divides
  · simp
  · have := h.nz hd
    by_cases ha : x.a = 0
    · have hb : ¬ x.b = 0 := fun e => this ⟨ha, e⟩
      simp [hb]
    · simp [ha]
theorem val_nrm {x : El} (h : x.Ok) {w : Int} (h1 : 1 ≤ w) (h8 : w ≤ 8) : (x.val w).nrm ≤ 72 := by
  have h2 := h.al; have h3 := h.ah; have h4 := h.bl; have h5 := h.bh
  have h6 : 0 ≤ w * x.b := Int.mul_nonneg (by omega) h4
  have h7 : w * x.b ≤ 8 * 8 := Int.mul_le_mul h8 h5 h4 (by omega)
  unfold val G.nrm
  simp only
  omega
theorem mat_in {x : El} {v : G} (h : v.nrm ≤ 72) : (x.mat v).In 73 := by
  have e1 : G.one.nrm = 1 := rfl
  have e0 : G.zero.nrm = 0 := rfl
  unfold mat Mat.In
  repeat' split
  all_goals (simp only [e1, e0]; omega)
theorem mat_det {x : El} (h : x.known = true) (v : G) : (x.mat v).det = if x.divides then v.mul v else .one := by
  have n1 : ¬ kSeries = kBlock := by decide
  have n2 : ¬ kSeries = kTrap := by decide
  have n3 : ¬ kShunt = kBlock := by decide
  have n4 : ¬ kShunt = kTrap := by decide
  have n5 : ¬ kBlock = kSeries := by decide
  have n6 : ¬ kBlock = kShunt := by decide
  have n7 : ¬ kTrap = kSeries := by decide
  have n8 : ¬ kTrap = kShunt := by decide
  have n9 : ¬ kShunt = kSeries := by decide
  have n11 : ¬ kTrap = kBlock := by decide
  unfold known at h
  rw [decide_eq_true_iff] at h
  unfold mat divides
  rcases h with h | h | h | h <;> rw [h] <;> simp [n1, n2, n3, n4, n5, n6, n7, n8, n9, n11, Mat.det, G.mul, G.sub, G.one, G.zero]
end El
/-- The error of a ladder. -/
def ladErr (l : List El) : Int := if 5 < l.length then 5 else fnz (l.map El.err)
/-- The error of a ladder and a frequency. -/
def atErr (l : List El) (w : Int) : Int := fnz [ladErr l, rng w 1 8]
/-- The chain matrix behind a matrix. -/
def chn (w : Int) (m : Mat) (l : List El) : Mat := l.foldl (fun m x => m.mul (x.mat (x.val w))) m
/-- The divisor behind a divisor. -/
def dvs (w : Int) (d : G) (l : List El) : G := l.foldl (fun d x => if x.divides then d.mul (x.val w) else d) d
structure LadOk (l : List El) : Prop where
  len : l.length ≤ 5
  all : ∀ x ∈ l, x.Ok
theorem lad_ok {l : List El} (h : ladErr l = 0) : LadOk l := by
  unfold ladErr at h
  split at h
  · omega
  · rw [fnz_zero] at h
    exact ⟨by omega, fun x hx => El.err_ok (h _ (List.mem_map_of_mem hx))⟩
theorem ok_lad {l : List El} (h : LadOk l) : ladErr l = 0 := by
  unfold ladErr
  rw [if_neg (by have := h.len; omega), fnz_zero]
  intro e he
  obtain ⟨x, hx, rfl⟩ := List.mem_map.1 he
  exact El.ok_err (h.all x hx)
theorem chn_in {w : Int} (h1 : 1 ≤ w) (h8 : w ≤ 8) : ∀ (l : List El) (m : Mat) (n : Nat), (∀ x ∈ l, x.Ok) → m.In n → (chn w m l).In (n * 73 ^ l.length) := by
  intro l
  induction l with
  | nil => intro m n _ h; simpa [chn] using h
  | cons x l ih =>
    intro m n hl h
    have := ih (m.mul (x.mat (x.val w))) (n * 73) (fun y hy => hl y (by simp [hy])) (h.mul (El.mat_in (El.val_nrm (hl x (by simp)) h1 h8)))
    rw [List.length_cons, Nat.pow_succ, Nat.mul_comm (73 ^ l.length) 73, ← Nat.mul_assoc]
    exact this
theorem dvs_in {w : Int} (h1 : 1 ≤ w) (h8 : w ≤ 8) : ∀ (l : List El) (d : G) (n : Nat), (∀ x ∈ l, x.Ok) → d.nrm ≤ n → (dvs w d l).nrm ≤ n * 73 ^ l.length := by
  intro l
  induction l with
  | nil => intro d n _ h; simpa [dvs] using h
  | cons x l ih =>
    intro d n hl h
    have hv := El.val_nrm (hl x (by simp)) h1 h8
    have hm : (if x.divides then d.mul (x.val w) else d).nrm ≤ n * 73 := by
      split
      · exact Nat.le_trans (G.nrm_mul _ _) (Nat.mul_le_mul h (by omega))
      · omega
    have := ih (if x.divides then d.mul (x.val w) else d) (n * 73) (fun y hy => hl y (by simp [hy])) hm
    rw [List.length_cons, Nat.pow_succ, Nat.mul_comm (73 ^ l.length) 73, ← Nat.mul_assoc]
    exact this
theorem id_in : Mat.id.In 1 := ⟨by decide, by decide⟩
theorem pow73 {k : Nat} (h : k ≤ 5) : 1 * 73 ^ k ≤ 2073071593 := by
  have : k = 0 ∨ k = 1 ∨ k = 2 ∨ k = 3 ∨ k = 4 ∨ k = 5 := by omega
  rcases this with rfl | rfl | rfl | rfl | rfl | rfl <;> decide
theorem chain_in {l : List El} {w : Int} (h : LadOk l) (h1 : 1 ≤ w) (h8 : w ≤ 8) : (chn w .id l).In 2073071593 := by
  have := chn_in h1 h8 l _ _ h.all id_in
  have hp := pow73 h.len
  exact ⟨Nat.le_trans this.1 hp, Nat.le_trans this.2 hp⟩
theorem div_in {l : List El} {w : Int} (h : LadOk l) (h1 : 1 ≤ w) (h8 : w ≤ 8) : (dvs w .one l).nrm ≤ 2073071593 :=
  Nat.le_trans (dvs_in h1 h8 l _ 1 h.all (by decide)) (pow73 h.len)
theorem chn_append (w : Int) (m : Mat) (l r : List El) : chn w m (l ++ r) = chn w (chn w m l) r := by simp [chn]
theorem chn_mul (w : Int) : ∀ (r : List El) (m p : Mat), chn w (m.mul p) r = m.mul (chn w p r) := by
  intro r
  induction r with
  | nil => intro m p; rfl
  | cons x r ih => intro m p; show chn w ((m.mul p).mul _) r = _; rw [Mat.mul_assoc, ih]; rfl
theorem chn_start (w : Int) (m : Mat) (r : List El) : chn w m r = m.mul (chn w .id r) := by
  have := chn_mul w r m .id
  rwa [Mat.mul_id] at this
end Go.Proofs.YthlnmoecmicofaaDoor
