/- Plain mathematics of lossless ladders of coils in series and capacitors to ground. No program in sight. -/
import Derived.Test.YthlnmoecmicofaaDoorNVal
namespace Go.Proofs.YthlnmoecmicofaaDoor
open Go.RowKit
set_option maxRecDepth 100000

/-- All other coefficients are 0. -/
def Par (e : Nat) (l : List Int) : Prop := ∀ k, k % 2 ≠ e → co l k = 0
theorem Par.nil (e : Nat) : Par e [] := fun k _ => co_nil k
theorem Par.one : Par 0 [1] := fun k hk => by
  cases k with
  | zero => omega
  | succ k => rw [co_cons_succ, co_nil]
theorem Par.pv (b : Int) : Par 1 (trim [0, b]) := fun k hk => by
  rw [co_trim]
  match k, hk with
  | 0, _ => rfl
  | 1, h => omega
  | k + 2, _ => rw [co_cons_succ, co_cons_succ, co_nil]
theorem Par.pc {e1 e2 : Nat} {p q : List Int} (h1 : e1 < 2) (h2 : e2 < 2) (hp : Par e1 p) (hq : Par e2 q) {k : Nat} (hk : k % 2 ≠ (e1 + e2) % 2) : Go.Proofs.YthlnmoecmicofaaDoor.pc p q k = 0 := by
  have key : ∀ n, cv p q k n = 0 := by
    intro n
    induction n with
    | zero => rfl
    | succ n ih =>
      rw [cv, ih]
      split
      · rename_i hn
        by_cases hn1 : n % 2 = e1
        · rw [hq (k - n) (by omega)]; simp
        · rw [hp n hn1]; simp
      · rfl
  exact key _
theorem Par.padd {e e1 e2 e3 e4 : Nat} {p a q c : List Int} (h1 : e1 < 2) (h2 : e2 < 2) (h3 : e3 < 2) (h4 : e4 < 2) (hp : Par e1 p) (ha : Par e2 a) (hq : Par e3 q) (hc : Par e4 c) (he : (e1 + e2) % 2 = e) (he' : (e3 + e4) % 2 = e) : Par e (padd (padd [] p a) q c) := fun k hk => by
  rw [co_padd, co_padd, co_nil, Par.pc h1 h2 hp ha (by omega), Par.pc h3 h4 hq hc (by omega)]; rfl
structure PPar (m : PM) : Prop where
  a : Par 0 m.a
  b : Par 1 m.b
  c : Par 1 m.c
  d : Par 0 m.d
theorem PPar.mul {m e : PM} (h : PPar m) (g : PPar e) : PPar (m.mul e) :=
  ⟨Par.padd (by omega) (by omega) (by omega) (by omega) h.a g.a h.b g.c rfl rfl, Par.padd (by omega) (by omega) (by omega) (by omega) h.a g.b h.b g.d rfl rfl, Par.padd (by omega) (by omega) (by omega) (by omega) h.c g.a h.d g.c rfl rfl, Par.padd (by omega) (by omega) (by omega) (by omega) h.c g.b h.d g.d rfl rfl⟩
/-- A coil in series, or a capacitor to ground. -/
structure El.Pl (x : El) : Prop where
  z : x.a = 0
  nd : x.divides = false
  k : x.kind = kSeries ∨ x.kind = kShunt
theorem El.pl_of {x : El} (h : x.Ok) (hz : x.a = 0) (hd : x.divides = false) : x.Pl := by
  refine ⟨hz, hd, ?_⟩
  unfold El.divides at hd
  rw [decide_eq_false_iff_not] at hd
  rcases El.kinds h.kn with q | q | q | q
  · exact absurd (.inl q) hd
  · exact .inl q
  · exact .inr q
  · exact absurd (.inr q) hd
theorem El.Pl.par {x : El} (h : x.Pl) : PPar x.pm := by
  have hv : Par 1 x.pv := by unfold El.pv; rw [h.z]; exact Par.pv x.b
  have n1 : ¬ kShunt = kSeries := by decide
  unfold El.pm
  rcases h.k with q | q <;> rw [q]
  · simp only [if_true]
    exact ⟨Par.one, hv, Par.nil 1, Par.one⟩
  · simp only [n1, if_true, if_false]
    exact ⟨Par.one, Par.nil 1, hv, Par.one⟩
theorem PPar.id : PPar PM.id := ⟨Par.one, Par.nil 1, Par.nil 1, Par.one⟩
theorem pch_par : ∀ (l : List El) (m : PM), (∀ x ∈ l, x.Pl) → PPar m → PPar (pch m l) := by
  intro l
  induction l with
  | nil => intro m _ h; exact h
  | cons x l ih => intro m hl h; exact ih _ (fun y hy => hl y (by simp [hy])) (h.mul (hl x (by simp)).par)
theorem pdv_plain : ∀ (l : List El) (d : List Int), (∀ x ∈ l, x.Pl) → pdv d l = d := by
  intro l
  induction l with
  | nil => intro d _; rfl
  | cons x l ih =>
    intro d hl
    show pdv (if x.divides then _ else d) l = d
    rw [(hl x (by simp)).nd]
    exact ih d fun y hy => hl y (by simp [hy])
theorem dvs_plain (f : Int) : ∀ (l : List El) (d : G), (∀ x ∈ l, x.Pl) → dvs f d l = d := by
  intro l
  induction l with
  | nil => intro d _; rfl
  | cons x l ih =>
    intro d hl
    show dvs f (if x.divides then _ else d) l = d
    rw [(hl x (by simp)).nd]
    exact ih d fun y hy => hl y (by simp [hy])
structure LM (m : Mat) : Prop where
  a : m.a.im = 0
  b : m.b.re = 0
  c : m.c.re = 0
  d : m.d.im = 0
theorem LM.mul {m e : Mat} (h : LM m) (g : LM e) : LM (m.mul e) := by
  constructor <;> simp [Mat.mul, G.mul, G.add, h.a, h.b, h.c, h.d, g.a, g.b, g.c, g.d]
theorem El.Pl.lm {x : El} (h : x.Pl) (f : Int) : LM (x.mat (x.val f)) := by
  have n1 : ¬ kShunt = kSeries := by decide
  unfold El.mat El.val
  rw [h.z]
  rcases h.k with q | q <;> rw [q] <;> simp only [n1, if_true, if_false] <;> constructor <;> rfl
theorem chn_lm (f : Int) : ∀ (l : List El) (m : Mat), (∀ x ∈ l, x.Pl) → LM m → LM (chn f m l) := by
  intro l
  induction l with
  | nil => intro m _ h; exact h
  | cons x l ih => intro m hl h; exact ih _ (fun y hy => hl y (by simp [hy])) (h.mul ((hl x (by simp)).lm f))
theorem LM.id : LM Mat.id := ⟨rfl, rfl, rfl, rfl⟩
/-- What the law asks of the matrix. -/
theorem dust_det {l : List El} {f : Int} (hk : ∀ x ∈ l, x.known = true) (hl : ∀ x ∈ l, x.Pl) : (chn f .id l).a.re * (chn f .id l).d.re + (chn f .id l).b.im * (chn f .id l).c.im = 1 := by
  have h := det_chn (w := f) hk
  rw [dvs_plain f l .one hl] at h
  have hm := chn_lm f l .id hl LM.id
  have := congrArg G.re h
  simp only [Mat.det, G.sub, G.mul, G.one, hm.a, hm.b, hm.c, hm.d] at this
  omega
theorem dust_pw {l : List El} {f : Int} (hl : ∀ x ∈ l, x.Pl) : pw (chn f .id l).a (chn f .id l).c = 0 := by
  have hm := chn_lm f l .id hl LM.id
  simp [pw, hm.a, hm.c]
theorem dust_load {l : List El} {f : Int} (hk : ∀ x ∈ l, x.known = true) (hl : ∀ x ∈ l, x.Pl) : pw (chn f .id (l ++ [⟨kShunt, 1, 0⟩])).a (chn f .id (l ++ [⟨kShunt, 1, 0⟩])).c = 1 := by
  have h := dust_det (f := f) hk hl
  have hm := chn_lm f l .id hl LM.id
  have e : chn f .id (l ++ [⟨kShunt, 1, 0⟩]) = (chn f .id l).mul ⟨.one, .zero, ⟨1, f * 0⟩, .one⟩ := by
    rw [chn_append]
    show Mat.mul _ (El.mat ⟨kShunt, 1, 0⟩ _) = _
    unfold El.mat El.val
    rw [if_neg (show ¬ kShunt = kSeries by decide), if_pos rfl]
  rw [e]
  simp only [pw, Mat.mul, G.mul, G.add, G.one, G.zero, hm.a, hm.b, hm.c, hm.d]
  simp
  omega
theorem dust_more {l : List El} (h : LadOk l) (h4 : l.length ≤ 4) : ladErr (l ++ [⟨kShunt, 1, 0⟩]) = 0 :=
  ok_lad ⟨by simp; omega, fun x hx => by
    rcases List.mem_append.1 hx with hx | hx
    · exact h.all x hx
    · simp at hx; subst hx; exact El.err_ok (by decide +kernel)⟩
end Go.Proofs.YthlnmoecmicofaaDoor
