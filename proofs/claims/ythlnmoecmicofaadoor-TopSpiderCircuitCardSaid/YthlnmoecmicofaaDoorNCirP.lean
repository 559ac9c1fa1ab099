/- Plain mathematics: a driver with the motor factor 1 is a ladder. No program in sight. -/
import Derived.Test.YthlnmoecmicofaaDoorNDrv
import Derived.Test.YthlnmoecmicofaaDoorNPass
namespace Go.Proofs.YthlnmoecmicofaaDoor
open Go.RowKit
set_option maxRecDepth 100000
/-- The driver that the law takes. -/
def Drv.small (d : Drv) : Drv := ⟨1 + d.re % 8, d.le % 9, 1, 1 + d.ms % 8, 1, 1 + d.ls % 8⟩
/-- A driver in a box with the air k - 1. -/
def Drv.st_ (d : Drv) (k : Nat) : Drv := ⟨d.re, d.le, 1, d.ms, k, d.ls⟩
structure Drv.Sm (d : Drv) : Prop where
  re1 : 1 ≤ d.re
  re2 : d.re ≤ 8
  le1 : 0 ≤ d.le
  le2 : d.le ≤ 8
  ms1 : 1 ≤ d.ms
  ms2 : d.ms ≤ 8
  ls1 : 1 ≤ d.ls
  ls2 : d.ls ≤ 8
theorem Drv.small_sm (d : Drv) : d.small.Sm := by unfold Drv.small; constructor <;> simp only <;> omega
theorem Drv.st_ok {d : Drv} (h : d.Sm) {k : Nat} (hk : k = 1 ∨ k = 2) : (d.st_ k).Ok := by
  have := h.re1; have := h.re2; have := h.le1; have := h.le2; have := h.ms1; have := h.ms2; have := h.ls1; have := h.ls2
  unfold Drv.st_
  constructor <;> simp only <;> omega
theorem Drv.st_one (d : Drv) : d.small.st_ 1 = d.small := rfl
/-- The ladder of a driver. -/
def lad (d : Drv) (k : Nat) : List El := ⟨kSeries, d.re, d.le⟩ :: ⟨kShunt, d.ls, d.ms⟩ :: List.replicate k ⟨kTrap, 0, 1⟩
theorem lad_okD {d : Drv} (h : d.Sm) {k : Nat} (hk : k = 1 ∨ k = 2) : LadOk (lad d k) := by
  have := h.re1; have := h.re2; have := h.le1; have := h.le2; have := h.ms1; have := h.ms2; have := h.ls1; have := h.ls2
  have n1 : (⟨kSeries, d.re, d.le⟩ : El).divides = false := by show _ = _; simp [El.divides]; decide
  have n2 : (⟨kShunt, d.ls, d.ms⟩ : El).divides = false := by show _ = _; simp [El.divides]; decide
  have e1 : (⟨kSeries, d.re, d.le⟩ : El).Ok := ⟨by simp [El.known], by simp only; omega, by simp only; omega, by simp only; omega, by simp only; omega, fun q => by rw [n1] at q; cases q⟩
  have e2 : (⟨kShunt, d.ls, d.ms⟩ : El).Ok := ⟨by simp [El.known], by simp only; omega, by simp only; omega, by simp only; omega, by simp only; omega, fun q => by rw [n2] at q; cases q⟩
  have e3 : (⟨kTrap, 0, 1⟩ : El).Ok := ⟨by simp [El.known], by simp only; omega, by simp only; omega, by simp only; omega, by simp only; omega, fun _ q => by have := q.2; simp only at this; omega⟩
  refine ⟨by unfold lad; simp; omega, fun x hx => ?_⟩
  unfold lad at hx
  simp only [List.mem_cons, List.mem_replicate] at hx
  rcases hx with rfl | rfl | ⟨_, rfl⟩
  · exact e1
  · exact e2
  · exact e3
/-- What a coil more multiplies both with. -/
def cU (f : Int) (k : Nat) : G := if k = 1 then .one else ⟨0, f⟩
theorem m_series (a b f : Int) : (⟨kSeries, a, b⟩ : El).mat ((⟨kSeries, a, b⟩ : El).val f) = ⟨.one, ⟨a, f * b⟩, .zero, .one⟩ := by simp [El.mat, El.val]
theorem m_shunt (a b f : Int) : (⟨kShunt, a, b⟩ : El).mat ((⟨kShunt, a, b⟩ : El).val f) = ⟨.one, .zero, ⟨a, f * b⟩, .one⟩ := by
  have : ¬ kShunt = kSeries := by decide
  simp [El.mat, El.val, this]
theorem m_trap (f : Int) : (⟨kTrap, 0, 1⟩ : El).mat ((⟨kTrap, 0, 1⟩ : El).val f) = ⟨⟨0, f⟩, .zero, .one, ⟨0, f⟩⟩ := by
  have h1 : ¬ kTrap = kSeries := by decide
  have h2 : ¬ kTrap = kShunt := by decide
  have h3 : ¬ kTrap = kBlock := by decide
  simp [El.mat, El.val, h1, h2, h3]
theorem chn_lad (d : Drv) (f : Int) {k : Nat} (hk : k = 1 ∨ k = 2) : (chn f .id (lad d k)).a = (cU f k).mul ((d.st_ k).num f) ∧ (chn f .id (lad d k)).c = (cU f k).mul ((d.st_ k).mech f) := by
  unfold lad
  rw [chn_cons, chn_cons, m_series, m_shunt]
  rcases hk with rfl | rfl
  · rw [show List.replicate 1 (⟨kTrap, 0, 1⟩ : El) = [⟨kTrap, 0, 1⟩] from rfl, chn_cons, m_trap]
    constructor <;> apply G.ext' <;> simp [chn, Mat.mul, Mat.id, G.mul, G.add, G.one, G.zero, cU, Drv.st_, Drv.num, Drv.mech] <;> grind
  · rw [show List.replicate 2 (⟨kTrap, 0, 1⟩ : El) = [⟨kTrap, 0, 1⟩, ⟨kTrap, 0, 1⟩] from rfl, chn_cons, chn_cons, m_trap]
    constructor <;> apply G.ext' <;> simp [chn, Mat.mul, Mat.id, G.mul, G.add, G.one, G.zero, cU, Drv.st_, Drv.num, Drv.mech] <;> grind
theorem dvs_lad (d : Drv) (f : Int) {k : Nat} (hk : k = 1 ∨ k = 2) : dvs f .one (lad d k) = (cU f k).mul ⟨0, f⟩ := by
  have n1 : (⟨kSeries, d.re, d.le⟩ : El).divides = false := by show _ = _; simp [El.divides]; decide
  have n2 : (⟨kShunt, d.ls, d.ms⟩ : El).divides = false := by show _ = _; simp [El.divides]; decide
  have n3 : (⟨kTrap, 0, 1⟩ : El).divides = true := by simp [El.divides]
  unfold lad
  rw [dvs_cons, dvs_cons, n1, n2]
  rcases hk with rfl | rfl
  · rw [show List.replicate 1 (⟨kTrap, 0, 1⟩ : El) = [⟨kTrap, 0, 1⟩] from rfl, dvs_cons, n3]
    apply G.ext' <;> simp [dvs, cU, El.val, G.mul, G.one]
  · rw [show List.replicate 2 (⟨kTrap, 0, 1⟩ : El) = [⟨kTrap, 0, 1⟩, ⟨kTrap, 0, 1⟩] from rfl, dvs_cons, dvs_cons, n3]
    apply G.ext' <;> simp [dvs, cU, El.val, G.mul, G.one]
theorem nrm_mulI {a b : G} {m n : Nat} (ha : a.nrm ≤ m) (hb : b.nrm ≤ n) : (a.mul b).nrm ≤ m * n := Nat.le_trans (G.nrm_mul a b) (Nat.mul_le_mul ha hb)
theorem cU_nrm {f : Int} (h1 : 1 ≤ f) (h8 : f ≤ 8) (k : Nat) : (cU f k).nrm ≤ 8 := by
  unfold cU; split <;> simp only [G.nrm, G.one] <;> omega
theorem mech_nrm {d : Drv} (h : d.Sm) {f : Int} (h1 : 1 ≤ f) (h8 : f ≤ 8) {k : Nat} (hk : k = 1 ∨ k = 2) : ((d.st_ k).mech f).nrm ≤ 1000 := by
  have hf : 0 ≤ f ∧ f ≤ 8 := by omega
  have ff := mul_bd hf hf
  have fm := mul_bd ff (show 0 ≤ d.ms ∧ d.ms ≤ 8 from ⟨by have := h.ms1; omega, h.ms2⟩)
  have fl := mul_bd hf (show 0 ≤ d.ls ∧ d.ls ≤ 8 from ⟨by have := h.ls1; omega, h.ls2⟩)
  unfold Drv.mech Drv.st_ G.nrm
  simp only
  omega
theorem num_nrm {d : Drv} (h : d.Sm) {f : Int} (h1 : 1 ≤ f) (h8 : f ≤ 8) {k : Nat} (hk : k = 1 ∨ k = 2) : ((d.st_ k).num f).nrm ≤ 80000 := by
  have hf : 0 ≤ f ∧ f ≤ 8 := by omega
  have fe := mul_bd hf (show 0 ≤ d.le ∧ d.le ≤ 8 from ⟨h.le1, h.le2⟩)
  have hz : (⟨d.re, f * d.le⟩ : G).nrm ≤ 72 := by have := h.re1; have := h.re2; unfold G.nrm; simp only; omega
  have a1 := nrm_mulI hz (mech_nrm h h1 h8 hk)
  have a2 : ((⟨0, f * 1 * 1⟩ : G).mul .one).nrm ≤ 8 := by simp [G.mul, G.one, G.nrm]; omega
  have a3 := G.nrm_add ((⟨d.re, f * d.le⟩ : G).mul ((d.st_ k).mech f)) ((⟨0, f * 1 * 1⟩ : G).mul .one)
  have e : (d.st_ k).num f = ((⟨d.re, f * d.le⟩ : G).mul ((d.st_ k).mech f)).add ((⟨0, f * 1 * 1⟩ : G).mul .one) := rfl
  rw [e]
  omega
theorem mech_ne {d : Drv} (h : d.Sm) {f : Int} (h1 : 1 ≤ f) (k : Nat) : ¬ (d.st_ k).mech f = .zero := fun e => by
  have e2 := congrArg G.im e
  have : 1 * 1 ≤ f * d.ls := Int.mul_le_mul h1 h.ls1 (by omega) (by omega)
  unfold Drv.mech Drv.st_ G.zero at e2
  simp only at e2
  omega
theorem sq_pos {a : G} (h : ¬ a = .zero) : 0 < a.sq := by
  have h1 := G.sq_nn a
  rcases Int.lt_or_eq_of_le h1 with q | q
  · exact q
  · exact absurd (G.sq_zero q.symm) h
theorem num_ne {d : Drv} (h : d.Sm) {f : Int} (h1 : 1 ≤ f) (k : Nat) : ¬ (d.st_ k).num f = .zero := fun e => by
  have e1 : pw ((d.st_ k).num f) ((d.st_ k).mech f) = d.re * ((d.st_ k).mech f).sq + f * f * d.ls := by
    simp only [pw, Drv.num, Drv.mech, Drv.st_, G.mul, G.add, G.one, G.sq]; grind
  rw [e] at e1
  have h2 := sq_pos (mech_ne h h1 k)
  have h3 := Int.mul_pos (show 0 < d.re by have := h.re1; omega) h2
  have h4 := Int.mul_nonneg (Int.mul_nonneg (show 0 ≤ f by omega) (show 0 ≤ f by omega)) (show 0 ≤ d.ls by have := h.ls1; omega)
  have h5 : pw .zero ((d.st_ k).mech f) = 0 := by simp [pw, G.zero]
  omega
theorem mul_ne {a b : G} (ha : ¬ a = .zero) (hb : ¬ b = .zero) : ¬ a.mul b = .zero := fun e => by
  have h : (a.mul b).sq = a.sq * b.sq := by simp only [G.sq, G.mul]; grind
  rw [e] at h
  have h1 := Int.mul_pos (sq_pos ha) (sq_pos hb)
  have h2 : G.sq .zero = 0 := rfl
  omega
theorem cU_ne {f : Int} (h1 : 1 ≤ f) (k : Nat) : ¬ cU f k = .zero := fun e => by
  unfold cU at e
  split at e
  · have := congrArg G.re e; simp [G.one, G.zero] at this
  · have := congrArg G.im e; simp only [G.zero] at this; omega
theorem mul_zeroG (a : G) : a.mul .zero = .zero := by apply G.ext' <;> simp [G.mul, G.zero]
theorem mul_assocG (a b c : G) : (a.mul b).mul c = a.mul (b.mul c) := by apply G.ext' <;> simp only [G.mul] <;> grind
/-- What the law asks, of one of the two rounds: the driver's impedance N / M; the ladder's input a / c, its divisor v; the element's matrix X; the input of both yA / yC. -/
structure Cir (f : Int) (X : Mat) (N M a c v LN LD yA yC : G) : Prop where
  s1 : N.mul c = a.mul M
  s2 : (⟨0, f⟩ : G).mul a = v.mul N
  s3 : yA.mul LD = LN.mul yC
  nM : ¬ M = .zero
  nN : ¬ N = .zero
  nc : ¬ c = .zero
  na : ¬ a = .zero
  ny : yC = .zero ↔ LD = .zero
  bN : N.nrm ≤ 1000000
  bM : M.nrm ≤ 1000000
  ba : a.nrm ≤ 1000000
  bc : c.nrm ≤ 1000000
  bv : v.nrm ≤ 1000000
  bX : X.a.nrm ≤ 128 ∧ X.b.nrm ≤ 128 ∧ X.c.nrm ≤ 128 ∧ X.d.nrm ≤ 128
  bL : LN.nrm ≤ 100000000 ∧ LD.nrm ≤ 100000000
  bY : yA.nrm ≤ 1000000000 ∧ yC.nrm ≤ 1000000000
  eN : LN = (X.a.mul N).add (X.b.mul M)
  eD : LD = (X.c.mul N).add (X.d.mul M)
theorem cir_facts {d : Drv} (h : d.Sm) {x : El} (hx : x.Ok) {f : Int} (h1 : 1 ≤ f) (h8 : f ≤ 8) {k : Nat} (hk : k = 1 ∨ k = 2) :
    ∃ LN LD, Cir f (chn f .id [x]) ((d.st_ k).num f) ((d.st_ k).mech f) (chn f .id (lad d k)).a (chn f .id (lad d k)).c (dvs f .one (lad d k)) LN LD (chn f .id (x :: lad d k)).a (chn f .id (x :: lad d k)).c := by
  obtain ⟨ea, ec⟩ := chn_lad d f hk
  have ed := dvs_lad d f hk
  have eX : chn f .id [x] = x.mat (x.val f) := by rw [chn_cons]; exact Mat.mul_id _
  rw [chn_cons f x (lad d k), eX]
  have hX := El.mat_in (x := x) (El.val_nrm hx h1 h8)
  have bU := cU_nrm h1 h8 k
  have bM := mech_nrm h h1 h8 hk
  have bN := num_nrm h h1 h8 hk
  have nU := cU_ne h1 k
  have nM := mech_ne h h1 k
  have nN := num_ne h h1 k
  rw [ed]
  generalize hcc : chn f .id (lad d k) = C at ea ec ⊢
  generalize x.mat (x.val f) = X at hX ⊢
  generalize (d.st_ k).num f = N at ea bN nN ⊢
  generalize (d.st_ k).mech f = M at ec bM nM ⊢
  generalize cU f k = U at ea ec bU nU ⊢
  have xa := hX.1
  have xc := hX.2
  have bLN : ((X.a.mul N).add (X.b.mul M)).nrm ≤ 73 * 80000 + 73 * 1000 := Nat.le_trans (G.nrm_add _ _) (Nat.add_le_add (nrm_mulI (by omega) bN) (nrm_mulI (by omega) bM))
  have bLD : ((X.c.mul N).add (X.d.mul M)).nrm ≤ 73 * 80000 + 73 * 1000 := Nat.le_trans (G.nrm_add _ _) (Nat.add_le_add (nrm_mulI (by omega) bN) (nrm_mulI (by omega) bM))
  have yA : (X.mul C).a = U.mul ((X.a.mul N).add (X.b.mul M)) := by
    show (X.a.mul C.a).add (X.b.mul C.c) = _
    rw [ea, ec]
    apply G.ext' <;> simp only [G.mul, G.add] <;> grind
  have yC : (X.mul C).c = U.mul ((X.c.mul N).add (X.d.mul M)) := by
    show (X.c.mul C.a).add (X.d.mul C.c) = _
    rw [ea, ec]
    apply G.ext' <;> simp only [G.mul, G.add] <;> grind
  have bYA := nrm_mulI bU bLN
  have bYC := nrm_mulI bU bLD
  have bA := nrm_mulI bU bN
  have bC := nrm_mulI bU bM
  have hf : (⟨0, f⟩ : G).nrm ≤ 8 := by simp only [G.nrm]; omega
  have bV := nrm_mulI bU hf
  refine ⟨(X.a.mul N).add (X.b.mul M), (X.c.mul N).add (X.d.mul M), ?_⟩
  rw [yA, yC, ea, ec]
  exact { s1 := by apply G.ext' <;> simp only [G.mul] <;> grind
          s2 := by apply G.ext' <;> simp only [G.mul] <;> grind
          s3 := by apply G.ext' <;> simp only [G.mul] <;> grind
          nM := nM, nN := nN, nc := mul_ne nU nM, na := mul_ne nU nN
          ny := ⟨fun e => Classical.byContradiction fun q => mul_ne nU q e, fun e => by rw [e]; exact mul_zeroG _⟩
          bN := by omega, bM := by omega, ba := by omega, bc := by omega, bv := by omega
          bX := by omega
          bL := by omega
          bY := by omega
          eN := rfl, eD := rfl }
end Go.Proofs.YthlnmoecmicofaaDoor
