/- Plain mathematics of the power that arrives at a driver. No program in sight. -/
import Derived.Test.YthlnmoecmicofaaDoorNPass
namespace Go.Proofs.YthlnmoecmicofaaDoor
open Go.RowKit
set_option maxRecDepth 100000

theorem G.conj_nrm (a : G) : a.conj.nrm = a.nrm := by simp [G.nrm, G.conj]
theorem pw_bd (a b : G) : (pw a b).natAbs ≤ a.nrm * b.nrm := by
  have h := G.nrm_mul a b.conj
  rw [G.conj_nrm] at h
  rw [← pw_conj]
  exact Nat.le_trans (by unfold G.nrm; omega) h
theorem sq_bd (a : G) : a.sq.natAbs ≤ a.nrm * a.nrm := by
  have h : a.sq = pw a a := rfl
  rw [h]; exact pw_bd a a
theorem pow73' {k : Nat} (h : k ≤ 2) : 1 * 73 ^ k ≤ 5329 := by
  have : k = 0 ∨ k = 1 ∨ k = 2 := by omega
  rcases this with rfl | rfl | rfl <;> decide
theorem mul_bd' {a b m n : Int} (ha : 0 ≤ a ∧ a ≤ m) (hb : 0 ≤ b ∧ b ≤ n) : 0 ≤ a * b ∧ a * b ≤ m * n :=
  ⟨Int.mul_nonneg ha.1 hb.1, Int.mul_le_mul ha.2 hb.2 hb.1 (by omega)⟩
structure SpiF (M : Mat) (n p q V I : G) (into arr : Int) : Prop where
  ma : M.a.nrm ≤ 5329
  mb : M.b.nrm ≤ 5329
  mc : M.c.nrm ≤ 5329
  md : M.d.nrm ≤ 5329
  nn : n.nrm ≤ 5329
  ev : ((M.a.mul p).w.add (M.b.mul q).w).w = V
  ei : ((M.c.mul p).w.add (M.d.mul q).w).w = I
  ic : wr (-I.im) = I.conj.im
  qc : wr (-q.im) = q.conj.im
  ein : (V.mul I.conj).w.re = into
  epq : (p.mul q.conj).w.re = pw p q
  esq : wr n.sq = n.sq
  earr : wr (n.sq * pw p q) = arr
  nn' : 0 ≤ arr
  le : arr ≤ into
theorem spi_facts {l : List El} {f : Int} {p q : G} (hl : LadOk l) (h1 : 1 ≤ f) (h8 : f ≤ 8) (h2 : l.length ≤ 2) (hp : p.nrm ≤ 65536) (hq : q.nrm ≤ 65536) (hpq : 0 ≤ pw p q) :
    ∃ V I into arr, SpiF (chn f .id l) (dvs f .one l) p q V I into arr ∧ ((∀ x ∈ l, x.a = 0) → into = arr) := by
  have hM := chn_in h1 h8 l _ _ hl.all id_in
  have hd := dvs_in h1 h8 l .one 1 hl.all (by decide)
  have hpw := pow73' h2
  have hk : ∀ x ∈ l, x.known = true := fun x hx => (hl.all x hx).kn
  have hpow := pw_chn (w := f) p q hk
  have hloss := lossOf_nn (w := f) p q hl.all
  have hzero := lossOf_zero (w := f) p q (l := l)
  have hMa : (chn f .id l).a.nrm + (chn f .id l).b.nrm ≤ 5329 := Nat.le_trans hM.1 hpw
  have hMc : (chn f .id l).c.nrm + (chn f .id l).d.nrm ≤ 5329 := Nat.le_trans hM.2 hpw
  have hn : (dvs f .one l).nrm ≤ 5329 := Nat.le_trans hd hpw
  clear hM hd hpw hk
  generalize chn f .id l = M at *
  generalize dvs f .one l = n at *
  generalize lossOf f p q l = L at *
  have row : ∀ a b : G, a.nrm + b.nrm ≤ 5329 → ((a.mul p).add (b.mul q)).nrm ≤ 349241344 := by
    intro a b h
    have a1 := G.nrm_add (a.mul p) (b.mul q)
    have m1 := Nat.le_trans (G.nrm_mul a p) (Nat.mul_le_mul_left _ hp)
    have m2 := Nat.le_trans (G.nrm_mul b q) (Nat.mul_le_mul_left _ hq)
    omega
  have hV := row _ _ hMa
  have hI := row _ _ hMc
  have wV : ((M.a.mul p).w.add (M.b.mul q).w).w = (M.ap p q).1 := by rw [G.w_add]; exact G.w_in (Nat.le_trans hV (by decide))
  have wI : ((M.c.mul p).w.add (M.d.mul q).w).w = (M.ap p q).2 := by rw [G.w_add]; exact G.w_in (Nat.le_trans hI (by decide))
  have hV' : (M.ap p q).1.nrm ≤ 349241344 := hV
  have hI' : (M.ap p q).2.nrm ≤ 349241344 := hI
  generalize (M.ap p q).1 = V at *
  generalize (M.ap p q).2 = I at *
  have bVI := Nat.le_trans (pw_bd V I) (Nat.mul_le_mul hV' hI')
  have bpq := Nat.le_trans (pw_bd p q) (Nat.mul_le_mul hp hq)
  have bsq := Nat.le_trans (sq_bd n) (Nat.mul_le_mul hn hn)
  have nsq := G.sq_nn n
  have wc : ∀ a b : G, a.nrm * b.nrm ≤ 9223372036854775807 → (a.mul b.conj).w = a.mul b.conj := fun a b h => G.w_in (Nat.le_trans (G.nrm_mul _ _) (by rw [G.conj_nrm]; exact h))
  have w1 := wc V I (Nat.le_trans (Nat.mul_le_mul hV' hI') (by decide))
  have w2 := wc p q (Nat.le_trans (Nat.mul_le_mul hp hq) (by decide))
  have hab := mul_bd' (a := n.sq) (b := pw p q) (m := 28398241) (n := 4294967296) ⟨nsq, by omega⟩ ⟨hpq, by omega⟩
  have i1 := G.nrm_le hI'
  have q1 := G.nrm_le hq
  refine ⟨V, I, pw V I, n.sq * pw p q, ⟨by omega, by omega, by omega, by omega, hn, wV, wI, wr_in (by omega), wr_in (by omega), by rw [w1, pw_conj], by rw [w2, pw_conj], wr_in (by omega), wr_in (by omega), hab.1, by omega⟩, fun h => ?_⟩
  rw [hpow, hzero h]; omega
theorem spi_small {l : List El} {f : Int} (hl : LadOk l) (h1 : 1 ≤ f) (h8 : f ≤ 8) (h2 : l.length ≤ 2) : ∀ z ∈ [(chn f .id l).a, (chn f .id l).b, (chn f .id l).c, (chn f .id l).d, dvs f .one l], z.nrm ≤ 5329 := by
  have hM := chn_in h1 h8 l _ _ hl.all id_in
  have hd := dvs_in h1 h8 l .one 1 hl.all (by decide)
  have hpw := pow73' h2
  have hMa : (chn f .id l).a.nrm + (chn f .id l).b.nrm ≤ 5329 := Nat.le_trans hM.1 hpw
  have hMc : (chn f .id l).c.nrm + (chn f .id l).d.nrm ≤ 5329 := Nat.le_trans hM.2 hpw
  have hn : (dvs f .one l).nrm ≤ 5329 := Nat.le_trans hd hpw
  intro z hz
  simp only [List.mem_cons, List.not_mem_nil, or_false] at hz
  rcases hz with rfl | rfl | rfl | rfl | rfl <;> omega
end Go.Proofs.YthlnmoecmicofaaDoor
