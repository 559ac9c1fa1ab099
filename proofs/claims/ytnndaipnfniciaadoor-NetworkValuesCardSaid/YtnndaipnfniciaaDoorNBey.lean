/- The law's helper beyond; conjugates and squares in range. -/
import Derived.Test.YtnndaipnfniciaaDoorBaseQ
import Derived.Test.YtnndaipnfniciaaDoorNLoss
namespace Go.Proofs.YtnndaipnfniciaaDoor
open Go.RowKit Go.Shelf
set_option maxRecDepth 100000
/-- What the ladder with a resistor in series at its begin has. -/
theorem pw_more {f : Int} {l : List El} : chn f .id (⟨kSeries, 3, 0⟩ :: l) = ⟨((chn f .id l).a.add ((⟨3, f * 0⟩ : G).mul (chn f .id l).c)), ((chn f .id l).b.add ((⟨3, f * 0⟩ : G).mul (chn f .id l).d)), (chn f .id l).c, (chn f .id l).d⟩ := by
  rw [chn_cons]
  have hs : (⟨kSeries, 3, 0⟩ : El).mat ((⟨kSeries, 3, 0⟩ : El).val f) = ⟨.one, ⟨3, f * 0⟩, .zero, .one⟩ := by simp [El.mat, El.val]
  rw [hs]
  apply Mat.ext' <;> apply G.ext' <;> simp [Mat.mul, G.mul, G.add, G.one, G.zero]
theorem pw_add3 (a c : G) (f : Int) : pw (a.add ((⟨3, f * 0⟩ : G).mul c)) c = pw a c + 3 * c.sq := by
  simp only [pw, G.add, G.mul, G.sq]; grind
theorem conj_im {a : G} (h : a.nrm ≤ 9223372036854775807) : wr (-a.im) = a.conj.im := by
  have := G.nrm_le h; rw [wr_in (by omega)]; rfl
theorem mul_conj_nrm {a c : G} {n : Nat} (ha : a.nrm ≤ n) (hc : c.nrm ≤ n) : (a.mul c.conj).nrm ≤ n * n := by
  have h1 := G.nrm_mul a c.conj
  have h2 : c.conj.nrm = c.nrm := by simp [G.nrm, G.conj]
  rw [h2] at h1
  exact Nat.le_trans h1 (Nat.mul_le_mul ha hc)
/-- The power of a ladder, as the law asks it. -/
theorem pas_pw {l : List El} {f : Int} (h : LadOk l) : 0 ≤ pw (chn f .id l).a (chn f .id l).c ∧ 0 ≤ pw (chn f .id l).b (chn f .id l).d ∧ ((∀ x ∈ l, x.a = 0) → pw (chn f .id l).a (chn f .id l).c = 0 ∧ pw (chn f .id l).b (chn f .id l).d = 0) := by
  have kn : ∀ x ∈ l, x.known = true := fun x hx => (h.all x hx).kn
  have e1 := pw_chn (w := f) G.one G.zero kn
  have e2 := pw_chn (w := f) G.zero G.one kn
  have a1 : ((chn f .id l).ap .one .zero) = ((chn f .id l).a, (chn f .id l).c) := by
    simp only [Mat.ap, Prod.mk.injEq]; constructor <;> apply G.ext' <;> simp [G.mul, G.add, G.one, G.zero]
  have a2 : ((chn f .id l).ap .zero .one) = ((chn f .id l).b, (chn f .id l).d) := by
    simp only [Mat.ap, Prod.mk.injEq]; constructor <;> apply G.ext' <;> simp [G.mul, G.add, G.one, G.zero]
  rw [a1] at e1
  rw [a2] at e2
  have z1 : pw .one .zero = 0 := rfl
  have z2 : pw .zero .one = 0 := rfl
  rw [z1, Int.mul_zero, Int.zero_add] at e1
  rw [z2, Int.mul_zero, Int.zero_add] at e2
  simp only at e1 e2
  rw [e1, e2]
  exact ⟨lossOf_nn _ _ h.all, lossOf_nn _ _ h.all, fun hz => ⟨lossOf_zero _ _ hz, lossOf_zero _ _ hz⟩⟩
end Go.Proofs.YtnndaipnfniciaaDoor
