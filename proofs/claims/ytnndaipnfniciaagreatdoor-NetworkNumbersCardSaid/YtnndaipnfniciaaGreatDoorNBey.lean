/- The law's helper beyond; conjugates and squares in range. -/
import Derived.Test.YtnndaipnfniciaaGreatDoorBaseQ
import Derived.Test.YtnndaipnfniciaaGreatDoorNLoss
namespace Go.Proofs.YtnndaipnfniciaaGreatDoor
open Go.RowKit Go.Shelf
set_option maxRecDepth 100000
theorem conjIn_any (a : G) (h : wr (-a.im) = a.conj.im) (w : World) :
    Calls Tryz.prog 62 #[.agg #[.int .i64 a.re, .int .i64 a.im]] w fun e w' => e = .returned (.agg #[.int .i64 a.conj.re, .int .i64 a.conj.im]) ∧ Below w.heap.size w w' := by
  have := rConjugate_any a w
  rw [h] at this
  exact this
theorem sqIn_any (a : G) (h : wr a.sq = a.sq) (w : World) :
    Calls Tryz.prog 63 #[.agg #[.int .i64 a.re, .int .i64 a.im]] w fun e w' => e = .returned (.int .i64 a.sq) ∧ Below w.heap.size w w' := by
  have := rSquare_any a w
  rw [h] at this
  exact this
set_option maxHeartbeats 2000000 in
theorem beyond_any (m : Mat) (w : World) (hm : m.In 2073071593) :
    Calls Tryz.prog 60 #[.agg #[.int .i64 m.a.re, .int .i64 m.a.im, .int .i64 m.b.re, .int .i64 m.b.im, .int .i64 m.c.re, .int .i64 m.c.im, .int .i64 m.d.re, .int .i64 m.d.im]] w fun e w' => e = .returned (.bool false) ∧ Below w.heap.size w w' := by
  have HI := hide hm
  clear hm
  go_enter Tryz.func60, Tryz.ntmps60
  go_upto_region 1 with (fail)
  obtain ⟨w1, e1, hb1, hz1, k1⟩ := box1 w #[.int .i64 m.a.re, .int .i64 m.a.im, .int .i64 m.b.re, .int .i64 m.b.im, .int .i64 m.c.re, .int .i64 m.c.im, .int .i64 m.d.re, .int .i64 m.d.im] 73
  rw [← e1]; clear e1
  have c0 := k1.cell
  go_wp2_with fail
  clear c0
  go_loopw [6] (fun v wr => ∃ i : Nat, i ≤ 4 ∧ v = .int .i64 i ∧ Below w.heap.size w wr) (fun v _ => 4 - (intOf v).toNat)
  case atStart => exact ⟨0, by omega, rfl, hb1⟩
  case round =>
    rename World => wr
    obtain ⟨i, hi, rfl, hb⟩ := hrel
    have hc : i = 0 ∨ i = 1 ∨ i = 2 ∨ i = 3 ∨ i = 4 := by omega
    rcases hc with rfl | rfl | rfl | rfl | rfl
    · skip
      have ri : ∀ W, (Instr.index 73 (.agg #[.int .i64 m.a.re, .int .i64 m.a.im, .int .i64 m.b.re, .int .i64 m.b.im, .int .i64 m.c.re, .int .i64 m.c.im, .int .i64 m.d.re, .int .i64 m.d.im]) (.int .i64 0)).run Tryz.prog W = .ok (.agg #[.int .i64 m.a.re, .int .i64 m.a.im]) W := fun _ => by kernel_rfl
      go_upto_region 4 with (fail)
      obtain ⟨w2, e2, hb2, hz2, k2⟩ := box1 wr #[.int .i64 m.a.re, .int .i64 m.a.im] 23
      rw [← e2]; clear e2
      have hbw := below_next hb hb2
      have c0 := k2.cell
      have hzn := G.nrm_le (show (m.a).nrm ≤ 2147483648 from by have := HI.out.1; have := HI.out.2; omega)
      have n1 : IntKind.i64.wrap (-(m.a).re) = -(m.a).re := IntWalk.i64_in _ (by omega)
      have n2 : IntKind.i64.wrap (-(m.a).im) = -(m.a).im := IntWalk.i64_in _ (by omega)
      obtain ⟨X4, rX, hX0, hX1⟩ := spiMax (m.a).re (-(m.a).re) (m.a).im (-(m.a).im)
      have t1 : decide (2147483648 < X4) = false := decide_eq_false (by omega)
      clear hX0 hX1 hzn
      go_wp2_with fail
      go_roundw
      case rel => exact ⟨0 + 1, by omega, rfl, hbw⟩
      case measure => simp [intOf]
    · skip
      have ri : ∀ W, (Instr.index 73 (.agg #[.int .i64 m.a.re, .int .i64 m.a.im, .int .i64 m.b.re, .int .i64 m.b.im, .int .i64 m.c.re, .int .i64 m.c.im, .int .i64 m.d.re, .int .i64 m.d.im]) (.int .i64 1)).run Tryz.prog W = .ok (.agg #[.int .i64 m.b.re, .int .i64 m.b.im]) W := fun _ => by kernel_rfl
      go_upto_region 4 with (fail)
      obtain ⟨w2, e2, hb2, hz2, k2⟩ := box1 wr #[.int .i64 m.b.re, .int .i64 m.b.im] 23
      rw [← e2]; clear e2
      have hbw := below_next hb hb2
      have c0 := k2.cell
      have hzn := G.nrm_le (show (m.b).nrm ≤ 2147483648 from by have := HI.out.1; have := HI.out.2; omega)
      have n1 : IntKind.i64.wrap (-(m.b).re) = -(m.b).re := IntWalk.i64_in _ (by omega)
      have n2 : IntKind.i64.wrap (-(m.b).im) = -(m.b).im := IntWalk.i64_in _ (by omega)
      obtain ⟨X4, rX, hX0, hX1⟩ := spiMax (m.b).re (-(m.b).re) (m.b).im (-(m.b).im)
      have t1 : decide (2147483648 < X4) = false := decide_eq_false (by omega)
      clear hX0 hX1 hzn
      go_wp2_with fail
      go_roundw
      case rel => exact ⟨1 + 1, by omega, rfl, hbw⟩
      case measure => simp [intOf]
    · skip
      have ri : ∀ W, (Instr.index 73 (.agg #[.int .i64 m.a.re, .int .i64 m.a.im, .int .i64 m.b.re, .int .i64 m.b.im, .int .i64 m.c.re, .int .i64 m.c.im, .int .i64 m.d.re, .int .i64 m.d.im]) (.int .i64 2)).run Tryz.prog W = .ok (.agg #[.int .i64 m.c.re, .int .i64 m.c.im]) W := fun _ => by kernel_rfl
      go_upto_region 4 with (fail)
      obtain ⟨w2, e2, hb2, hz2, k2⟩ := box1 wr #[.int .i64 m.c.re, .int .i64 m.c.im] 23
      rw [← e2]; clear e2
      have hbw := below_next hb hb2
      have c0 := k2.cell
      have hzn := G.nrm_le (show (m.c).nrm ≤ 2147483648 from by have := HI.out.1; have := HI.out.2; omega)
      have n1 : IntKind.i64.wrap (-(m.c).re) = -(m.c).re := IntWalk.i64_in _ (by omega)
      have n2 : IntKind.i64.wrap (-(m.c).im) = -(m.c).im := IntWalk.i64_in _ (by omega)
      obtain ⟨X4, rX, hX0, hX1⟩ := spiMax (m.c).re (-(m.c).re) (m.c).im (-(m.c).im)
      have t1 : decide (2147483648 < X4) = false := decide_eq_false (by omega)
      clear hX0 hX1 hzn
      go_wp2_with fail
      go_roundw
      case rel => exact ⟨2 + 1, by omega, rfl, hbw⟩
      case measure => simp [intOf]
    · skip
      have ri : ∀ W, (Instr.index 73 (.agg #[.int .i64 m.a.re, .int .i64 m.a.im, .int .i64 m.b.re, .int .i64 m.b.im, .int .i64 m.c.re, .int .i64 m.c.im, .int .i64 m.d.re, .int .i64 m.d.im]) (.int .i64 3)).run Tryz.prog W = .ok (.agg #[.int .i64 m.d.re, .int .i64 m.d.im]) W := fun _ => by kernel_rfl
      go_upto_region 4 with (fail)
      obtain ⟨w2, e2, hb2, hz2, k2⟩ := box1 wr #[.int .i64 m.d.re, .int .i64 m.d.im] 23
      rw [← e2]; clear e2
      have hbw := below_next hb hb2
      have c0 := k2.cell
      have hzn := G.nrm_le (show (m.d).nrm ≤ 2147483648 from by have := HI.out.1; have := HI.out.2; omega)
      have n1 : IntKind.i64.wrap (-(m.d).re) = -(m.d).re := IntWalk.i64_in _ (by omega)
      have n2 : IntKind.i64.wrap (-(m.d).im) = -(m.d).im := IntWalk.i64_in _ (by omega)
      obtain ⟨X4, rX, hX0, hX1⟩ := spiMax (m.d).re (-(m.d).re) (m.d).im (-(m.d).im)
      have t1 : decide (2147483648 < X4) = false := decide_eq_false (by omega)
      clear hX0 hX1 hzn
      go_wp2_with fail
      go_roundw
      case rel => exact ⟨3 + 1, by omega, rfl, hbw⟩
      case measure => simp [intOf]
    · go_wp2_with fail
      go_ret
      exact ⟨rfl, hb⟩
/-- What the ladder with a resistor in series at its begin has. -/
theorem pw_more {f : Int} {l : List El} : chn f .id (⟨kSeries, 3, 0⟩ :: l) = ⟨((chn f .id l).a.add ((⟨3, f * 0⟩ : G).mul (chn f .id l).c)), ((chn f .id l).b.add ((⟨3, f * 0⟩ : G).mul (chn f .id l).d)), (chn f .id l).c, (chn f .id l).d⟩ := by
  rw [chn_cons]
  have hs : (⟨kSeries, 3, 0⟩ : El).mat ((⟨kSeries, 3, 0⟩ : El).val f) = ⟨.one, ⟨3, f * 0⟩, .zero, .one⟩ := by simp [El.mat, El.val]
  rw [hs]
  apply Mat.ext' <;> apply G.ext' <;> simp [Mat.mul, G.mul, G.add, G.one, G.zero]
theorem pw_add3 (a c : G) (f : Int) : pw (a.add ((⟨3, f * 0⟩ : G).mul c)) c = pw a c + 3 * c.sq := by
  simp only [pw, G.add, G.mul, G.sq]; grind
theorem conj_im {a : G} (h : a.nrm ≤ 9223372036854775807) : wr (-a.im) = a.conj.im := by
  have := G.nrm_le h; rw [wr_in (by omega)]; rfl
theorem mul_conj_nrm {a c : G} {n : Nat} (ha : a.nrm ≤ n) (hc : c.nrm ≤ n) : (a.mul c.conj).nrm ≤ n * n := by
  have h1 := G.nrm_mul a c.conj
  have h2 : c.conj.nrm = c.nrm := by simp [G.nrm, G.conj]
  rw [h2] at h1
  exact Nat.le_trans h1 (Nat.mul_le_mul ha hc)
/-- The power of a ladder, as the law asks it. -/
theorem pas_pw {l : List El} {f : Int} (h : LadOk l) : 0 ≤ pw (chn f .id l).a (chn f .id l).c ∧ 0 ≤ pw (chn f .id l).b (chn f .id l).d ∧ ((∀ x ∈ l, x.a = 0) → pw (chn f .id l).a (chn f .id l).c = 0 ∧ pw (chn f .id l).b (chn f .id l).d = 0) := by
  have kn : ∀ x ∈ l, x.known = true := fun x hx => (h.all x hx).kn
  have e1 := pw_chn (w := f) G.one G.zero kn
  have e2 := pw_chn (w := f) G.zero G.one kn
  have a1 : ((chn f .id l).ap .one .zero) = ((chn f .id l).a, (chn f .id l).c) := by
    simp only [Mat.ap, Prod.mk.injEq]; constructor <;> apply G.ext' <;> simp [G.mul, G.add, G.one, G.zero]
  have a2 : ((chn f .id l).ap .zero .one) = ((chn f .id l).b, (chn f .id l).d) := by
    simp only [Mat.ap, Prod.mk.injEq]; constructor <;> apply G.ext' <;> simp [G.mul, G.add, G.one, G.zero]
  rw [a1] at e1
  rw [a2] at e2
  have z1 : pw .one .zero = 0 := rfl
  have z2 : pw .zero .one = 0 := rfl
  rw [z1, Int.mul_zero, Int.zero_add] at e1
  rw [z2, Int.mul_zero, Int.zero_add] at e2
  simp only at e1 e2
  rw [e1, e2]
  exact ⟨lossOf_nn _ _ h.all, lossOf_nn _ _ h.all, fun hz => ⟨lossOf_zero _ _ hz, lossOf_zero _ _ hz⟩⟩
end Go.Proofs.YtnndaipnfniciaaGreatDoor
