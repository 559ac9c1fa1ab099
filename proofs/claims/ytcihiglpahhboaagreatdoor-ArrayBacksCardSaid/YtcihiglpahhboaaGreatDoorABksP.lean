/- Plain: four pressures and their harmonics; four complex integers are equal to themselves. -/
import Derived.Test.YtcihiglpahhboaaGreatDoorBaseK
import Derived.ChangeKeysEq
namespace Go.Proofs.YtcihiglpahhboaaGreatDoor
open Go.RowKit Go.Shelf
set_option maxRecDepth 100000
theorem info_gaussB : ∃ i, (Tryz.prog.info? 54) = some i := Option.isSome_iff_exists.1 (by kernel_rfl)
theorem reflF4_in (m : F4) (w : World) : (Op.equalIn 10000 114 (.agg #[.int .i64 m.a.re, .int .i64 m.a.im, .int .i64 m.b.re, .int .i64 m.b.im, .int .i64 m.c.re, .int .i64 m.c.im, .int .i64 m.d.re, .int .i64 m.d.im]) (.agg #[.int .i64 m.a.re, .int .i64 m.a.im, .int .i64 m.b.re, .int .i64 m.b.im, .int .i64 m.c.re, .int .i64 m.c.im, .int .i64 m.d.re, .int .i64 m.d.im])).run Tryz.prog w = .ok true w := by
  obtain ⟨i, hi⟩ := info_gaussB
  have c2 : Tryz.prog.cellsOf 54 = 2 := by kernel_rfl
  have g : ∀ z : G, (Op.equalIn 9999 54 (.agg #[.int .i64 z.re, .int .i64 z.im]) (.agg #[.int .i64 z.re, .int .i64 z.im])).run Tryz.prog w = .ok true w := fun z => by rw [gEqD z z w]; simp
  rw [show (10000 : Nat) = 9999 + 1 from rfl, run_equalIn_array w 9999 _ _ Tryz.underlying114 hi, c2]
  simp only [show List.range 4 = [0, 1, 2, 3] from rfl, Op.eqItems, go_sem]
  simp [go_sem]
theorem reflF4_ne (m : F4) (w : World) : (binOp .neq 114 (.agg #[.int .i64 m.a.re, .int .i64 m.a.im, .int .i64 m.b.re, .int .i64 m.b.im, .int .i64 m.c.re, .int .i64 m.c.im, .int .i64 m.d.re, .int .i64 m.d.im]) (.agg #[.int .i64 m.a.re, .int .i64 m.a.im, .int .i64 m.b.re, .int .i64 m.b.im, .int .i64 m.c.re, .int .i64 m.c.im, .int .i64 m.d.re, .int .i64 m.d.im])).run Tryz.prog w = .ok (.bool false) w := by
  have hh := reflF4_in m w
  simp only [binOp, Op.equal, Op.maxDepth]
  simp [hh, go_sem]
theorem reflG_ne (z : G) (w : World) : (binOp .neq 54 (.agg #[.int .i64 z.re, .int .i64 z.im]) (.agg #[.int .i64 z.re, .int .i64 z.im])).run Tryz.prog w = .ok (.bool false) w := by have := neqG z z w; simpa using this
theorem reflG_eq (z : G) (w : World) : (binOp .eql 54 (.agg #[.int .i64 z.re, .int .i64 z.im]) (.agg #[.int .i64 z.re, .int .i64 z.im])).run Tryz.prog w = .ok (.bool true) w := by have := eqG z z w; simpa using this
def sml (b : Int) (z : G) : Prop := (-b ≤ z.re ∧ z.re ≤ b) ∧ (-b ≤ z.im ∧ z.im ≤ b)
theorem gErr_sml {z : G} (h : sml 999999999 z) : gErr z = 0 := by
  unfold gErr
  rw [fnz_zero]
  intro x hx
  simp at hx
  rcases hx with rfl | rfl
  · exact rng_zero.2 h.1
  · exact rng_zero.2 h.2
theorem fourE_sml {p : F4} (ha : sml 999999999 p.a) (hb : sml 999999999 p.b) (hc : sml 999999999 p.c) (hd : sml 999999999 p.d) : fourE p = 0 := by
  unfold fourE
  rw [fnz_zero]
  intro x hx
  simp [F4.l] at hx
  rcases hx with rfl | rfl | rfl | rfl
  · exact gErr_sml ha
  · exact gErr_sml hb
  · exact gErr_sml hc
  · exact gErr_sml hd
structure Sml (p : F4) : Prop where
  a : sml 100000000 p.a
  b : sml 100000000 p.b
  c : sml 100000000 p.c
  d : sml 100000000 p.d
theorem trV_l (s : Int) (p : F4) : (trV s p).l = trs s p.l := rfl
theorem trV_neg (p : F4) : trV (-1) p = ⟨⟨p.a.re + p.b.re + p.c.re + p.d.re, p.a.im + p.b.im + p.c.im + p.d.im⟩, ⟨p.a.re + p.b.im - p.c.re - p.d.im, p.a.im - p.b.re - p.c.im + p.d.re⟩, ⟨p.a.re - p.b.re + p.c.re - p.d.re, p.a.im - p.b.im + p.c.im - p.d.im⟩, ⟨p.a.re - p.b.im - p.c.re + p.d.im, p.a.im + p.b.re - p.c.im - p.d.re⟩⟩ := by
  have h := trs_neg p.a p.b p.c p.d
  have e : (trV (-1) p).l = _ := h
  simp only [F4.l, List.cons.injEq, and_true] at e
  obtain ⟨e0, e1, e2, e3⟩ := e
  cases hq : trV (-1) p
  rw [hq] at e0 e1 e2 e3
  simp only at e0 e1 e2 e3
  rw [e0, e1, e2, e3]
theorem trV_one (p : F4) : trV 1 p = ⟨⟨p.a.re + p.b.re + p.c.re + p.d.re, p.a.im + p.b.im + p.c.im + p.d.im⟩, ⟨p.a.re - p.b.im - p.c.re + p.d.im, p.a.im + p.b.re - p.c.im - p.d.re⟩, ⟨p.a.re - p.b.re + p.c.re - p.d.re, p.a.im - p.b.im + p.c.im - p.d.im⟩, ⟨p.a.re + p.b.im - p.c.re - p.d.im, p.a.im - p.b.re - p.c.im + p.d.re⟩⟩ := by
  have h := trs_one p.a p.b p.c p.d
  have e : (trV 1 p).l = _ := h
  simp only [F4.l, List.cons.injEq, and_true] at e
  obtain ⟨e0, e1, e2, e3⟩ := e
  cases hq : trV 1 p
  rw [hq] at e0 e1 e2 e3
  simp only at e0 e1 e2 e3
  rw [e0, e1, e2, e3]
theorem Sml.four {p : F4} (h : Sml p) : fourE p = 0 := by
  have w : ∀ z, sml 100000000 z → sml 999999999 z := fun z hz => by unfold sml at *; omega
  exact fourE_sml (w _ h.a) (w _ h.b) (w _ h.c) (w _ h.d)
theorem Sml.har {p : F4} (h : Sml p) : haV p = trV (-1) p := by unfold haV; rw [if_pos h.four]
theorem Sml.hs {p : F4} (h : Sml p) : sml 400000000 (trV (-1) p).a ∧ sml 400000000 (trV (-1) p).b ∧ sml 400000000 (trV (-1) p).c ∧ sml 400000000 (trV (-1) p).d := by
  have ha := h.a; have hb := h.b; have hc := h.c; have hd := h.d
  rw [trV_neg]
  unfold sml at *
  simp only
  omega
theorem Sml.four2 {p : F4} (h : Sml p) : fourE (trV (-1) p) = 0 := by
  have w : ∀ z, sml 400000000 z → sml 999999999 z := fun z hz => by unfold sml at *; omega
  have := h.hs
  exact fourE_sml (w _ this.1) (w _ this.2.1) (w _ this.2.2.1) (w _ this.2.2.2)
theorem trV_back (p : F4) : trV 1 (trV (-1) p) = ⟨⟨4 * p.a.re, 4 * p.a.im⟩, ⟨4 * p.b.re, 4 * p.b.im⟩, ⟨4 * p.c.re, 4 * p.c.im⟩, ⟨4 * p.d.re, 4 * p.d.im⟩⟩ := by
  rw [trV_one, trV_neg]
  simp only [F4.mk.injEq, G.mk.injEq]
  omega
theorem div4_four (z : G) : div4 ⟨4 * z.re, 4 * z.im⟩ = true := by unfold div4; simp
theorem quo4_four (z : G) : quo4 ⟨4 * z.re, 4 * z.im⟩ = z := by unfold quo4; cases z; simp
theorem Sml.backE {p : F4} (h : Sml p) : bkE (trV (-1) p) = 0 := by
  unfold bkE
  rw [if_pos h.four2, if_pos]
  unfold bkOk
  rw [trV_back]
  simp [F4.l, div4_four]
theorem Sml.backV {p : F4} (h : Sml p) : bkV (trV (-1) p) = p := by
  unfold bkV
  rw [if_pos h.backE, trV_back]
  unfold bkQ
  simp only [quo4_four]
/-- One place further. -/
def onP (p : F4) : F4 := ⟨p.d, p.a, p.b, p.c⟩
theorem Sml.on {p : F4} (h : Sml p) : Sml (onP p) := ⟨h.d, h.a, h.b, h.c⟩
theorem on_turn (p : F4) {m : Nat} (hm : m < 4) : (trV (-1) (onP p)).l.getD m .zero = (turnI (-(m : Int))).mul ((trV (-1) p).l.getD m .zero) := by
  rw [trV_neg, trV_neg]
  rcases lt4 hm with rfl | rfl | rfl | rfl
  · apply G.ext' <;> simp [F4.l, onP, turn0, G.mul] <;> omega
  · apply G.ext' <;> simp [F4.l, onP, turnm1, G.mul] <;> omega
  · apply G.ext' <;> simp [F4.l, onP, turnm2, G.mul] <;> omega
  · apply G.ext' <;> simp [F4.l, onP, turnm3, G.mul] <;> omega
theorem har_sum (p : F4) : (trV (-1) p).a = (p.a.add p.b).add (p.c.add p.d) := by
  rw [trV_neg]
  apply G.ext' <;> simp only [G.add] <;> omega
/-- The levels of the first k. -/
def lvl4 (p : F4) (k : Nat) : Int := ((p.l.take k).map G.sq).sum
theorem lvl4_succ (p : F4) {k : Nat} (h : k < 4) : lvl4 p (k + 1) = lvl4 p k + (p.l.getD k .zero).sq := by
  unfold lvl4
  rw [List.take_add_one, F4.at h]
  simp
theorem lvl4_all (p : F4) : lvl4 (trV (-1) p) 4 = 4 * lvl4 p 4 := by
  have h := trs_levels p.a p.b p.c p.d
  unfold lvl4
  rw [show (trV (-1) p).l.take 4 = trs (-1) [p.a, p.b, p.c, p.d] from rfl, h]
  simp [F4.l]
  omega
theorem sq_sml {z : G} {b : Int} (h : sml b z) (hb : 0 ≤ b) : 0 ≤ z.sq ∧ z.sq ≤ b * b + b * b := by
  unfold G.sq
  have h1 : z.re * z.re ≤ b * b := by
    rw [← Int.natAbs_mul_self (a := z.re), ← Int.natAbs_mul_self (a := b)]
    exact_mod_cast Nat.mul_le_mul (by have := h.1; omega) (by have := h.1; omega)
  have h2 : z.im * z.im ≤ b * b := by
    rw [← Int.natAbs_mul_self (a := z.im), ← Int.natAbs_mul_self (a := b)]
    exact_mod_cast Nat.mul_le_mul (by have := h.2; omega) (by have := h.2; omega)
  have h3 : 0 ≤ z.re * z.re := by rw [← Int.natAbs_mul_self (a := z.re)]; exact Int.natCast_nonneg _
  have h4 : 0 ≤ z.im * z.im := by rw [← Int.natAbs_mul_self (a := z.im)]; exact Int.natCast_nonneg _
  omega
end Go.Proofs.YtcihiglpahhboaaGreatDoor
