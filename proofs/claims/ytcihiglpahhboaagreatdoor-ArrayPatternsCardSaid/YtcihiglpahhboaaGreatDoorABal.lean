/- Balloon of the program and of the reference. -/
import Derived.Test.YtcihiglpahhboaaGreatDoorARPat
import Derived.Test.YtcihiglpahhboaaGreatDoorBaseC
import Derived.Laws.FloatArith
namespace Go.Proofs.YtcihiglpahhboaaGreatDoor
open Go.RowKit Go.Shelf
set_option maxRecDepth 100000
/-- One sixteenth of an integer, as a float32: its bits. -/
def fl (n : Int) : Nat := (floatBits .quo .f32 (floatOfInt .f32 n) 1098907648).getD 0
def fbOk (n : Int) : Bool := match floatBits .quo .f32 (floatOfInt .f32 n) 1098907648 with
  | some r => FloatKind.f32.format.order r r == some .eq
  | none => false
theorem fb_all : ((List.range 3201).all fun k => fbOk ((k : Int) - 1600)) = true := by decide +kernel
theorem fl_ok {n : Int} (h : -1600 ≤ n ∧ n ≤ 1600) : floatBits .quo .f32 (floatOfInt .f32 n) 1098907648 = some (fl n) ∧ Op.floatEq .f32 (fl n) (fl n) = true := by
  have h1 := List.all_eq_true.1 fb_all (n + 1600).toNat (by rw [List.mem_range]; omega)
  rw [show (((n + 1600).toNat : Nat) : Int) - 1600 = n by omega] at h1
  unfold fbOk at h1
  unfold fl
  split at h1
  · rename_i r hr
    rw [hr]
    exact ⟨rfl, h1⟩
  · cases h1
theorem fl_zero : fl 0 = 0 := by decide +kernel
/-- One number of a balloon. -/
def bc (z : G) : Value := .complex .f32 (fl z.re) (fl z.im)
theorem bc_zero : bc .zero = .complex .f32 0 0 := by unfold bc; rw [show G.zero.re = 0 from rfl, show G.zero.im = 0 from rfl, fl_zero]
/-- The cells of a balloon of which k are there. -/
def bcs (f : Nat → G) (k : Nat) : List Value := (List.range 8).map fun j => if j < k then bc (f j) else .complex .f32 0 0
theorem bcs_zero (f : Nat → G) : (bcs f 0).toArray = #[.complex .f32 0 0, .complex .f32 0 0, .complex .f32 0 0, .complex .f32 0 0, .complex .f32 0 0, .complex .f32 0 0, .complex .f32 0 0, .complex .f32 0 0] := rfl
theorem bcs_all (f : Nat → G) : (bcs f 8).toArray = #[bc (f 0), bc (f 1), bc (f 2), bc (f 3), bc (f 4), bc (f 5), bc (f 6), bc (f 7)] := rfl
theorem bcs_len (f : Nat → G) (k : Nat) : (bcs f k).length = 8 := by unfold bcs; simp
theorem bcs_set {W : World} {g : Nat} {t : TypeId} {f : Nat → G} {k : Nat} (hk : k < 8) (h : Blk W g t (bcs f k).toArray) : Blk (W.setCell ⟨g, k, none⟩ (bc (f k))) g t (bcs f (k + 1)).toArray := by
  have := h.set_ k (bc (f k))
  rcases lt8' hk with rfl | rfl | rfl | rfl | rfl | rfl | rfl | rfl <;> exact this
theorem bcs_none : (bcs (fun _ => G.zero) 8).toArray = #[.complex .f32 0 0, .complex .f32 0 0, .complex .f32 0 0, .complex .f32 0 0, .complex .f32 0 0, .complex .f32 0 0, .complex .f32 0 0, .complex .f32 0 0] := by
  rw [bcs_all]; simp only [bc_zero]
/-- The value of a balloon. -/
def ball (f : Nat → G) : Value := .agg (bcs f 8).toArray
theorem info_c64 : ∃ i, Tryz.prog.info? 83 = some i := Option.isSome_iff_exists.1 (by kernel_rfl)
theorem eq_c64 (d a b : Nat) (ha : Op.floatEq .f32 a a = true) (hb : Op.floatEq .f32 b b = true) (w : World) : (Op.equalIn (d + 1) 83 (.complex .f32 a b) (.complex .f32 a b)).run Tryz.prog w = .ok true w := by
  simp [Op.equalIn, run_underlying Tryz.underlying83, ha, hb]
theorem eq_eight (b0 b1 b2 b3 b4 b5 b6 b7 : Value) (w : World) (hb : ∀ b ∈ [b0, b1, b2, b3, b4, b5, b6, b7], (Op.equalIn 9999 83 b b).run Tryz.prog w = .ok true w) : (Op.equalIn 10000 84 (.agg #[b0, b1, b2, b3, b4, b5, b6, b7]) (.agg #[b0, b1, b2, b3, b4, b5, b6, b7])).run Tryz.prog w = .ok true w := by
  obtain ⟨i, hi⟩ := info_c64
  have c1 : Tryz.prog.cellsOf 83 = 1 := by kernel_rfl
  rw [show (10000 : Nat) = 9999 + 1 from rfl, run_equalIn_array w 9999 _ _ Tryz.underlying84 hi, c1]
  have q0 : #[b0, b1, b2, b3, b4, b5, b6, b7][0]? = some b0 := rfl
  have q1 : #[b0, b1, b2, b3, b4, b5, b6, b7][1]? = some b1 := rfl
  have q2 : #[b0, b1, b2, b3, b4, b5, b6, b7][2]? = some b2 := rfl
  have q3 : #[b0, b1, b2, b3, b4, b5, b6, b7][3]? = some b3 := rfl
  have q4 : #[b0, b1, b2, b3, b4, b5, b6, b7][4]? = some b4 := rfl
  have q5 : #[b0, b1, b2, b3, b4, b5, b6, b7][5]? = some b5 := rfl
  have q6 : #[b0, b1, b2, b3, b4, b5, b6, b7][6]? = some b6 := rfl
  have q7 : #[b0, b1, b2, b3, b4, b5, b6, b7][7]? = some b7 := rfl
  have g0 := hb b0 (by simp)
  have g1 := hb b1 (by simp)
  have g2 := hb b2 (by simp)
  have g3 := hb b3 (by simp)
  have g4 := hb b4 (by simp)
  have g5 := hb b5 (by simp)
  have g6 := hb b6 (by simp)
  have g7 := hb b7 (by simp)
  clear hb
  generalize #[b0, b1, b2, b3, b4, b5, b6, b7] = cs at *
  simp only [show List.range 8 = [0, 1, 2, 3, 4, 5, 6, 7] from rfl, Op.eqItems]
  simp [go_sem, q0, q1, q2, q3, q4, q5, q6, q7, g0, g1, g2, g3, g4, g5, g6, g7]
theorem bc_eq {z : G} (h : z.nrm ≤ 1600) (w : World) : (Op.equalIn 9999 83 (bc z) (bc z)).run Tryz.prog w = .ok true w := by
  have h2 := fl_ok (n := z.re) (by unfold G.nrm at h; omega)
  have h3 := fl_ok (n := z.im) (by unfold G.nrm at h; omega)
  exact eq_c64 9998 _ _ h2.2 h3.2 w
/-- A balloon is itself. -/
theorem eqBal (f : Nat → G) (hf : ∀ k, k < 8 → (f k).nrm ≤ 1600) (w : World) : (binOp .eql 84 (.agg #[bc (f 0), bc (f 1), bc (f 2), bc (f 3), bc (f 4), bc (f 5), bc (f 6), bc (f 7)]) (.agg #[bc (f 0), bc (f 1), bc (f 2), bc (f 3), bc (f 4), bc (f 5), bc (f 6), bc (f 7)])).run Tryz.prog w = .ok (.bool true) w := by
  have g := fun k hk => bc_eq (hf k hk) w
  have g0 := g 0 (by omega)
  have g1 := g 1 (by omega)
  have g2 := g 2 (by omega)
  have g3 := g 3 (by omega)
  have g4 := g 4 (by omega)
  have g5 := g 5 (by omega)
  have g6 := g 6 (by omega)
  have g7 := g 7 (by omega)
  clear g hf
  generalize bc (f 0) = b0 at *
  generalize bc (f 1) = b1 at *
  generalize bc (f 2) = b2 at *
  generalize bc (f 3) = b3 at *
  generalize bc (f 4) = b4 at *
  generalize bc (f 5) = b5 at *
  generalize bc (f 6) = b6 at *
  generalize bc (f 7) = b7 at *
  have hh := eq_eight b0 b1 b2 b3 b4 b5 b6 b7 w (by
    intro b hb
    simp only [List.mem_cons, List.not_mem_nil, or_false] at hb
    rcases hb with rfl | rfl | rfl | rfl | rfl | rfl | rfl | rfl <;> assumption)
  simp only [binOp, Op.equal, Op.maxDepth]
  simp [hh, go_sem]
end Go.Proofs.YtcihiglpahhboaaGreatDoor
