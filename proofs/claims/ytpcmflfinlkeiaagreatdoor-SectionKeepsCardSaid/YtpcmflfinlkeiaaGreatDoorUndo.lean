/- The contract of Undo. -/
import Derived.Test.YtpcmflfinlkeiaaGreatDoorDelay
namespace Go.Proofs.YtpcmflfinlkeiaaGreatDoor
open Go.RowKit Go.Shelf
set_option maxRecDepth 100000

theorem neq6 (a b c d e f x y z u v t : Int) (w : World) : (binOp .neq 79 (.agg #[.int .i64 a, .int .i64 b, .int .i64 c, .int .i64 d, .int .i64 e, .int .i64 f]) (.agg #[.int .i64 x, .int .i64 y, .int .i64 z, .int .i64 u, .int .i64 v, .int .i64 t])).run Tryz.prog w = .ok (.bool (!(a == x && (b == y && (c == z && (d == u && (e == v && f == t))))))) w := by
  obtain ⟨i, hi⟩ := info_int'
  have hh : (Op.equalIn 10000 79 (.agg #[.int .i64 a, .int .i64 b, .int .i64 c, .int .i64 d, .int .i64 e, .int .i64 f]) (.agg #[.int .i64 x, .int .i64 y, .int .i64 z, .int .i64 u, .int .i64 v, .int .i64 t])).run Tryz.prog w = .ok (a == x && (b == y && (c == z && (d == u && (e == v && f == t))))) w := by
    rw [show (10000 : Nat) = 9998 + 1 + 1 from rfl, run_equalIn_array w (9998 + 1) _ _ Tryz.underlying79 hi]
    have hc : Tryz.prog.cellsOf 3 = 1 := by kernel_rfl
    rw [hc]
    simp only [show List.range 6 = [0, 1, 2, 3, 4, 5] from rfl, Op.eqItems, go_sem]
    simp [go_sem, run_equalIn_int _ _ _ _ _ _ _ Tryz.underlying3]
    by_cases h1 : a = x <;> by_cases h2 : b = y <;> by_cases h3 : c = z <;> by_cases h4 : d = u <;> by_cases h5 : e = v <;> by_cases h6 : f = t <;> simp [h1, h2, h3, h4, h5, h6]
  simp only [binOp, Op.equal, Op.maxDepth]
  simp [hh, go_sem]

theorem numbers6 (a b c d e f : Int) (w : World) : Calls Tryz.prog 37 #[.agg #[.int .i64 a, .int .i64 b, .int .i64 c, .int .i64 d, .int .i64 e, .int .i64 f]] w fun r w' => r = .returned (.agg #[.int .i64 a, .int .i64 b, .int .i64 c, .int .i64 d, .int .i64 e, .int .i64 f]) ∧ Below w.heap.size w w' :=
  numbers_any ⟨a, b, c, d, e, f⟩ w

/-- Whether a section keeps all information; the error of Undo ahead of its walk. -/
def Sec.keepB (s : Sec) : Bool := s.unit == s.b0 && (0 == s.a1 && 0 == s.a2)
def undoErr (s : Sec) (xs : List Int) : Int := fnz [s.err, if s.keepB then 0 else 25, sigErr xs]
theorem neqK (s : Sec) (b : Bool) (hb : s.keepB = b) (w : World) : (binOp .neq 79 (.agg #[.int .i64 s.unit, .int .i64 s.b1, .int .i64 s.b2, .int .i64 0, .int .i64 0, .int .i64 s.sh]) (.agg #[.int .i64 s.b0, .int .i64 s.b1, .int .i64 s.b2, .int .i64 s.a1, .int .i64 s.a2, .int .i64 s.sh])).run Tryz.prog w = .ok (.bool (!b)) w := by
  rw [neq6, ← hb]
  simp [Sec.keepB]
/-- One input of Undo. -/
def Sec.ui (s : Sec) (x1 x2 y : Int) : Int := y - (s.b1 * x1 + s.b2 * x2) / s.unit
/-- The inputs of Undo. -/
def Sec.und (s : Sec) : Int → Int → List Int → List Int
  | _, _, [] => []
  | x1, x2, y :: ys => s.ui x1 x2 y :: s.und (s.ui x1 x2 y) x1 ys
/-- The last two inputs behind all. -/
def Sec.un1 (s : Sec) : Int → Int → List Int → Int
  | x1, _, [] => x1
  | x1, x2, y :: ys => s.un1 (s.ui x1 x2 y) x1 ys
def Sec.un2 (s : Sec) : Int → Int → List Int → Int
  | _, x2, [] => x2
  | x1, x2, y :: ys => s.un2 (s.ui x1 x2 y) x1 ys
theorem und_snoc (s : Sec) (a b : Int) (ys : List Int) (y : Int) : s.und a b (ys ++ [y]) = s.und a b ys ++ [s.ui (s.un1 a b ys) (s.un2 a b ys) y] := by
  induction ys generalizing a b with
  | nil => rfl
  | cons z l ih => simp [Sec.und, Sec.un1, Sec.un2, ih]
theorem un1_snoc (s : Sec) (a b : Int) (ys : List Int) (y : Int) : s.un1 a b (ys ++ [y]) = s.ui (s.un1 a b ys) (s.un2 a b ys) y := by
  induction ys generalizing a b with
  | nil => rfl
  | cons z l ih => simp [Sec.un1, Sec.un2, ih]
theorem un2_snoc (s : Sec) (a b : Int) (ys : List Int) (y : Int) : s.un2 a b (ys ++ [y]) = s.un1 a b ys := by
  induction ys generalizing a b with
  | nil => rfl
  | cons z l ih => simp [Sec.un1, Sec.un2, ih]
theorem und_len (s : Sec) (a b : Int) (ys : List Int) : (s.und a b ys).length = ys.length := by
  induction ys generalizing a b with
  | nil => rfl
  | cons z l ih => simp [Sec.und, ih]
theorem und_take_succ (s : Sec) (a b : Int) {xs : List Int} {k : Nat} {x : Int} (h : xs[k]? = some x) : s.und a b (xs.take (k + 1)) = s.und a b (xs.take k) ++ [s.ui (s.un1 a b (xs.take k)) (s.un2 a b (xs.take k)) x] := by
  rw [List.take_add_one, h]; exact und_snoc _ _ _ _ _
theorem un1_take_succ (s : Sec) (a b : Int) {xs : List Int} {k : Nat} {x : Int} (h : xs[k]? = some x) : s.un1 a b (xs.take (k + 1)) = s.ui (s.un1 a b (xs.take k)) (s.un2 a b (xs.take k)) x := by
  rw [List.take_add_one, h]; exact un1_snoc _ _ _ _ _
theorem un2_take_succ (s : Sec) (a b : Int) {xs : List Int} {k : Nat} {x : Int} (h : xs[k]? = some x) : s.un2 a b (xs.take (k + 1)) = s.un1 a b (xs.take k) := by
  rw [List.take_add_one, h]; exact un2_snoc _ _ _ _ _
theorem und_pre (s : Sec) (xs zs : List Int) (a b : Int) : ∃ l, s.und a b (xs ++ zs) = s.und a b xs ++ l := by
  induction xs generalizing a b with
  | nil => exact ⟨_, rfl⟩
  | cons z l ih => obtain ⟨r, hr⟩ := ih (s.ui a b z) a; exact ⟨r, by simp [Sec.und, hr]⟩
/-- Undo as a whole: the inputs and the error. -/
def Sec.undB (s : Sec) (xs : List Int) : Bool := (s.und 0 0 xs).all vB
theorem undB_false {s : Sec} {xs : List Int} {k : Nat} {x : Int} (h : xs[k]? = some x) (hv : vB (s.ui (s.un1 0 0 (xs.take k)) (s.un2 0 0 (xs.take k)) x) = false) : s.undB xs = false := by
  obtain ⟨l, hl⟩ := und_pre s (xs.take (k + 1)) (xs.drop (k + 1)) 0 0
  rw [List.take_append_drop, und_take_succ s 0 0 h] at hl
  unfold Sec.undB
  rw [hl]
  simp [hv]

theorem fin034 {Q : World → Prop} {W : World} {g : Nat} {t : TypeId} {c0 c1 c2 c3 c4 c5 u0 u3 u4 : Value} (hk : Blk W g t #[c0, c1, c2, c3, c4, c5]) (h : ∀ X, Below g W X → Blk X g t #[u0, c1, c2, u3, u4, c5] → Q X) :
    Q (((W.setCell ⟨g, 0, none⟩ u0).setCell ⟨g, 3, none⟩ u3).setCell ⟨g, 4, none⟩ u4) :=
  h _ (below_set (below_set (below_set (Below.refl _ _) (Nat.le_refl _) _) (Nat.le_refl _) _) (Nat.le_refl _) _) (by simpa using ((hk.set_ 0 u0).set_ 3 u3).set_ 4 u4)
end Go.Proofs.YtpcmflfinlkeiaaGreatDoor
