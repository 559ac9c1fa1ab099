/- Words for the laws of many calls: chains of worlds; Mirror as a whole; equality of sections. -/
import Derived.Test.YtlaaajkehjoffaaDoorLawUndo
import Derived.Test.YtlaaajkehjoffaaDoorSmallR
namespace Go.Proofs.YtlaaajkehjoffaaDoor
open Go.RowKit Go.Shelf
set_option maxRecDepth 100000

theorem below_next {a b c : World} (h1 : Below a.heap.size a b) (h2 : Below b.heap.size b c) : Below a.heap.size a c := below_step h1 h2 h1.size
/-- Mirror as a whole. -/
def Sec.mirE (s : Sec) : Sec := if s.err = 0 then s.mirror else Sec.zero
theorem mirE_ok {s : Sec} (h : s.err = 0) : s.mirE = s.mirror := by unfold Sec.mirE; rw [if_pos h]
theorem mirE_bad {s : Sec} (h : s.err ≠ 0) : s.mirE = Sec.zero := by unfold Sec.mirE; rw [if_neg h]
theorem Mirror_tot (s : Sec) (w : World) :
    Calls Tryd.prog 53 #[.agg #[.int .i64 s.b0, .int .i64 s.b1, .int .i64 s.b2, .int .i64 s.a1, .int .i64 s.a2, .int .i64 s.sh]] w fun e w' => e = .returned (.tuple #[.agg #[.int .i64 s.mirE.b0, .int .i64 s.mirE.b1, .int .i64 s.mirE.b2, .int .i64 s.mirE.a1, .int .i64 s.mirE.a2, .int .i64 s.mirE.sh], .int .i64 s.err]) ∧ Below w.heap.size w w' := by
  by_cases h0 : s.err = 0
  · rw [mirE_ok h0, h0]; exact Mirror_ok s w h0
  · rw [mirE_bad h0]; exact Mirror_bad s w (by simpa using h0)
theorem eqlSec (s : Sec) (w : World) : (binOp .eql 23 (.agg #[.int .i64 s.b0, .int .i64 s.b1, .int .i64 s.b2, .int .i64 s.a1, .int .i64 s.a2, .int .i64 s.sh]) (.agg #[.int .i64 s.b0, .int .i64 s.b1, .int .i64 s.b2, .int .i64 s.a1, .int .i64 s.a2, .int .i64 s.sh])).run Tryd.prog w = .ok (.bool true) w := by
  have hh : (Op.equalIn 10000 23 (.agg #[.int .i64 s.b0, .int .i64 s.b1, .int .i64 s.b2, .int .i64 s.a1, .int .i64 s.a2, .int .i64 s.sh]) (.agg #[.int .i64 s.b0, .int .i64 s.b1, .int .i64 s.b2, .int .i64 s.a1, .int .i64 s.a2, .int .i64 s.sh])).run Tryd.prog w = .ok true w := by
    rw [show (10000 : Nat) = 9999 + 1 from rfl, run_equalIn_struct w 9999 23 _ _ (by kernel_rfl) (by kernel_rfl)]
    simp [Program.fieldsOf, Tryd.underlying23, Op.eqFields, go_sem, run_equalIn_int _ _ _ _ _ _ _ Tryd.underlying3]
  simp only [binOp, Op.equal, Op.maxDepth]
  simp [hh, go_sem]
/-! ### Stores of a whole struct -/
section
variable {W v : World} {g g' : Nat} {t : TypeId} {cs : Array Value} {c0 c1 c2 c3 u0 u1 u2 u3 : Value} {B : Nat}
theorem blk4 (hk : Blk W g t #[c0, c1, c2, c3]) : Blk ((((W.setCell ⟨g, 0, none⟩ u0).setCell ⟨g, 1, none⟩ u1).setCell ⟨g, 2, none⟩ u2).setCell ⟨g, 3, none⟩ u3) g t #[u0, u1, u2, u3] := by
  simpa using (((hk.set_ 0 u0).set_ 1 u1).set_ 2 u2).set_ 3 u3
theorem far4 (hk : Blk W g' t cs) (hne : g' ≠ g) : Blk ((((W.setCell ⟨g, 0, none⟩ u0).setCell ⟨g, 1, none⟩ u1).setCell ⟨g, 2, none⟩ u2).setCell ⟨g, 3, none⟩ u3) g' t cs :=
  (((hk.far (p := ⟨g, 0, none⟩) hne u0).far (p := ⟨g, 1, none⟩) hne u1).far (p := ⟨g, 2, none⟩) hne u2).far (p := ⟨g, 3, none⟩) hne u3
theorem below4 (h : Below B v W) (hg : B ≤ g) : Below B v ((((W.setCell ⟨g, 0, none⟩ u0).setCell ⟨g, 1, none⟩ u1).setCell ⟨g, 2, none⟩ u2).setCell ⟨g, 3, none⟩ u3) :=
  below_set (below_set (below_set (below_set h hg _) hg _) hg _) hg _
theorem blk2 (hk : Blk W g t #[c0, c1]) : Blk ((W.setCell ⟨g, 0, none⟩ u0).setCell ⟨g, 1, none⟩ u1) g t #[u0, u1] := by
  simpa using (hk.set_ 0 u0).set_ 1 u1
theorem far2 (hk : Blk W g' t cs) (hne : g' ≠ g) : Blk ((W.setCell ⟨g, 0, none⟩ u0).setCell ⟨g, 1, none⟩ u1) g' t cs := (hk.far (p := ⟨g, 0, none⟩) hne u0).far (p := ⟨g, 1, none⟩) hne u1
theorem below2 (h : Below B v W) (hg : B ≤ g) : Below B v ((W.setCell ⟨g, 0, none⟩ u0).setCell ⟨g, 1, none⟩ u1) := below_set (below_set h hg _) hg _
variable {c4 c5 u4 u5 : Value}
theorem blk6 (hk : Blk W g t #[c0, c1, c2, c3, c4, c5]) : Blk ((((((W.setCell ⟨g, 0, none⟩ u0).setCell ⟨g, 1, none⟩ u1).setCell ⟨g, 2, none⟩ u2).setCell ⟨g, 3, none⟩ u3).setCell ⟨g, 4, none⟩ u4).setCell ⟨g, 5, none⟩ u5) g t #[u0, u1, u2, u3, u4, u5] := by
  simpa using (((((hk.set_ 0 u0).set_ 1 u1).set_ 2 u2).set_ 3 u3).set_ 4 u4).set_ 5 u5
theorem below6 (h : Below B v W) (hg : B ≤ g) : Below B v ((((((W.setCell ⟨g, 0, none⟩ u0).setCell ⟨g, 1, none⟩ u1).setCell ⟨g, 2, none⟩ u2).setCell ⟨g, 3, none⟩ u3).setCell ⟨g, 4, none⟩ u4).setCell ⟨g, 5, none⟩ u5) :=
  below_set (below_set (below_set (below_set (below_set (below_set h hg _) hg _) hg _) hg _) hg _) hg _
end
end Go.Proofs.YtlaaajkehjoffaaDoor
