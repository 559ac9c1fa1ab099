/- From a law's walk to its row: what is alike for the laws on texts. -/
import Derived.Test.YtpcmflfinlkeiaaGreatDoorRows
import Derived.Test.YtpcmflfinlkeiaaGreatDoorTie
import Derived.Test.YtpcmflfinlkeiaaGreatDoorCards
import Derived.Test.YtpcmflfinlkeiaaGreatDoorSLawTxt
import Derived.ProofKit
import Derived.LaidMore
import Derived.OpenShut
import Derived.Carry
import Derived.Lib.LaidTab
import Derived.Stop.Joined
import Derived.SevenTiedAt
namespace Go.Proofs.YtpcmflfinlkeiaaGreatDoor
open Go.ChangeShapes Go.WideShapes Go.ChangeAt Go.WideElems Go.RowKit
set_option maxRecDepth 100000

theorem ownK : ownKnob Tryz.prog.godebug = none := by kernel_rfl
theorem laidOut : laidOutB Tryz.prog = true := by kernel_rfl
theorem gauss_two {H : Type} {enc : TypeId × Value → H} {w : World} {base : Nat} {sp : Nat → Bool} {held : Bool} {m : Nat} {c0 c1 : Value} {a b : Int} {p : List MemPlace} (h : DataW.trod enc Tryz.prog w base sp held m 66 [c0, c1] = some (.agg [.lit (.int .i64 a), .lit (.int .i64 b)], p)) : c0 = .int .i64 a ∧ c1 = .int .i64 b := by
  obtain ⟨y0, y1, n, hx, _, h0, h1⟩ := trod_struct2 Tryz.underlying66 h
  have e0 : Tryz.prog.cellsOf 3 = 1 := by kernel_rfl
  simp only [e0, List.drop_zero, List.drop_succ_cons, List.take_succ_cons, List.take_zero] at h0 h1
  simp only [Prod.mk.injEq, DataW.agg.injEq, List.cons.injEq, and_true] at hx
  obtain ⟨k0, e1, e2, _⟩ := DataW.trod_int Tryz.underlying3 h0
  obtain ⟨k1, e3, e4, _⟩ := DataW.trod_int Tryz.underlying3 h1
  simp only [List.cons.injEq, and_true] at e1 e3
  rw [e2, e4] at hx
  simp at hx
  subst e1; subst e3
  exact ⟨by rw [hx.1.1], by rw [hx.1.2]⟩

end Go.Proofs.YtpcmflfinlkeiaaGreatDoor
