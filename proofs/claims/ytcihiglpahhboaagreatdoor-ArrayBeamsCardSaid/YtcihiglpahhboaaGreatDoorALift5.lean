/- Opening three, or four, numbers of 8 bits. -/
import Derived.Test.YtcihiglpahhboaaGreatDoorALift3
namespace Go.Proofs.YtcihiglpahhboaaGreatDoor
open Go.ChangeShapes Go.WideShapes Go.ChangeAt Go.WideElems Go.RowKit Go.Joins Go.Deep
set_option maxRecDepth 100000
section
variable {H : Type} {enc : TypeId × Value → H}
/-- A number of 8 bits. -/
def Byt : Type := { n : Nat // n ≤ 255 }
instance : Inhabited Byt := ⟨⟨0, by decide⟩⟩
def bytV (b : Byt) : Value := .int .u8 (b.1 : Int)
theorem cell_u8 {w : World} {base : Nat} {sp : Nat → Bool} {held : Bool} {n : Nat} {v : Value} {y : DataW H × List MemPlace} (h : DataW.trod enc Tryz.prog w base sp held n 5 [v] = some y) : ∃ b : Byt, v = bytV b := by
  obtain ⟨k0, e1, _, hw⟩ := DataW.trod_int Tryz.underlying5 h
  have e2 : IntKind.u8.min = 0 := by decide
  have e3 : IntKind.u8.max = 255 := by decide
  simp only [Lit.wf, e2, e3, Bool.and_eq_true, decide_eq_true_eq] at hw
  refine ⟨⟨k0.toNat, by omega⟩, ?_⟩
  have : v = .int .u8 k0 := by simpa using e1
  rw [this]
  unfold bytV
  congr 1
  show k0 = ((k0.toNat : Nat) : Int)
  omega
theorem open_u3 {W : World} {base : Nat} {v : Value} {d : DataW H} {p : List MemPlace} (hv : Value.okWide Tryz.prog W .any base 52 v) (h : DataW.Trod enc Tryz.prog W 0 (fun _ => true) true 52 v d p) : ∃ a b c : Nat, (a ≤ 255 ∧ b ≤ 255 ∧ c ≤ 255) ∧ v = .agg #[.int .u8 (a : Int), .int .u8 (b : Int), .int .u8 (c : Int)] := by
  obtain ⟨xs, hl, rfl⟩ := open_arrG bytV Tryz.underlying52 (by kernel_rfl) (by kernel_rfl) (fun _ _ _ h => cell_u8 h) hv h
  match xs, hl with
  | [a, b, c], _ => exact ⟨a.1, b.1, c.1, ⟨a.2, b.2, c.2⟩, rfl⟩
theorem open_u4 {W : World} {base : Nat} {v : Value} {d : DataW H} {p : List MemPlace} (hv : Value.okWide Tryz.prog W .any base 77 v) (h : DataW.Trod enc Tryz.prog W 0 (fun _ => true) true 77 v d p) : ∃ a b c e : Nat, (a ≤ 255 ∧ b ≤ 255 ∧ c ≤ 255 ∧ e ≤ 255) ∧ v = .agg #[.int .u8 (a : Int), .int .u8 (b : Int), .int .u8 (c : Int), .int .u8 (e : Int)] := by
  obtain ⟨xs, hl, rfl⟩ := open_arrG bytV Tryz.underlying77 (by kernel_rfl) (by kernel_rfl) (fun _ _ _ h => cell_u8 h) hv h
  match xs, hl with
  | [a, b, c, e], _ => exact ⟨a.1, b.1, c.1, e.1, ⟨a.2, b.2, c.2, e.2⟩, rfl⟩
end
end Go.Proofs.YtcihiglpahhboaaGreatDoor
