/- Regions that draw their order: worlds that lie over a given one. 'over B w x': x, if x is w below block B; else w. -/
import Derived.Test.YthlnmoecmicofaaDoorWords
import Derived.Deep.QuietTactic
import Derived.BigQuiet
import Derived.Deep.RegionHeld3
namespace Go.Proofs.YthlnmoecmicofaaDoor
open Go.RowKit
set_option maxRecDepth 100000

open Classical in
/-- The world x where it is w below block number B; w else. -/
noncomputable def over (B : Nat) (w x : World) : World := if Below B w x then x else w

theorem over_below (B : Nat) (w x : World) : Below B w (over B w x) := by
  unfold over
  split
  · assumption
  · exact Below.refl _ _
theorem over_eq {B : Nat} {w x : World} (h : Below B w x) : x = over B w x := by unfold over; rw [if_pos h]

theorem over_cell {B b i : Nat} {w : World} (x : World) (h : b < B) : (over B w x).cell? ⟨b, i, none⟩ = w.cell? ⟨b, i, none⟩ := (over_below B w x).cell (p := ⟨b, i, none⟩) h
theorem over_frozen {B b i : Nat} {w : World} (x : World) (h : b < B) : (over B w x).frozen? ⟨b, i, none⟩ = w.frozen? ⟨b, i, none⟩ := (over_below B w x).frozen (p := ⟨b, i, none⟩) h

theorem over_blk {B b : Nat} {t : TypeId} {cs : Array Value} {w : World} (h : Blk w b t cs) (hb : b < B) : ∀ (i : Nat) (x : World), (over B w x).cell? ⟨b, i, none⟩ = cs[i]? :=
  fun i x => (over_cell x hb).trans (h.cell i)

/-- A region whose operations read, and whose callees make memory of their own alone: one walk serves all orders. -/
theorem wp_region_over (B : Nat) {P : Program} {id : Nat} {Q : Exit → Act → World → Prop} {a : Act} {w : World} {l : List Oper} (hm : P.follows .mixedOrders = true) (hB : Region.lexB .any l.toArray = true)
    (h : wpQuiet P l.toArray (fun w' => ∃ x, w' = over B w x) (fun a' => ∀ w', (∃ x, w' = over B w x) → Q .normal a' w') l a) : (Code.region id l.toArray true).wp P Q a w :=
  wp_region_quiet (C := fun w' => ∃ x, w' = over B w x) hm hB ⟨w.drew, over_eq ((Below.refl _ _).drew)⟩ (by simpa using h)

/-- A callee's contract in such a region. -/
theorem over_call {P : Program} {f : FuncId} {args : Array Value} {B : Nat} {w x : World} {v : Value} (hB : B ≤ w.heap.size)
    (h : Calls P f args (over B w x) fun e w' => e = .returned v ∧ Below (over B w x).heap.size (over B w x) w') :
    Calls P f args (over B w x) fun e w' => e = .returned v ∧ ∃ y, w' = over B w y :=
  h.mono fun _ _ ⟨he, hb⟩ => ⟨he, _, over_eq ((over_below B w x).trans (hb.mono (Nat.le_trans hB (over_below B w x).size)))⟩
theorem over_same {P : Program} {f : FuncId} {args : Array Value} {B : Nat} {w x : World} {v : Value}
    (h : Calls P f args (over B w x) fun e w' => e = .returned v ∧ over B w x = w') :
    Calls P f args (over B w x) fun e w' => e = .returned v ∧ ∃ y, w' = over B w y :=
  h.mono fun _ _ ⟨he, hb⟩ => ⟨he, x, hb.symm⟩
/-- One where the world does not change is one where nothing old changes. -/
theorem below_same {P : Program} {f : FuncId} {args : Array Value} {w : World} {v : Value} (h : Calls P f args w fun e w' => e = .returned v ∧ w = w') :
    Calls P f args w fun e w' => e = .returned v ∧ Below w.heap.size w w' :=
  h.mono fun _ _ ⟨he, hb⟩ => ⟨he, by rw [← hb]; exact Below.refl _ _⟩
end Go.Proofs.YthlnmoecmicofaaDoor
