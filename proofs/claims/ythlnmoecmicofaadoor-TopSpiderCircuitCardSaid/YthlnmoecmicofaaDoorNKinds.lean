/- The kinds of elements: the map that kinds makes; what a look-up in it gives. -/
import Derived.Test.YthlnmoecmicofaaDoorNSame
import Derived.Maps.Own
namespace Go.Proofs.YthlnmoecmicofaaDoor
open Go.RowKit Go.Shelf
set_option maxRecDepth 100000

def eBlock : Value := .agg #[.string kTrap, .bool true, .func (.func 80) #[] #[]]
def eSeries : Value := .agg #[.string kShunt, .bool false, .func (.func 81) #[] #[]]
def eShunt : Value := .agg #[.string kSeries, .bool false, .func (.func 82) #[] #[]]
def eTrap : Value := .agg #[.string kBlock, .bool true, .func (.func 83) #[] #[]]
/-- The block of the map of kinds. -/
def KMap (w : World) (g : Nat) : Prop :=
  w.heap[g]? = some (.map #[{ key := .string kBlock, val := eBlock, born := 0 }, { key := .string kSeries, val := eSeries, born := 1 }, { key := .string kShunt, val := eShunt, born := 2 }, { key := .string kTrap, val := eTrap, born := 3 }] 4)
theorem KMap.below {w w' : World} {g : Nat} (h : KMap w g) (hb : Below w.heap.size w w') : KMap w' g := (hb.block g (Array.getElem?_eq_some_iff.1 h).1).trans h
theorem map_put (W : World) (g : Nat) (es : Array MapEntry) (c : Nat) (h : W.heap[g]? = some (.map es c)) (k : ByteArray) (v : Value) (hnew : Instr.findNow .string (.string k) es.toList 0 = some none) :
    ∃ W', (Instr.mapUpdate 102 (.map (some g)) (.string k) v).run Tryd.prog W = .ok () W' ∧ W'.heap[g]? = some (.map (es.push { key := .string k, val := v, born := c }) (c + 1)) ∧ Below g W W' := by
  have hlt : g < W.heap.size := (Array.getElem?_eq_some_iff.1 h).1
  refine ⟨{ W with heap := W.heap.setIfInBounds g (.map (es.push { key := .string k, val := v, born := c }) (c + 1)) }, ?_, (MapKept.heap_set h).1, ⟨rfl, rfl, rfl, by simp, fun j hj => (MapKept.heap_set h).2 j (by omega)⟩⟩
  simp [Instr.mapUpdate, run_underlying Tryd.underlying102, MapKept.run_getObj_map h, MapKept.run_checkKey Tryd.underlying9 (d := .string) (k := .string k) trivial, MapKept.run_findKey Tryd.underlying9 hnew, MapKept.run_setObj_map _ h, Result.andThen]
theorem kinds_any (w : World) :
    Calls Tryd.prog 51 #[] w fun e w' => e = .returned (.map (some w.heap.size)) ∧ KMap w' w.heap.size ∧ Below w.heap.size w w' := by
  obtain ⟨W1, r1, m1, b1⟩ := map_put (w.alloc (.map #[] 0)) w.heap.size #[] 0 (heap_alloc_new _ _) { data := #[98, 108, 111, 99, 107] } (.agg #[.string { data := #[116, 114, 97, 112] }, .bool true, .func (.func 80) #[] #[]]) rfl
  obtain ⟨W2, r2, m2, b2⟩ := map_put W1 w.heap.size _ 1 m1 { data := #[115, 101, 114, 105, 101, 115] } (.agg #[.string { data := #[115, 104, 117, 110, 116] }, .bool false, .func (.func 81) #[] #[]]) (by kernel_rfl)
  obtain ⟨W3, r3, m3, b3⟩ := map_put W2 w.heap.size _ 2 m2 { data := #[115, 104, 117, 110, 116] } (.agg #[.string { data := #[115, 101, 114, 105, 101, 115] }, .bool false, .func (.func 82) #[] #[]]) (by kernel_rfl)
  obtain ⟨W4, r4, m4, b4⟩ := map_put W3 w.heap.size _ 3 m3 { data := #[116, 114, 97, 112] } (.agg #[.string { data := #[98, 108, 111, 99, 107] }, .bool true, .func (.func 83) #[] #[]]) (by kernel_rfl)
  have hB : Below w.heap.size w W4 := ((((Below.refl _ _).alloc (Nat.le_refl _) _).trans b1).trans b2).trans (b3.trans b4)
  have hK : KMap W4 w.heap.size := m4
  have hmm := @run_makeMap Tryd.prog
  clear m1 m2 m3 m4 b1 b2 b3 b4
  go_enter Tryd.func51, Tryd.ntmps51
  go_wp2_with fail
  go_ret
  exact ⟨rfl, hK, hB⟩
/-! ### What a look-up gives -/
def kDual (k : ByteArray) : ByteArray := if k = kBlock then kTrap else if k = kSeries then kShunt else if k = kShunt then kSeries else if k = kTrap then kBlock else { data := #[] }
def kDiv (k : ByteArray) : Bool := decide (k = kBlock ∨ k = kTrap)
def kKnown (k : ByteArray) : Bool := decide (k = kBlock ∨ k = kSeries ∨ k = kShunt ∨ k = kTrap)
def kFn (k : ByteArray) : Value := if k = kBlock then .func (.func 80) #[] #[] else if k = kSeries then .func (.func 81) #[] #[] else if k = kShunt then .func (.func 82) #[] #[] else if k = kTrap then .func (.func 83) #[] #[] else .nilFunc
theorem zero_kind (w : World) : (zeroValue 101).run Tryd.prog w = .ok (.agg #[.string { data := #[] }, .bool false, .nilFunc]) w := by kernel_rfl
theorem bytes_beq (a b : ByteArray) : (a == b) = decide (a = b) := by
  obtain ⟨x⟩ := a
  obtain ⟨y⟩ := b
  show (x == y) = _
  rw [Bool.eq_iff_iff]
  simp
theorem kmap_find (k : ByteArray) : Instr.findNow .string (.string k) [{ key := .string kBlock, val := eBlock, born := 0 }, { key := .string kSeries, val := eSeries, born := 1 }, { key := .string kShunt, val := eShunt, born := 2 }, { key := .string kTrap, val := eTrap, born := 3 }] 0 =
    some (if k = kBlock then some (0, eBlock) else if k = kSeries then some (1, eSeries) else if k = kShunt then some (2, eShunt) else if k = kTrap then some (3, eTrap) else none) := by
  have n1 : ¬ kSeries = kBlock := by decide
  have n3 : ¬ kShunt = kBlock := by decide
  have n4 : ¬ kTrap = kBlock := by decide
  have n5 : ¬ kTrap = kSeries := by decide
  have n6 : ¬ kTrap = kShunt := by decide
  have n7 : ¬ kShunt = kSeries := by decide
  simp only [Instr.findNow, Instr.sameNow, bytes_beq]
  by_cases h1 : k = kBlock
  · simp [h1]
  · by_cases h2 : k = kSeries
    · simp [h2, n1]
    · by_cases h3 : k = kShunt
      · simp [h3, n3, n7]
      · by_cases h4 : k = kTrap
        · simp [h4, n4, n5, n6]
        · simp [h1, h2, h3, h4]
theorem kmap_get {w : World} {g : Nat} (h : KMap w g) (k : ByteArray) :
    (Instr.lookup 102 (.map (some g)) (.string k) true).run Tryd.prog w = .ok (.tuple #[.agg #[.string (kDual k), .bool (kDiv k), kFn k], .bool (kKnown k)]) w ∧
    (Instr.lookup 102 (.map (some g)) (.string k) false).run Tryd.prog w = .ok (.agg #[.string (kDual k), .bool (kDiv k), kFn k]) w := by
  have hf := kmap_find k
  have n1 : ¬ kSeries = kBlock := by decide
  have n2 : ¬ kSeries = kShunt := by decide
  have n3 : ¬ kShunt = kBlock := by decide
  have n4 : ¬ kShunt = kTrap := by decide
  have n5 : ¬ kSeries = kTrap := by decide
  have n7 : ¬ kTrap = kSeries := by decide
  have n8 : ¬ kTrap = kShunt := by decide
  have n9 : ¬ kShunt = kSeries := by decide
  have n11 : ¬ kTrap = kBlock := by decide
  unfold kDual kDiv kFn kKnown
  unfold KMap at h
  constructor
  all_goals
    simp only [Instr.lookup, Sem.run_bind, Sem.run_pure, run_underlying Tryd.underlying102, MapKept.run_getObj_map h, MapKept.run_checkKey Tryd.underlying9 (d := .string) (k := .string k) trivial, MapKept.run_findKey Tryd.underlying9 hf, Result.andThen]
    by_cases h1 : k = kBlock
    · simp [h1, eBlock]
    · by_cases h2 : k = kSeries
      · simp [h2, eSeries, n1, n2, n5]
      · by_cases h3 : k = kShunt
        · simp [h3, eShunt, n3, n4, n9]
        · by_cases h4 : k = kTrap
          · simp [h4, eTrap, n7, n8, n11]
          · simp [h1, h2, h3, h4, Result.andThen]
end Go.Proofs.YthlnmoecmicofaaDoor
