/- Copies append([]T{}, x...). -/
import Derived.Test.YthlnmoecmicofaaDoorNRev
namespace Go.Proofs.YthlnmoecmicofaaDoor
open Go.RowKit Go.Shelf
set_option maxRecDepth 100000
theorem wpList_copied {P : Program} {ops : Array Oper} {rest : List Oper} {o : Oper} {a : Act} {Q : Exit → Act → World → Prop} (w : World) (hgd : o.guard = none) (s x : Operand) (t : TypeId)
    (ho : o.op = .call { callee := .builtin .append, args := #[s, x], argTypes := #[t, t] })
    (e : TypeId) (z : Value) (size bytes : Nat) (ht : P.underlying t = some (.slice e)) (hinfo : (P.info? e).map (fun i => (i.zero, i.size, i.bytes)) = some (some z, size, bytes))
    (hzs : z.cells.size = size) (hsz : 0 < size) (hby2 : bytes ≤ 100)
    (hs : a.eval s = .slice (some ⟨w.heap.size, 0, none⟩) 0 0) (A : Option Addr) (n c : Nat) (xs : List Value) (hx : a.eval x = .slice A n c) (hR : Reads w w.heap.size size A n xs) (h1 : ∀ u ∈ xs, u.oneCell' = true) (hn : n ≤ 100000)
    (h : ∀ A' c' w', Reads w' w'.heap.size size A' n xs → Below w.heap.size w w' → wpList P ops Q rest (a.put o.dst (.slice A' n c')) w') : wpList P ops Q (o :: rest) a (w.alloc (.cells #[] e)) := by
  obtain ⟨i, hi, hz, hsize, hby⟩ := info_parts hinfo
  have hown : (w.alloc (.cells #[] e)).ownsRow w.heap.size e size (.slice (some ⟨w.heap.size, 0, none⟩) 0 0) 0 [] :=
    ⟨by simp, .inr ⟨w.heap.size, 0, #[], rfl, Nat.le_refl _, Blk.new w e #[], Nat.le_refl _, by unfold maxLen; omega, by simp, by simp⟩⟩
  have hb : (0 + n) * bytes ≤ 140737488355328 := by
    have := Nat.mul_le_mul hn hby2
    rw [Nat.zero_add]; omega
  refine wpList_append_any _ hgd s x t ho w.heap.size e i z size bytes ht hi hz hsize hby hzs hsz _ 0 [] hs hown w.heap.size A n c xs hx (hR.alloc (Nat.le_refl _) _) h1 (by unfold maxLen; omega) hb (by simp) ?_
  intro v1 w1 ho1 hg1 _
  rw [Nat.zero_add, List.nil_append] at ho1
  obtain ⟨A', c', rfl, hr⟩ := own_slice ho1
  exact h A' c' w1 hr (((Below.refl w.heap.size w).alloc (Nat.le_refl _) _).grown hg1 (by simp) fun k hk => (hown.lt k hk).1)
end Go.Proofs.YthlnmoecmicofaaDoor
