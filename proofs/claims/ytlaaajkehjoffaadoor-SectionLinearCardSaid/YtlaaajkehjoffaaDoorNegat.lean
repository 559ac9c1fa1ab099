/- negative, of the law's package. -/
import Derived.Test.YtlaaajkehjoffaaDoorLawHolds
namespace Go.Proofs.YtlaaajkehjoffaaDoor
open Go.RowKit Go.Shelf
set_option maxRecDepth 100000

set_option maxHeartbeats 400000 in
theorem negative_any (A : Option Addr) (n c : Nat) (xs : List Int) (w : World) (h : Reads w w.heap.size 1 A n (ints xs)) (hn : n ≤ 1000000000000) (hb : ∀ x ∈ xs, -32767 ≤ x ∧ x ≤ 32767) :
    Calls Tryd.prog 45 #[.slice A n c] w fun r w' => ∃ v, r = .returned v ∧ w'.ownsRow w.heap.size 3 1 v n (ints (xs.map (- ·))) ∧ Below w.heap.size w w' := by
  have HL := hide (reads_len h)
  have HB := hide hb; clear hb
  go_enter Tryd.func45, Tryd.ntmps45
  go_wp2
  go_loopw [3, 8] (fun v i wr => ∃ k : Nat, k ≤ n ∧ i = .int .i64 k ∧ wr.ownsRow w.heap.size 3 1 v k (ints ((xs.take k).map (- ·))) ∧ Below w.heap.size w wr) (fun _ i _ => n - (intOf i).toNat)
  case atStart => exact ⟨0, by omega, rfl, by simp [ints, World.ownsRow_nil], Below.refl _ _⟩
  case round =>
    obtain ⟨k, hk, rfl, ho, hb⟩ := hrel
    by_cases hlt : k < n
    · have hr := h.below hb
      obtain ⟨ad, x, rfl, _, hx, hc⟩ := reads_at hr hlt
      have hxb := HB.out x (List.mem_of_getElem? hx)
      have HX := hide hx; clear hx
      have hsz := hb.size
      have A1 : k + 1 ≤ maxLen := by unfold maxLen; omega
      have A2 : (k + 1) * 8 ≤ 140737488355328 := by omega
      clear h hr
      go_wp2_with (at_builtin; refine wpList_push _ rfl (.tmp 12) (.tmp 15) _ rfl w.heap.size 3 (.int .i64 0) 1 8 Tryd.underlying26 info_int rfl (by decide) _ k _ rfl (ho.alloc _) wr.heap.size [.int .i64 (-x)] rfl rfl (cell_new1 _ _ _) (one_int _) A1 A2 (le_alloc hsz _) ?_; intro v1 w1 ho1 hb1)
      exact ⟨⟨k + 1, by omega, by go_num, by rw [map_snoc (fun a => -a) HX.out]; exact ho1, (hb.alloc hsz _).trans hb1⟩, by simp [intOf]; omega⟩
    · go_wp2
      go_ret
      obtain rfl : k = n := by omega
      rw [List.take_of_length_le (by rw [HL.out]; omega)] at ho
      exact ⟨_, rfl, ho, hb⟩
end Go.Proofs.YtlaaajkehjoffaaDoor
