/- Lists of numbers: first, First, SameInts, Few. -/
import Derived.Test.YthlnmoecmicofaaDoorNLeaf
import Derived.Deep.DeepMust
namespace Go.Proofs.YthlnmoecmicofaaDoor
open Go.RowKit
set_option maxRecDepth 100000

theorem fnz_all {xs : List Int} (h : ∀ x ∈ xs, x = 0) : fnz xs = 0 := by
  induction xs with
  | nil => rfl
  | cons a l ih => unfold fnz; rw [if_pos (h a (by simp))]; exact ih fun x hx => h x (by simp [hx])
theorem fnz_hit {xs : List Int} {k : Nat} {x : Int} (hx : xs[k]? = some x) (h : ∀ y ∈ xs.take k, y = 0) (hne' : (x != 0) = true) : fnz xs = x := by
  have hne : x ≠ 0 := by simpa using hne'
  clear hne'
  induction xs generalizing k with
  | nil => simp at hx
  | cons a l ih =>
    unfold fnz
    cases k with
    | zero =>
      simp at hx
      rw [if_neg (by omega)]
      exact hx
    | succ k =>
      rw [if_pos (h a (by simp))]
      exact ih (by simpa using hx) fun y hy => h y (by simp [hy])

theorem own_slice {w : World} {base size n : Nat} {e : TypeId} {v : Value} {xs : List Value} (h : w.ownsRow base e size v n xs) : ∃ A c, v = .slice A n c ∧ Reads w w.heap.size size A n xs := by
  rcases h.2 with ⟨rfl, rfl⟩ | ⟨g, cap, cur, rfl, _⟩
  · exact ⟨none, 0, rfl, Reads.of_own h⟩
  · exact ⟨_, cap, rfl, Reads.of_own h⟩

/-- Numbers as cells. -/
def ints (xs : List Int) : List Value := xs.map (Value.int .i64)
theorem ints_len (xs : List Int) : (ints xs).length = xs.length := by simp [ints]
theorem ints_at {xs : List Int} {k : Nat} {u : Value} (h : (ints xs)[k]? = some u) : ∃ x, xs[k]? = some x ∧ u = .int .i64 x := by
  simp only [ints, List.getElem?_map, Option.map_eq_some_iff] at h
  obtain ⟨x, h1, h2⟩ := h
  exact ⟨x, h1, h2.symm⟩
theorem ints_one (xs : List Int) : ∀ u ∈ ints xs, u.oneCell' = true := by
  intro u hu
  simp only [ints, List.mem_map] at hu
  obtain ⟨x, _, rfl⟩ := hu
  rfl
theorem reads_len {w : World} {B n : Nat} {A : Option Addr} {xs : List Int} (h : Reads w B 1 A n (ints xs)) : xs.length = n := by
  have := h.1
  rw [ints_len] at this
  omega
theorem reads_at {w : World} {B n k : Nat} {A : Option Addr} {xs : List Int} (h : Reads w B 1 A n (ints xs)) (hk : k < n) :
    ∃ ad x, A = some ad ∧ ad.block < B ∧ xs[k]? = some x ∧ w.cell? (ad.add k) = some (.int .i64 x) := by
  obtain ⟨ad, u, h1, h2, h3, h4⟩ := h.at_ hk
  obtain ⟨x, h5, rfl⟩ := ints_at h3
  exact ⟨ad, x, h1, h2, h5, h4⟩

/-- What came ahead of place k was 0. -/
def zeros (xs : List Int) (k : Nat) : Prop := ∀ y ∈ xs.take k, y = 0
theorem zeros_succ {xs : List Int} {k : Nat} {x : Int} (h : zeros xs k) (hx : xs[k]? = some x) (h0' : (x != 0) = false) : zeros xs (k + 1) := by
  have h0 : x = 0 := by simpa using h0'
  intro y hy
  rw [List.take_add_one, hx] at hy
  simp at hy
  rcases hy with hy | hy
  · exact h y hy
  · omega
theorem zeros_end {xs : List Int} {k : Nat} (h : zeros xs k) (hk : xs.length ≤ k) : fnz xs = 0 :=
  fnz_all fun x hx => h x (by rw [List.take_of_length_le hk]; exact hx)

theorem first_any (A : Option Addr) (n c B : Nat) (xs : List Int) (w : World) (h : Reads w B 1 A n (ints xs)) (hn : n ≤ 1000000000000) :
    Calls Tryd.prog 44 #[.slice A n c] w fun r w' => r = .returned (.int .i64 (fnz xs)) ∧ w = w' := by
  have hl := reads_len h
  have HL := hide hl; clear hl
  go_enter Tryd.func44, Tryd.ntmps44
  go_wp2
  go_loop [7] (fun i => ∃ k : Nat, k ≤ n ∧ i = .int .i64 k ∧ zeros xs k) (fun i => n - (intOf i).toNat)
  case atStart => exact ⟨0, by omega, rfl, by intro y hy; simp at hy⟩
  case round =>
    obtain ⟨k, hk, rfl, hz⟩ := hrel
    by_cases hlt : k < n
    · obtain ⟨ad, x, rfl, _, hx, hc⟩ := reads_at h hlt
      have HX := hide hx; clear hx
      go_wp2
      · go_ret
        exact ⟨by simp; exact (fnz_hit HX.out hz ‹_›).symm, rfl⟩
      · go_round
        case rel => exact ⟨k + 1, by omega, by go_num, zeros_succ hz HX.out ‹_›⟩
        case measure => simp [intOf]; omega
    · go_wp2
      go_ret
      exact ⟨by simp; exact (zeros_end hz (by rw [HL.out]; omega)).symm, rfl⟩

theorem rFirst_any (A : Option Addr) (n c B : Nat) (xs : List Int) (w : World) (h : Reads w B 1 A n (ints xs)) (hn : n ≤ 1000000000000) :
    Calls Tryd.prog 40 #[.slice A n c] w fun r w' => r = .returned (.int .i64 (fnz xs)) ∧ w = w' := by
  have hl := reads_len h
  have HL := hide hl; clear hl
  go_enter Tryd.func40, Tryd.ntmps40
  go_wp2
  go_loop [3] (fun i => ∃ k : Nat, k ≤ n ∧ i = .int .i64 k ∧ zeros xs k) (fun i => n - (intOf i).toNat)
  case atStart => exact ⟨0, by omega, rfl, by intro y hy; simp at hy⟩
  case round =>
    obtain ⟨k, hk, rfl, hz⟩ := hrel
    by_cases hlt : k < n
    · obtain ⟨ad, x, rfl, _, hx, hc⟩ := reads_at h hlt
      have HX := hide hx; clear hx
      go_wp2
      · go_ret
        exact ⟨by simp; exact (fnz_hit HX.out hz ‹_›).symm, rfl⟩
      · go_round
        case rel => exact ⟨k + 1, by omega, by go_num, zeros_succ hz HX.out ‹_›⟩
        case measure => simp [intOf]; omega
    · go_wp2
      go_ret
      exact ⟨by simp; exact (zeros_end hz (by rw [HL.out]; omega)).symm, rfl⟩

theorem info_int : (Tryd.prog.info? 3).map (fun i => (i.zero, i.size, i.bytes)) = some (some (.int .i64 0), 1, 8) := by kernel_rfl
theorem info_errno : (Tryd.prog.info? 33).map (fun i => (i.zero, i.size, i.bytes)) = some (some (.int .i64 0), 1, 8) := by kernel_rfl

theorem ints_snoc (xs : List Int) (x : Int) : ints (xs ++ [x]) = ints xs ++ [.int .i64 x] := by simp [ints]
theorem map_snoc (g : Int → Int) {xs : List Int} {k : Nat} {x : Int} (h : xs[k]? = some x) : ints ((xs.take (k + 1)).map g) = ints ((xs.take k).map g) ++ [.int .i64 (g x)] := by
  rw [List.take_add_one, h]; simp [ints]
theorem take_snoc {xs : List Int} {k : Nat} {x : Int} (h : xs[k]? = some x) : xs.take (k + 1) = xs.take k ++ [x] := by rw [List.take_add_one, h]; rfl

theorem reads_new (w : World) (xs : List Int) (t : TypeId) (n : Nat) (hn : n = xs.length) : Reads (w.alloc (.cells (ints xs).toArray t)) (w.heap.size + 1) 1 (some ⟨w.heap.size, 0, none⟩) n (ints xs) := by
  refine ⟨by rw [ints_len]; omega, fun _ => ⟨_, rfl, by simp, fun j u hu => ?_⟩⟩
  have : (⟨w.heap.size, 0, none⟩ : Addr).add j = ⟨w.heap.size, j, none⟩ := by unfold Addr.add; split <;> simp_all
  rw [this]
  exact cells_new _ _ _ j u hu
theorem reads2 (w : World) (a b : Int) (t : TypeId) : Reads (w.alloc (.cells #[.int .i64 a, .int .i64 b] t)) (w.heap.size + 1) 1 (some ⟨w.heap.size, 0, none⟩) 2 (ints [a, b]) := reads_new w [a, b] t 2 rfl
theorem reads3 (w : World) (a b c : Int) (t : TypeId) : Reads (w.alloc (.cells #[.int .i64 a, .int .i64 b, .int .i64 c] t)) (w.heap.size + 1) 1 (some ⟨w.heap.size, 0, none⟩) 3 (ints [a, b, c]) := reads_new w [a, b, c] t 3 rfl
theorem reads4 (w : World) (a b c d : Int) (t : TypeId) : Reads (w.alloc (.cells #[.int .i64 a, .int .i64 b, .int .i64 c, .int .i64 d] t)) (w.heap.size + 1) 1 (some ⟨w.heap.size, 0, none⟩) 4 (ints [a, b, c, d]) := reads_new w [a, b, c, d] t 4 rfl
theorem reads_block {w : World} {g : Nat} {t : TypeId} {n m : Nat} {xs : List Int} (h : Blk w g t (xs.map (Value.int .i64)).toArray) (hn : n ≤ xs.length) (hm : g < m) : Reads w m 1 (some ⟨g, 0, none⟩) n (ints (xs.take n)) := by
  refine ⟨by simp [ints]; omega, fun _ => ⟨_, rfl, hm, fun j u hu => ?_⟩⟩
  have : (⟨g, 0, none⟩ : Addr).add j = ⟨g, j, none⟩ := by unfold Addr.add; split <;> simp_all
  rw [this, h.cell]
  simp only [ints, List.map_take, List.getElem?_take] at hu
  split at hu
  · simpa using hu
  · cases hu

end Go.Proofs.YthlnmoecmicofaaDoor
