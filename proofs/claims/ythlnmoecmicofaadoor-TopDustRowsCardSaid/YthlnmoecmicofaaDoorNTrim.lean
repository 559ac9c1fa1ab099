/- Polynomials of the program: trimmed and add. -/
import Derived.Test.YthlnmoecmicofaaDoorNLad
import Derived.Laws.CopyOwn
import Derived.Deep.LoopGhost
namespace Go.Proofs.YthlnmoecmicofaaDoor
open Go.RowKit Go.Shelf
set_option maxRecDepth 100000

theorem made_eq (n : Nat) : madeCells #[.int .i64 0] n = (ints (List.replicate n 0)).toArray := by
  apply Array.ext_getElem?
  intro i
  by_cases h : i < n <;> simp [madeCells, ints, h, Nat.mod_one, List.getElem?_replicate]
theorem reads_take {w : World} {B n k : Nat} {A : Option Addr} {xs : List Int} (h : Reads w B 1 A n (ints xs)) (hk : k ≤ n) : Reads w B 1 A k (ints (xs.take k)) := by
  have hl := reads_len h
  refine ⟨by rw [ints_len, List.length_take]; omega, fun hn => ?_⟩
  obtain ⟨ad, e, hb, hc⟩ := h.2 (by omega)
  refine ⟨ad, e, hb, fun j u hu => hc j u ?_⟩
  obtain ⟨x, hx, rfl⟩ := ints_at hu
  rw [List.getElem?_take] at hx
  split at hx
  · simp [ints, hx]
  · cases hx
theorem trim_is_take {xs : List Int} {k : Nat} (hk : k ≤ xs.length) (hz : ∀ j, k ≤ j → co xs j = 0) (h : k = 0 ∨ co xs (k - 1) ≠ 0) : trim xs = xs.take k := by
  rw [← trim_take xs k hz]
  refine trim_last ?_
  rcases h with rfl | h
  · exact .inl (by simp)
  · right
    have : (xs.take k).length = k := by rw [List.length_take]; omega
    rw [this]
    rcases Nat.eq_zero_or_pos k with q | q
    · exact absurd (hz (k - 1) (by omega)) h
    · unfold co at h ⊢
      rw [List.getElem?_take, if_pos (by omega)]
      exact h
theorem trim_isT (xs : List Int) : xs.take (trim xs).length = trim xs := by
  induction xs with
  | nil => rfl
  | cons a l ih =>
    unfold trim
    split
    · rfl
    · rw [List.length_cons, List.take_succ_cons, ih]
def lenV : Value → Nat
  | .slice _ n _ => n
  | _ => 0
theorem co_get {xs : List Int} {k : Nat} {x : Int} (h : xs[k]? = some x) : co xs k = x := by unfold co; rw [h]; rfl
theorem co_far {xs : List Int} {k : Nat} (h : xs.length ≤ k) : co xs k = 0 := by unfold co; rw [List.getElem?_eq_none h]; rfl
set_option maxHeartbeats 1000000 in
theorem trimmed_any (A : Option Addr) (n c B : Nat) (xs : List Int) (w : World) (h : Reads w B 1 A n (ints xs)) (hc : n ≤ c) (hn : n ≤ 1000000000000) :
    Calls Tryd.prog 50 #[.slice A n c] w fun e w' => e = .returned (.slice A (trim xs).length c) ∧ w = w' := by
  have hl := reads_len h
  have HL := hide hl; clear hl
  go_enter Tryd.func50, Tryd.ntmps50
  go_wp2
  go_loop [0] (fun v => ∃ k : Nat, k ≤ n ∧ v = .slice A k c ∧ Hid (∀ j, k ≤ j → co xs j = 0)) (fun v => lenV v)
  case atStart => exact ⟨n, Nat.le_refl _, rfl, fun j hj => co_far (by rw [HL.out]; exact hj)⟩
  case round =>
    obtain ⟨k, hk, rfl, hz⟩ := hrel
    rcases Nat.eq_zero_or_pos k with h0 | h0
    · subst h0
      go_wp2
      go_ret
      have ht : trim xs = xs.take 0 := trim_is_take (Nat.zero_le _) hz.out (.inl rfl)
      exact ⟨by rw [ht]; simp, rfl⟩
    · obtain ⟨ad, x, rfl, _, hx, hcx⟩ := reads_at h (show k - 1 < n by omega)
      have HX := hide hx; clear hx
      have hk1 : ((k : Int) - 1) = ((k - 1 : Nat) : Int) := by omega
      have hg : (0 : Int) < (k : Int) := by omega
      have hkc : k - 1 ≤ c := by omega
      by_cases hx0 : x = 0
      · subst hx0
        go_wp2
        go_round
        case rel =>
          refine ⟨k - 1, by omega, by simp, fun j hj => ?_⟩
          by_cases e : j = k - 1
          · rw [e]; exact co_get HX.out
          · exact hz.out j (by omega)
        case measure => simp [lenV]; omega
      · have hx1 : (x == 0) = false := by simpa using hx0
        have HX0 := hide hx0
        clear hx0
        go_wp2
        go_ret
        have ht : trim xs = xs.take k := trim_is_take (by rw [HL.out]; exact hk) hz.out (.inr (by rw [co_get HX.out]; exact HX0.out))
        exact ⟨by rw [ht, List.length_take, HL.out, Nat.min_eq_left hk]; rfl, rfl⟩
/-! ### Sizes of polynomials -/
def n1 (l : List Int) : Nat := (l.map Int.natAbs).sum
theorem n1_cons (a : Int) (l : List Int) : n1 (a :: l) = a.natAbs + n1 l := by simp [n1]
theorem n1_nil : n1 [] = 0 := rfl
theorem n1_append (l m : List Int) : n1 (l ++ m) = n1 l + n1 m := by simp [n1]
theorem n1_zeros (n : Nat) : n1 (List.replicate n 0) = 0 := by
  induction n with
  | zero => rfl
  | succ n ih => rw [List.replicate_succ, n1_cons, ih]; rfl
theorem n1_trim (l : List Int) : n1 (trim l) ≤ n1 l := by
  induction l with
  | nil => exact Nat.le_refl _
  | cons a l ih =>
    unfold trim
    split
    · simp [n1_nil]
    · rw [n1_cons, n1_cons]; omega
theorem co_n1 (l : List Int) (k : Nat) : (co l k).natAbs ≤ n1 l := by
  induction l generalizing k with
  | nil => simp [co_nil]
  | cons a l ih =>
    cases k with
    | zero => rw [co_cons_zero, n1_cons]; omega
    | succ k => rw [co_cons_succ, n1_cons]; have := ih k; omega
theorem addRow_cons_zero (y : Int) (out : List Int) (x b0 : Int) (b : List Int) : addRow (y :: out) 0 x (b0 :: b) = (y + x * b0) :: addRow out 0 x b := by
  unfold addRow
  simp [List.mapIdx_cons, co_cons_zero, co_cons_succ]
theorem addRow_cons_succ (y : Int) (out : List Int) (i : Nat) (x : Int) (b : List Int) : addRow (y :: out) (i + 1) x b = y :: addRow out i x b := by
  unfold addRow
  simp [List.mapIdx_cons]
theorem addRow_nil_b (out : List Int) (i : Nat) (x : Int) : addRow out i x [] = out := by
  unfold addRow
  refine List.ext_getElem? fun j => ?_
  rw [List.getElem?_mapIdx]
  cases out[j]? with
  | none => rfl
  | some y => simp [co_nil]
theorem n1_addRow (x : Int) : ∀ (out : List Int) (i : Nat) (b : List Int), n1 (addRow out i x b) ≤ n1 out + x.natAbs * n1 b
  | [], i, b => by simp [addRow, n1_nil]
  | y :: out, i + 1, b => by
    rw [addRow_cons_succ, n1_cons, n1_cons]
    have := n1_addRow x out i b
    omega
  | y :: out, 0, [] => by rw [addRow_nil_b]; omega
  | y :: out, 0, b0 :: b => by
    rw [addRow_cons_zero, n1_cons, n1_cons, n1_cons]
    have h := n1_addRow x out 0 b
    have h2 := Int.natAbs_mul x b0
    rw [Nat.mul_add]
    omega
theorem n1_addRows (out a b : List Int) : ∀ n, n1 (addRows out a b n) ≤ n1 out + n1 (a.take n) * n1 b
  | 0 => by simp [addRows, n1_nil]
  | n + 1 => by
    show n1 (addRow (addRows out a b n) n (co a n) b) ≤ _
    have h1 := n1_addRow (co a n) (addRows out a b n) n b
    have h2 := n1_addRows out a b n
    have h3 : n1 (a.take (n + 1)) = n1 (a.take n) + (co a n).natAbs := by
      rw [List.take_add_one, n1_append]
      unfold co
      cases a[n]? with
      | none => rfl
      | some v => simp [n1]
    rw [h3, Nat.add_mul]
    omega
theorem n1_padd (p a b : List Int) : n1 (padd p a b) ≤ n1 p + n1 a * n1 b := by
  unfold padd
  have h1 := n1_trim (addRows (p ++ List.replicate (max p.length (a.length + b.length) - p.length) 0) a b a.length)
  have h2 := n1_addRows (p ++ List.replicate (max p.length (a.length + b.length) - p.length) 0) a b a.length
  rw [n1_append, n1_zeros, List.take_length] at h2
  omega
end Go.Proofs.YthlnmoecmicofaaDoor
