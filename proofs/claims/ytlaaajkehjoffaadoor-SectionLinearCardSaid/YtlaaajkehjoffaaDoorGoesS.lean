/- Small contracts of the last laws: rows with their room, parts of lists, From, Saturations, SameInts of the same list. -/
import Derived.Test.YtlaaajkehjoffaaDoorLawHolds
import Derived.Test.YtlaaajkehjoffaaDoorCascS
import Derived.Deep.LoopGhost
namespace Go.Proofs.YtlaaajkehjoffaaDoor
open Go.RowKit Go.Shelf
set_option maxRecDepth 100000

/-- A row of the call's own as a slice, with its room. -/
theorem own_roomG {w : World} {base size n : Nat} {e : TypeId} {v : Value} {xs : List Value} (h : w.ownsRow base e size v n xs) : ∃ A c, v = .slice A n c ∧ n ≤ c ∧ c ≤ maxLen ∧ Reads w w.heap.size size A n xs := by
  rcases h.2 with ⟨rfl, rfl⟩ | ⟨g, cap, cur, rfl, _, _, h1, h2, _⟩
  · exact ⟨none, 0, rfl, Nat.le_refl _, Nat.zero_le _, Reads.of_own h⟩
  · exact ⟨_, cap, rfl, h1, h2, Reads.of_own h⟩
theorem reads_take {w : World} {B n k : Nat} {A : Option Addr} {xs : List Int} (h : Reads w B 1 A n (ints xs)) (hk : k ≤ n) : Reads w B 1 A k (ints (xs.take k)) := by
  have hl := reads_len h
  refine ⟨by rw [ints_len, List.length_take]; omega, fun hn => ?_⟩
  obtain ⟨ad, e, hb, hc⟩ := h.2 (by omega)
  refine ⟨ad, e, hb, fun j u hu => hc j u ?_⟩
  obtain ⟨x, hx, rfl⟩ := ints_at hu
  rw [List.getElem?_take] at hx
  split at hx
  · simp [ints, hx]
  · cases hx
theorem reads_drop {w : World} {B n k : Nat} {ad : Addr} {xs : List Int} (h : Reads w B 1 (some ad) n (ints xs)) (hk : k ≤ n) : Reads w B 1 (some (ad.add k)) (n - k) (ints (xs.drop k)) := by
  have hl := reads_len h
  refine ⟨by rw [ints_len, List.length_drop]; omega, fun hn => ?_⟩
  obtain ⟨ad', e, hb, hc⟩ := h.2 (by omega)
  cases e
  refine ⟨_, rfl, by rw [block_of_add]; exact hb, fun j u hu => ?_⟩
  rw [add_of_add]
  refine hc (k + j) u ?_
  obtain ⟨x, hx, rfl⟩ := ints_at hu
  rw [List.getElem?_drop] at hx
  simp [ints, hx]
theorem reads_zero (w : World) (A : Option Addr) : Reads w w.heap.size 1 A 0 (ints []) := ⟨by simp [ints], fun h => absurd h (by omega)⟩
theorem From_g (s : Sec) (y : St) (A : Option Addr) (m c : Nat) (xs : List Int) (w : World) (hs : s.Ok) (hy : y.Ok) (hx : sigErr xs = 0) (hm : m ≤ 1000000000000) (hR : Reads w w.heap.size 1 A m (ints xs)) :
    Calls Tryd.prog 18 #[.agg #[.int .i64 s.b0, .int .i64 s.b1, .int .i64 s.b2, .int .i64 s.a1, .int .i64 s.a2, .int .i64 s.sh], .agg #[.int .i64 y.x1, .int .i64 y.x2, .int .i64 y.y1, .int .i64 y.y2], .slice A m c] w fun e w' => ∃ v, e = .returned (.tuple #[v, .agg #[.int .i64 (s.after y xs).x1, .int .i64 (s.after y xs).x2, .int .i64 (s.after y xs).y1, .int .i64 (s.after y xs).y2], .int .i64 0]) ∧ w'.ownsRow w.heap.size 3 1 v m (ints (s.outs y xs)) ∧ Below w.heap.size w w' :=
  From_ok s y A m c xs w (by unfold fromErr; rw [Sec.err_of hs, St.err_of hy, hx]; rfl) hm hR
theorem Sat_g (s : Sec) (A : Option Addr) (m c : Nat) (xs : List Int) (w : World) (hs : s.Ok) (hx : sigErr xs = 0) (hm : m ≤ 1000000000000) (hR : Reads w w.heap.size 1 A m (ints xs)) :
    Calls Tryd.prog 19 #[.agg #[.int .i64 s.b0, .int .i64 s.b1, .int .i64 s.b2, .int .i64 s.a1, .int .i64 s.a2, .int .i64 s.sh], .slice A m c] w fun e w' => e = .returned (.tuple #[.int .i64 (s.sats St.zero xs), .int .i64 0]) ∧ Below w.heap.size w w' :=
  Saturations_ok s A m c xs w (by unfold satErr; rw [Sec.err_of hs, hx]; rfl) hm hR
theorem c_sameG (A : Option Addr) (n c : Nat) (xs : List Int) (A' : Option Addr) (m c' : Nat) (w : World) (h : Reads w w.heap.size 1 A n (ints xs)) (h' : Reads w w.heap.size 1 A' m (ints xs)) (hn : n ≤ 1000000000000) (hm : m ≤ 1000000000000) :
    Calls Tryd.prog 27 #[.slice A n c, .slice A' m c'] w fun r w' => r = .returned (.bool true) ∧ Below w.heap.size w w' :=
  (sameInts_any A n c _ xs A' m c' _ xs w h h' (Nat.le_refl _) (Nat.le_refl _) hn hm).mono fun _ _ h => by simpa using h

end Go.Proofs.YtlaaajkehjoffaaDoor
