/- The calls of awake, at their numbers. -/
import Derived.Test.YtpcmflfinlkeiaaGreatDoorPrintM
import Derived.Test.YtpcmflfinlkeiaaGreatDoorSmallR
import Derived.Test.YtpcmflfinlkeiaaGreatDoorSats
import Derived.Test.YtpcmflfinlkeiaaGreatDoorSettle
import Derived.Test.YtpcmflfinlkeiaaGreatDoorUndoB
import Derived.Test.YtpcmflfinlkeiaaGreatDoorImpulse
import Derived.Test.YtpcmflfinlkeiaaGreatDoorBounds
import Derived.Test.YtpcmflfinlkeiaaGreatDoorResp
import Derived.Test.YtpcmflfinlkeiaaGreatDoorBaseC
namespace Go.Proofs.YtpcmflfinlkeiaaGreatDoor
open Go.RowKit Go.Shelf
set_option maxRecDepth 100000

def hf : Sec := ⟨4, 0, 0, -2, 0, 2⟩
def s121 : Sec := ⟨1, 2, 1, 0, 0, 2⟩
def s11 : Sec := ⟨1, 1, 0, 0, 0, 0⟩
def s21 : Sec := ⟨2, 1, 0, 0, 0, 1⟩
def s3 : Sec := ⟨30000, 0, 0, 0, 0, 0⟩
theorem hf_ok : hf.Ok := Sec.ok_iff.1 (by decide)
theorem hf_err : hf.err = 0 := Sec.err_of hf_ok

/-- What a call gives that returns a list of numbers. -/
def Gives (xs : List Int) (n : Nat) (w : World) (e : Ending) (w' : World) : Prop :=
  ∃ A c, e = .returned (.tuple #[.slice A n c, .int .i64 0]) ∧ Reads w' w'.heap.size 1 A n (ints xs) ∧ Below w.heap.size w w'
theorem gives_of {xs : List Int} {n : Nat} {w w' : World} {e : Ending} (h : ∃ v, e = .returned (.tuple #[v, .int .i64 0]) ∧ w'.ownsRow w.heap.size 3 1 v n (ints xs) ∧ Below w.heap.size w w') : Gives xs n w e w' := by
  obtain ⟨v, rfl, ho, hb⟩ := h
  obtain ⟨A, c, rfl, hr⟩ := own_slice ho
  exact ⟨A, c, rfl, hr, hb⟩

theorem c_imp1 (w : World) : Calls Tryz.prog 25 #[.agg #[.int .i64 4, .int .i64 0, .int .i64 0, .int .i64 (-2), .int .i64 0, .int .i64 2], .int .i64 8, .int .i64 6] w (Gives [8, 4, 2, 1, 0, 0] 6 w) :=
  (Impulse_ok hf 8 6 w (by decide)).mono fun _ _ h => gives_of (by rw [show hf.outs St.zero (pulse 8 6) = [8, 4, 2, 1, 0, 0] by decide] at h; exact h)
theorem c_imp2 (w : World) : Calls Tryz.prog 25 #[.agg #[.int .i64 4, .int .i64 0, .int .i64 0, .int .i64 (-2), .int .i64 0, .int .i64 2], .int .i64 (-8), .int .i64 6] w (Gives [-8, -4, -2, -1, -1, -1] 6 w) :=
  (Impulse_ok hf (-8) 6 w (by decide)).mono fun _ _ h => gives_of (by rw [show hf.outs St.zero (pulse (-8) 6) = [-8, -4, -2, -1, -1, -1] by decide] at h; exact h)
theorem c_set1 (w : World) : Calls Tryz.prog 27 #[.agg #[.int .i64 4, .int .i64 0, .int .i64 0, .int .i64 (-2), .int .i64 0, .int .i64 2], .agg #[.int .i64 0, .int .i64 0, .int .i64 1, .int .i64 2]] w fun e w' => e = .returned (.tuple #[.int .i64 2, .int .i64 1, .int .i64 0]) ∧ Below w.heap.size w w' :=
  (Settle_ok hf ⟨0, 0, 1, 2⟩ w (by decide)).mono fun _ _ h => by rw [show hf.settle ⟨0, 0, 1, 2⟩ = some (2, 1) by decide] at h; exact h
theorem c_set2 (w : World) : Calls Tryz.prog 27 #[.agg #[.int .i64 4, .int .i64 0, .int .i64 0, .int .i64 (-2), .int .i64 0, .int .i64 2], .agg #[.int .i64 0, .int .i64 0, .int .i64 (-1), .int .i64 (-1)]] w fun e w' => e = .returned (.tuple #[.int .i64 0, .int .i64 1, .int .i64 0]) ∧ Below w.heap.size w w' :=
  (Settle_ok hf ⟨0, 0, -1, -1⟩ w (by decide)).mono fun _ _ h => by rw [show hf.settle ⟨0, 0, -1, -1⟩ = some (0, 1) by decide] at h; exact h
theorem c_con (w : World) : Calls Tryz.prog 28 #[.agg #[.int .i64 4, .int .i64 0, .int .i64 0, .int .i64 (-2), .int .i64 0, .int .i64 2]] w fun e w' => e = .returned (.tuple #[.bool true, .int .i64 0]) ∧ Below w.heap.size w w' :=
  (Contractive_any hf w).mono fun _ _ h => by rw [show (hf.okB && decide (0 < hf.room)) = true by decide, hf_err] at h; exact h
theorem c_sta (w : World) : Calls Tryz.prog 29 #[.agg #[.int .i64 4, .int .i64 0, .int .i64 0, .int .i64 (-2), .int .i64 0, .int .i64 2]] w fun e w' => e = .returned (.tuple #[.bool true, .int .i64 0]) ∧ Below w.heap.size w w' :=
  (Stable_ok hf w hf_ok).mono fun _ _ h => by rw [show hf.stab = true by decide] at h; exact h
theorem c_bou (w : World) : Calls Tryz.prog 30 #[.agg #[.int .i64 4, .int .i64 0, .int .i64 0, .int .i64 (-2), .int .i64 0, .int .i64 2], .int .i64 8] w fun e w' => e = .returned (.tuple #[.int .i64 16, .int .i64 0]) ∧ Below w.heap.size w w' :=
  (Bound_ok hf 8 w (by decide) (by decide)).mono fun _ _ h => by rw [show hf.bound 8 = 16 by decide] at h; exact h
theorem c_res (w : World) (hP : Pow w) : Calls Tryz.prog 31 #[.agg #[.int .i64 4, .int .i64 0, .int .i64 0, .int .i64 (-2), .int .i64 0, .int .i64 2], .int .i64 1] w fun e w' => e = .returned (.tuple #[.agg #[.int .i64 4, .int .i64 0, .int .i64 4, .int .i64 2], .int .i64 0]) ∧ Below w.heap.size w w' :=
  (Response_ok hf 1 w hP (by decide)).mono fun _ _ h => h
theorem c_run1 (A : Option Addr) (c : Nat) (w : World) (hR : Reads w w.heap.size 1 A 3 (ints [4, 0, 0])) : Calls Tryz.prog 22 #[.agg #[.int .i64 1, .int .i64 2, .int .i64 1, .int .i64 0, .int .i64 0, .int .i64 2], .slice A 3 c] w (Gives [1, 2, 1] 3 w) :=
  (Run_ok s121 A 3 c [4, 0, 0] w (by decide) (by omega) hR).mono fun _ _ h => gives_of (by rw [show s121.outs St.zero [4, 0, 0] = [1, 2, 1] by decide] at h; exact h)
theorem c_del1 (w : World) : Calls Tryz.prog 32 #[.agg #[.int .i64 1, .int .i64 2, .int .i64 1, .int .i64 0, .int .i64 0, .int .i64 2]] w fun e w' => e = .returned (.tuple #[.agg #[.int .i64 1, .int .i64 1], .int .i64 0]) ∧ Below w.heap.size w w' :=
  (Delay_ok s121 w (by decide)).mono fun _ _ h => by rw [show s121.delay = (1, 1, 0) by decide] at h; exact h
theorem c_del2 (w : World) : Calls Tryz.prog 32 #[.agg #[.int .i64 1, .int .i64 1, .int .i64 0, .int .i64 0, .int .i64 0, .int .i64 0]] w fun e w' => e = .returned (.tuple #[.agg #[.int .i64 1, .int .i64 2], .int .i64 0]) ∧ Below w.heap.size w w' :=
  (Delay_ok s11 w (by decide)).mono fun _ _ h => by rw [show s11.delay = (1, 2, 0) by decide] at h; exact h
theorem c_run2 (A : Option Addr) (c : Nat) (w : World) (hR : Reads w w.heap.size 1 A 3 (ints [3, 1, -2])) : Calls Tryz.prog 22 #[.agg #[.int .i64 2, .int .i64 1, .int .i64 0, .int .i64 0, .int .i64 0, .int .i64 1], .slice A 3 c] w (Gives [3, 2, -2] 3 w) :=
  (Run_ok s21 A 3 c [3, 1, -2] w (by decide) (by omega) hR).mono fun _ _ h => gives_of (by rw [show s21.outs St.zero [3, 1, -2] = [3, 2, -2] by decide] at h; exact h)
theorem c_und (A : Option Addr) (c : Nat) (w : World) (hR : Reads w w.heap.size 1 A 3 (ints [3, 2, -2])) : Calls Tryz.prog 24 #[.agg #[.int .i64 2, .int .i64 1, .int .i64 0, .int .i64 0, .int .i64 0, .int .i64 1], .slice A 3 c] w (Gives [3, 1, -2] 3 w) :=
  (Undo_ok s21 A 3 c [3, 2, -2] w (by decide) (by decide) (by decide) (by omega) hR).mono fun _ _ h => by
    rcases h with ⟨_, ⟨v, he, ho⟩, hb⟩ | ⟨hf, _⟩
    · exact gives_of (by rw [show s21.und 0 0 [3, 2, -2] = [3, 1, -2] by decide] at ho; exact ⟨v, he, ho, hb⟩)
    · exact absurd hf (by decide)
theorem c_run3 (A : Option Addr) (c : Nat) (w : World) (hR : Reads w w.heap.size 1 A 2 (ints [1, 2])) : Calls Tryz.prog 22 #[.agg #[.int .i64 30000, .int .i64 0, .int .i64 0, .int .i64 0, .int .i64 0, .int .i64 0], .slice A 2 c] w (Gives [30000, 32767] 2 w) :=
  (Run_ok s3 A 2 c [1, 2] w (by decide) (by omega) hR).mono fun _ _ h => gives_of (by rw [show s3.outs St.zero [1, 2] = [30000, 32767] by decide] at h; exact h)
theorem c_sat (A : Option Addr) (c : Nat) (w : World) (hR : Reads w w.heap.size 1 A 2 (ints [1, 2])) : Calls Tryz.prog 23 #[.agg #[.int .i64 30000, .int .i64 0, .int .i64 0, .int .i64 0, .int .i64 0, .int .i64 0], .slice A 2 c] w fun e w' => e = .returned (.tuple #[.int .i64 1, .int .i64 0]) ∧ Below w.heap.size w w' :=
  (Saturations_ok s3 A 2 c [1, 2] w (by decide) (by omega) hR).mono fun _ _ h => by rw [show s3.sats St.zero [1, 2] = 1 by decide] at h; exact h
theorem dig0 : Lib.decDigits 0 = [48] := by unfold Lib.decDigits; rfl
theorem dig2 : Lib.decDigits 2 = [50] := by unfold Lib.decDigits; rfl
theorem dig4 : Lib.decDigits 4 = [52] := by unfold Lib.decDigits; rfl
theorem hf_sec : secLine hf = [52, 32, 48, 32, 48, 32, 45, 50, 32, 48, 32, 50, 10] := by
  have e0 : Lib.itoa 0 = [48] := dig0
  have e2 : Lib.itoa 2 = [50] := dig2
  have e4 : Lib.itoa 4 = [52] := dig4
  have em : Lib.itoa (-2) = [45, 50] := by show 45 :: Lib.decDigits 2 = _; rw [dig2]
  unfold secLine hf
  simp only [List.map_cons, List.map_nil, e0, e2, e4, em]
  rfl
theorem hf_line : prTxt [hf] = [52, 32, 48, 32, 48, 32, 45, 50, 32, 48, 32, 50, 10] := by
  unfold prTxt
  simp only [List.flatMap_cons, List.flatMap_nil, hf_sec]
  rfl
theorem c_pri (A : Option Addr) (c : Nat) (w : World) (hR : Reads w w.heap.size 6 A 1 (secs [hf])) (hT : Tens w) : Calls Tryz.prog 10 #[.slice A 1 c] w fun e w' => e = .returned (.tuple #[.string ⟨#[52, 32, 48, 32, 48, 32, 45, 50, 32, 48, 32, 50, 10]⟩, .int .i64 0]) ∧ Below w.heap.size w w' :=
  (Print_ok A 1 c [hf] w (by decide) (by omega) hR hT (by intro s hs; simp at hs; subst hs; rw [hf_sec]; decide)).mono fun _ _ h => by rw [hf_line] at h; exact h
theorem c_same (A : Option Addr) (n c : Nat) (xs : List Int) (A' : Option Addr) (c' : Nat) (w : World) (h : Reads w w.heap.size 1 A n (ints xs)) (h' : Reads w w.heap.size 1 A' n (ints xs)) (hn : n ≤ 1000000000000) :
    Calls Tryz.prog 17 #[.slice A n c, .slice A' n c'] w fun r w' => r = .returned (.bool true) ∧ Below w.heap.size w w' :=
  (sameInts_any A n c _ xs A' n c' _ xs w h h' (Nat.le_refl _) (Nat.le_refl _) hn hn).mono fun _ _ h => by simpa using h
theorem carry {w w' : World} {size n : Nat} {A : Option Addr} {xs : List Value} (h : Reads w w.heap.size size A n xs) (hb : Below w.heap.size w w') : Reads w' w'.heap.size size A n xs := (h.below hb).more hb.size
theorem carryP {w w' : World} (h : Pow w) (hb : Below w.heap.size w w') : Pow w' := h.below hb h.1
theorem carryT {w w' : World} (h : Tens w) (hb : Below w.heap.size w w') : Tens w' := tens_below h hb h.1
theorem carryK {w w' : World} {g : Nat} {t : TypeId} {cs : Array Value} (h : Blk w g t cs) (hb : Below w.heap.size w w') : Blk w' g t cs := h.below hb h.lt
theorem blkR {w : World} {g : Nat} {t : TypeId} {xs : List Int} {n : Nat} (h : Blk w g t (xs.map (Value.int .i64)).toArray) (hn : n = xs.length) : Reads w w.heap.size 1 (some ⟨g, 0, none⟩) n (ints xs) := by
  have := reads_block (n := n) (xs := xs) h (by omega) h.lt
  rwa [List.take_of_length_le (by omega)] at this
end Go.Proofs.YtpcmflfinlkeiaaGreatDoor
