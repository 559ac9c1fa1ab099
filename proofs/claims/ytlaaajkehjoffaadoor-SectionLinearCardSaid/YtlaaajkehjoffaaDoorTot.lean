/- Contracts in one form for all inputs. -/
import Derived.Test.YtlaaajkehjoffaaDoorLawSteps
import Derived.Test.YtlaaajkehjoffaaDoorRUndo
import Derived.Test.YtlaaajkehjoffaaDoorUndoA
namespace Go.Proofs.YtlaaajkehjoffaaDoor
open Go.RowKit Go.Shelf
set_option maxRecDepth 100000

/-- What a call gives that returns a list of numbers and an error. -/
def GivesE (xs : List Int) (code : Int) (w : World) (e : Ending) (w' : World) : Prop :=
  ∃ A c, e = .returned (.tuple #[.slice A xs.length c, .int .i64 code]) ∧ Reads w' w'.heap.size 1 A xs.length (ints xs) ∧ Below w.heap.size w w'
theorem givesE_own {xs : List Int} {n : Nat} {v : Value} {w' : World} {base : Nat} (hn : xs.length = n) (ho : w'.ownsRow base 3 1 v n (ints xs)) : ∃ A c, v = .slice A xs.length c ∧ Reads w' w'.heap.size 1 A xs.length (ints xs) := by
  subst hn
  obtain ⟨A, c, rfl, hr⟩ := own_slice ho
  exact ⟨A, c, rfl, hr⟩
theorem reads_nil (w : World) : Reads w w.heap.size 1 none 0 (ints []) := Reads.none_

/-- Undo as a whole. -/
def Sec.undoOut (s : Sec) (xs : List Int) : List Int := if undoErr s xs = 0 ∧ s.undB xs = true then s.und 0 0 xs else []
def Sec.undoCode (s : Sec) (xs : List Int) : Int := if undoErr s xs = 0 then (if s.undB xs = true then 0 else 3) else undoErr s xs
theorem undoErr_zero {s : Sec} {xs : List Int} (h : undoErr s xs = 0) : s.err = 0 ∧ s.keepB = true ∧ sigErr xs = 0 := by
  obtain ⟨h1, h2, h3⟩ := fnz3_zero h
  refine ⟨h1, ?_, h3⟩
  cases hk : s.keepB
  · rw [hk] at h2; simp at h2
  · rfl
theorem undoPost_gives {s : Sec} {xs : List Int} {m : Nat} {w w' : World} {e : Ending} (hm : xs.length = m) (h0 : undoErr s xs = 0) (h : UndoPost s xs m w e w') : GivesE (s.undoOut xs) (s.undoCode xs) w e w' := by
  rcases h with ⟨hb, ⟨v, rfl, ho⟩, hB⟩ | ⟨hb, rfl, hB⟩
  · have e1 : s.undoOut xs = s.und 0 0 xs := by unfold Sec.undoOut; rw [if_pos ⟨h0, hb⟩]
    have e2 : s.undoCode xs = 0 := by unfold Sec.undoCode; rw [if_pos h0, if_pos hb]
    unfold GivesE
    rw [e1, e2]
    obtain ⟨A, c, rfl, hr⟩ := givesE_own (by rw [und_len]; exact hm) ho
    exact ⟨A, c, rfl, hr, hB⟩
  · have e1 : s.undoOut xs = [] := by unfold Sec.undoOut; rw [if_neg (by rw [hb]; simp)]
    have e2 : s.undoCode xs = 3 := by unfold Sec.undoCode; rw [if_pos h0, if_neg (by rw [hb]; simp)]
    unfold GivesE
    rw [e1, e2]
    exact ⟨none, 0, rfl, reads_nil _, hB⟩
theorem Undo_tot (s : Sec) (A : Option Addr) (m c : Nat) (xs : List Int) (w : World) (hm : m ≤ 1000000000000) (hR : Reads w w.heap.size 1 A m (ints xs)) :
    Calls Tryd.prog 42 #[.agg #[.int .i64 s.b0, .int .i64 s.b1, .int .i64 s.b2, .int .i64 s.a1, .int .i64 s.a2, .int .i64 s.sh], .slice A m c] w (GivesE (s.undoOut xs) (s.undoCode xs) w) := by
  by_cases h0 : undoErr s xs = 0
  · obtain ⟨h1, h2, h3⟩ := undoErr_zero h0
    exact (Undo_ok s A m c xs w h1 h2 h3 hm hR).mono fun _ _ h => undoPost_gives (reads_len hR) h0 h
  · have e1 : s.undoOut xs = [] := by unfold Sec.undoOut; rw [if_neg (fun h => h0 h.1)]
    have e2 : s.undoCode xs = undoErr s xs := by unfold Sec.undoCode; rw [if_neg h0]
    unfold GivesE
    rw [e1, e2]
    have hn : (undoErr s xs != 0) = true := by simpa using h0
    by_cases hs : s.err = 0
    · cases hk : s.keepB
      · exact (Undo_bad2_lose s A m c xs w hs hk hn hm hR).mono fun _ _ h => ⟨none, 0, h.1, reads_nil _, h.2⟩
      · exact (Undo_bad2_keep s A m c xs w hs hk hn hm hR).mono fun _ _ h => ⟨none, 0, h.1, reads_nil _, h.2⟩
    · have e3 : undoErr s xs = s.err := by unfold undoErr; simp [fnz, hs]
      rw [e3]
      exact (Undo_bad1 s A m c w (by simpa using hs)).mono fun _ _ h => ⟨none, 0, h.1, reads_nil _, h.2⟩
theorem rUndo_tot (s : Sec) (A : Option Addr) (m c : Nat) (xs : List Int) (w : World) (h0 : undoErr s xs = 0) (hm : m ≤ 1000000000000) (hR : Reads w w.heap.size 1 A m (ints xs)) :
    Calls Tryd.prog 44 #[.agg #[.int .i64 s.b0, .int .i64 s.b1, .int .i64 s.b2, .int .i64 s.a1, .int .i64 s.a2, .int .i64 s.sh], .slice A m c] w (GivesE (s.undoOut xs) (s.undoCode xs) w) := by
  obtain ⟨h1, _, h3⟩ := undoErr_zero h0
  exact (rUndo_any s A m c xs w (Sec.err_ok h1) h3 hm hR).mono fun _ _ h => undoPost_gives (reads_len hR) h0 h

/-- Run, From and Saturations as a whole. -/
def Sec.runOut (s : Sec) (xs : List Int) : List Int := if runErr s xs = 0 then s.outs St.zero xs else []
def Sec.fromOut (s : Sec) (y : St) (xs : List Int) : List Int := if fromErr s y xs = 0 then s.outs y xs else []
def Sec.fromSt (s : Sec) (y : St) (xs : List Int) : St := if fromErr s y xs = 0 then s.after y xs else ⟨0, 0, 0, 0⟩
def Sec.satN (s : Sec) (xs : List Int) : Int := if satErr s xs = 0 then s.sats St.zero xs else 0
theorem Run_tot (s : Sec) (A : Option Addr) (m c : Nat) (xs : List Int) (w : World) (hm : m ≤ 1000000000000) (hR : Reads w w.heap.size 1 A m (ints xs)) :
    Calls Tryd.prog 16 #[.agg #[.int .i64 s.b0, .int .i64 s.b1, .int .i64 s.b2, .int .i64 s.a1, .int .i64 s.a2, .int .i64 s.sh], .slice A m c] w (GivesE (s.runOut xs) (runErr s xs) w) := by
  by_cases h0 : runErr s xs = 0
  · have e1 : s.runOut xs = s.outs St.zero xs := by unfold Sec.runOut; rw [if_pos h0]
    unfold GivesE
    rw [e1, h0]
    refine (Run_ok s A m c xs w h0 hm hR).mono fun _ _ ⟨v, he, ho, hb⟩ => ?_
    obtain ⟨A', c', rfl, hr⟩ := givesE_own (by rw [outs_len]; exact reads_len hR) ho
    exact ⟨A', c', he, hr, hb⟩
  · have e1 : s.runOut xs = [] := by unfold Sec.runOut; rw [if_neg h0]
    unfold GivesE
    rw [e1]
    exact (Run_bad s A m c xs w (by simpa using h0) hm hR).mono fun _ _ h => ⟨none, 0, h.1, reads_nil _, h.2⟩
/-- What From gives. -/
def GivesF (xs : List Int) (z : St) (code : Int) (w : World) (e : Ending) (w' : World) : Prop :=
  ∃ A c, e = .returned (.tuple #[.slice A xs.length c, .agg #[.int .i64 z.x1, .int .i64 z.x2, .int .i64 z.y1, .int .i64 z.y2], .int .i64 code]) ∧ Reads w' w'.heap.size 1 A xs.length (ints xs) ∧ Below w.heap.size w w'
theorem From_tot (s : Sec) (y : St) (A : Option Addr) (m c : Nat) (xs : List Int) (w : World) (hm : m ≤ 1000000000000) (hR : Reads w w.heap.size 1 A m (ints xs)) :
    Calls Tryd.prog 18 #[.agg #[.int .i64 s.b0, .int .i64 s.b1, .int .i64 s.b2, .int .i64 s.a1, .int .i64 s.a2, .int .i64 s.sh], .agg #[.int .i64 y.x1, .int .i64 y.x2, .int .i64 y.y1, .int .i64 y.y2], .slice A m c] w (GivesF (s.fromOut y xs) (s.fromSt y xs) (fromErr s y xs) w) := by
  by_cases h0 : fromErr s y xs = 0
  · have e1 : s.fromOut y xs = s.outs y xs := by unfold Sec.fromOut; rw [if_pos h0]
    have e2 : s.fromSt y xs = s.after y xs := by unfold Sec.fromSt; rw [if_pos h0]
    unfold GivesF
    rw [e1, e2, h0]
    refine (From_ok s y A m c xs w h0 hm hR).mono fun _ _ ⟨v, he, ho, hb⟩ => ?_
    obtain ⟨A', c', rfl, hr⟩ := givesE_own (by rw [outs_len]; exact reads_len hR) ho
    exact ⟨A', c', he, hr, hb⟩
  · have e1 : s.fromOut y xs = [] := by unfold Sec.fromOut; rw [if_neg h0]
    have e2 : s.fromSt y xs = ⟨0, 0, 0, 0⟩ := by unfold Sec.fromSt; rw [if_neg h0]
    unfold GivesF
    rw [e1, e2]
    exact (From_bad s y A m c xs w (by simpa using h0) hm hR).mono fun _ _ h => ⟨none, 0, h.1, reads_nil _, h.2⟩
theorem Sat_tot (s : Sec) (A : Option Addr) (m c : Nat) (xs : List Int) (w : World) (hm : m ≤ 1000000000000) (hR : Reads w w.heap.size 1 A m (ints xs)) :
    Calls Tryd.prog 19 #[.agg #[.int .i64 s.b0, .int .i64 s.b1, .int .i64 s.b2, .int .i64 s.a1, .int .i64 s.a2, .int .i64 s.sh], .slice A m c] w fun e w' => e = .returned (.tuple #[.int .i64 (s.satN xs), .int .i64 (satErr s xs)]) ∧ Below w.heap.size w w' := by
  by_cases h0 : satErr s xs = 0
  · have e1 : s.satN xs = s.sats St.zero xs := by unfold Sec.satN; rw [if_pos h0]
    rw [e1, h0]
    exact Saturations_ok s A m c xs w h0 hm hR
  · have e1 : s.satN xs = 0 := by unfold Sec.satN; rw [if_neg h0]
    rw [e1]
    exact Saturations_bad s A m c xs w (by simpa using h0) hm hR

/-- Settle as a whole. -/
def Sec.setV (s : Sec) (x : St) : Int × Int × Int := if setErr s x = 0 then (match s.settle x with | none => (0, 0, 23) | some (i, p) => ((i : Int), (p : Int), 0)) else (0, 0, setErr s x)
theorem Settle_tot (s : Sec) (x : St) (w : World) :
    Calls Tryd.prog 29 #[.agg #[.int .i64 s.b0, .int .i64 s.b1, .int .i64 s.b2, .int .i64 s.a1, .int .i64 s.a2, .int .i64 s.sh], .agg #[.int .i64 x.x1, .int .i64 x.x2, .int .i64 x.y1, .int .i64 x.y2]] w fun e w' => e = .returned (.tuple #[.int .i64 (s.setV x).1, .int .i64 (s.setV x).2.1, .int .i64 (s.setV x).2.2]) ∧ Below w.heap.size w w' := by
  by_cases h0 : setErr s x = 0
  · refine (Settle_ok s x w h0).mono fun _ _ h => ⟨?_, h.2⟩
    rw [h.1]
    unfold Sec.setV
    rw [if_pos h0]
    rcases s.settle x with _ | ⟨i, p⟩ <;> rfl
  · refine (Settle_bad s x w (by simpa using h0)).mono fun _ _ h => ⟨?_, h.2⟩
    rw [h.1]
    unfold Sec.setV
    rw [if_neg h0]
theorem rSettle_tot (s : Sec) (x : St) (w : World) (h0 : setErr s x = 0) :
    Calls Tryd.prog 30 #[.agg #[.int .i64 s.b0, .int .i64 s.b1, .int .i64 s.b2, .int .i64 s.a1, .int .i64 s.a2, .int .i64 s.sh], .agg #[.int .i64 x.x1, .int .i64 x.x2, .int .i64 x.y1, .int .i64 x.y2]] w fun e w' => e = .returned (.tuple #[.int .i64 (s.setV x).1, .int .i64 (s.setV x).2.1, .int .i64 (s.setV x).2.2]) ∧ Below w.heap.size w w' := by
  obtain ⟨h1, h2⟩ := fnz2_zero h0
  refine (rSettle_any s x w (Sec.err_ok h1) (St.err_ok h2)).mono fun _ _ h => ⟨?_, h.2⟩
  rw [h.1]
  unfold Sec.setV
  rw [if_pos h0]
  rcases s.settle x with _ | ⟨i, p⟩ <;> rfl
end Go.Proofs.YtlaaajkehjoffaaDoor
