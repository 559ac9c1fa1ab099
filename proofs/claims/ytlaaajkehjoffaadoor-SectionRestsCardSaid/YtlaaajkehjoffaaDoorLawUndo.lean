/- The law SectionUndoes. -/
import Derived.Test.YtlaaajkehjoffaaDoorTot
namespace Go.Proofs.YtlaaajkehjoffaaDoor
open Go.RowKit Go.Shelf
set_option maxRecDepth 100000

theorem few_t (A : Option Addr) (n c : Nat) (w : World) (hn : n ≤ 40 ∨ n = 4097) :
    Calls Tryd.prog 14 #[.slice A n c] w fun r w' => r = .returned (.bool true) ∧ w = w' :=
  (few_any A n c w (by omega)).mono fun _ _ h => by rw [show decide (n ≤ 40 ∨ n = 4097) = true by simpa using hn] at h; exact h
theorem few_f (A : Option Addr) (n c : Nat) (w : World) (hn : n ≤ 9223372036854775807) (h1 : 40 < n) (h2 : n ≠ 4097) :
    Calls Tryd.prog 14 #[.slice A n c] w fun r w' => r = .returned (.bool false) ∧ w = w' := by
  have h3 : ((n : Int) == 4097) = false := by simp; omega
  have h4 : decide ((n : Int) ≤ 40) = false := by simp; omega
  go_enter Tryd.func14, Tryd.ntmps14
  go_wp2
  go_ret
  exact ⟨by simp, rfl⟩
theorem c_same0 (A : Option Addr) (c : Nat) (xs : List Int) (w : World) (h : Reads w w.heap.size 1 A xs.length (ints xs)) (hx : xs = []) (c' : Nat) :
    Calls Tryd.prog 27 #[.slice A xs.length c, .slice none 0 c'] w fun r w' => r = .returned (.bool true) ∧ Below w.heap.size w w' :=
  (sameInts_any A _ c _ xs none 0 c' _ [] w h (reads_nil w) (Nat.le_refl _) (Nat.le_refl _) (by rw [hx]; simp) (by omega)).mono fun _ _ h => by rw [hx] at h; simpa using h

theorem undoOut_len (s : Sec) (xs : List Int) : (s.undoOut xs).length ≤ xs.length := by
  unfold Sec.undoOut; split
  · rw [und_len]; omega
  · simp
set_option maxHeartbeats 4000000 in
theorem lawUndo_ok (s : Sec) (A : Option Addr) (m c : Nat) (xs : List Int) (w : World) (hV : Vars w) (hf : m ≤ 40 ∨ m = 4097) (hR : Reads w w.heap.size 1 A m (ints xs)) (h0 : undoErr s xs = 0) :
    Calls Tryd.prog 6 #[.agg #[.int .i64 s.b0, .int .i64 s.b1, .int .i64 s.b2, .int .i64 s.a1, .int .i64 s.a2, .int .i64 s.sh], .slice A m c] w fun e w' => e = .returned (.bool true) ∧ Below w.heap.size w w' := by
  have t1 : (undoErr s xs == 0) = true := by rw [h0]; rfl
  have H0 := hide h0; clear h0
  have hl := reads_len hR
  have hol := undoOut_len s xs
  have hol2 : (s.undoOut xs).length ≤ 1000000000000 := by omega
  clear hol hl
  go_enter Tryd.func6, Tryd.ntmps6
  go_wp2_with fail
  obtain ⟨w1, e1, hb1, hz1, k0⟩ := box1 w #[.int .i64 s.b0, .int .i64 s.b1, .int .i64 s.b2, .int .i64 s.a1, .int .i64 s.a2, .int .i64 s.sh] 23
  rw [← e1]; clear e1
  refine (few_t A m c _ hf).mono ?_
  rintro e w' ⟨rfl, rfl⟩
  have c0 : ∀ i W, Below w1.heap.size w1 W → W.cell? ⟨w.heap.size, i, none⟩ = (#[.int .i64 s.b0, .int .i64 s.b1, .int .i64 s.b2, .int .i64 s.a1, .int .i64 s.a2, .int .i64 s.sh] : Array Value)[i]? := fun i W h => (k0.below h k0.lt).cell i
  have r0 : ∀ W, Below w1.heap.size w1 W → Reads W W.heap.size 1 A m (ints xs) := fun W h => ((hR.below hb1).below (h.mono hb1.size)).more (Nat.le_trans hb1.size h.size)
  have R0 := hide r0; clear r0
  go_wp2
  go_region_held3 (fun W => Below w1.heap.size w1 W) (first | exact (Below.refl _ _).drew | (with_reducible assumption) | exact below_new ‹Below w1.heap.size w1 _› (Nat.le_refl _) _ | (refine below_set (below_set (below_set (below_set (by assumption) (by omega) _) (by omega) _) (by omega) _) (by omega) _)) (first | (go_at_call 17; refine (ints_any A m c xs _ (R0.out _ ‹Below w1.heap.size w1 _›) (by omega)).mono ?_; rintro e W' ⟨vI, rfl, hoI, hbW⟩; obtain ⟨AI, cI, rfl, hRI⟩ := own_slice hoI; have hS := below_step ‹Below w1.heap.size w1 _› hbW (Below.size ‹Below w1.heap.size w1 _›); have HRI := hide hRI; clear hRI hoI) | (go_at_call 42; refine (Undo_tot s _ m _ xs _ (by omega) HRI.out).mono ?_; rintro e W' ⟨A1, c1, rfl, r1, hbW⟩; have hS := below_step ‹Below w1.heap.size w1 _› hbW (Below.size ‹Below w1.heap.size w1 _›)))
  have hB : Below w1.heap.size w1 W' := ‹Below w1.heap.size w1 W'›
  have hb2 := below_step hb1 hB hb1.size
  have k1 := k0.below hB k0.lt
  have c1' := k1.cell
  have rR := R0.out _ hB
  clear c0 k0 R0 hR hbW HRI
  go_wp2_with fail
  refine (rCheckUndo_any s A m c xs _ (by omega) rR).mono ?_
  rintro e w3 ⟨rfl, hb3⟩
  have r1' := carry r1 hb3
  have rR' := carry rR hb3
  have hb4 := below_step hb2 hb3 hb2.size
  have k2 := carryK k1 hb3
  have c2' := k2.cell
  clear c1' r1 rR k1 hb2
  go_wp2_with fail
  refine (rUndo_tot s A m c xs _ H0.out (by omega) rR').mono ?_
  rintro e w4 ⟨A2, c2, rfl, r2, hb5⟩
  have r1'' := carry r1' hb5
  have hb6 := below_step hb4 hb5 hb4.size
  clear c2' r1' rR' k2 hb4
  go_wp2_with fail
  refine (c_same A1 _ c1 _ A2 c2 _ r1'' r2 hol2).mono ?_
  rintro e w5 ⟨rfl, hb7⟩
  have hb8 := below_step hb6 hb7 hb6.size
  have hV8 := hV.carry hb8
  clear r1'' r2 hb6
  go_wp2_with fail
  refine (awake_v _ hV8).mono ?_
  rintro e w6 ⟨rfl, hb9⟩
  go_wp2
  go_ret
  exact ⟨rfl, below_step hb8 hb9 hb8.size⟩
set_option maxHeartbeats 4000000 in
theorem lawUndo_bad (s : Sec) (A : Option Addr) (m c : Nat) (xs : List Int) (w : World) (hV : Vars w) (hf : m ≤ 40 ∨ m = 4097) (hR : Reads w w.heap.size 1 A m (ints xs)) (h0 : undoErr s xs ≠ 0) :
    Calls Tryd.prog 6 #[.agg #[.int .i64 s.b0, .int .i64 s.b1, .int .i64 s.b2, .int .i64 s.a1, .int .i64 s.a2, .int .i64 s.sh], .slice A m c] w fun e w' => e = .returned (.bool true) ∧ Below w.heap.size w w' := by
  have t1 : (undoErr s xs == 0) = false := by simpa using h0
  have hn : s.undoOut xs = [] := by unfold Sec.undoOut; rw [if_neg (fun h => h0 h.1)]
  have hc : s.undoCode xs = undoErr s xs := by unfold Sec.undoCode; rw [if_neg h0]
  have t2 : (s.undoCode xs == undoErr s xs) = true := by rw [hc]; simp
  have HN := hide hn; clear hn hc h0
  have hl := reads_len hR
  have hol := undoOut_len s xs
  have hol2 : (s.undoOut xs).length ≤ 1000000000000 := by omega
  clear hol hl
  go_enter Tryd.func6, Tryd.ntmps6
  go_wp2_with fail
  obtain ⟨w1, e1, hb1, hz1, k0⟩ := box1 w #[.int .i64 s.b0, .int .i64 s.b1, .int .i64 s.b2, .int .i64 s.a1, .int .i64 s.a2, .int .i64 s.sh] 23
  rw [← e1]; clear e1
  refine (few_t A m c _ hf).mono ?_
  rintro e w' ⟨rfl, rfl⟩
  have c0 : ∀ i W, Below w1.heap.size w1 W → W.cell? ⟨w.heap.size, i, none⟩ = (#[.int .i64 s.b0, .int .i64 s.b1, .int .i64 s.b2, .int .i64 s.a1, .int .i64 s.a2, .int .i64 s.sh] : Array Value)[i]? := fun i W h => (k0.below h k0.lt).cell i
  have r0 : ∀ W, Below w1.heap.size w1 W → Reads W W.heap.size 1 A m (ints xs) := fun W h => ((hR.below hb1).below (h.mono hb1.size)).more (Nat.le_trans hb1.size h.size)
  have R0 := hide r0; clear r0
  go_wp2
  go_region_held3 (fun W => Below w1.heap.size w1 W) (first | exact (Below.refl _ _).drew | (with_reducible assumption) | exact below_new ‹Below w1.heap.size w1 _› (Nat.le_refl _) _ | (refine below_set (below_set (below_set (below_set (by assumption) (by omega) _) (by omega) _) (by omega) _) (by omega) _)) (first | (go_at_call 17; refine (ints_any A m c xs _ (R0.out _ ‹Below w1.heap.size w1 _›) (by omega)).mono ?_; rintro e W' ⟨vI, rfl, hoI, hbW⟩; obtain ⟨AI, cI, rfl, hRI⟩ := own_slice hoI; have hS := below_step ‹Below w1.heap.size w1 _› hbW (Below.size ‹Below w1.heap.size w1 _›); have HRI := hide hRI; clear hRI hoI) | (go_at_call 42; refine (Undo_tot s _ m _ xs _ (by omega) HRI.out).mono ?_; rintro e W' ⟨A1, c1, rfl, r1, hbW⟩; have hS := below_step ‹Below w1.heap.size w1 _› hbW (Below.size ‹Below w1.heap.size w1 _›)))
  have hB : Below w1.heap.size w1 W' := ‹Below w1.heap.size w1 W'›
  have hb2 := below_step hb1 hB hb1.size
  have k1 := k0.below hB k0.lt
  have c1' := k1.cell
  have rR := R0.out _ hB
  clear c0 k0 R0 hR hbW HRI
  go_wp2_with fail
  refine (rCheckUndo_any s A m c xs _ (by omega) rR).mono ?_
  rintro e w3 ⟨rfl, hb3⟩
  have r1' := carry r1 hb3
  have rR' := carry rR hb3
  have hb4 := below_step hb2 hb3 hb2.size
  have k2 := carryK k1 hb3
  have c2' := k2.cell
  clear c1' r1 rR k1 hb2
  clear c2' rR' k2
  go_wp2_with fail
  refine (c_same0 A1 c1 _ _ r1' HN.out _).mono ?_
  rintro e w5 ⟨rfl, hb7⟩
  have hb8 := below_step hb4 hb7 hb4.size
  have hV8 := hV.carry hb8
  clear r1'
  go_wp2_with fail
  refine (awake_v _ hV8).mono ?_
  rintro e w6 ⟨rfl, hb9⟩
  go_wp2
  go_ret
  exact ⟨rfl, below_step hb8 hb9 hb8.size⟩
theorem lawUndo_any (s : Sec) (A : Option Addr) (m c : Nat) (xs : List Int) (w : World) (hV : Vars w) (hm : m ≤ maxLen) (hR : Reads w w.heap.size 1 A m (ints xs)) :
    Calls Tryd.prog 6 #[.agg #[.int .i64 s.b0, .int .i64 s.b1, .int .i64 s.b2, .int .i64 s.a1, .int .i64 s.a2, .int .i64 s.sh], .slice A m c] w fun e w' => e = .returned (.bool true) ∧ Below w.heap.size w w' := by
  unfold maxLen at hm
  by_cases hf : m ≤ 40 ∨ m = 4097
  · by_cases h0 : undoErr s xs = 0
    · exact lawUndo_ok s A m c xs w hV hf hR h0
    · exact lawUndo_bad s A m c xs w hV hf hR h0
  · have h1 : 40 < m := by omega
    have h2 : m ≠ 4097 := by omega
    clear hf hR
    go_enter Tryd.func6, Tryd.ntmps6
    go_wp2_with fail
    obtain ⟨w1, e1, hb1, hz1, k0⟩ := box1 w #[.int .i64 s.b0, .int .i64 s.b1, .int .i64 s.b2, .int .i64 s.a1, .int .i64 s.a2, .int .i64 s.sh] 23
    rw [← e1]; clear e1
    refine (few_f A m c _ (by omega) h1 h2).mono ?_
    rintro e w' ⟨rfl, rfl⟩
    go_wp2_with fail
    refine (awake_v _ (hV.carry hb1)).mono ?_
    rintro e w6 ⟨rfl, hb9⟩
    go_wp2
    go_ret
    exact ⟨rfl, below_step hb1 hb9 hb1.size⟩
end Go.Proofs.YtlaaajkehjoffaaDoor
