/- The checks of states and signals, of the program and of the reference; SameInts. -/
import Derived.Test.YtlaaajkehjoffaaDoorChecks
namespace Go.Proofs.YtlaaajkehjoffaaDoor
open Go.RowKit
set_option maxRecDepth 100000

theorem checkState_any (s : St) (w : World) :
    Calls Tryd.prog 52 #[.agg #[.int .i64 s.x1, .int .i64 s.x2, .int .i64 s.y1, .int .i64 s.y2]] w fun r w' => r = .returned (.int .i64 s.err) ∧ Below w.heap.size w w' := by
  go_enter Tryd.func52, Tryd.ntmps52
  go_wp2_with fail
  obtain ⟨w1, e1, hb0, hz, k0, k1⟩ := box2 w #[.int .i64 s.x1, .int .i64 s.x2, .int .i64 s.y1, .int .i64 s.y2] #[.int .i64 s.x1, .int .i64 s.x2, .int .i64 s.y1, .int .i64 s.y2] 34 3
  rw [← e1]; clear e1
  have r0 : Reads w1 w1.heap.size 1 (some ⟨w.heap.size + 1, 0, none⟩) 4 (ints [s.x1, s.x2, s.y1, s.y2]) := reads_block (xs := [s.x1, s.x2, s.y1, s.y2]) k1 (by simp) (by omega)
  refine (mapped_any _ vErr enters_value checkValue_any _ _ _ _ _ r0 (by omega)).mono ?_
  rintro e w2 ⟨A1, c1, rfl, hR1, hb1⟩
  go_wp2_with (go_at_call 64; with_reducible (refine (first_any _ _ _ _ _ _ hR1 (by omega)).mono ?_); rintro e W' ⟨rfl, rfl⟩)
  go_ret
  exact ⟨by simp; exact st_err_eq s, below_step hb0 hb1 (by omega)⟩

theorem checkSignal_any (A : Option Addr) (n c : Nat) (xs : List Int) (w : World) (hR : Reads w w.heap.size 1 A n (ints xs)) (hn : n ≤ 1000000000000) :
    Calls Tryd.prog 65 #[.slice A n c] w fun r w' => r = .returned (.int .i64 (sigErr xs)) ∧ Below w.heap.size w w' := by
  have hl := reads_len hR
  have HL := hide hl; clear hl
  go_enter Tryd.func65, Tryd.ntmps65
  go_wp2_with (first
    | (go_at_call 84; refine (when_any _ _ _).mono ?_; rintro e w' ⟨rfl, rfl⟩)
    | (go_at_call 87; refine (mapped_any _ vErr enters_value checkValue_any _ _ _ _ _ hR hn).mono ?_; rintro e w2 ⟨A1, c1, rfl, hR1, hb1⟩)
    | (go_at_call 64; with_reducible (refine (first_any _ _ _ _ _ _ hR1 hn).mono ?_); rintro e W' ⟨rfl, rfl⟩)
    | (go_at_call 64; with_reducible (refine (first_any _ _ _ _ _ _ (reads2 _ _ _ _) (by omega)).mono ?_); rintro e W' ⟨rfl, rfl⟩))
  all_goals
    have hc : (4096 : Int) < n ∨ (n : Int) ≤ 4096 := by omega
    go_ret
    exact ⟨by simp; rw [← sig_err_eq, HL.out]; (first | rw [if_pos (by omega)] | rw [if_neg (by omega)]), (by repeat (first | exact hb1 | exact Below.refl _ _ | refine Below.drew ?_ | refine below_drewN ?_ _ | refine below_set ?_ (by omega) _ | refine below_new ?_ (by omega) _))⟩

theorem rCheckState_any (s : St) (w : World) :
    Calls Tryd.prog 23 #[.agg #[.int .i64 s.x1, .int .i64 s.x2, .int .i64 s.y1, .int .i64 s.y2]] w fun r w' => r = .returned (.int .i64 s.err) ∧ Below w.heap.size w w' := by
  go_enter Tryd.func23, Tryd.ntmps23
  go_wp2
  obtain ⟨w1, e1, hb0, hz, k0⟩ := box1 w #[.int .i64 s.x1, .int .i64 s.x2, .int .i64 s.y1, .int .i64 s.y2] 25
  rw [← e1]; clear e1
  have c0 : ∀ i W, Below w1.heap.size w1 W → W.cell? ⟨w.heap.size, i, none⟩ = (#[.int .i64 s.x1, .int .i64 s.x2, .int .i64 s.y1, .int .i64 s.y2] : Array Value)[i]? := fun i W h => (k0.below h (by omega)).cell i
  go_region_held3 (fun W => Below w1.heap.size w1 W) (first | exact (Below.refl _ _).drew | (with_reducible assumption) | exact below_new ‹Below w1.heap.size w1 _› (Nat.le_refl _) _ | (refine below_set (below_set (below_set (below_set (by assumption) (by omega) _) (by omega) _) (by omega) _) (by omega) _)) (first
    | (go_at_call 20; with_reducible (refine (rFirst_any _ _ _ _ _ _ (Reads.drew (reads4 _ _ _ _ _ _)) (by omega)).mono ?_); rintro e W' ⟨rfl, rfl⟩)
    | (go_at_call 49; refine (checkInput_any _ _).mono ?_; rintro e W' ⟨rfl, rfl⟩))
  go_wp2
  go_ret
  exact ⟨by simp; exact st_err_eq s, hb0.trans (‹Below w1.heap.size w1 _›.mono (by omega))⟩

theorem rNumbers_any (s : Sec) (w : World) :
    Calls Tryd.prog 70 #[.agg #[.int .i64 s.b0, .int .i64 s.b1, .int .i64 s.b2, .int .i64 s.a1, .int .i64 s.a2, .int .i64 s.sh]] w fun r w' => ∃ g, r = .returned (.slice (some ⟨g, 0, none⟩) 6 6) ∧ w.heap.size ≤ g ∧ Blk w' g 3 #[.int .i64 s.b0, .int .i64 s.b1, .int .i64 s.b2, .int .i64 s.a1, .int .i64 s.a2, .int .i64 s.sh] ∧ Below w.heap.size w w' := by
  go_enter Tryd.func70, Tryd.ntmps70
  go_wp2
  go_ret
  refine ⟨_, rfl, by omega, ?_, (by repeat (first | exact Below.refl _ _ | exact Below.refl _ _ | refine Below.drew ?_ | refine below_drewN ?_ _ | refine below_set ?_ (by omega) _ | refine below_new ?_ (by omega) _))⟩
  have h := Blk.new (w.alloc (.cells #[.int .i64 s.b0, .int .i64 s.b1, .int .i64 s.b2, .int .i64 s.a1, .int .i64 s.a2, .int .i64 s.sh] 23)) 3 #[.int .i64 s.b0, .int .i64 s.b1, .int .i64 s.b2, .int .i64 s.a1, .int .i64 s.a2, .int .i64 s.sh]
  rwa [World.size_alloc] at h

/-- The taps ahead of place k are within their limits. -/
def tapsOk (s : Sec) (k : Nat) : Prop := ∀ y ∈ ([s.b0, s.b1, s.b2, s.a1, s.a2] : List Int).take k, vErr y = 0
theorem tapsOk_succ {s : Sec} {k : Nat} {x : Int} (h : tapsOk s k) (hk : ([s.b0, s.b1, s.b2, s.a1, s.a2] : List Int)[k]? = some x) (hx : (vErr x != 0) = false) : tapsOk s (k + 1) := by
  intro y hy
  rw [List.take_add_one, hk] at hy
  simp only [Option.toList_some, List.mem_append, List.mem_singleton] at hy
  rcases hy with hy | rfl
  · exact h y hy
  · simpa using hx
theorem vErr_two (n : Int) : vErr n = 0 ∨ vErr n = 3 := by unfold vErr rng; split <;> simp
theorem vErr_zero {n : Int} (h : vErr n = 0) : inB n (-32767) 32767 = true := by
  rw [vErr_eq] at h
  split at h
  · assumption
  · omega
theorem vErr_three {n : Int} (h : vErr n = 3) : inB n (-32767) 32767 = false := by
  rw [vErr_eq] at h
  split at h
  · omega
  · simp_all
theorem taps_bad {s : Sec} {k : Nat} {x : Int} (hk : ([s.b0, s.b1, s.b2, s.a1, s.a2] : List Int)[k]? = some x) (hx : (vErr x != 0) = true) : vErr x = s.err := by
  have h3 : vErr x = 3 := by rcases vErr_two x with h | h <;> simp_all
  have hb := vErr_three h3
  have : s.okB = false := by
    unfold Sec.okB
    rcases k with _ | _ | _ | _ | _ | k <;> simp at hk <;> subst hk <;> simp [hb]
  rw [h3]; simp [Sec.err, this]
theorem taps_end {s : Sec} (h : tapsOk s 5) : rng s.sh 0 15 = s.err := by
  have a := vErr_zero (h s.b0 (by simp))
  have b := vErr_zero (h s.b1 (by simp))
  have c := vErr_zero (h s.b2 (by simp))
  have d := vErr_zero (h s.a1 (by simp))
  have e := vErr_zero (h s.a2 (by simp))
  simp [Sec.err, Sec.okB, a, b, c, d, e, rng_eq]
theorem sec_at (s : Sec) {k : Nat} (hk : k < 5) : ∃ x, ([s.b0, s.b1, s.b2, s.a1, s.a2] : List Int)[k]? = some x ∧ (#[.int .i64 s.b0, .int .i64 s.b1, .int .i64 s.b2, .int .i64 s.a1, .int .i64 s.a2, .int .i64 s.sh] : Array Value)[k]? = some (.int .i64 x) := by
  rcases k with _ | _ | _ | _ | _ | k
  · exact ⟨_, rfl, rfl⟩
  · exact ⟨_, rfl, rfl⟩
  · exact ⟨_, rfl, rfl⟩
  · exact ⟨_, rfl, rfl⟩
  · exact ⟨_, rfl, rfl⟩
  · omega

set_option maxHeartbeats 400000 in
theorem rCheckSection_any (s : Sec) (w : World) :
    Calls Tryd.prog 21 #[.agg #[.int .i64 s.b0, .int .i64 s.b1, .int .i64 s.b2, .int .i64 s.a1, .int .i64 s.a2, .int .i64 s.sh]] w fun r w' => r = .returned (.int .i64 s.err) ∧ Below w.heap.size w w' := by
  go_enter Tryd.func21, Tryd.ntmps21
  go_wp2_with fail
  obtain ⟨w1, e1, hb0, hz, k0⟩ := box1 w #[.int .i64 s.b0, .int .i64 s.b1, .int .i64 s.b2, .int .i64 s.a1, .int .i64 s.a2, .int .i64 s.sh] 23
  rw [← e1]; clear e1
  refine (rNumbers_any s _).mono ?_
  rintro e w2 ⟨g, rfl, hg, k2, hb1⟩
  have hb2 : Below w.heap.size w w2 := below_step hb0 hb1 (by omega)
  have c0 := (k0.below hb1 (by omega)).cell
  go_wp2
  go_loop [4] (fun i => ∃ k : Nat, k ≤ 5 ∧ i = .int .i64 k ∧ tapsOk s k) (fun i => 5 - (intOf i).toNat)
  case atStart => exact ⟨0, by omega, rfl, by intro y hy; simp at hy⟩
  case round =>
    obtain ⟨k, hk, rfl, ht⟩ := hrel
    by_cases hlt : k < 5
    · obtain ⟨x, hx1, hx2⟩ := sec_at s hlt
      have hc : w2.cell? ⟨g, k, none⟩ = some (.int .i64 x) := (k2.cell k).trans hx2
      have HX := hide hx1; clear hx1 hx2
      go_wp2_with (go_at_call 36; refine (checkRange_any _ _ _ _).mono ?_; rintro e w' ⟨rfl, rfl⟩)
      · go_ret
        exact ⟨by simp; exact taps_bad HX.out ‹_›, hb2⟩
      · go_round
        case rel => exact ⟨k + 1, by omega, by go_num, tapsOk_succ ht HX.out ‹_›⟩
        case measure => simp [intOf]; omega
    · obtain rfl : k = 5 := by omega
      go_wp2_with (go_at_call 36; refine (checkRange_any _ _ _ _).mono ?_; rintro e w' ⟨rfl, rfl⟩)
      go_ret
      exact ⟨by simp; exact taps_end ht, hb2⟩
end Go.Proofs.YtlaaajkehjoffaaDoor
