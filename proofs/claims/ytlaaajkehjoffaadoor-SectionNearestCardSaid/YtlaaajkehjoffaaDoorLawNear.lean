/- The law SectionNearest. -/
import Derived.Test.YtlaaajkehjoffaaDoorChain
import Derived.Test.YtlaaajkehjoffaaDoorPNear
namespace Go.Proofs.YtlaaajkehjoffaaDoor
open Go.RowKit Go.Shelf
set_option maxRecDepth 100000

theorem near_first {B : Nat} (l : List Sec) (s : Sec) (A : Option Addr) (c : Nat) (w : World) (h : Reads w B 1 A 2 (ints [secErr l, s.err])) (_hn : 2 ≤ 1000) :
    Calls Tryd.prog 20 #[.slice A 2 c] w fun e w' => e = .returned (.int .i64 (nearErr l s)) ∧ w = w' := rFirst_any A 2 c B _ w h (by omega)
theorem near_err {l : List Sec} {s : Sec} (h : nearErr l s = 0) : s.err = 0 := (fnz2_zero h).2
theorem nearE_bad {l : List Sec} {s : Sec} (h : nearErr l s ≠ 0) : nearE l s = (0, nearErr l s) := by unfold nearE; rw [if_neg h]
theorem rMirror_tot (s : Sec) (w : World) (h0 : s.err = 0) : Calls Tryd.prog 60 #[.agg #[.int .i64 s.b0, .int .i64 s.b1, .int .i64 s.b2, .int .i64 s.a1, .int .i64 s.a2, .int .i64 s.sh]] w fun e w' => e = .returned (.agg #[.int .i64 s.mirE.b0, .int .i64 s.mirE.b1, .int .i64 s.mirE.b2, .int .i64 s.mirE.a1, .int .i64 s.mirE.a2, .int .i64 s.mirE.sh]) ∧ Below w.heap.size w w' := by
  rw [mirE_ok h0]; exact rMirror_any s w

set_option maxHeartbeats 4000000 in
theorem lawNear_main (A : Option Addr) (n c : Nat) (l : List Sec) (s : Sec) (w : World) (hV : Vars w) (hn : n ≤ 9) (hL : Reads w w.heap.size 6 A n (secs l)) :
    Calls Tryd.prog 13 #[.slice A n c, .agg #[.int .i64 s.b0, .int .i64 s.b1, .int .i64 s.b2, .int .i64 s.a1, .int .i64 s.a2, .int .i64 s.sh]] w fun e w' => e = .returned (.bool true) ∧ Below w.heap.size w w' := by
  have g1 : ¬ ((9 : Int) < (n : Int)) := by omega
  have hq := eqlSec s.mirE
  go_enter Tryd.func13, Tryd.ntmps13
  go_wp2_with fail
  obtain ⟨w1, e1, hb1, hz1, k0⟩ := box1 w #[.int .i64 s.b0, .int .i64 s.b1, .int .i64 s.b2, .int .i64 s.a1, .int .i64 s.a2, .int .i64 s.sh] 23
  rw [← e1]; clear e1
  refine (Mirror_tot s _).mono ?_
  rintro e w2 ⟨rfl, hb2⟩
  have cS := (carryK (w' := w2) k0 (by repeat (first | with_reducible assumption | exact Below.refl _ _ | refine below_next (by with_reducible assumption) ?_))).cell
  go_wp2_with fail
  obtain ⟨w3, e3, hb3, hz3, kP⟩ := box1 w2 #[.int .i64 s.mirE.b0, .int .i64 s.mirE.b1, .int .i64 s.mirE.b2, .int .i64 s.mirE.a1, .int .i64 s.mirE.a2, .int .i64 s.mirE.sh] 32
  rw [← e3]; clear e3 cS
  have c0 : ∀ i W, Below w3.heap.size w3 W → W.cell? ⟨w.heap.size, i, none⟩ = (#[.int .i64 s.b0, .int .i64 s.b1, .int .i64 s.b2, .int .i64 s.a1, .int .i64 s.a2, .int .i64 s.sh] : Array Value)[i]? := fun i W h => (carryK (carryK k0 (by repeat (first | with_reducible assumption | exact Below.refl _ _ | refine below_next (by with_reducible assumption) ?_))) h).cell i
  have R0 := hide (fun W (h : Below w3.heap.size w3 W) => carry (carry hL (by repeat (first | with_reducible assumption | exact Below.refl _ _ | refine below_next (by with_reducible assumption) ?_))) h)
  go_region_held3 (fun W => Below w3.heap.size w3 W) (first | exact (Below.refl _ _).drew | (with_reducible assumption) | exact below_new ‹Below w3.heap.size w3 _› (Nat.le_refl _) _ | (refine below_set (below_set (below_set (below_set (by assumption) (by omega) _) (by omega) _) (by omega) _) (by omega) _)) (first | (go_at_call 55; refine (given_any A n c l _ (R0.out _ ‹Below w3.heap.size w3 _›) (by omega)).mono ?_; rintro e W' ⟨vG, rfl, oG, hbW⟩; obtain ⟨AG, cG, rfl, rG⟩ := own_slice oG; have hS := below_step ‹Below w3.heap.size w3 _› hbW (Below.size ‹Below w3.heap.size w3 _›); have RG := hide rG; clear rG oG) | (go_at_call 59; refine (Nearest_tot AG n cG l s _ (by omega) RG.out).mono ?_; rintro e w4 ⟨rfl, hbQ⟩; have hS := below_step ‹Below w3.heap.size w3 _› hbQ (Below.size ‹Below w3.heap.size w3 _›)))
  have hb4 : Below w3.heap.size w3 w4 := ‹Below w3.heap.size w3 w4›
  clear c0 R0 RG hbW hbQ
  (try clear hS); (try clear hS)
  have cS := (carryK (w' := w4) k0 (by repeat (first | with_reducible assumption | exact Below.refl _ _ | refine below_next (by with_reducible assumption) ?_))).cell
  go_wp2_with fail
  refine (rCheckSection_any s _).mono ?_
  rintro e w5 ⟨rfl, hb5⟩
  clear cS
  go_wp2_with fail
  refine (rCheckSections_any A n c l _ (carry hL (by repeat (first | with_reducible assumption | exact Below.refl _ _ | refine below_next (by with_reducible assumption) ?_))) (by omega)).mono ?_
  rintro e w6 ⟨rfl, hb6⟩
  go_wp2_with fail
  refine (near_first l s _ _ _ (reads2 _ _ _ _) (by omega)).mono ?_
  rintro e w' ⟨rfl, rfl⟩
  go_upto_if 37 with (fail)
  obtain ⟨w7, e7, hb7, hz7, kO, kR0⟩ := box2 w6 #[.int .i64 (secErr l), .int .i64 s.err] #[.int .i64 0, .int .i64 0, .int .i64 0, .int .i64 0, .int .i64 0, .int .i64 0] 3 23
  rw [← e7]; clear e7
  have hsz7 := hb7.size
  by_cases h1 : s.err = 0
  · have t1 : (s.err == 0) = true := by rw [h1]; rfl
    have H1 := hide h1; clear h1
    have cS := (carryK (w' := w7) k0 (by repeat (first | with_reducible assumption | exact Below.refl _ _ | refine below_next (by with_reducible assumption) ?_))).cell
    go_wp2_with fail
    refine (rMirror_tot s _ H1.out).mono ?_
    rintro e w8 ⟨rfl, hb8⟩
    have kR1 := carryK kR0 hb8
    have cR := kR1.cell
    have fR := kR1.frozen
    have lR := kR1.lt
    clear cS
    go_upto_if 41 with (fail)
    obtain ⟨w9, e9, hb9, kR⟩ : ∃ w9, w9 = ((((((w8.setCell ⟨w6.heap.size + 1, 0, none⟩ (.int .i64 s.mirE.b0)).setCell ⟨w6.heap.size + 1, 1, none⟩ (.int .i64 s.mirE.b1)).setCell ⟨w6.heap.size + 1, 2, none⟩ (.int .i64 s.mirE.b2)).setCell ⟨w6.heap.size + 1, 3, none⟩ (.int .i64 s.mirE.a1)).setCell ⟨w6.heap.size + 1, 4, none⟩ (.int .i64 s.mirE.a2)).setCell ⟨w6.heap.size + 1, 5, none⟩ (.int .i64 s.mirE.sh)) ∧ Below w6.heap.size w6 w9 ∧ Blk w9 (w6.heap.size + 1) 23 #[.int .i64 s.mirE.b0, .int .i64 s.mirE.b1, .int .i64 s.mirE.b2, .int .i64 s.mirE.a1, .int .i64 s.mirE.a2, .int .i64 s.mirE.sh] :=
      ⟨_, rfl, below6 (below_next hb7 hb8) (by omega), blk6 kR1⟩
    rw [← e9]; clear e9 cR fR lR kR0 kR1 hb7 hb8
    by_cases h2 : nearErr l s = 0
    · have t2 : (nearErr l s == 0) = true := by rw [h2]; rfl
      have H2 := hide h2; clear h2
      have cS := (carryK (w' := w9) k0 (by repeat (first | with_reducible assumption | exact Below.refl _ _ | refine below_next (by with_reducible assumption) ?_))).cell
      go_wp2_with fail
      refine (rNearest_tot A n c l s _ (by omega) (carry hL (by repeat (first | with_reducible assumption | exact Below.refl _ _ | refine below_next (by with_reducible assumption) ?_))) H2.out).mono ?_
      rintro e wy ⟨rfl, hby⟩
      have cP := (carryK (w' := wy) kP (by repeat (first | with_reducible assumption | exact Below.refl _ _ | refine below_next (by with_reducible assumption) ?_))).cell
      have cR := (carryK (w' := wy) kR (by repeat (first | with_reducible assumption | exact Below.refl _ _ | refine below_next (by with_reducible assumption) ?_))).cell
      go_wp2_with fail
      refine (awake_v _ (hV.carry (by repeat (first | with_reducible assumption | exact Below.refl _ _ | refine below_next (by with_reducible assumption) ?_)))).mono ?_
      rintro e wz ⟨rfl, hbz⟩
      go_wp2
      go_ret
      exact ⟨rfl, (by repeat (first | with_reducible assumption | exact Below.refl _ _ | refine below_next (by with_reducible assumption) ?_))⟩
    · have t2 : (nearErr l s == 0) = false := by simpa using h2
      have hE := nearE_bad h2
      have t3 : ((nearE l s).1 == 0) = true := by rw [hE]; rfl
      have t4 : ((nearE l s).2 == nearErr l s) = true := by rw [hE]; simp
      clear h2 hE
      have cP := (carryK (w' := w9) kP (by repeat (first | with_reducible assumption | exact Below.refl _ _ | refine below_next (by with_reducible assumption) ?_))).cell
      have cR := (carryK (w' := w9) kR (by repeat (first | with_reducible assumption | exact Below.refl _ _ | refine below_next (by with_reducible assumption) ?_))).cell
      go_wp2_with fail
      refine (awake_v _ (hV.carry (by repeat (first | with_reducible assumption | exact Below.refl _ _ | refine below_next (by with_reducible assumption) ?_)))).mono ?_
      rintro e wz ⟨rfl, hbz⟩
      go_wp2
      go_ret
      exact ⟨rfl, (by repeat (first | with_reducible assumption | exact Below.refl _ _ | refine below_next (by with_reducible assumption) ?_))⟩
  · have t1 : (s.err == 0) = false := by simpa using h1
    have h2 : nearErr l s ≠ 0 := fun h => h1 (near_err h)
    have t2 : (nearErr l s == 0) = false := by simpa using h2
    have hE := nearE_bad h2
    have t3 : ((nearE l s).1 == 0) = true := by rw [hE]; rfl
    have t4 : ((nearE l s).2 == nearErr l s) = true := by rw [hE]; simp
    have hm := mirE_bad h1
    have hq0 : ∀ W, (binOp .eql 23 (.agg #[.int .i64 s.mirE.b0, .int .i64 s.mirE.b1, .int .i64 s.mirE.b2, .int .i64 s.mirE.a1, .int .i64 s.mirE.a2, .int .i64 s.mirE.sh]) (.agg #[.int .i64 0, .int .i64 0, .int .i64 0, .int .i64 0, .int .i64 0, .int .i64 0])).run Tryd.prog W = .ok (.bool true) W := by rw [hm]; exact eqlSec Sec.zero
    clear h1 h2 hE hm hq
    have cP := (carryK (w' := w7) kP (by repeat (first | with_reducible assumption | exact Below.refl _ _ | refine below_next (by with_reducible assumption) ?_))).cell
    have cR := (carryK (w' := w7) kR0 (by repeat (first | with_reducible assumption | exact Below.refl _ _ | refine below_next (by with_reducible assumption) ?_))).cell
    go_wp2_with fail
    refine (awake_v _ (hV.carry (by repeat (first | with_reducible assumption | exact Below.refl _ _ | refine below_next (by with_reducible assumption) ?_)))).mono ?_
    rintro e wz ⟨rfl, hbz⟩
    go_wp2
    go_ret
    exact ⟨rfl, (by repeat (first | with_reducible assumption | exact Below.refl _ _ | refine below_next (by with_reducible assumption) ?_))⟩

theorem lawNear_any (A : Option Addr) (n c : Nat) (l : List Sec) (s : Sec) (w : World) (hV : Vars w) (hn : n ≤ maxLen) (hL : Reads w w.heap.size 6 A n (secs l)) :
    Calls Tryd.prog 13 #[.slice A n c, .agg #[.int .i64 s.b0, .int .i64 s.b1, .int .i64 s.b2, .int .i64 s.a1, .int .i64 s.a2, .int .i64 s.sh]] w fun e w' => e = .returned (.bool true) ∧ Below w.heap.size w w' := by
  unfold maxLen at hn
  by_cases h9 : n ≤ 9
  · exact lawNear_main A n c l s w hV h9 hL
  · have g1 : (9 : Int) < (n : Int) := by omega
    clear h9 hL
    go_enter Tryd.func13, Tryd.ntmps13
    go_wp2_with fail
    obtain ⟨w1, e1, hb1, hz1, k0⟩ := box1 w #[.int .i64 s.b0, .int .i64 s.b1, .int .i64 s.b2, .int .i64 s.a1, .int .i64 s.a2, .int .i64 s.sh] 23
    rw [← e1]; clear e1
    refine (awake_v _ (hV.carry hb1)).mono ?_
    rintro e w6 ⟨rfl, hb9⟩
    go_wp2
    go_ret
    exact ⟨rfl, below_step hb1 hb9 hb1.size⟩
end Go.Proofs.YtlaaajkehjoffaaDoor
