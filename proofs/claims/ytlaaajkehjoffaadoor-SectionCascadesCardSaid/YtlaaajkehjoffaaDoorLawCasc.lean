/- The law SectionCascades. -/
import Derived.Test.YtlaaajkehjoffaaDoorLawUndo
import Derived.Test.YtlaaajkehjoffaaDoorCascS
namespace Go.Proofs.YtlaaajkehjoffaaDoor
open Go.RowKit Go.Shelf
set_option maxRecDepth 100000

def Sec.impOut (s : Sec) (a n : Int) : List Int := if impErr s a n = 0 then s.outs St.zero (pulse a n.toNat) else []
def cascOut (l : List Sec) (xs : List Int) : List Int := if cascErr l xs = 0 then casc l xs else []
theorem impErr_zero {s : Sec} {a n : Int} (h : impErr s a n = 0) : s.Ok ∧ (-32767 ≤ a ∧ a ≤ 32767) ∧ 0 ≤ n ∧ n ≤ 4096 := by
  obtain ⟨a1, a2, a3⟩ := fnz3_zero h
  refine ⟨Sec.err_ok a1, inB_iff.1 (vErr_zero a2), ?_⟩
  rw [rng_eq] at a3
  split at a3
  · exact inB_iff.1 (by assumption)
  · omega
theorem impOut_len (s : Sec) (a n : Int) : (s.impOut a n).length ≤ 1000000000000 := by
  unfold Sec.impOut
  split
  · rename_i h
    have := (impErr_zero h).2.2
    rw [outs_len, pulse_len]; omega
  · simp
theorem cascOut_len (l : List Sec) (xs : List Int) : (cascOut l xs).length ≤ xs.length := by
  unfold cascOut
  split
  · rw [casc_len]; omega
  · simp
theorem Impulse_tot (s : Sec) (a n : Int) (w : World) : Calls Tryd.prog 46 #[.agg #[.int .i64 s.b0, .int .i64 s.b1, .int .i64 s.b2, .int .i64 s.a1, .int .i64 s.a2, .int .i64 s.sh], .int .i64 a, .int .i64 n] w (GivesE (s.impOut a n) (impErr s a n) w) := by
  by_cases h0 : impErr s a n = 0
  · obtain ⟨_, _, h1, h2⟩ := impErr_zero h0
    obtain ⟨k, rfl⟩ : ∃ k : Nat, n = k := ⟨n.toNat, by omega⟩
    have e1 : s.impOut a k = s.outs St.zero (pulse a k) := by unfold Sec.impOut; rw [if_pos h0]; simp
    unfold GivesE
    rw [e1, h0]
    refine (Impulse_ok s a k w h0).mono fun _ _ ⟨v, he, ho, hb⟩ => ?_
    obtain ⟨A', c', rfl, hr⟩ := givesE_own (by rw [outs_len, pulse_len]) ho
    exact ⟨A', c', he, hr, hb⟩
  · have e1 : s.impOut a n = [] := by unfold Sec.impOut; rw [if_neg h0]
    unfold GivesE
    rw [e1]
    exact (Impulse_bad s a n w (by simpa using h0)).mono fun _ _ h => ⟨none, 0, h.1, reads_nil _, h.2⟩
/-- What a call gives that returns a list of numbers. -/
def GivesL (xs : List Int) (w : World) (e : Ending) (w' : World) : Prop :=
  ∃ A c, e = .returned (.slice A xs.length c) ∧ Reads w' w'.heap.size 1 A xs.length (ints xs) ∧ Below w.heap.size w w'
theorem rImpulse_tot (s : Sec) (a n : Int) (w : World) (h0 : impErr s a n = 0) : Calls Tryd.prog 57 #[.agg #[.int .i64 s.b0, .int .i64 s.b1, .int .i64 s.b2, .int .i64 s.a1, .int .i64 s.a2, .int .i64 s.sh], .int .i64 a, .int .i64 n] w (GivesL (s.impOut a n) w) := by
  obtain ⟨h1, h2, h3, h4⟩ := impErr_zero h0
  obtain ⟨k, rfl⟩ : ∃ k : Nat, n = k := ⟨n.toNat, by omega⟩
  have e1 : s.impOut a k = s.outs St.zero (pulse a k) := by unfold Sec.impOut; rw [if_pos h0]; simp
  unfold GivesL
  rw [e1]
  refine (rImpulse_any s a k w h1 h2 (by omega)).mono fun _ _ ⟨v, he, ho, hb⟩ => ?_
  obtain ⟨A', c', rfl, hr⟩ := givesE_own (by rw [outs_len, pulse_len]) ho
  exact ⟨A', c', he, hr, hb⟩
theorem Cascade_tot (A : Option Addr) (n c : Nat) (l : List Sec) (A1 : Option Addr) (m c1 : Nat) (xs : List Int) (w : World) (hn : n ≤ 1000000000000) (hm : m ≤ 1000000000000)
    (h : Reads w w.heap.size 6 A n (secs l)) (hR : Reads w w.heap.size 1 A1 m (ints xs)) :
    Calls Tryd.prog 54 #[.slice A n c, .slice A1 m c1] w (GivesE (cascOut l xs) (cascErr l xs) w) := by
  by_cases h0 : cascErr l xs = 0
  · have e1 : cascOut l xs = casc l xs := by unfold cascOut; rw [if_pos h0]
    unfold GivesE
    rw [e1, h0, show (casc l xs).length = m by rw [casc_len]; exact reads_len hR]
    exact Cascade_ok A n c l A1 m c1 xs w hn hm h hR h0
  · have e1 : cascOut l xs = [] := by unfold cascOut; rw [if_neg h0]
    unfold GivesE
    rw [e1]
    exact (Cascade_bad A n c l A1 m c1 xs w hn hm h hR (by simpa using h0)).mono fun _ _ h => ⟨none, 0, h.1, reads_nil _, h.2⟩
theorem rCascade_tot (A : Option Addr) (n c : Nat) (l : List Sec) (A1 : Option Addr) (m c1 : Nat) (xs : List Int) (w : World) (h0 : cascErr l xs = 0) (hn : n ≤ 1000000000000) (hm : m ≤ 1000000000000)
    (h : Reads w w.heap.size 6 A n (secs l)) (hR : Reads w w.heap.size 1 A1 m (ints xs)) :
    Calls Tryd.prog 58 #[.slice A n c, .slice A1 m c1] w (GivesL (cascOut l xs) w) := by
  obtain ⟨h1, h2⟩ := fnz2_zero h0
  have e1 : cascOut l xs = casc l xs := by unfold cascOut; rw [if_pos h0]
  unfold GivesL
  rw [e1, show (casc l xs).length = m by rw [casc_len]; exact reads_len hR]
  exact rCascade_any A n c l A1 m c1 xs w (secErr_ok h1).2 (sigErr_ok h2).2 hn hm h hR
theorem imp_first {B : Nat} (s : Sec) (a n : Int) (A : Option Addr) (c : Nat) (w : World) (h : Reads w B 1 A 3 (ints [s.err, vErr a, rng n 0 4096])) (_hn : 3 ≤ 1000) :
    Calls Tryd.prog 20 #[.slice A 3 c] w fun e w' => e = .returned (.int .i64 (impErr s a n)) ∧ w = w' := rFirst_any A 3 c B _ w h (by omega)
theorem casc_first {B : Nat} (l : List Sec) (xs : List Int) (A : Option Addr) (c : Nat) (w : World) (h : Reads w B 1 A 2 (ints [secErr l, sigErr xs])) (_hn : 2 ≤ 1000) :
    Calls Tryd.prog 20 #[.slice A 2 c] w fun e w' => e = .returned (.int .i64 (cascErr l xs)) ∧ w = w' := rFirst_any A 2 c B _ w h (by omega)

set_option maxHeartbeats 8000000 in
theorem lawCasc_z1 (A : Option Addr) (n c : Nat) (l : List Sec) (A1 : Option Addr) (m c1 : Nat) (xs : List Int) (n0 n1 : Int) (w : World) (hV : Vars w) (hn : n ≤ 9) (hf : m ≤ 40 ∨ m = 4097) (g2 : decide ((40 : Int) < n1) = false) (g5 : ¬ (0 : Int) < (n : Int))
    (hL : Reads w w.heap.size 6 A n (secs l)) (hR : Reads w w.heap.size 1 A1 m (ints xs)) :
    Calls Tryd.prog 11 #[.slice A n c, .slice A1 m c1, .agg #[.int .i64 n0, .int .i64 n1]] w fun e w' => e = .returned (.bool true) ∧ Below w.heap.size w w' := by
  have lC : (cascOut l xs).length ≤ 1000000000000 := by have := cascOut_len l xs; have := reads_len hR; omega
  have g1 : ¬ ((9 : Int) < (n : Int)) := by omega
  go_enter Tryd.func11, Tryd.ntmps11
  go_wp2_with fail
  obtain ⟨w1, e1, hb1, hz1, k0⟩ := box1 w #[.int .i64 n0, .int .i64 n1] 93
  rw [← e1]; clear e1
  refine (few_t A1 m c1 _ hf).mono ?_
  rintro e w' ⟨rfl, rfl⟩
  have cA := k0.cell
  have rLw := carry hL hb1
  have rXw := carry hR hb1
  clear hL hR
  focus
    · obtain ⟨s, es⟩ : ∃ s : Sec, s = ⟨0, 0, 0, 0, 0, 0⟩ := ⟨_, rfl⟩
      have ES := hide es; clear es
      go_upto_region 6 with (fail)
      obtain ⟨v, ev, hbv, hzv, kS0⟩ := box1 w1 #[.int .i64 0, .int .i64 0, .int .i64 0, .int .i64 0, .int .i64 0, .int .i64 0] 23
      rw [← ev]; clear ev
      have kS : Blk v w1.heap.size 23 #[.int .i64 s.b0, .int .i64 s.b1, .int .i64 s.b2, .int .i64 s.a1, .int .i64 s.a2, .int .i64 s.sh] := by rw [ES.out]; exact kS0
      have hb := below_step hb1 hbv hb1.size
      have kA := carryK k0 hbv
      have rL := carry rLw hbv
      have rX := carry rXw hbv
      clear kS0 hb1 hbv k0 cA rLw rXw ES g1 hzv hz1
      have R0 := hide rL; have R1 := hide rX
      clear rL rX
      have cA := kA.cell
      have cS := kS.cell
      go_wp2_with fail
      refine (Impulse_tot s n0 n1 _).mono ?_
      rintro e w2 ⟨B1, d1, rfl, s1, hb2⟩
      have hb3 := below_step hb hb2 hb.size
      have kA2 := carryK kA hb2
      have kS2 := carryK kS hb2
      have rL2 := carry R0.out hb2
      have rX2 := carry R1.out hb2
      clear cA cS kA kS R0 R1 hb hb2
      go_wp2_with fail
      refine (given_any _ n c l _ rL2 (by omega)).mono ?_
      rintro e w3 ⟨vG, rfl, oG, hb4⟩
      obtain ⟨AG, cG, rfl, rG⟩ := own_slice oG
      have hb5 := below_step hb3 hb4 hb3.size
      have kA3 := carryK kA2 hb4
      have kS3 := carryK kS2 hb4
      have rL3 := carry rL2 hb4
      have rX3 := carry rX2 hb4
      have s1' := carry s1 hb4
      clear kA2 kS2 rL2 rX2 s1 hb3 hb4 oG
      go_wp2_with fail
      refine (ints_any A1 m c1 xs _ rX3 (by omega)).mono ?_
      rintro e w4 ⟨vI, rfl, oI, hb6⟩
      obtain ⟨AI, cI, rfl, rI⟩ := own_slice oI
      have hb7 := below_step hb5 hb6 hb5.size
      have kA4 := carryK kA3 hb6
      have kS4 := carryK kS3 hb6
      have rL4 := carry rL3 hb6
      have rX4 := carry rX3 hb6
      have rG4 := carry rG hb6
      have s1 := carry s1' hb6
      clear kA3 kS3 rL3 rX3 rG s1' hb5 hb6 oI
      go_wp2_with fail
      refine (Cascade_tot AG n cG l AI m cI xs _ (by omega) (by omega) rG4 rI).mono ?_
      rintro e w5 ⟨B2, d2, rfl, s2, hb8⟩
      have hb9 := below_step hb7 hb8 hb7.size
      have kA5 := carryK kA4 hb8
      have kS5 := carryK kS4 hb8
      have rL5 := carry rL4 hb8
      have rX5 := carry rX4 hb8
      have s1' := carry s1 hb8
      clear kA4 kS4 rL4 rX4 rG4 rI s1 hb7 hb8
      have c0 : ∀ i W, Below w5.heap.size w5 W → W.cell? ⟨w.heap.size, i, none⟩ = (#[.int .i64 n0, .int .i64 n1] : Array Value)[i]? := fun i W h => (kA5.below h kA5.lt).cell i
      have c1' : ∀ i W, Below w5.heap.size w5 W → W.cell? ⟨w1.heap.size, i, none⟩ = (#[.int .i64 s.b0, .int .i64 s.b1, .int .i64 s.b2, .int .i64 s.a1, .int .i64 s.a2, .int .i64 s.sh] : Array Value)[i]? := fun i W h => (kS5.below h kS5.lt).cell i
      go_wp2
      go_region_held3 (fun W => Below w5.heap.size w5 W) (first | exact (Below.refl _ _).drew | (with_reducible assumption) | exact below_new ‹Below w5.heap.size w5 _› (Nat.le_refl _) _ | (refine below_set (below_set (below_set (below_set (by assumption) (by omega) _) (by omega) _) (by omega) _) (by omega) _)) (first | (go_at_call 21; refine (rCheckSection_any s _).mono ?_; rintro e W' ⟨rfl, hbW⟩; have hS := below_step ‹Below w5.heap.size w5 _› hbW (Below.size ‹Below w5.heap.size w5 _›)) | (go_at_call 49; refine (checkInput_any _ _).mono ?_; rintro e W' ⟨rfl, rfl⟩) | (go_at_call 36; refine (checkRange_any _ _ _ _).mono ?_; rintro e W' ⟨rfl, rfl⟩) | (go_at_call 20; (first | (with_reducible (refine (imp_first _ _ _ _ _ _ (reads3 _ _ _ _ _) (by omega)).mono ?_)) | (with_reducible (refine (imp_first _ _ _ _ _ _ (Reads.drew (reads3 _ _ _ _ _)) (by omega)).mono ?_))); rintro e W' ⟨rfl, rfl⟩))
      have hB : Below w5.heap.size w5 _ := ‹Below w5.heap.size w5 _›
      generalize World.alloc _ _ = w6 at hB ⊢
      have hb10 := below_step hb9 hB hb9.size
      have kA6 := carryK kA5 hB
      have kS6 := carryK kS5 hB
      have rL6 := carry rL5 hB
      have rX6 := carry rX5 hB
      have s1 := carry s1' hB
      have s2' := carry s2 hB
      clear c0 c1' kA5 kS5 rL5 rX5 s1' s2 hb9 hB
      try clear hbW hS
      go_wp2_with fail
      refine (rCheckSections_any _ n c l _ rL6 (by omega)).mono ?_
      rintro e w7 ⟨rfl, hb11⟩
      have hb12 := below_step hb10 hb11 hb10.size
      have kA7 := carryK kA6 hb11
      have kS7 := carryK kS6 hb11
      have rL7 := carry rL6 hb11
      have rX7 := carry rX6 hb11
      have s1' := carry s1 hb11
      have s2 := carry s2' hb11
      clear kA6 kS6 rL6 rX6 s1 s2' hb10 hb11
      go_wp2_with fail
      refine (rCheckSignal_any A1 m c1 _ xs _ rX7 (by omega)).mono ?_
      rintro e w' ⟨rfl, rfl⟩
      go_wp2_with fail
      refine (casc_first l xs _ _ _ (reads2 _ _ _ _) (by omega)).mono ?_
      rintro e w' ⟨rfl, rfl⟩
      obtain ⟨w8, e8, hb13, hz8, _⟩ := box1 w7 #[.int .i64 (secErr l), .int .i64 (sigErr xs)] 3
      rw [← e8]; clear e8
      have hb14 := below_step hb12 hb13 hb12.size
      have kA8 := carryK kA7 hb13
      have kS8 := carryK kS7 hb13
      have rL8 := carry rL7 hb13
      have rX8 := carry rX7 hb13
      have s1 := carry s1' hb13
      have s2' := carry s2 hb13
      have cA := kA8.cell
      have cS := kS8.cell
      clear kA7 kS7 rL7 rX7 s1' s2 hb12 hb13
      have l1 := impOut_len s n0 n1
      have L1 := hide l1; clear l1
      by_cases h1 : impErr s n0 n1 = 0
      · have t1 : (impErr s n0 n1 == 0) = true := by rw [h1]; rfl
        have H1 := hide h1; clear h1
        go_wp2_with fail
        refine (rImpulse_tot s n0 n1 _ H1.out).mono ?_
        rintro e w9 ⟨B3, d3, rfl, s3, hb15⟩
        have hb16 := below_step hb14 hb15 hb14.size
        have rL9 := carry rL8 hb15
        have rX9 := carry rX8 hb15
        have s1' := carry s1 hb15
        have s2 := carry s2' hb15
        clear cA cS kA8 kS8 rL8 rX8 s1 s2' hb14 hb15
        by_cases h2 : cascErr l xs = 0
        · have t2 : (cascErr l xs == 0) = true := by rw [h2]; rfl
          have H2 := hide h2; clear h2
          go_wp2_with fail
          refine (rCascade_tot _ n c l A1 m c1 xs _ H2.out (by omega) (by omega) rL9 rX9).mono ?_
          rintro e u ⟨B4, d4, rfl, s4, hb17⟩
          have hbu := below_step hb16 hb17 hb16.size
          have z1 := carry s1' hb17
          have z2 := carry s2 hb17
          have z3 := carry s3 hb17
          clear rL9 rX9 s1' s2 s3 hb16 hb17
          go_wp2_with fail
          refine (c_same B1 _ d1 _ B3 d3 _ z1 z3 L1.out).mono ?_
          rintro e u2 ⟨rfl, hu⟩
          have hbu2 := below_step hbu hu hbu.size
          have z2' := carry z2 hu
          have z4 := carry s4 hu
          clear z1 z2 hbu hu
          go_wp2_with fail
          refine (c_same B2 _ d2 _ B4 d4 _ z2' z4 lC).mono ?_
          rintro e u3 ⟨rfl, hu3⟩
          have hbu3 := below_step hbu2 hu3 hbu2.size
          clear z2' hbu2 hu3
          go_wp2_with fail
          refine (awake_v _ (hV.carry hbu3)).mono ?_
          rintro e u5 ⟨rfl, hu5⟩
          go_wp2
          go_ret
          exact ⟨rfl, below_step hbu3 hu5 hbu3.size⟩
        · have t2 : (cascErr l xs == 0) = false := by simpa using h2
          have hn2 : cascOut l xs = [] := by unfold cascOut; rw [if_neg h2]
          have HN2 := hide hn2; clear hn2 h2
          have hbu := hb16
          have z1 := s1'
          have z2 := s2
          have z3 := s3
          clear rL9 rX9 s1' s2 s3 hb16
          go_wp2_with fail
          refine (c_same B1 _ d1 _ B3 d3 _ z1 z3 L1.out).mono ?_
          rintro e u2 ⟨rfl, hu⟩
          have hbu2 := below_step hbu hu hbu.size
          have z2' := carry z2 hu
          skip
          clear z1 z2 hbu hu
          go_wp2_with fail
          refine (c_same0 B2 d2 _ _ z2' HN2.out _).mono ?_
          rintro e u3 ⟨rfl, hu3⟩
          have hbu3 := below_step hbu2 hu3 hbu2.size
          clear z2' hbu2 hu3
          go_wp2_with fail
          refine (awake_v _ (hV.carry hbu3)).mono ?_
          rintro e u5 ⟨rfl, hu5⟩
          go_wp2
          go_ret
          exact ⟨rfl, below_step hbu3 hu5 hbu3.size⟩
      · have t1 : (impErr s n0 n1 == 0) = false := by simpa using h1
        have hn1 : s.impOut n0 n1 = [] := by unfold Sec.impOut; rw [if_neg h1]
        have HN1 := hide hn1; clear hn1 h1
        clear cA cS kA8 kS8
        by_cases h2 : cascErr l xs = 0
        · have t2 : (cascErr l xs == 0) = true := by rw [h2]; rfl
          have H2 := hide h2; clear h2
          go_wp2_with fail
          refine (rCascade_tot _ n c l A1 m c1 xs _ H2.out (by omega) (by omega) rL8 rX8).mono ?_
          rintro e u ⟨B4, d4, rfl, s4, hb17⟩
          have hbu := below_step hb14 hb17 hb14.size
          have z1 := carry s1 hb17
          have z2 := carry s2' hb17
          clear rL8 rX8 s1 s2' hb14 hb17
          go_wp2_with fail
          refine (c_same0 B1 d1 _ _ z1 HN1.out _).mono ?_
          rintro e u2 ⟨rfl, hu⟩
          have hbu2 := below_step hbu hu hbu.size
          have z2' := carry z2 hu
          have z4 := carry s4 hu
          clear z1 z2 hbu hu
          go_wp2_with fail
          refine (c_same B2 _ d2 _ B4 d4 _ z2' z4 lC).mono ?_
          rintro e u3 ⟨rfl, hu3⟩
          have hbu3 := below_step hbu2 hu3 hbu2.size
          clear z2' hbu2 hu3
          go_wp2_with fail
          refine (awake_v _ (hV.carry hbu3)).mono ?_
          rintro e u5 ⟨rfl, hu5⟩
          go_wp2
          go_ret
          exact ⟨rfl, below_step hbu3 hu5 hbu3.size⟩
        · have t2 : (cascErr l xs == 0) = false := by simpa using h2
          have hn2 : cascOut l xs = [] := by unfold cascOut; rw [if_neg h2]
          have HN2 := hide hn2; clear hn2 h2
          have hbu := hb14
          have z1 := s1
          have z2 := s2'
          clear rL8 rX8 s1 s2' hb14
          go_wp2_with fail
          refine (c_same0 B1 d1 _ _ z1 HN1.out _).mono ?_
          rintro e u2 ⟨rfl, hu⟩
          have hbu2 := below_step hbu hu hbu.size
          have z2' := carry z2 hu
          skip
          clear z1 z2 hbu hu
          go_wp2_with fail
          refine (c_same0 B2 d2 _ _ z2' HN2.out _).mono ?_
          rintro e u3 ⟨rfl, hu3⟩
          have hbu3 := below_step hbu2 hu3 hbu2.size
          clear z2' hbu2 hu3
          go_wp2_with fail
          refine (awake_v _ (hV.carry hbu3)).mono ?_
          rintro e u5 ⟨rfl, hu5⟩
          go_wp2
          go_ret
          exact ⟨rfl, below_step hbu3 hu5 hbu3.size⟩
set_option maxHeartbeats 8000000 in
theorem lawCasc_z2 (A : Option Addr) (n c : Nat) (l : List Sec) (A1 : Option Addr) (m c1 : Nat) (xs : List Int) (n0 n1 : Int) (w : World) (hV : Vars w) (hn : n ≤ 9) (hf : m ≤ 40 ∨ m = 4097) (g2 : decide ((40 : Int) < n1) = true) (g3 : decide (n1 ≤ 4096) = false) (g5 : ¬ (0 : Int) < (n : Int))
    (hL : Reads w w.heap.size 6 A n (secs l)) (hR : Reads w w.heap.size 1 A1 m (ints xs)) :
    Calls Tryd.prog 11 #[.slice A n c, .slice A1 m c1, .agg #[.int .i64 n0, .int .i64 n1]] w fun e w' => e = .returned (.bool true) ∧ Below w.heap.size w w' := by
  have lC : (cascOut l xs).length ≤ 1000000000000 := by have := cascOut_len l xs; have := reads_len hR; omega
  have g1 : ¬ ((9 : Int) < (n : Int)) := by omega
  go_enter Tryd.func11, Tryd.ntmps11
  go_wp2_with fail
  obtain ⟨w1, e1, hb1, hz1, k0⟩ := box1 w #[.int .i64 n0, .int .i64 n1] 93
  rw [← e1]; clear e1
  refine (few_t A1 m c1 _ hf).mono ?_
  rintro e w' ⟨rfl, rfl⟩
  have cA := k0.cell
  have rLw := carry hL hb1
  have rXw := carry hR hb1
  clear hL hR
  focus
    · obtain ⟨s, es⟩ : ∃ s : Sec, s = ⟨0, 0, 0, 0, 0, 0⟩ := ⟨_, rfl⟩
      have ES := hide es; clear es
      go_upto_region 6 with (fail)
      obtain ⟨v, ev, hbv, hzv, kS0⟩ := box1 w1 #[.int .i64 0, .int .i64 0, .int .i64 0, .int .i64 0, .int .i64 0, .int .i64 0] 23
      rw [← ev]; clear ev
      have kS : Blk v w1.heap.size 23 #[.int .i64 s.b0, .int .i64 s.b1, .int .i64 s.b2, .int .i64 s.a1, .int .i64 s.a2, .int .i64 s.sh] := by rw [ES.out]; exact kS0
      have hb := below_step hb1 hbv hb1.size
      have kA := carryK k0 hbv
      have rL := carry rLw hbv
      have rX := carry rXw hbv
      clear kS0 hb1 hbv k0 cA rLw rXw ES g1 hzv hz1
      have R0 := hide rL; have R1 := hide rX
      clear rL rX
      have cA := kA.cell
      have cS := kS.cell
      go_wp2_with fail
      refine (Impulse_tot s n0 n1 _).mono ?_
      rintro e w2 ⟨B1, d1, rfl, s1, hb2⟩
      have hb3 := below_step hb hb2 hb.size
      have kA2 := carryK kA hb2
      have kS2 := carryK kS hb2
      have rL2 := carry R0.out hb2
      have rX2 := carry R1.out hb2
      clear cA cS kA kS R0 R1 hb hb2
      go_wp2_with fail
      refine (given_any _ n c l _ rL2 (by omega)).mono ?_
      rintro e w3 ⟨vG, rfl, oG, hb4⟩
      obtain ⟨AG, cG, rfl, rG⟩ := own_slice oG
      have hb5 := below_step hb3 hb4 hb3.size
      have kA3 := carryK kA2 hb4
      have kS3 := carryK kS2 hb4
      have rL3 := carry rL2 hb4
      have rX3 := carry rX2 hb4
      have s1' := carry s1 hb4
      clear kA2 kS2 rL2 rX2 s1 hb3 hb4 oG
      go_wp2_with fail
      refine (ints_any A1 m c1 xs _ rX3 (by omega)).mono ?_
      rintro e w4 ⟨vI, rfl, oI, hb6⟩
      obtain ⟨AI, cI, rfl, rI⟩ := own_slice oI
      have hb7 := below_step hb5 hb6 hb5.size
      have kA4 := carryK kA3 hb6
      have kS4 := carryK kS3 hb6
      have rL4 := carry rL3 hb6
      have rX4 := carry rX3 hb6
      have rG4 := carry rG hb6
      have s1 := carry s1' hb6
      clear kA3 kS3 rL3 rX3 rG s1' hb5 hb6 oI
      go_wp2_with fail
      refine (Cascade_tot AG n cG l AI m cI xs _ (by omega) (by omega) rG4 rI).mono ?_
      rintro e w5 ⟨B2, d2, rfl, s2, hb8⟩
      have hb9 := below_step hb7 hb8 hb7.size
      have kA5 := carryK kA4 hb8
      have kS5 := carryK kS4 hb8
      have rL5 := carry rL4 hb8
      have rX5 := carry rX4 hb8
      have s1' := carry s1 hb8
      clear kA4 kS4 rL4 rX4 rG4 rI s1 hb7 hb8
      have c0 : ∀ i W, Below w5.heap.size w5 W → W.cell? ⟨w.heap.size, i, none⟩ = (#[.int .i64 n0, .int .i64 n1] : Array Value)[i]? := fun i W h => (kA5.below h kA5.lt).cell i
      have c1' : ∀ i W, Below w5.heap.size w5 W → W.cell? ⟨w1.heap.size, i, none⟩ = (#[.int .i64 s.b0, .int .i64 s.b1, .int .i64 s.b2, .int .i64 s.a1, .int .i64 s.a2, .int .i64 s.sh] : Array Value)[i]? := fun i W h => (kS5.below h kS5.lt).cell i
      go_wp2
      go_region_held3 (fun W => Below w5.heap.size w5 W) (first | exact (Below.refl _ _).drew | (with_reducible assumption) | exact below_new ‹Below w5.heap.size w5 _› (Nat.le_refl _) _ | (refine below_set (below_set (below_set (below_set (by assumption) (by omega) _) (by omega) _) (by omega) _) (by omega) _)) (first | (go_at_call 21; refine (rCheckSection_any s _).mono ?_; rintro e W' ⟨rfl, hbW⟩; have hS := below_step ‹Below w5.heap.size w5 _› hbW (Below.size ‹Below w5.heap.size w5 _›)) | (go_at_call 49; refine (checkInput_any _ _).mono ?_; rintro e W' ⟨rfl, rfl⟩) | (go_at_call 36; refine (checkRange_any _ _ _ _).mono ?_; rintro e W' ⟨rfl, rfl⟩) | (go_at_call 20; (first | (with_reducible (refine (imp_first _ _ _ _ _ _ (reads3 _ _ _ _ _) (by omega)).mono ?_)) | (with_reducible (refine (imp_first _ _ _ _ _ _ (Reads.drew (reads3 _ _ _ _ _)) (by omega)).mono ?_))); rintro e W' ⟨rfl, rfl⟩))
      have hB : Below w5.heap.size w5 _ := ‹Below w5.heap.size w5 _›
      generalize World.alloc _ _ = w6 at hB ⊢
      have hb10 := below_step hb9 hB hb9.size
      have kA6 := carryK kA5 hB
      have kS6 := carryK kS5 hB
      have rL6 := carry rL5 hB
      have rX6 := carry rX5 hB
      have s1 := carry s1' hB
      have s2' := carry s2 hB
      clear c0 c1' kA5 kS5 rL5 rX5 s1' s2 hb9 hB
      try clear hbW hS
      go_wp2_with fail
      refine (rCheckSections_any _ n c l _ rL6 (by omega)).mono ?_
      rintro e w7 ⟨rfl, hb11⟩
      have hb12 := below_step hb10 hb11 hb10.size
      have kA7 := carryK kA6 hb11
      have kS7 := carryK kS6 hb11
      have rL7 := carry rL6 hb11
      have rX7 := carry rX6 hb11
      have s1' := carry s1 hb11
      have s2 := carry s2' hb11
      clear kA6 kS6 rL6 rX6 s1 s2' hb10 hb11
      go_wp2_with fail
      refine (rCheckSignal_any A1 m c1 _ xs _ rX7 (by omega)).mono ?_
      rintro e w' ⟨rfl, rfl⟩
      go_wp2_with fail
      refine (casc_first l xs _ _ _ (reads2 _ _ _ _) (by omega)).mono ?_
      rintro e w' ⟨rfl, rfl⟩
      obtain ⟨w8, e8, hb13, hz8, _⟩ := box1 w7 #[.int .i64 (secErr l), .int .i64 (sigErr xs)] 3
      rw [← e8]; clear e8
      have hb14 := below_step hb12 hb13 hb12.size
      have kA8 := carryK kA7 hb13
      have kS8 := carryK kS7 hb13
      have rL8 := carry rL7 hb13
      have rX8 := carry rX7 hb13
      have s1 := carry s1' hb13
      have s2' := carry s2 hb13
      have cA := kA8.cell
      have cS := kS8.cell
      clear kA7 kS7 rL7 rX7 s1' s2 hb12 hb13
      have l1 := impOut_len s n0 n1
      have L1 := hide l1; clear l1
      by_cases h1 : impErr s n0 n1 = 0
      · have t1 : (impErr s n0 n1 == 0) = true := by rw [h1]; rfl
        have H1 := hide h1; clear h1
        go_wp2_with fail
        refine (rImpulse_tot s n0 n1 _ H1.out).mono ?_
        rintro e w9 ⟨B3, d3, rfl, s3, hb15⟩
        have hb16 := below_step hb14 hb15 hb14.size
        have rL9 := carry rL8 hb15
        have rX9 := carry rX8 hb15
        have s1' := carry s1 hb15
        have s2 := carry s2' hb15
        clear cA cS kA8 kS8 rL8 rX8 s1 s2' hb14 hb15
        by_cases h2 : cascErr l xs = 0
        · have t2 : (cascErr l xs == 0) = true := by rw [h2]; rfl
          have H2 := hide h2; clear h2
          go_wp2_with fail
          refine (rCascade_tot _ n c l A1 m c1 xs _ H2.out (by omega) (by omega) rL9 rX9).mono ?_
          rintro e u ⟨B4, d4, rfl, s4, hb17⟩
          have hbu := below_step hb16 hb17 hb16.size
          have z1 := carry s1' hb17
          have z2 := carry s2 hb17
          have z3 := carry s3 hb17
          clear rL9 rX9 s1' s2 s3 hb16 hb17
          go_wp2_with fail
          refine (c_same B1 _ d1 _ B3 d3 _ z1 z3 L1.out).mono ?_
          rintro e u2 ⟨rfl, hu⟩
          have hbu2 := below_step hbu hu hbu.size
          have z2' := carry z2 hu
          have z4 := carry s4 hu
          clear z1 z2 hbu hu
          go_wp2_with fail
          refine (c_same B2 _ d2 _ B4 d4 _ z2' z4 lC).mono ?_
          rintro e u3 ⟨rfl, hu3⟩
          have hbu3 := below_step hbu2 hu3 hbu2.size
          clear z2' hbu2 hu3
          go_wp2_with fail
          refine (awake_v _ (hV.carry hbu3)).mono ?_
          rintro e u5 ⟨rfl, hu5⟩
          go_wp2
          go_ret
          exact ⟨rfl, below_step hbu3 hu5 hbu3.size⟩
        · have t2 : (cascErr l xs == 0) = false := by simpa using h2
          have hn2 : cascOut l xs = [] := by unfold cascOut; rw [if_neg h2]
          have HN2 := hide hn2; clear hn2 h2
          have hbu := hb16
          have z1 := s1'
          have z2 := s2
          have z3 := s3
          clear rL9 rX9 s1' s2 s3 hb16
          go_wp2_with fail
          refine (c_same B1 _ d1 _ B3 d3 _ z1 z3 L1.out).mono ?_
          rintro e u2 ⟨rfl, hu⟩
          have hbu2 := below_step hbu hu hbu.size
          have z2' := carry z2 hu
          skip
          clear z1 z2 hbu hu
          go_wp2_with fail
          refine (c_same0 B2 d2 _ _ z2' HN2.out _).mono ?_
          rintro e u3 ⟨rfl, hu3⟩
          have hbu3 := below_step hbu2 hu3 hbu2.size
          clear z2' hbu2 hu3
          go_wp2_with fail
          refine (awake_v _ (hV.carry hbu3)).mono ?_
          rintro e u5 ⟨rfl, hu5⟩
          go_wp2
          go_ret
          exact ⟨rfl, below_step hbu3 hu5 hbu3.size⟩
      · have t1 : (impErr s n0 n1 == 0) = false := by simpa using h1
        have hn1 : s.impOut n0 n1 = [] := by unfold Sec.impOut; rw [if_neg h1]
        have HN1 := hide hn1; clear hn1 h1
        clear cA cS kA8 kS8
        by_cases h2 : cascErr l xs = 0
        · have t2 : (cascErr l xs == 0) = true := by rw [h2]; rfl
          have H2 := hide h2; clear h2
          go_wp2_with fail
          refine (rCascade_tot _ n c l A1 m c1 xs _ H2.out (by omega) (by omega) rL8 rX8).mono ?_
          rintro e u ⟨B4, d4, rfl, s4, hb17⟩
          have hbu := below_step hb14 hb17 hb14.size
          have z1 := carry s1 hb17
          have z2 := carry s2' hb17
          clear rL8 rX8 s1 s2' hb14 hb17
          go_wp2_with fail
          refine (c_same0 B1 d1 _ _ z1 HN1.out _).mono ?_
          rintro e u2 ⟨rfl, hu⟩
          have hbu2 := below_step hbu hu hbu.size
          have z2' := carry z2 hu
          have z4 := carry s4 hu
          clear z1 z2 hbu hu
          go_wp2_with fail
          refine (c_same B2 _ d2 _ B4 d4 _ z2' z4 lC).mono ?_
          rintro e u3 ⟨rfl, hu3⟩
          have hbu3 := below_step hbu2 hu3 hbu2.size
          clear z2' hbu2 hu3
          go_wp2_with fail
          refine (awake_v _ (hV.carry hbu3)).mono ?_
          rintro e u5 ⟨rfl, hu5⟩
          go_wp2
          go_ret
          exact ⟨rfl, below_step hbu3 hu5 hbu3.size⟩
        · have t2 : (cascErr l xs == 0) = false := by simpa using h2
          have hn2 : cascOut l xs = [] := by unfold cascOut; rw [if_neg h2]
          have HN2 := hide hn2; clear hn2 h2
          have hbu := hb14
          have z1 := s1
          have z2 := s2'
          clear rL8 rX8 s1 s2' hb14
          go_wp2_with fail
          refine (c_same0 B1 d1 _ _ z1 HN1.out _).mono ?_
          rintro e u2 ⟨rfl, hu⟩
          have hbu2 := below_step hbu hu hbu.size
          have z2' := carry z2 hu
          skip
          clear z1 z2 hbu hu
          go_wp2_with fail
          refine (c_same0 B2 d2 _ _ z2' HN2.out _).mono ?_
          rintro e u3 ⟨rfl, hu3⟩
          have hbu3 := below_step hbu2 hu3 hbu2.size
          clear z2' hbu2 hu3
          go_wp2_with fail
          refine (awake_v _ (hV.carry hbu3)).mono ?_
          rintro e u5 ⟨rfl, hu5⟩
          go_wp2
          go_ret
          exact ⟨rfl, below_step hbu3 hu5 hbu3.size⟩
set_option maxHeartbeats 8000000 in
theorem lawCasc_n1 (A : Option Addr) (n c : Nat) (l : List Sec) (A1 : Option Addr) (m c1 : Nat) (xs : List Int) (n0 n1 : Int) (w : World) (hV : Vars w) (hn : n ≤ 9) (hf : m ≤ 40 ∨ m = 4097) (g2 : decide ((40 : Int) < n1) = false) (g5 : (0 : Int) < (n : Int))
    (hL : Reads w w.heap.size 6 A n (secs l)) (hR : Reads w w.heap.size 1 A1 m (ints xs)) :
    Calls Tryd.prog 11 #[.slice A n c, .slice A1 m c1, .agg #[.int .i64 n0, .int .i64 n1]] w fun e w' => e = .returned (.bool true) ∧ Below w.heap.size w w' := by
  have lC : (cascOut l xs).length ≤ 1000000000000 := by have := cascOut_len l xs; have := reads_len hR; omega
  have g1 : ¬ ((9 : Int) < (n : Int)) := by omega
  go_enter Tryd.func11, Tryd.ntmps11
  go_wp2_with fail
  obtain ⟨w1, e1, hb1, hz1, k0⟩ := box1 w #[.int .i64 n0, .int .i64 n1] 93
  rw [← e1]; clear e1
  refine (few_t A1 m c1 _ hf).mono ?_
  rintro e w' ⟨rfl, rfl⟩
  have cA := k0.cell
  have rLw := carry hL hb1
  have rXw := carry hR hb1
  clear hL hR
  focus
    · go_upto_region 5 with (fail)
      obtain ⟨v0, ev, hbv, hzv, kS0⟩ := box1 w1 #[.int .i64 0, .int .i64 0, .int .i64 0, .int .i64 0, .int .i64 0, .int .i64 0] 23
      rw [← ev]; clear ev
      have rL0 := carry rLw hbv
      obtain ⟨ad, s, rfl, had, _, hc⟩ := secs_hit rL0 (by omega : 0 < n) (Nat.le_refl _)
      obtain ⟨d0, d1, d2, d3, d4, d5⟩ := hc v0 (Below.refl _ _)
      simp only [Nat.zero_mul, add_zero] at d0 d1 d2 d3 d4 d5
      have cS := kS0.cell
      have fS := kS0.frozen
      have lS := kS0.lt
      clear hc
      go_upto_region 6 with (fail)
      obtain ⟨v, ev, kS, bS⟩ := set6 v0 w1.heap.size 23 _ _ _ _ _ _ (.int .i64 s.b0) (.int .i64 s.b1) (.int .i64 s.b2) (.int .i64 s.a1) (.int .i64 s.a2) (.int .i64 s.sh) kS0
      rw [← ev]; clear ev
      have hbw := hbv.trans (bS _ (Nat.le_refl _))
      have hb := below_step hb1 hbw hb1.size
      have kA := carryK k0 hbw
      have rL := carry rLw hbw
      have rX := carry rXw hbw
      clear kS0 hb1 hbv k0 cA rLw rXw g1 hzv hz1 d0 d1 d2 d3 d4 d5 cS fS lS bS rL0 hbw had
      have R0 := hide rL; have R1 := hide rX
      clear rL rX
      have cA := kA.cell
      have cS := kS.cell
      go_wp2_with fail
      refine (Impulse_tot s n0 n1 _).mono ?_
      rintro e w2 ⟨B1, d1, rfl, s1, hb2⟩
      have hb3 := below_step hb hb2 hb.size
      have kA2 := carryK kA hb2
      have kS2 := carryK kS hb2
      have rL2 := carry R0.out hb2
      have rX2 := carry R1.out hb2
      clear cA cS kA kS R0 R1 hb hb2
      go_wp2_with fail
      refine (given_any _ n c l _ rL2 (by omega)).mono ?_
      rintro e w3 ⟨vG, rfl, oG, hb4⟩
      obtain ⟨AG, cG, rfl, rG⟩ := own_slice oG
      have hb5 := below_step hb3 hb4 hb3.size
      have kA3 := carryK kA2 hb4
      have kS3 := carryK kS2 hb4
      have rL3 := carry rL2 hb4
      have rX3 := carry rX2 hb4
      have s1' := carry s1 hb4
      clear kA2 kS2 rL2 rX2 s1 hb3 hb4 oG
      go_wp2_with fail
      refine (ints_any A1 m c1 xs _ rX3 (by omega)).mono ?_
      rintro e w4 ⟨vI, rfl, oI, hb6⟩
      obtain ⟨AI, cI, rfl, rI⟩ := own_slice oI
      have hb7 := below_step hb5 hb6 hb5.size
      have kA4 := carryK kA3 hb6
      have kS4 := carryK kS3 hb6
      have rL4 := carry rL3 hb6
      have rX4 := carry rX3 hb6
      have rG4 := carry rG hb6
      have s1 := carry s1' hb6
      clear kA3 kS3 rL3 rX3 rG s1' hb5 hb6 oI
      go_wp2_with fail
      refine (Cascade_tot AG n cG l AI m cI xs _ (by omega) (by omega) rG4 rI).mono ?_
      rintro e w5 ⟨B2, d2, rfl, s2, hb8⟩
      have hb9 := below_step hb7 hb8 hb7.size
      have kA5 := carryK kA4 hb8
      have kS5 := carryK kS4 hb8
      have rL5 := carry rL4 hb8
      have rX5 := carry rX4 hb8
      have s1' := carry s1 hb8
      clear kA4 kS4 rL4 rX4 rG4 rI s1 hb7 hb8
      have c0 : ∀ i W, Below w5.heap.size w5 W → W.cell? ⟨w.heap.size, i, none⟩ = (#[.int .i64 n0, .int .i64 n1] : Array Value)[i]? := fun i W h => (kA5.below h kA5.lt).cell i
      have c1' : ∀ i W, Below w5.heap.size w5 W → W.cell? ⟨w1.heap.size, i, none⟩ = (#[.int .i64 s.b0, .int .i64 s.b1, .int .i64 s.b2, .int .i64 s.a1, .int .i64 s.a2, .int .i64 s.sh] : Array Value)[i]? := fun i W h => (kS5.below h kS5.lt).cell i
      go_wp2
      go_region_held3 (fun W => Below w5.heap.size w5 W) (first | exact (Below.refl _ _).drew | (with_reducible assumption) | exact below_new ‹Below w5.heap.size w5 _› (Nat.le_refl _) _ | (refine below_set (below_set (below_set (below_set (by assumption) (by omega) _) (by omega) _) (by omega) _) (by omega) _)) (first | (go_at_call 21; refine (rCheckSection_any s _).mono ?_; rintro e W' ⟨rfl, hbW⟩; have hS := below_step ‹Below w5.heap.size w5 _› hbW (Below.size ‹Below w5.heap.size w5 _›)) | (go_at_call 49; refine (checkInput_any _ _).mono ?_; rintro e W' ⟨rfl, rfl⟩) | (go_at_call 36; refine (checkRange_any _ _ _ _).mono ?_; rintro e W' ⟨rfl, rfl⟩) | (go_at_call 20; (first | (with_reducible (refine (imp_first _ _ _ _ _ _ (reads3 _ _ _ _ _) (by omega)).mono ?_)) | (with_reducible (refine (imp_first _ _ _ _ _ _ (Reads.drew (reads3 _ _ _ _ _)) (by omega)).mono ?_))); rintro e W' ⟨rfl, rfl⟩))
      have hB : Below w5.heap.size w5 _ := ‹Below w5.heap.size w5 _›
      generalize World.alloc _ _ = w6 at hB ⊢
      have hb10 := below_step hb9 hB hb9.size
      have kA6 := carryK kA5 hB
      have kS6 := carryK kS5 hB
      have rL6 := carry rL5 hB
      have rX6 := carry rX5 hB
      have s1 := carry s1' hB
      have s2' := carry s2 hB
      clear c0 c1' kA5 kS5 rL5 rX5 s1' s2 hb9 hB
      try clear hbW hS
      go_wp2_with fail
      refine (rCheckSections_any _ n c l _ rL6 (by omega)).mono ?_
      rintro e w7 ⟨rfl, hb11⟩
      have hb12 := below_step hb10 hb11 hb10.size
      have kA7 := carryK kA6 hb11
      have kS7 := carryK kS6 hb11
      have rL7 := carry rL6 hb11
      have rX7 := carry rX6 hb11
      have s1' := carry s1 hb11
      have s2 := carry s2' hb11
      clear kA6 kS6 rL6 rX6 s1 s2' hb10 hb11
      go_wp2_with fail
      refine (rCheckSignal_any A1 m c1 _ xs _ rX7 (by omega)).mono ?_
      rintro e w' ⟨rfl, rfl⟩
      go_wp2_with fail
      refine (casc_first l xs _ _ _ (reads2 _ _ _ _) (by omega)).mono ?_
      rintro e w' ⟨rfl, rfl⟩
      obtain ⟨w8, e8, hb13, hz8, _⟩ := box1 w7 #[.int .i64 (secErr l), .int .i64 (sigErr xs)] 3
      rw [← e8]; clear e8
      have hb14 := below_step hb12 hb13 hb12.size
      have kA8 := carryK kA7 hb13
      have kS8 := carryK kS7 hb13
      have rL8 := carry rL7 hb13
      have rX8 := carry rX7 hb13
      have s1 := carry s1' hb13
      have s2' := carry s2 hb13
      have cA := kA8.cell
      have cS := kS8.cell
      clear kA7 kS7 rL7 rX7 s1' s2 hb12 hb13
      have l1 := impOut_len s n0 n1
      have L1 := hide l1; clear l1
      by_cases h1 : impErr s n0 n1 = 0
      · have t1 : (impErr s n0 n1 == 0) = true := by rw [h1]; rfl
        have H1 := hide h1; clear h1
        go_wp2_with fail
        refine (rImpulse_tot s n0 n1 _ H1.out).mono ?_
        rintro e w9 ⟨B3, d3, rfl, s3, hb15⟩
        have hb16 := below_step hb14 hb15 hb14.size
        have rL9 := carry rL8 hb15
        have rX9 := carry rX8 hb15
        have s1' := carry s1 hb15
        have s2 := carry s2' hb15
        clear cA cS kA8 kS8 rL8 rX8 s1 s2' hb14 hb15
        by_cases h2 : cascErr l xs = 0
        · have t2 : (cascErr l xs == 0) = true := by rw [h2]; rfl
          have H2 := hide h2; clear h2
          go_wp2_with fail
          refine (rCascade_tot _ n c l A1 m c1 xs _ H2.out (by omega) (by omega) rL9 rX9).mono ?_
          rintro e u ⟨B4, d4, rfl, s4, hb17⟩
          have hbu := below_step hb16 hb17 hb16.size
          have z1 := carry s1' hb17
          have z2 := carry s2 hb17
          have z3 := carry s3 hb17
          clear rL9 rX9 s1' s2 s3 hb16 hb17
          go_wp2_with fail
          refine (c_same B1 _ d1 _ B3 d3 _ z1 z3 L1.out).mono ?_
          rintro e u2 ⟨rfl, hu⟩
          have hbu2 := below_step hbu hu hbu.size
          have z2' := carry z2 hu
          have z4 := carry s4 hu
          clear z1 z2 hbu hu
          go_wp2_with fail
          refine (c_same B2 _ d2 _ B4 d4 _ z2' z4 lC).mono ?_
          rintro e u3 ⟨rfl, hu3⟩
          have hbu3 := below_step hbu2 hu3 hbu2.size
          clear z2' hbu2 hu3
          go_wp2_with fail
          refine (awake_v _ (hV.carry hbu3)).mono ?_
          rintro e u5 ⟨rfl, hu5⟩
          go_wp2
          go_ret
          exact ⟨rfl, below_step hbu3 hu5 hbu3.size⟩
        · have t2 : (cascErr l xs == 0) = false := by simpa using h2
          have hn2 : cascOut l xs = [] := by unfold cascOut; rw [if_neg h2]
          have HN2 := hide hn2; clear hn2 h2
          have hbu := hb16
          have z1 := s1'
          have z2 := s2
          have z3 := s3
          clear rL9 rX9 s1' s2 s3 hb16
          go_wp2_with fail
          refine (c_same B1 _ d1 _ B3 d3 _ z1 z3 L1.out).mono ?_
          rintro e u2 ⟨rfl, hu⟩
          have hbu2 := below_step hbu hu hbu.size
          have z2' := carry z2 hu
          skip
          clear z1 z2 hbu hu
          go_wp2_with fail
          refine (c_same0 B2 d2 _ _ z2' HN2.out _).mono ?_
          rintro e u3 ⟨rfl, hu3⟩
          have hbu3 := below_step hbu2 hu3 hbu2.size
          clear z2' hbu2 hu3
          go_wp2_with fail
          refine (awake_v _ (hV.carry hbu3)).mono ?_
          rintro e u5 ⟨rfl, hu5⟩
          go_wp2
          go_ret
          exact ⟨rfl, below_step hbu3 hu5 hbu3.size⟩
      · have t1 : (impErr s n0 n1 == 0) = false := by simpa using h1
        have hn1 : s.impOut n0 n1 = [] := by unfold Sec.impOut; rw [if_neg h1]
        have HN1 := hide hn1; clear hn1 h1
        clear cA cS kA8 kS8
        by_cases h2 : cascErr l xs = 0
        · have t2 : (cascErr l xs == 0) = true := by rw [h2]; rfl
          have H2 := hide h2; clear h2
          go_wp2_with fail
          refine (rCascade_tot _ n c l A1 m c1 xs _ H2.out (by omega) (by omega) rL8 rX8).mono ?_
          rintro e u ⟨B4, d4, rfl, s4, hb17⟩
          have hbu := below_step hb14 hb17 hb14.size
          have z1 := carry s1 hb17
          have z2 := carry s2' hb17
          clear rL8 rX8 s1 s2' hb14 hb17
          go_wp2_with fail
          refine (c_same0 B1 d1 _ _ z1 HN1.out _).mono ?_
          rintro e u2 ⟨rfl, hu⟩
          have hbu2 := below_step hbu hu hbu.size
          have z2' := carry z2 hu
          have z4 := carry s4 hu
          clear z1 z2 hbu hu
          go_wp2_with fail
          refine (c_same B2 _ d2 _ B4 d4 _ z2' z4 lC).mono ?_
          rintro e u3 ⟨rfl, hu3⟩
          have hbu3 := below_step hbu2 hu3 hbu2.size
          clear z2' hbu2 hu3
          go_wp2_with fail
          refine (awake_v _ (hV.carry hbu3)).mono ?_
          rintro e u5 ⟨rfl, hu5⟩
          go_wp2
          go_ret
          exact ⟨rfl, below_step hbu3 hu5 hbu3.size⟩
        · have t2 : (cascErr l xs == 0) = false := by simpa using h2
          have hn2 : cascOut l xs = [] := by unfold cascOut; rw [if_neg h2]
          have HN2 := hide hn2; clear hn2 h2
          have hbu := hb14
          have z1 := s1
          have z2 := s2'
          clear rL8 rX8 s1 s2' hb14
          go_wp2_with fail
          refine (c_same0 B1 d1 _ _ z1 HN1.out _).mono ?_
          rintro e u2 ⟨rfl, hu⟩
          have hbu2 := below_step hbu hu hbu.size
          have z2' := carry z2 hu
          skip
          clear z1 z2 hbu hu
          go_wp2_with fail
          refine (c_same0 B2 d2 _ _ z2' HN2.out _).mono ?_
          rintro e u3 ⟨rfl, hu3⟩
          have hbu3 := below_step hbu2 hu3 hbu2.size
          clear z2' hbu2 hu3
          go_wp2_with fail
          refine (awake_v _ (hV.carry hbu3)).mono ?_
          rintro e u5 ⟨rfl, hu5⟩
          go_wp2
          go_ret
          exact ⟨rfl, below_step hbu3 hu5 hbu3.size⟩
set_option maxHeartbeats 8000000 in
theorem lawCasc_n2 (A : Option Addr) (n c : Nat) (l : List Sec) (A1 : Option Addr) (m c1 : Nat) (xs : List Int) (n0 n1 : Int) (w : World) (hV : Vars w) (hn : n ≤ 9) (hf : m ≤ 40 ∨ m = 4097) (g2 : decide ((40 : Int) < n1) = true) (g3 : decide (n1 ≤ 4096) = false) (g5 : (0 : Int) < (n : Int))
    (hL : Reads w w.heap.size 6 A n (secs l)) (hR : Reads w w.heap.size 1 A1 m (ints xs)) :
    Calls Tryd.prog 11 #[.slice A n c, .slice A1 m c1, .agg #[.int .i64 n0, .int .i64 n1]] w fun e w' => e = .returned (.bool true) ∧ Below w.heap.size w w' := by
  have lC : (cascOut l xs).length ≤ 1000000000000 := by have := cascOut_len l xs; have := reads_len hR; omega
  have g1 : ¬ ((9 : Int) < (n : Int)) := by omega
  go_enter Tryd.func11, Tryd.ntmps11
  go_wp2_with fail
  obtain ⟨w1, e1, hb1, hz1, k0⟩ := box1 w #[.int .i64 n0, .int .i64 n1] 93
  rw [← e1]; clear e1
  refine (few_t A1 m c1 _ hf).mono ?_
  rintro e w' ⟨rfl, rfl⟩
  have cA := k0.cell
  have rLw := carry hL hb1
  have rXw := carry hR hb1
  clear hL hR
  focus
    · go_upto_region 5 with (fail)
      obtain ⟨v0, ev, hbv, hzv, kS0⟩ := box1 w1 #[.int .i64 0, .int .i64 0, .int .i64 0, .int .i64 0, .int .i64 0, .int .i64 0] 23
      rw [← ev]; clear ev
      have rL0 := carry rLw hbv
      obtain ⟨ad, s, rfl, had, _, hc⟩ := secs_hit rL0 (by omega : 0 < n) (Nat.le_refl _)
      obtain ⟨d0, d1, d2, d3, d4, d5⟩ := hc v0 (Below.refl _ _)
      simp only [Nat.zero_mul, add_zero] at d0 d1 d2 d3 d4 d5
      have cS := kS0.cell
      have fS := kS0.frozen
      have lS := kS0.lt
      clear hc
      go_upto_region 6 with (fail)
      obtain ⟨v, ev, kS, bS⟩ := set6 v0 w1.heap.size 23 _ _ _ _ _ _ (.int .i64 s.b0) (.int .i64 s.b1) (.int .i64 s.b2) (.int .i64 s.a1) (.int .i64 s.a2) (.int .i64 s.sh) kS0
      rw [← ev]; clear ev
      have hbw := hbv.trans (bS _ (Nat.le_refl _))
      have hb := below_step hb1 hbw hb1.size
      have kA := carryK k0 hbw
      have rL := carry rLw hbw
      have rX := carry rXw hbw
      clear kS0 hb1 hbv k0 cA rLw rXw g1 hzv hz1 d0 d1 d2 d3 d4 d5 cS fS lS bS rL0 hbw had
      have R0 := hide rL; have R1 := hide rX
      clear rL rX
      have cA := kA.cell
      have cS := kS.cell
      go_wp2_with fail
      refine (Impulse_tot s n0 n1 _).mono ?_
      rintro e w2 ⟨B1, d1, rfl, s1, hb2⟩
      have hb3 := below_step hb hb2 hb.size
      have kA2 := carryK kA hb2
      have kS2 := carryK kS hb2
      have rL2 := carry R0.out hb2
      have rX2 := carry R1.out hb2
      clear cA cS kA kS R0 R1 hb hb2
      go_wp2_with fail
      refine (given_any _ n c l _ rL2 (by omega)).mono ?_
      rintro e w3 ⟨vG, rfl, oG, hb4⟩
      obtain ⟨AG, cG, rfl, rG⟩ := own_slice oG
      have hb5 := below_step hb3 hb4 hb3.size
      have kA3 := carryK kA2 hb4
      have kS3 := carryK kS2 hb4
      have rL3 := carry rL2 hb4
      have rX3 := carry rX2 hb4
      have s1' := carry s1 hb4
      clear kA2 kS2 rL2 rX2 s1 hb3 hb4 oG
      go_wp2_with fail
      refine (ints_any A1 m c1 xs _ rX3 (by omega)).mono ?_
      rintro e w4 ⟨vI, rfl, oI, hb6⟩
      obtain ⟨AI, cI, rfl, rI⟩ := own_slice oI
      have hb7 := below_step hb5 hb6 hb5.size
      have kA4 := carryK kA3 hb6
      have kS4 := carryK kS3 hb6
      have rL4 := carry rL3 hb6
      have rX4 := carry rX3 hb6
      have rG4 := carry rG hb6
      have s1 := carry s1' hb6
      clear kA3 kS3 rL3 rX3 rG s1' hb5 hb6 oI
      go_wp2_with fail
      refine (Cascade_tot AG n cG l AI m cI xs _ (by omega) (by omega) rG4 rI).mono ?_
      rintro e w5 ⟨B2, d2, rfl, s2, hb8⟩
      have hb9 := below_step hb7 hb8 hb7.size
      have kA5 := carryK kA4 hb8
      have kS5 := carryK kS4 hb8
      have rL5 := carry rL4 hb8
      have rX5 := carry rX4 hb8
      have s1' := carry s1 hb8
      clear kA4 kS4 rL4 rX4 rG4 rI s1 hb7 hb8
      have c0 : ∀ i W, Below w5.heap.size w5 W → W.cell? ⟨w.heap.size, i, none⟩ = (#[.int .i64 n0, .int .i64 n1] : Array Value)[i]? := fun i W h => (kA5.below h kA5.lt).cell i
      have c1' : ∀ i W, Below w5.heap.size w5 W → W.cell? ⟨w1.heap.size, i, none⟩ = (#[.int .i64 s.b0, .int .i64 s.b1, .int .i64 s.b2, .int .i64 s.a1, .int .i64 s.a2, .int .i64 s.sh] : Array Value)[i]? := fun i W h => (kS5.below h kS5.lt).cell i
      go_wp2
      go_region_held3 (fun W => Below w5.heap.size w5 W) (first | exact (Below.refl _ _).drew | (with_reducible assumption) | exact below_new ‹Below w5.heap.size w5 _› (Nat.le_refl _) _ | (refine below_set (below_set (below_set (below_set (by assumption) (by omega) _) (by omega) _) (by omega) _) (by omega) _)) (first | (go_at_call 21; refine (rCheckSection_any s _).mono ?_; rintro e W' ⟨rfl, hbW⟩; have hS := below_step ‹Below w5.heap.size w5 _› hbW (Below.size ‹Below w5.heap.size w5 _›)) | (go_at_call 49; refine (checkInput_any _ _).mono ?_; rintro e W' ⟨rfl, rfl⟩) | (go_at_call 36; refine (checkRange_any _ _ _ _).mono ?_; rintro e W' ⟨rfl, rfl⟩) | (go_at_call 20; (first | (with_reducible (refine (imp_first _ _ _ _ _ _ (reads3 _ _ _ _ _) (by omega)).mono ?_)) | (with_reducible (refine (imp_first _ _ _ _ _ _ (Reads.drew (reads3 _ _ _ _ _)) (by omega)).mono ?_))); rintro e W' ⟨rfl, rfl⟩))
      have hB : Below w5.heap.size w5 _ := ‹Below w5.heap.size w5 _›
      generalize World.alloc _ _ = w6 at hB ⊢
      have hb10 := below_step hb9 hB hb9.size
      have kA6 := carryK kA5 hB
      have kS6 := carryK kS5 hB
      have rL6 := carry rL5 hB
      have rX6 := carry rX5 hB
      have s1 := carry s1' hB
      have s2' := carry s2 hB
      clear c0 c1' kA5 kS5 rL5 rX5 s1' s2 hb9 hB
      try clear hbW hS
      go_wp2_with fail
      refine (rCheckSections_any _ n c l _ rL6 (by omega)).mono ?_
      rintro e w7 ⟨rfl, hb11⟩
      have hb12 := below_step hb10 hb11 hb10.size
      have kA7 := carryK kA6 hb11
      have kS7 := carryK kS6 hb11
      have rL7 := carry rL6 hb11
      have rX7 := carry rX6 hb11
      have s1' := carry s1 hb11
      have s2 := carry s2' hb11
      clear kA6 kS6 rL6 rX6 s1 s2' hb10 hb11
      go_wp2_with fail
      refine (rCheckSignal_any A1 m c1 _ xs _ rX7 (by omega)).mono ?_
      rintro e w' ⟨rfl, rfl⟩
      go_wp2_with fail
      refine (casc_first l xs _ _ _ (reads2 _ _ _ _) (by omega)).mono ?_
      rintro e w' ⟨rfl, rfl⟩
      obtain ⟨w8, e8, hb13, hz8, _⟩ := box1 w7 #[.int .i64 (secErr l), .int .i64 (sigErr xs)] 3
      rw [← e8]; clear e8
      have hb14 := below_step hb12 hb13 hb12.size
      have kA8 := carryK kA7 hb13
      have kS8 := carryK kS7 hb13
      have rL8 := carry rL7 hb13
      have rX8 := carry rX7 hb13
      have s1 := carry s1' hb13
      have s2' := carry s2 hb13
      have cA := kA8.cell
      have cS := kS8.cell
      clear kA7 kS7 rL7 rX7 s1' s2 hb12 hb13
      have l1 := impOut_len s n0 n1
      have L1 := hide l1; clear l1
      by_cases h1 : impErr s n0 n1 = 0
      · have t1 : (impErr s n0 n1 == 0) = true := by rw [h1]; rfl
        have H1 := hide h1; clear h1
        go_wp2_with fail
        refine (rImpulse_tot s n0 n1 _ H1.out).mono ?_
        rintro e w9 ⟨B3, d3, rfl, s3, hb15⟩
        have hb16 := below_step hb14 hb15 hb14.size
        have rL9 := carry rL8 hb15
        have rX9 := carry rX8 hb15
        have s1' := carry s1 hb15
        have s2 := carry s2' hb15
        clear cA cS kA8 kS8 rL8 rX8 s1 s2' hb14 hb15
        by_cases h2 : cascErr l xs = 0
        · have t2 : (cascErr l xs == 0) = true := by rw [h2]; rfl
          have H2 := hide h2; clear h2
          go_wp2_with fail
          refine (rCascade_tot _ n c l A1 m c1 xs _ H2.out (by omega) (by omega) rL9 rX9).mono ?_
          rintro e u ⟨B4, d4, rfl, s4, hb17⟩
          have hbu := below_step hb16 hb17 hb16.size
          have z1 := carry s1' hb17
          have z2 := carry s2 hb17
          have z3 := carry s3 hb17
          clear rL9 rX9 s1' s2 s3 hb16 hb17
          go_wp2_with fail
          refine (c_same B1 _ d1 _ B3 d3 _ z1 z3 L1.out).mono ?_
          rintro e u2 ⟨rfl, hu⟩
          have hbu2 := below_step hbu hu hbu.size
          have z2' := carry z2 hu
          have z4 := carry s4 hu
          clear z1 z2 hbu hu
          go_wp2_with fail
          refine (c_same B2 _ d2 _ B4 d4 _ z2' z4 lC).mono ?_
          rintro e u3 ⟨rfl, hu3⟩
          have hbu3 := below_step hbu2 hu3 hbu2.size
          clear z2' hbu2 hu3
          go_wp2_with fail
          refine (awake_v _ (hV.carry hbu3)).mono ?_
          rintro e u5 ⟨rfl, hu5⟩
          go_wp2
          go_ret
          exact ⟨rfl, below_step hbu3 hu5 hbu3.size⟩
        · have t2 : (cascErr l xs == 0) = false := by simpa using h2
          have hn2 : cascOut l xs = [] := by unfold cascOut; rw [if_neg h2]
          have HN2 := hide hn2; clear hn2 h2
          have hbu := hb16
          have z1 := s1'
          have z2 := s2
          have z3 := s3
          clear rL9 rX9 s1' s2 s3 hb16
          go_wp2_with fail
          refine (c_same B1 _ d1 _ B3 d3 _ z1 z3 L1.out).mono ?_
          rintro e u2 ⟨rfl, hu⟩
          have hbu2 := below_step hbu hu hbu.size
          have z2' := carry z2 hu
          skip
          clear z1 z2 hbu hu
          go_wp2_with fail
          refine (c_same0 B2 d2 _ _ z2' HN2.out _).mono ?_
          rintro e u3 ⟨rfl, hu3⟩
          have hbu3 := below_step hbu2 hu3 hbu2.size
          clear z2' hbu2 hu3
          go_wp2_with fail
          refine (awake_v _ (hV.carry hbu3)).mono ?_
          rintro e u5 ⟨rfl, hu5⟩
          go_wp2
          go_ret
          exact ⟨rfl, below_step hbu3 hu5 hbu3.size⟩
      · have t1 : (impErr s n0 n1 == 0) = false := by simpa using h1
        have hn1 : s.impOut n0 n1 = [] := by unfold Sec.impOut; rw [if_neg h1]
        have HN1 := hide hn1; clear hn1 h1
        clear cA cS kA8 kS8
        by_cases h2 : cascErr l xs = 0
        · have t2 : (cascErr l xs == 0) = true := by rw [h2]; rfl
          have H2 := hide h2; clear h2
          go_wp2_with fail
          refine (rCascade_tot _ n c l A1 m c1 xs _ H2.out (by omega) (by omega) rL8 rX8).mono ?_
          rintro e u ⟨B4, d4, rfl, s4, hb17⟩
          have hbu := below_step hb14 hb17 hb14.size
          have z1 := carry s1 hb17
          have z2 := carry s2' hb17
          clear rL8 rX8 s1 s2' hb14 hb17
          go_wp2_with fail
          refine (c_same0 B1 d1 _ _ z1 HN1.out _).mono ?_
          rintro e u2 ⟨rfl, hu⟩
          have hbu2 := below_step hbu hu hbu.size
          have z2' := carry z2 hu
          have z4 := carry s4 hu
          clear z1 z2 hbu hu
          go_wp2_with fail
          refine (c_same B2 _ d2 _ B4 d4 _ z2' z4 lC).mono ?_
          rintro e u3 ⟨rfl, hu3⟩
          have hbu3 := below_step hbu2 hu3 hbu2.size
          clear z2' hbu2 hu3
          go_wp2_with fail
          refine (awake_v _ (hV.carry hbu3)).mono ?_
          rintro e u5 ⟨rfl, hu5⟩
          go_wp2
          go_ret
          exact ⟨rfl, below_step hbu3 hu5 hbu3.size⟩
        · have t2 : (cascErr l xs == 0) = false := by simpa using h2
          have hn2 : cascOut l xs = [] := by unfold cascOut; rw [if_neg h2]
          have HN2 := hide hn2; clear hn2 h2
          have hbu := hb14
          have z1 := s1
          have z2 := s2'
          clear rL8 rX8 s1 s2' hb14
          go_wp2_with fail
          refine (c_same0 B1 d1 _ _ z1 HN1.out _).mono ?_
          rintro e u2 ⟨rfl, hu⟩
          have hbu2 := below_step hbu hu hbu.size
          have z2' := carry z2 hu
          skip
          clear z1 z2 hbu hu
          go_wp2_with fail
          refine (c_same0 B2 d2 _ _ z2' HN2.out _).mono ?_
          rintro e u3 ⟨rfl, hu3⟩
          have hbu3 := below_step hbu2 hu3 hbu2.size
          clear z2' hbu2 hu3
          go_wp2_with fail
          refine (awake_v _ (hV.carry hbu3)).mono ?_
          rintro e u5 ⟨rfl, hu5⟩
          go_wp2
          go_ret
          exact ⟨rfl, below_step hbu3 hu5 hbu3.size⟩

theorem lawCasc_any (A : Option Addr) (n c : Nat) (l : List Sec) (A1 : Option Addr) (m c1 : Nat) (xs : List Int) (n0 n1 : Int) (w : World) (hV : Vars w) (hn : n ≤ maxLen) (hm : m ≤ maxLen)
    (hL : Reads w w.heap.size 6 A n (secs l)) (hR : Reads w w.heap.size 1 A1 m (ints xs)) :
    Calls Tryd.prog 11 #[.slice A n c, .slice A1 m c1, .agg #[.int .i64 n0, .int .i64 n1]] w fun e w' => e = .returned (.bool true) ∧ Below w.heap.size w w' := by
  unfold maxLen at hn hm
  by_cases hf : m ≤ 40 ∨ m = 4097
  · by_cases h9 : n ≤ 9
    · by_cases h40 : 40 < n1
      · by_cases h4 : n1 ≤ 4096
        · have g1 : ¬ ((9 : Int) < (n : Int)) := by omega
          have g2 : decide ((40 : Int) < n1) = true := by simpa using h40
          have g3 : decide (n1 ≤ 4096) = true := by simpa using h4
          clear h40 h4
          go_enter Tryd.func11, Tryd.ntmps11
          go_wp2_with fail
          obtain ⟨w1, e1, hb1, hz1, k0⟩ := box1 w #[.int .i64 n0, .int .i64 n1] 93
          rw [← e1]; clear e1
          refine (few_t A1 m c1 _ hf).mono ?_
          rintro e w' ⟨rfl, rfl⟩
          have cA := k0.cell
          go_wp2_with fail
          refine (awake_v _ (hV.carry hb1)).mono ?_
          rintro e w6 ⟨rfl, hb9⟩
          go_wp2
          go_ret
          exact ⟨rfl, below_step hb1 hb9 hb1.size⟩
        · have g2 : decide ((40 : Int) < n1) = true := by simpa using h40
          have g3 : decide (n1 ≤ 4096) = false := by simpa using h4
          by_cases h0 : (0 : Int) < (n : Int)
          · exact lawCasc_n2 A n c l A1 m c1 xs n0 n1 w hV h9 hf g2 g3 h0 hL hR
          · exact lawCasc_z2 A n c l A1 m c1 xs n0 n1 w hV h9 hf g2 g3 h0 hL hR
      · have g2 : decide ((40 : Int) < n1) = false := by simpa using h40
        by_cases h0 : (0 : Int) < (n : Int)
        · exact lawCasc_n1 A n c l A1 m c1 xs n0 n1 w hV h9 hf g2 h0 hL hR
        · exact lawCasc_z1 A n c l A1 m c1 xs n0 n1 w hV h9 hf g2 h0 hL hR
    · have g1 : (9 : Int) < (n : Int) := by omega
      clear h9 hL hR
      go_enter Tryd.func11, Tryd.ntmps11
      go_wp2_with fail
      obtain ⟨w1, e1, hb1, hz1, k0⟩ := box1 w #[.int .i64 n0, .int .i64 n1] 93
      rw [← e1]; clear e1
      refine (few_t A1 m c1 _ hf).mono ?_
      rintro e w' ⟨rfl, rfl⟩
      go_wp2_with fail
      refine (awake_v _ (hV.carry hb1)).mono ?_
      rintro e w6 ⟨rfl, hb9⟩
      go_wp2
      go_ret
      exact ⟨rfl, below_step hb1 hb9 hb1.size⟩
  · have h1 : 40 < m := by omega
    have h2 : m ≠ 4097 := by omega
    clear hf hR hL
    go_enter Tryd.func11, Tryd.ntmps11
    go_wp2_with fail
    obtain ⟨w1, e1, hb1, hz1, k0⟩ := box1 w #[.int .i64 n0, .int .i64 n1] 93
    rw [← e1]; clear e1
    refine (few_f A1 m c1 _ (by omega) h1 h2).mono ?_
    rintro e w' ⟨rfl, rfl⟩
    go_wp2_with fail
    refine (awake_v _ (hV.carry hb1)).mono ?_
    rintro e w6 ⟨rfl, hb9⟩
    go_wp2
    go_ret
    exact ⟨rfl, below_step hb1 hb9 hb1.size⟩
end Go.Proofs.YtlaaajkehjoffaaDoor
