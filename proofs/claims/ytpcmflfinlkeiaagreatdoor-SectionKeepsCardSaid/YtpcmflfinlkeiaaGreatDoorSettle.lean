/- The contract of Settle. -/
import Derived.Test.YtpcmflfinlkeiaaGreatDoorSeen
import Derived.Test.YtpcmflfinlkeiaaGreatDoorBaseC
namespace Go.Proofs.YtpcmflfinlkeiaaGreatDoor
open Go.RowKit Go.Shelf
set_option maxRecDepth 100000

def setErr (s : Sec) (x : St) : Int := fnz [s.err, x.err]

set_option maxHeartbeats 1000000 in
theorem Settle_bad (s : Sec) (x : St) (w : World) (he : (setErr s x != 0) = true) :
    Calls Tryz.prog 27 #[.agg #[.int .i64 s.b0, .int .i64 s.b1, .int .i64 s.b2, .int .i64 s.a1, .int .i64 s.a2, .int .i64 s.sh], .agg #[.int .i64 x.x1, .int .i64 x.x2, .int .i64 x.y1, .int .i64 x.y2]] w fun e w' => e = .returned (.tuple #[.int .i64 0, .int .i64 0, .int .i64 (setErr s x)]) ∧ Below w.heap.size w w' := by
  have HE := hide he; clear he
  go_enter Tryz.func27, Tryz.ntmps27
  go_wp2
  go_step3
  go_wp2
  obtain ⟨w1, e1, hb1, hz1, k0, k1⟩ := box2 w #[.int .i64 s.b0, .int .i64 s.b1, .int .i64 s.b2, .int .i64 s.a1, .int .i64 s.a2, .int .i64 s.sh] #[.int .i64 x.x1, .int .i64 x.x2, .int .i64 x.y1, .int .i64 x.y2] 53 61
  rw [← e1]; clear e1
  have c0 : ∀ i W, Below w1.heap.size w1 W → W.cell? ⟨w.heap.size, i, none⟩ = (#[.int .i64 s.b0, .int .i64 s.b1, .int .i64 s.b2, .int .i64 s.a1, .int .i64 s.a2, .int .i64 s.sh] : Array Value)[i]? := fun i W h => (k0.below h (by omega)).cell i
  have c1 : ∀ i W, Below w1.heap.size w1 W → W.cell? ⟨w.heap.size + 1, i, none⟩ = (#[.int .i64 x.x1, .int .i64 x.x2, .int .i64 x.y1, .int .i64 x.y2] : Array Value)[i]? := fun i W h => (k1.below h (by omega)).cell i
  go_region_held3 (fun W => Below w1.heap.size w1 W) (first | exact (Below.refl _ _).drew | (with_reducible assumption) | exact below_new ‹Below w1.heap.size w1 _› (Nat.le_refl _) _ | (refine below_set (below_set (below_set (below_set (by assumption) (by omega) _) (by omega) _) (by omega) _) (by omega) _)) (first | (go_at_call 56; refine (checkSection_any s _).mono ?_; rintro e W' ⟨rfl, hbW⟩; have hS := below_step ‹Below w1.heap.size w1 _› hbW (Below.size ‹Below w1.heap.size w1 _›)) | (go_at_call 67; refine (checkState_any x _).mono ?_; rintro e W' ⟨rfl, hbW⟩; have hS := below_step ‹Below w1.heap.size w1 _› hbW (Below.size ‹Below w1.heap.size w1 _›)) | (go_at_call 38; (first | (with_reducible (refine (first_any _ _ _ _ _ _ (reads2 _ _ _ _) (by omega)).mono ?_)) | (with_reducible (refine (first_any _ _ _ _ _ _ (Reads.drew (reads2 _ _ _ _)) (by omega)).mono ?_))); rintro e W' ⟨rfl, rfl⟩))
  have hB : Below w1.heap.size w1 _ := ‹Below w1.heap.size w1 _›
  generalize World.alloc _ _ = w4 at hB ⊢
  have t1 : (fnz [s.err, x.err] != 0) = true := HE.out
  clear c0 c1 k0 k1
  go_wp2
  rw [Exit.noGoto_ret]
  go_ret3
  exact ⟨rfl, below_step hb1 hB hb1.size⟩

set_option maxHeartbeats 4000000 in
theorem Settle_ok (s : Sec) (x : St) (w : World) (he : setErr s x = 0) :
    Calls Tryz.prog 27 #[.agg #[.int .i64 s.b0, .int .i64 s.b1, .int .i64 s.b2, .int .i64 s.a1, .int .i64 s.a2, .int .i64 s.sh], .agg #[.int .i64 x.x1, .int .i64 x.x2, .int .i64 x.y1, .int .i64 x.y2]] w fun e w' => e = .returned (setRes (s.settle x)) ∧ Below w.heap.size w w' := by
  obtain ⟨a1, a2⟩ := fnz2_zero he
  have hs := Sec.err_ok a1
  have hx := St.err_ok a2
  clear a1 a2
  have HE := hide he; clear he
  have hmm := @run_makeMap Tryz.prog
  go_enter Tryz.func27, Tryz.ntmps27
  go_wp2
  go_step3
  go_wp2
  obtain ⟨w1, e1, hb1, hz1, k0, k1⟩ := box2 w #[.int .i64 s.b0, .int .i64 s.b1, .int .i64 s.b2, .int .i64 s.a1, .int .i64 s.a2, .int .i64 s.sh] #[.int .i64 x.x1, .int .i64 x.x2, .int .i64 x.y1, .int .i64 x.y2] 53 61
  rw [← e1]; clear e1
  have c0 : ∀ i W, Below w1.heap.size w1 W → W.cell? ⟨w.heap.size, i, none⟩ = (#[.int .i64 s.b0, .int .i64 s.b1, .int .i64 s.b2, .int .i64 s.a1, .int .i64 s.a2, .int .i64 s.sh] : Array Value)[i]? := fun i W h => (k0.below h (by omega)).cell i
  have c1 : ∀ i W, Below w1.heap.size w1 W → W.cell? ⟨w.heap.size + 1, i, none⟩ = (#[.int .i64 x.x1, .int .i64 x.x2, .int .i64 x.y1, .int .i64 x.y2] : Array Value)[i]? := fun i W h => (k1.below h (by omega)).cell i
  go_region_held3 (fun W => Below w1.heap.size w1 W) (first | exact (Below.refl _ _).drew | (with_reducible assumption) | exact below_new ‹Below w1.heap.size w1 _› (Nat.le_refl _) _ | (refine below_set (below_set (below_set (below_set (by assumption) (by omega) _) (by omega) _) (by omega) _) (by omega) _)) (first | (go_at_call 56; refine (checkSection_any s _).mono ?_; rintro e W' ⟨rfl, hbW⟩; have hS := below_step ‹Below w1.heap.size w1 _› hbW (Below.size ‹Below w1.heap.size w1 _›)) | (go_at_call 67; refine (checkState_any x _).mono ?_; rintro e W' ⟨rfl, hbW⟩; have hS := below_step ‹Below w1.heap.size w1 _› hbW (Below.size ‹Below w1.heap.size w1 _›)) | (go_at_call 38; (first | (with_reducible (refine (first_any _ _ _ _ _ _ (reads2 _ _ _ _) (by omega)).mono ?_)) | (with_reducible (refine (first_any _ _ _ _ _ _ (Reads.drew (reads2 _ _ _ _)) (by omega)).mono ?_))); rintro e W' ⟨rfl, rfl⟩))
  have hB : Below w1.heap.size w1 _ := ‹Below w1.heap.size w1 _›
  generalize World.alloc _ _ = w4 at hB ⊢
  have hb4 : Below w.heap.size w w4 := below_step hb1 hB hb1.size
  have k0' := k0.below hB (by omega)
  have k1' := k1.below hB (by omega)
  have d0 := k0'.cell
  have d1 := k1'.cell
  have l1 := k1'.lt
  have t1 : (fnz [s.err, x.err] != 0) = false := by rw [show fnz [s.err, x.err] = 0 from HE.out]; rfl
  clear c0 c1 k0 k1 hbW hS
  have hseen : SeenAt (w4.alloc (.map #[] 0)) w4.heap.size s x 0 := heap_alloc_new w4 _
  obtain ⟨w5, hrun, hseen5, hb5, ho5⟩ := seen_put hseen rfl
  go_wp2_with (refine wpList_insert _ w5 rfl (.tmp 23) (.tmp 24) _ 127 rfl (.map (some w4.heap.size)) (stV x) (.int .i64 0) rfl rfl rfl hrun ?_)
  have hb6 : Below w.heap.size w w5 := (hb4.alloc hb4.size _).trans (hb5.mono hb4.size)
  have q0 : Blk w5 w.heap.size 53 #[.int .i64 s.b0, .int .i64 s.b1, .int .i64 s.b2, .int .i64 s.a1, .int .i64 s.a2, .int .i64 s.sh] := (k0'.alloc _).below hb5 k0'.lt
  have q1 : Blk w5 (w.heap.size + 1) 61 #[.int .i64 x.x1, .int .i64 x.x2, .int .i64 x.y1, .int .i64 x.y2] := (k1'.alloc _).below hb5 k1'.lt
  have lw5 : w4.heap.size + 1 ≤ w5.heap.size := by have := hb5.size; simp at this; omega
  clear d0 d1 k0' k1' hrun ho5 hseen hb5
  have htab : s.settle x = s.cyc x (4096 - 0) (0 + 1) := rfl
  go_step3
  go_wp2
  go_loopw [9, 10, 26] (fun v9 v10 i wr => ∃ n : Nat, n ≤ 4096 ∧ i = .int .i64 n ∧ v9 = .int .i64 0 ∧ v10 = .int .i64 0 ∧ s.settle x = s.cyc x (4096 - n) (n + 1) ∧ SeenAt wr w4.heap.size s x (n + 1) ∧ Blk wr w.heap.size 53 #[.int .i64 s.b0, .int .i64 s.b1, .int .i64 s.b2, .int .i64 s.a1, .int .i64 s.a2, .int .i64 s.sh] ∧ Blk wr (w.heap.size + 1) 61 #[.int .i64 (s.orb x n).x1, .int .i64 (s.orb x n).x2, .int .i64 (s.orb x n).y1, .int .i64 (s.orb x n).y2] ∧ Below w.heap.size w wr ∧ w4.heap.size + 1 ≤ wr.heap.size) (fun _ _ i _ => 4096 - (intOf i).toNat)
  case atStart => exact ⟨0, by omega, rfl, rfl, rfl, htab, hseen5, q0, q1, hb6, lw5⟩
  case round =>
    obtain ⟨n, hn, rfl, rfl, rfl, hst, hse, p0, p1, hb, hsz⟩ := hrel
    have HST := hide hst; clear hst
    clear q0 q1 hseen5 htab hb6 lw5 hmm
    by_cases hlt : n < 4096
    · have hz := orb_ok (s := s) hx n
      obtain ⟨z, ez⟩ : ∃ z, z = s.orb x n := ⟨_, rfl⟩
      have en : s.orb x (n + 1) = s.next z 0 := by rw [ez]; rfl
      rw [← ez] at p1 hz
      have EN := hide en; clear en ez
      have d0 := p0.cell
      have d1 := p1.cell
      go_wp2_with fail
      refine (step_any s z 0 _ hs hz (by omega) (by omega)).mono ?_
      rintro e w6 ⟨rfl, hb6⟩
      have m0 := p0.below hb6 p0.lt
      have m1 := p1.below hb6 p1.lt
      have g1 := m1.cell
      have f1 := m1.frozen
      have hse6 : SeenAt w6 w4.heap.size s x (n + 1) := (hb6.block _ (by omega)).trans hse
      have hb7 := below_step hb hb6 hb.size
      have hsz6 := Nat.le_trans hsz hb6.size
      clear d0 d1 p0 p1 hse hb6 hb
      go_upto_region 10 with (fail)
      obtain ⟨w7, e7, k7, z7, o7, b7, _, _, rr7⟩ := set4 w6 (w.heap.size + 1) 61 _ _ _ _ (.int .i64 (s.next z 0).x1) (.int .i64 (s.next z 0).x2) (.int .i64 (s.next z 0).y1) (.int .i64 (s.next z 0).y2) m1
      have hse7 : SeenAt w7 w4.heap.size s x (n + 1) := by
        rw [e7]
        unfold SeenAt
        rw [Below.heap_setCell _ _ _ _ (by show w4.heap.size ≠ w.heap.size + 1; omega), Below.heap_setCell _ _ _ _ (by show w4.heap.size ≠ w.heap.size + 1; omega), Below.heap_setCell _ _ _ _ (by show w4.heap.size ≠ w.heap.size + 1; omega), Below.heap_setCell _ _ _ _ (by show w4.heap.size ≠ w.heap.size + 1; omega)]
        exact hse6
      rw [← e7]; clear e7
      have n0 : w.heap.size ≠ w.heap.size + 1 := by omega
      have m0' := o7 _ _ _ n0 m0
      have hb8 := hb7.trans (b7 w.heap.size (by omega))
      have hsz7 : w4.heap.size + 1 ≤ w7.heap.size := by omega
      have g7 := k7.cell
      clear g1 f1 z7 o7 b7 rr7 m0 m1 hse6 hb7
      rcases hh : s.hit x (n + 1) with _ | i
      · have hlk := seen_lookup_none hse7 hh
        obtain ⟨w8, hput, hse8, hb9, ho9⟩ := seen_put hse7 hh
        rw [EN.out] at hlk hput
        rw [show ((n + 1 : Nat) : Int) = (n : Int) + 1 from by omega] at hput
        have hst' : s.settle x = s.cyc x (4096 - (n + 1)) (n + 1 + 1) := by
          rw [HST.out, show 4096 - n = (4096 - (n + 1)) + 1 from by omega, cyc_miss hh]
        have HS' := hide hst'; clear hst' hh
        have n1 : w.heap.size ≠ w4.heap.size := by omega
        have n2 : w.heap.size + 1 ≠ w4.heap.size := by omega
        have m0'' : Blk w8 w.heap.size 53 #[.int .i64 s.b0, .int .i64 s.b1, .int .i64 s.b2, .int .i64 s.a1, .int .i64 s.a2, .int .i64 s.sh] := (ho9 _ n1).trans m0'
        have k8 : Blk w8 (w.heap.size + 1) 61 #[.int .i64 (s.next z 0).x1, .int .i64 (s.next z 0).x2, .int .i64 (s.next z 0).y1, .int .i64 (s.next z 0).y2] := (ho9 _ n2).trans k7
        have hb10 := hb8.trans (hb9.mono (by omega))
        have hsz8 := Nat.le_trans hsz7 hb9.size
        clear ho9 hb9 hse7 m0' k7 hb8
        go_wp2_with (first | (at_lookup; refine wpList_look _ rfl (.tmp 36) (.tmp 37) 127 rfl (.map (some w4.heap.size)) (stV (s.next z 0)) _ rfl rfl hlk ?_) | (at_mapUpdate; refine wpList_mapUp _ w8 rfl (.tmp 47) (.tmp 48) (.tmp 50) 127 rfl (.map (some w4.heap.size)) (stV (s.next z 0)) (.int .i64 ((n : Int) + 1)) rfl rfl rfl hput ?_))
        go_roundw
        case rel => exact ⟨n + 1, by omega, by go_num, rfl, rfl, HS'.out, hse8, m0'', by rw [EN.out]; exact k8, hb10, hsz8⟩
        case measure => simp [intOf]; omega
      · have hlk := seen_lookup_some hse7 hh
        rw [EN.out] at hlk
        have hi : i < n + 1 := by
          have h1 := hh
          unfold Sec.hit at h1
          rw [List.find?_range_eq_some] at h1
          simpa using h1.2.1
        have hne : ((n : Int) + 1 - (i : Int) == 0) = false := by simp; omega
        have hst' : s.settle x = some (i, n + 1 - i) := by
          rw [HST.out, show 4096 - n = (4096 - (n + 1)) + 1 from by omega, cyc_hit hh]
        have HS' := hide hst'; clear hst' hh
        go_wp2_with (at_lookup; refine wpList_look _ rfl (.tmp 36) (.tmp 37) 127 rfl (.map (some w4.heap.size)) (stV (s.next z 0)) _ rfl rfl hlk ?_)
        rw [Exit.noGoto_ret]
        go_ret3
        exact ⟨by rw [HS'.out]; simp [setRes]; omega, hb8⟩
    · obtain rfl : n = 4096 := by omega
      go_wp2
      rw [Exit.noGoto_ret]
      go_ret3
      exact ⟨by rw [HST.out]; rfl, hb⟩
end Go.Proofs.YtpcmflfinlkeiaaGreatDoor
