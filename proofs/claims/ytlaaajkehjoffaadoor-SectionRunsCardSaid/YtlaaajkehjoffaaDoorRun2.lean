/- The contracts of Run, Step, Mirror, Contractive. -/
import Derived.Test.YtlaaajkehjoffaaDoorRun
namespace Go.Proofs.YtlaaajkehjoffaaDoor
open Go.RowKit Go.Shelf
set_option maxRecDepth 100000

/-- The error of Run. -/
def runErr (s : Sec) (xs : List Int) : Int := fnz [s.err, sigErr xs]
theorem fromErr_zero (s : Sec) (xs : List Int) : fromErr s St.zero xs = runErr s xs := by
  have h : St.zero.err = 0 := St.err_of zero_ok
  unfold fromErr runErr
  rw [h]
  simp [fnz]

theorem Run_ok (s : Sec) (A : Option Addr) (m c : Nat) (xs : List Int) (w : World) (he : runErr s xs = 0) (hm : m ≤ 1000000000000) (hR : Reads w w.heap.size 1 A m (ints xs)) :
    Calls Tryd.prog 16 #[.agg #[.int .i64 s.b0, .int .i64 s.b1, .int .i64 s.b2, .int .i64 s.a1, .int .i64 s.a2, .int .i64 s.sh], .slice A m c] w fun e w' => ∃ v, e = .returned (.tuple #[v, .int .i64 0]) ∧ w'.ownsRow w.heap.size 3 1 v m (ints (s.outs St.zero xs)) ∧ Below w.heap.size w w' := by
  rw [← fromErr_zero] at he
  have HE := hide he; clear he
  go_enter Tryd.func16, Tryd.ntmps16
  go_wp2_with fail
  obtain ⟨w1, e1, hb1, hz1, k0⟩ := box1 w #[.int .i64 s.b0, .int .i64 s.b1, .int .i64 s.b2, .int .i64 s.a1, .int .i64 s.a2, .int .i64 s.sh] 32
  rw [← e1]; clear e1
  refine (From_ok s St.zero A m c xs _ HE.out hm ((hR.below hb1).more hb1.size)).mono ?_
  rintro e w2 ⟨v, rfl, ho, hb2⟩
  have hb3 := below_step hb1 hb2 hb1.size
  have ho2 := ho.weaken hb1.size
  go_wp2
  go_ret2
  refine ⟨v, rfl, ?_, (by repeat (first | exact hb3 | exact Below.refl _ _ | refine Below.drew ?_ | refine below_drewN ?_ _ | refine below_set ?_ (by omega) _ | refine below_new ?_ (by omega) _))⟩
  exact row_below ho2 ((Below.refl _ _).alloc (Nat.le_refl _) _)

theorem Run_bad (s : Sec) (A : Option Addr) (m c : Nat) (xs : List Int) (w : World) (he : (runErr s xs != 0) = true) (hm : m ≤ 1000000000000) (hR : Reads w w.heap.size 1 A m (ints xs)) :
    Calls Tryd.prog 16 #[.agg #[.int .i64 s.b0, .int .i64 s.b1, .int .i64 s.b2, .int .i64 s.a1, .int .i64 s.a2, .int .i64 s.sh], .slice A m c] w fun e w' => e = .returned (.tuple #[.slice none 0 0, .int .i64 (runErr s xs)]) ∧ Below w.heap.size w w' := by
  rw [← fromErr_zero] at he ⊢
  have HE := hide he; clear he
  go_enter Tryd.func16, Tryd.ntmps16
  go_wp2_with fail
  obtain ⟨w1, e1, hb1, hz1, k0⟩ := box1 w #[.int .i64 s.b0, .int .i64 s.b1, .int .i64 s.b2, .int .i64 s.a1, .int .i64 s.a2, .int .i64 s.sh] 32
  rw [← e1]; clear e1
  refine (From_bad s St.zero A m c xs _ HE.out hm ((hR.below hb1).more hb1.size)).mono ?_
  rintro e w2 ⟨rfl, hb2⟩
  have hb3 := below_step hb1 hb2 hb1.size
  go_wp2
  go_ret2
  exact ⟨rfl, (by repeat (first | exact hb3 | exact Below.refl _ _ | refine Below.drew ?_ | refine below_drewN ?_ _ | refine below_set ?_ (by omega) _ | refine below_new ?_ (by omega) _))⟩

/-- The error of Step. -/
def stepErr (s : Sec) (y : St) (i : Int) : Int := fnz [s.err, y.err, vErr i]

set_option maxHeartbeats 1000000 in
theorem Step_ok (s : Sec) (y : St) (i : Int) (w : World) (he : stepErr s y i = 0) :
    Calls Tryd.prog 48 #[.agg #[.int .i64 s.b0, .int .i64 s.b1, .int .i64 s.b2, .int .i64 s.a1, .int .i64 s.a2, .int .i64 s.sh], .agg #[.int .i64 y.x1, .int .i64 y.x2, .int .i64 y.y1, .int .i64 y.y2], .int .i64 i] w fun e w' => e = .returned (.tuple #[.int .i64 (s.out y i), .agg #[.int .i64 (s.next y i).x1, .int .i64 (s.next y i).x2, .int .i64 (s.next y i).y1, .int .i64 (s.next y i).y2], .int .i64 0]) ∧ Below w.heap.size w w' := by
  obtain ⟨a1, a2, a3⟩ := fnz3_zero he
  have hs := Sec.err_ok a1
  have hy := St.err_ok a2
  have hi := inB_iff.1 (vErr_zero a3)
  clear a1 a2 a3
  have HE := hide he; clear he
  go_enter Tryd.func48, Tryd.ntmps48
  go_wp2
  obtain ⟨w1, e1, hb1, hz1, k0, k1, k2⟩ := box3 w #[.int .i64 s.b0, .int .i64 s.b1, .int .i64 s.b2, .int .i64 s.a1, .int .i64 s.a2, .int .i64 s.sh] #[.int .i64 y.x1, .int .i64 y.x2, .int .i64 y.y1, .int .i64 y.y2] #[.int .i64 0, .int .i64 0, .int .i64 0, .int .i64 0] 32 34 34
  rw [← e1]; clear e1
  have c0 : ∀ i W, Below w1.heap.size w1 W → W.cell? ⟨w.heap.size, i, none⟩ = (#[.int .i64 s.b0, .int .i64 s.b1, .int .i64 s.b2, .int .i64 s.a1, .int .i64 s.a2, .int .i64 s.sh] : Array Value)[i]? := fun i W h => (k0.below h (by omega)).cell i
  have c1 : ∀ i W, Below w1.heap.size w1 W → W.cell? ⟨w.heap.size + 1, i, none⟩ = (#[.int .i64 y.x1, .int .i64 y.x2, .int .i64 y.y1, .int .i64 y.y2] : Array Value)[i]? := fun i W h => (k1.below h (by omega)).cell i
  go_region_held3 (fun W => Below w1.heap.size w1 W) (first | exact (Below.refl _ _).drew | (with_reducible assumption) | exact below_new ‹Below w1.heap.size w1 _› (Nat.le_refl _) _ | (refine below_set (below_set (below_set (below_set (by assumption) (by omega) _) (by omega) _) (by omega) _) (by omega) _)) (first | (go_at_call 51; refine (checkSection_any s _).mono ?_; rintro e W' ⟨rfl, hbW⟩; have hS := below_step ‹Below w1.heap.size w1 _› hbW (Below.size ‹Below w1.heap.size w1 _›)) | (go_at_call 52; refine (checkState_any y _).mono ?_; rintro e W' ⟨rfl, hbW⟩; have hS := below_step ‹Below w1.heap.size w1 _› hbW (Below.size ‹Below w1.heap.size w1 _›)) | (go_at_call 85; refine (checkValue_any _ _).mono ?_; rintro e W' ⟨rfl, rfl⟩) | (go_at_call 64; (first | (with_reducible (refine (first_any _ _ _ _ _ _ (reads3 _ _ _ _ _) (by omega)).mono ?_)) | (with_reducible (refine (first_any _ _ _ _ _ _ (Reads.drew (reads3 _ _ _ _ _)) (by omega)).mono ?_))); rintro e W' ⟨rfl, rfl⟩))
  have hB : Below w1.heap.size w1 _ := ‹Below w1.heap.size w1 _›
  generalize World.alloc _ _ = w4 at hB ⊢
  have hb4 : Below w.heap.size w w4 := below_step hb1 hB (by omega)
  have c0' := (k0.below hB (by omega)).cell
  have c1' := (k1.below hB (by omega)).cell
  have k2' := k2.below hB (by omega)
  have t1 : (fnz [s.err, y.err, vErr i] != 0) = false := by rw [show fnz [s.err, y.err, vErr i] = 0 from HE.out]; rfl
  clear c0 c1 k0 k1 k2 hb1
  go_wp2_with (go_at_call 73; refine (step_any s y i _ hs hy hi.1 hi.2).mono ?_; rintro e w5 ⟨rfl, hb5⟩)
  obtain ⟨w6, e6, hb6, hz6, k6⟩ := box1 w5 #[.int .i64 (s.next y i).x1, .int .i64 (s.next y i).x2, .int .i64 (s.next y i).y1, .int .i64 (s.next y i).y2] 34
  rw [← e6]; clear e6
  have k2'' := (k2'.below hb5 (by have := hB.size; omega)).below hb6 (by have := hB.size; have := hb5.size; omega)
  have c6 := k6.cell
  have c2 := k2''.cell
  have f2 := k2''.frozen
  have hb7 : Below w.heap.size w w6 := below_step (below_step hb4 hb5 (hb4.size)) hb6 (Nat.le_trans hb4.size hb5.size)
  go_region
  obtain ⟨w7, e7, k7, z7, o7, b7, _, _, rr7⟩ := set4 w6 (w.heap.size + 2) 34 _ _ _ _ (.int .i64 (s.next y i).x1) (.int .i64 (s.next y i).x2) (.int .i64 (s.next y i).y1) (.int .i64 (s.next y i).y2) k2''
  rw [← e7]; clear e7
  have c7 := k7.cell
  go_wp2
  refine bodyPost_ret (v := .tuple #[.int .i64 (s.out y i), .agg #[.int .i64 (s.next y i).x1, .int .i64 (s.next y i).x2, .int .i64 (s.next y i).y1, .int .i64 (s.next y i).y2], .int .i64 0]) (by simp [results, Tryd.results48, go_sem, c7]) rfl ?_
  exact ⟨rfl, (hb7.trans (b7 _ (by omega))).drew⟩

theorem Step_bad (s : Sec) (y : St) (i : Int) (w : World) (he : (stepErr s y i != 0) = true) :
    Calls Tryd.prog 48 #[.agg #[.int .i64 s.b0, .int .i64 s.b1, .int .i64 s.b2, .int .i64 s.a1, .int .i64 s.a2, .int .i64 s.sh], .agg #[.int .i64 y.x1, .int .i64 y.x2, .int .i64 y.y1, .int .i64 y.y2], .int .i64 i] w fun e w' => e = .returned (.tuple #[.int .i64 0, .agg #[.int .i64 St.zero.x1, .int .i64 St.zero.x2, .int .i64 St.zero.y1, .int .i64 St.zero.y2], .int .i64 (stepErr s y i)]) ∧ Below w.heap.size w w' := by
  have HE := hide he; clear he
  go_enter Tryd.func48, Tryd.ntmps48
  go_wp2
  obtain ⟨w1, e1, hb1, hz1, k0, k1, k2⟩ := box3 w #[.int .i64 s.b0, .int .i64 s.b1, .int .i64 s.b2, .int .i64 s.a1, .int .i64 s.a2, .int .i64 s.sh] #[.int .i64 y.x1, .int .i64 y.x2, .int .i64 y.y1, .int .i64 y.y2] #[.int .i64 0, .int .i64 0, .int .i64 0, .int .i64 0] 32 34 34
  rw [← e1]; clear e1
  have c0 : ∀ i W, Below w1.heap.size w1 W → W.cell? ⟨w.heap.size, i, none⟩ = (#[.int .i64 s.b0, .int .i64 s.b1, .int .i64 s.b2, .int .i64 s.a1, .int .i64 s.a2, .int .i64 s.sh] : Array Value)[i]? := fun i W h => (k0.below h (by omega)).cell i
  have c1 : ∀ i W, Below w1.heap.size w1 W → W.cell? ⟨w.heap.size + 1, i, none⟩ = (#[.int .i64 y.x1, .int .i64 y.x2, .int .i64 y.y1, .int .i64 y.y2] : Array Value)[i]? := fun i W h => (k1.below h (by omega)).cell i
  go_region_held3 (fun W => Below w1.heap.size w1 W) (first | exact (Below.refl _ _).drew | (with_reducible assumption) | exact below_new ‹Below w1.heap.size w1 _› (Nat.le_refl _) _ | (refine below_set (below_set (below_set (below_set (by assumption) (by omega) _) (by omega) _) (by omega) _) (by omega) _)) (first | (go_at_call 51; refine (checkSection_any s _).mono ?_; rintro e W' ⟨rfl, hbW⟩; have hS := below_step ‹Below w1.heap.size w1 _› hbW (Below.size ‹Below w1.heap.size w1 _›)) | (go_at_call 52; refine (checkState_any y _).mono ?_; rintro e W' ⟨rfl, hbW⟩; have hS := below_step ‹Below w1.heap.size w1 _› hbW (Below.size ‹Below w1.heap.size w1 _›)) | (go_at_call 85; refine (checkValue_any _ _).mono ?_; rintro e W' ⟨rfl, rfl⟩) | (go_at_call 64; (first | (with_reducible (refine (first_any _ _ _ _ _ _ (reads3 _ _ _ _ _) (by omega)).mono ?_)) | (with_reducible (refine (first_any _ _ _ _ _ _ (Reads.drew (reads3 _ _ _ _ _)) (by omega)).mono ?_))); rintro e W' ⟨rfl, rfl⟩))
  have hB : Below w1.heap.size w1 _ := ‹Below w1.heap.size w1 _›
  generalize World.alloc _ _ = w4 at hB ⊢
  have hb4 : Below w.heap.size w w4 := below_step hb1 hB (by omega)
  have k2' := k2.below hB (by omega)
  have t1 : (fnz [s.err, y.err, vErr i] != 0) = true := HE.out
  have c2 := k2'.cell
  have f2 := k2'.frozen
  clear c0 c1 k0 k1 k2 hb1
  go_wp2
  refine bodyPost_ret (v := .tuple #[.int .i64 0, .agg #[.int .i64 St.zero.x1, .int .i64 St.zero.x2, .int .i64 St.zero.y1, .int .i64 St.zero.y2], .int .i64 (stepErr s y i)]) (by simp [results, Tryd.results48, go_sem, c2, St.zero, stepErr]) rfl ?_
  exact ⟨rfl, (by repeat (first | exact hb4 | exact Below.refl _ _ | refine Below.drew ?_ | refine below_drewN ?_ _ | refine below_set ?_ (by omega) _ | refine below_new ?_ (by omega) _))⟩

/-- Six stores that fill a block of six cells. -/
theorem set6 (w : World) (b : Nat) (t : TypeId) (c0 c1 c2 c3 c4 c5 u0 u1 u2 u3 u4 u5 : Value) (hk : Blk w b t #[c0, c1, c2, c3, c4, c5]) :
    ∃ w1, w1 = (((((w.setCell ⟨b, 0, none⟩ u0).setCell ⟨b, 1, none⟩ u1).setCell ⟨b, 2, none⟩ u2).setCell ⟨b, 3, none⟩ u3).setCell ⟨b, 4, none⟩ u4).setCell ⟨b, 5, none⟩ u5 ∧ Blk w1 b t #[u0, u1, u2, u3, u4, u5] ∧ (∀ B, B ≤ b → Below B w w1) := by
  have k5 := (((((hk.set_ 0 u0).set_ 1 u1).set_ 2 u2).set_ 3 u3).set_ 4 u4).set_ 5 u5
  refine ⟨_, rfl, by simpa using k5, fun B hB => ?_⟩
  exact below_set (below_set (below_set (below_set (below_set (below_set (Below.refl _ _) hB _) hB _) hB _) hB _) hB _) hB _

/-- The section with the first and the last tap of the input exchanged. -/
def Sec.mirror (s : Sec) : Sec := ⟨s.b2, s.b1, s.b0, s.a1, s.a2, s.sh⟩
def Sec.zero : Sec := ⟨0, 0, 0, 0, 0, 0⟩
theorem Mirror_ok (s : Sec) (w : World) (h : s.err = 0) :
    Calls Tryd.prog 53 #[.agg #[.int .i64 s.b0, .int .i64 s.b1, .int .i64 s.b2, .int .i64 s.a1, .int .i64 s.a2, .int .i64 s.sh]] w fun e w' => e = .returned (.tuple #[.agg #[.int .i64 s.b2, .int .i64 s.b1, .int .i64 s.b0, .int .i64 s.a1, .int .i64 s.a2, .int .i64 s.sh], .int .i64 0]) ∧ Below w.heap.size w w' := by
  have ht : (s.err != 0) = false := by rw [h]; rfl
  clear h
  go_enter Tryd.func53, Tryd.ntmps53
  go_wp2_with fail
  obtain ⟨w1, e1, hb1, hz1, k0, k1⟩ := box2 w #[.int .i64 s.b0, .int .i64 s.b1, .int .i64 s.b2, .int .i64 s.a1, .int .i64 s.a2, .int .i64 s.sh] #[.int .i64 0, .int .i64 0, .int .i64 0, .int .i64 0, .int .i64 0, .int .i64 0] 32 32
  rw [← e1]; clear e1
  refine (checkSection_any s _).mono ?_
  rintro e w2 ⟨rfl, hb2⟩
  have hb3 := below_step hb1 hb2 hb1.size
  have k0' := k0.below hb2 (by omega)
  have k1' := k1.below hb2 (by omega)
  have c0 := k0'.cell
  have c1 := k1'.cell
  have f0 := k0'.frozen
  have f1 := k1'.frozen
  clear k0 k1 hb1
  go_wp2
  have h1 : w.heap.size + 1 ≠ w.heap.size := by omega
  have k2' := (k1'.far (p := ⟨w.heap.size, 0, none⟩) h1 (.int .i64 s.b2)).far (p := ⟨w.heap.size, 2, none⟩) h1 (.int .i64 s.b0)
  obtain ⟨w7, e7, k7, b7⟩ := set6 _ _ _ _ _ _ _ _ _ (.int .i64 s.b2) (.int .i64 s.b1) (.int .i64 s.b0) (.int .i64 s.a1) (.int .i64 s.a2) (.int .i64 s.sh) k2'
  rw [← e7]; clear e7
  have c7 := k7.cell
  have hb4 : Below w.heap.size w w7 := Below.trans (by repeat (first | exact hb3 | exact Below.refl _ _ | refine Below.drew ?_ | refine below_drewN ?_ _ | refine below_set ?_ (by omega) _ | refine below_new ?_ (by omega) _)) (b7 _ (by omega))
  clear c0 c1 f0 f1 k0' k1' k2' k7 b7
  refine bodyPost_ret (v := .tuple #[.agg #[.int .i64 s.b2, .int .i64 s.b1, .int .i64 s.b0, .int .i64 s.a1, .int .i64 s.a2, .int .i64 s.sh], .int .i64 0]) (by simp [results, Tryd.results53, go_sem, c7]) rfl ?_
  exact ⟨rfl, hb4⟩

theorem Mirror_bad (s : Sec) (w : World) (ht : (s.err != 0) = true) :
    Calls Tryd.prog 53 #[.agg #[.int .i64 s.b0, .int .i64 s.b1, .int .i64 s.b2, .int .i64 s.a1, .int .i64 s.a2, .int .i64 s.sh]] w fun e w' => e = .returned (.tuple #[.agg #[.int .i64 Sec.zero.b0, .int .i64 Sec.zero.b1, .int .i64 Sec.zero.b2, .int .i64 Sec.zero.a1, .int .i64 Sec.zero.a2, .int .i64 Sec.zero.sh], .int .i64 s.err]) ∧ Below w.heap.size w w' := by
  go_enter Tryd.func53, Tryd.ntmps53
  go_wp2_with fail
  obtain ⟨w1, e1, hb1, hz1, k0, k1⟩ := box2 w #[.int .i64 s.b0, .int .i64 s.b1, .int .i64 s.b2, .int .i64 s.a1, .int .i64 s.a2, .int .i64 s.sh] #[.int .i64 0, .int .i64 0, .int .i64 0, .int .i64 0, .int .i64 0, .int .i64 0] 32 32
  rw [← e1]; clear e1
  refine (checkSection_any s _).mono ?_
  rintro e w2 ⟨rfl, hb2⟩
  have hb3 := below_step hb1 hb2 hb1.size
  have k0' := k0.below hb2 (by omega)
  have k1' := k1.below hb2 (by omega)
  have c0 := k0'.cell
  have c1 := k1'.cell
  have f0 := k0'.frozen
  have f1 := k1'.frozen
  clear k0 k1 hb1
  go_wp2
  obtain ⟨w7, e7, k7, b7⟩ := set6 _ _ _ _ _ _ _ _ _ (.int .i64 0) (.int .i64 0) (.int .i64 0) (.int .i64 0) (.int .i64 0) (.int .i64 0) k1'
  rw [← e7]; clear e7
  have c7 := k7.cell
  have hb4 : Below w.heap.size w w7 := hb3.trans (b7 _ (by omega))
  clear c0 c1 f0 f1 k0' k1' k7 b7
  refine bodyPost_ret (v := .tuple #[.agg #[.int .i64 Sec.zero.b0, .int .i64 Sec.zero.b1, .int .i64 Sec.zero.b2, .int .i64 Sec.zero.a1, .int .i64 Sec.zero.a2, .int .i64 Sec.zero.sh], .int .i64 s.err]) (by simp [results, Tryd.results53, go_sem, c7, Sec.zero]) rfl ?_
  exact ⟨rfl, hb4⟩

theorem Contractive_any (s : Sec) (w : World) :
    Calls Tryd.prog 31 #[.agg #[.int .i64 s.b0, .int .i64 s.b1, .int .i64 s.b2, .int .i64 s.a1, .int .i64 s.a2, .int .i64 s.sh]] w fun e w' => e = .returned (.tuple #[.bool (s.okB && decide (0 < s.room)), .int .i64 s.err]) ∧ Below w.heap.size w w' := by
  have hc : (s.okB = true ∧ (s.err != 0) = false) ∨ (s.okB = false ∧ (s.err != 0) = true) := by
    unfold Sec.err; cases s.okB <;> simp
  have HC := hide hc; clear hc
  go_enter Tryd.func31, Tryd.ntmps31
  go_wp2_with fail
  obtain ⟨w1, e1, hb1, hz1, k0⟩ := box1 w #[.int .i64 s.b0, .int .i64 s.b1, .int .i64 s.b2, .int .i64 s.a1, .int .i64 s.a2, .int .i64 s.sh] 32
  rw [← e1]; clear e1
  refine (checkSection_any s _).mono ?_
  rintro e w2 ⟨rfl, hb2⟩
  have hb3 := below_step hb1 hb2 hb1.size
  have c0 := (k0.below hb2 (by omega)).cell
  clear k0 hb1
  rcases HC.out with ⟨ho, ht⟩ | ⟨ho, ht⟩
  · have HO := hide ho; clear ho
    go_wp2_with (go_at_call 74; refine (margin_any s _ (Sec.ok_iff.1 HO.out)).mono ?_; rintro e w5 ⟨rfl, hb5⟩)
    go_ret2
    exact ⟨by simp [Sec.err, HO.out], below_step hb3 hb5 hb3.size⟩
  · have HO := hide ho; clear ho
    go_wp2
    go_ret2
    exact ⟨by simp [HO.out], (by repeat (first | exact hb3 | exact Below.refl _ _ | refine Below.drew ?_ | refine below_drewN ?_ _ | refine below_set ?_ (by omega) _ | refine below_new ?_ (by omega) _))⟩
end Go.Proofs.YtlaaajkehjoffaaDoor
