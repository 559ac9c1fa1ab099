/- The law SectionSteps. -/
import Derived.Test.YtlaaajkehjoffaaDoorAwake
import Derived.Test.YtlaaajkehjoffaaDoorBaseC
import Derived.Test.YtlaaajkehjoffaaDoorRSettle2
namespace Go.Proofs.YtlaaajkehjoffaaDoor
open Go.RowKit Go.Shelf
set_option maxRecDepth 100000

/-- What a law needs of the package-level variables. -/
structure Vars (w : World) : Prop where
  pow : Pow w
  ten : Tens w
theorem Vars.carry {w w' : World} (h : Vars w) (hb : Below w.heap.size w w') : Vars w' := ⟨carryP h.pow hb, carryT h.ten hb⟩
theorem awake_v (w : World) (h : Vars w) : Calls Tryd.prog 15 #[] w fun e w' => e = .returned (.bool true) ∧ Below w.heap.size w w' := awake_any w h.pow h.ten
theorem over_vars {w : World} (h : Vars w) (x : World) : Vars (over w.heap.size w x) := h.carry (over_below _ _ _)

set_option maxHeartbeats 4000000 in
theorem lawSteps_ok (s : Sec) (y : St) (i : Int) (w : World) (hV : Vars w) (he : stepErr s y i = 0) :
    Calls Tryd.prog 9 #[.agg #[.int .i64 s.b0, .int .i64 s.b1, .int .i64 s.b2, .int .i64 s.a1, .int .i64 s.a2, .int .i64 s.sh], .agg #[.int .i64 y.x1, .int .i64 y.x2, .int .i64 y.y1, .int .i64 y.y2], .int .i64 i] w fun e w' => e = .returned (.bool true) ∧ Below w.heap.size w w' := by
  obtain ⟨a1, a2, a3⟩ := fnz3_zero he
  have hs := Sec.err_ok a1
  have hy := St.err_ok a2
  have hi := inB_iff.1 (vErr_zero a3)
  have t1 : (fnz [s.err, y.err, vErr i] == 0) = true := by rw [show fnz [s.err, y.err, vErr i] = 0 from he]; rfl
  have t2 : fnz [s.err, y.err, vErr i] = 0 := he
  have T2 := hide t2; clear t2
  clear a1 a2 a3
  go_enter Tryd.func9, Tryd.ntmps9
  go_wp2_with fail
  obtain ⟨w1, e1, hb1, hz1, k0, k1⟩ := box2 w #[.int .i64 s.b0, .int .i64 s.b1, .int .i64 s.b2, .int .i64 s.a1, .int .i64 s.a2, .int .i64 s.sh] #[.int .i64 y.x1, .int .i64 y.x2, .int .i64 y.y1, .int .i64 y.y2] 23 25
  rw [← e1]; clear e1
  refine (Step_ok s y i _ he).mono ?_
  clear he
  rintro e w2 ⟨rfl, hb2⟩
  have hb3 := below_step hb1 hb2 hb1.size
  have k0' := k0.below hb2 k0.lt
  have k1' := k1.below hb2 k1.lt
  clear k0 k1 hb1 hb2
  have c0 := k0'.cell
  have c1 := k1'.cell
  go_wp2_with fail
  obtain ⟨w3, e3, hb4, hz3, k2⟩ := box1 w2 #[.int .i64 (s.next y i).x1, .int .i64 (s.next y i).x2, .int .i64 (s.next y i).y1, .int .i64 (s.next y i).y2] 34
  rw [← e3]; clear e3
  have hb5 := below_step hb3 hb4 hb3.size
  have m0 := k0'.below hb4 k0'.lt
  have m1 := k1'.below hb4 k1'.lt
  clear c0 c1 k0' k1' hb3 hb4
  have c0 : ∀ i W, Below w3.heap.size w3 W → W.cell? ⟨w.heap.size, i, none⟩ = (#[.int .i64 s.b0, .int .i64 s.b1, .int .i64 s.b2, .int .i64 s.a1, .int .i64 s.a2, .int .i64 s.sh] : Array Value)[i]? := fun i W h => (m0.below h m0.lt).cell i
  have c1 : ∀ i W, Below w3.heap.size w3 W → W.cell? ⟨w.heap.size + 1, i, none⟩ = (#[.int .i64 y.x1, .int .i64 y.x2, .int .i64 y.y1, .int .i64 y.y2] : Array Value)[i]? := fun i W h => (m1.below h m1.lt).cell i
  go_region_held3 (fun W => Below w3.heap.size w3 W) (first | exact (Below.refl _ _).drew | (with_reducible assumption) | exact below_new ‹Below w3.heap.size w3 _› (Nat.le_refl _) _ | (refine below_set (below_set (below_set (below_set (by assumption) (by omega) _) (by omega) _) (by omega) _) (by omega) _)) (first | (go_at_call 21; refine (rCheckSection_any s _).mono ?_; rintro e W' ⟨rfl, hbW⟩; have hS := below_step ‹Below w3.heap.size w3 _› hbW (Below.size ‹Below w3.heap.size w3 _›)) | (go_at_call 23; refine (rCheckState_any y _).mono ?_; rintro e W' ⟨rfl, hbW⟩; have hS := below_step ‹Below w3.heap.size w3 _› hbW (Below.size ‹Below w3.heap.size w3 _›)) | (go_at_call 49; refine (checkInput_any _ _).mono ?_; rintro e W' ⟨rfl, rfl⟩) | (go_at_call 20; (first | (with_reducible (refine (rFirst_any _ _ _ _ _ _ (reads3 _ _ _ _ _) (by omega)).mono ?_)) | (with_reducible (refine (rFirst_any _ _ _ _ _ _ (Reads.drew (reads3 _ _ _ _ _)) (by omega)).mono ?_))); rintro e W' ⟨rfl, rfl⟩))
  have hB : Below w3.heap.size w3 _ := ‹Below w3.heap.size w3 _›
  generalize World.alloc _ _ = w4 at hB ⊢
  have hb6 := below_step hb5 hB hb5.size
  have n0 := m0.below hB m0.lt
  have n1 := m1.below hB m1.lt
  have n2 := k2.below hB k2.lt
  clear c0 c1 m0 m1 k2 hB hb5
  have c0 := n0.cell
  have c1 := n1.cell
  have l0 := n0.lt
  have l1 := n1.lt
  have l2 := n2.lt
  go_wp2_with fail
  obtain ⟨w5, e5, hb7, hz5, k3⟩ := box1 w4 #[.int .i64 0, .int .i64 0, .int .i64 0, .int .i64 0] 25
  rw [← e5]; clear e5
  refine (rstep_any s y i _ hs hy hi.1 hi.2).mono ?_
  rintro e w6 ⟨rfl, hb8⟩
  have hb9 := below_step (below_step hb6 hb7 hb6.size) hb8 (Nat.le_trans hb6.size hb7.size)
  have p0 := (n0.below hb7 n0.lt).below hb8 (by omega)
  have p1 := (n1.below hb7 n1.lt).below hb8 (by omega)
  have p2 := (n2.below hb7 n2.lt).below hb8 (by omega)
  have p3 := k3.below hb8 k3.lt
  have lt3 : w4.heap.size < w6.heap.size := p3.lt
  have lt0 : w.heap.size + 1 < w4.heap.size := l1
  have lt2 : w2.heap.size < w4.heap.size := l2
  clear c0 c1 n0 n1 n2 k3 hb6 hb7 hb8 l0 l1 l2
  have f3 := p3.frozen
  have c3 := p3.cell
  go_upto_region 6 with (fail)
  obtain ⟨w7, e7, k7, z7, o7, b7, _, _, _⟩ := set4 w6 w4.heap.size 25 _ _ _ _ (.int .i64 (s.next y i).x1) (.int .i64 (s.next y i).x2) (.int .i64 (s.next y i).y1) (.int .i64 (s.next y i).y2) p3
  have m0 := o7 _ _ _ (by omega) p0
  have m1 := o7 _ _ _ (by omega) p1
  have m2 := o7 _ _ _ (by omega) p2
  rw [← e7]; clear e7
  have hb10 : Below w.heap.size w w7 := hb9.trans (b7 _ (by omega))
  have hV7 := hV.carry hb10
  clear f3 c3 p0 p1 p2 p3 o7 b7 z7
  have c0 := over_blk (B := w7.heap.size) m0 m0.lt
  have c1 := over_blk (B := w7.heap.size) m1 m1.lt
  have c2 := over_blk (B := w7.heap.size) m2 m2.lt
  have c3 := over_blk (B := w7.heap.size) k7 k7.lt
  have t3 := T2.out
  clear t1
  refine wp_region_over w7.heap.size (by kernel_rfl) (by kernel_rfl) ?_; (repeat (first | go_big_quiet_step (first | (go_at_call 51; exact over_call (Nat.le_refl _) (checkSection_any s _)) | (go_at_call 21; exact over_call (Nat.le_refl _) (rCheckSection_any s _)) | (go_at_call 52; exact over_call (Nat.le_refl _) (checkState_any y _)) | (go_at_call 23; exact over_call (Nat.le_refl _) (rCheckState_any y _)) | (go_at_call 15; exact over_call (Nat.le_refl _) (awake_v _ (over_vars hV7 _)))) | quiet_step (first | (go_at_call 51; exact over_call (Nat.le_refl _) (checkSection_any s _)) | (go_at_call 21; exact over_call (Nat.le_refl _) (rCheckSection_any s _)) | (go_at_call 52; exact over_call (Nat.le_refl _) (checkState_any y _)) | (go_at_call 23; exact over_call (Nat.le_refl _) (rCheckState_any y _)) | (go_at_call 15; exact over_call (Nat.le_refl _) (awake_v _ (over_vars hV7 _)))))); refine wpQuiet_nil ?_; rintro W ⟨x, rfl⟩
  go_wp2
  go_ret
  exact ⟨rfl, hb10.trans ((over_below _ _ _).mono hb10.size)⟩

theorem Step_bad0 (s : Sec) (y : St) (i : Int) (w : World) (he : (stepErr s y i != 0) = true) :
    Calls Tryd.prog 48 #[.agg #[.int .i64 s.b0, .int .i64 s.b1, .int .i64 s.b2, .int .i64 s.a1, .int .i64 s.a2, .int .i64 s.sh], .agg #[.int .i64 y.x1, .int .i64 y.x2, .int .i64 y.y1, .int .i64 y.y2], .int .i64 i] w fun e w' => e = .returned (.tuple #[.int .i64 0, .agg #[.int .i64 0, .int .i64 0, .int .i64 0, .int .i64 0], .int .i64 (fnz [s.err, y.err, vErr i])]) ∧ Below w.heap.size w w' := Step_bad s y i w he

set_option maxHeartbeats 4000000 in
theorem lawSteps_bad (s : Sec) (y : St) (i : Int) (w : World) (hV : Vars w) (he : (stepErr s y i != 0) = true) :
    Calls Tryd.prog 9 #[.agg #[.int .i64 s.b0, .int .i64 s.b1, .int .i64 s.b2, .int .i64 s.a1, .int .i64 s.a2, .int .i64 s.sh], .agg #[.int .i64 y.x1, .int .i64 y.x2, .int .i64 y.y1, .int .i64 y.y2], .int .i64 i] w fun e w' => e = .returned (.bool true) ∧ Below w.heap.size w w' := by
  have t1 : (fnz [s.err, y.err, vErr i] == 0) = false := by
    have : stepErr s y i ≠ 0 := by simpa using he
    simpa [stepErr] using this
  go_enter Tryd.func9, Tryd.ntmps9
  go_wp2_with fail
  obtain ⟨w1, e1, hb1, hz1, k0, k1⟩ := box2 w #[.int .i64 s.b0, .int .i64 s.b1, .int .i64 s.b2, .int .i64 s.a1, .int .i64 s.a2, .int .i64 s.sh] #[.int .i64 y.x1, .int .i64 y.x2, .int .i64 y.y1, .int .i64 y.y2] 23 25
  rw [← e1]; clear e1
  refine (Step_bad0 s y i _ he).mono ?_
  clear he
  rintro e w2 ⟨rfl, hb2⟩
  have hb3 := below_step hb1 hb2 hb1.size
  have k0' := k0.below hb2 k0.lt
  have k1' := k1.below hb2 k1.lt
  clear k0 k1 hb1 hb2
  have c0 := k0'.cell
  have c1 := k1'.cell
  go_wp2_with fail
  obtain ⟨w3, e3, hb4, hz3, k2⟩ := box1 w2 #[.int .i64 0, .int .i64 0, .int .i64 0, .int .i64 0] 34
  rw [← e3]; clear e3
  have hb5 := below_step hb3 hb4 hb3.size
  have m0 := k0'.below hb4 k0'.lt
  have m1 := k1'.below hb4 k1'.lt
  clear c0 c1 k0' k1' hb3 hb4
  have c0 : ∀ i W, Below w3.heap.size w3 W → W.cell? ⟨w.heap.size, i, none⟩ = (#[.int .i64 s.b0, .int .i64 s.b1, .int .i64 s.b2, .int .i64 s.a1, .int .i64 s.a2, .int .i64 s.sh] : Array Value)[i]? := fun i W h => (m0.below h m0.lt).cell i
  have c1 : ∀ i W, Below w3.heap.size w3 W → W.cell? ⟨w.heap.size + 1, i, none⟩ = (#[.int .i64 y.x1, .int .i64 y.x2, .int .i64 y.y1, .int .i64 y.y2] : Array Value)[i]? := fun i W h => (m1.below h m1.lt).cell i
  go_region_held3 (fun W => Below w3.heap.size w3 W) (first | exact (Below.refl _ _).drew | (with_reducible assumption) | exact below_new ‹Below w3.heap.size w3 _› (Nat.le_refl _) _ | (refine below_set (below_set (below_set (below_set (by assumption) (by omega) _) (by omega) _) (by omega) _) (by omega) _)) (first | (go_at_call 21; refine (rCheckSection_any s _).mono ?_; rintro e W' ⟨rfl, hbW⟩; have hS := below_step ‹Below w3.heap.size w3 _› hbW (Below.size ‹Below w3.heap.size w3 _›)) | (go_at_call 23; refine (rCheckState_any y _).mono ?_; rintro e W' ⟨rfl, hbW⟩; have hS := below_step ‹Below w3.heap.size w3 _› hbW (Below.size ‹Below w3.heap.size w3 _›)) | (go_at_call 49; refine (checkInput_any _ _).mono ?_; rintro e W' ⟨rfl, rfl⟩) | (go_at_call 20; (first | (with_reducible (refine (rFirst_any _ _ _ _ _ _ (reads3 _ _ _ _ _) (by omega)).mono ?_)) | (with_reducible (refine (rFirst_any _ _ _ _ _ _ (Reads.drew (reads3 _ _ _ _ _)) (by omega)).mono ?_))); rintro e W' ⟨rfl, rfl⟩))
  have hB : Below w3.heap.size w3 _ := ‹Below w3.heap.size w3 _›
  generalize World.alloc _ _ = w4 at hB ⊢
  have hb6 := below_step hb5 hB hb5.size
  have n0 := m0.below hB m0.lt
  have n1 := m1.below hB m1.lt
  have n2 := k2.below hB k2.lt
  clear c0 c1 m0 m1 k2 hB hb5
  go_wp2_with fail
  obtain ⟨w7, e7, hb7, hz7, k7⟩ := box1 w4 #[.int .i64 0, .int .i64 0, .int .i64 0, .int .i64 0] 25
  rw [← e7]; clear e7
  have m0 := n0.below hb7 n0.lt
  have m1 := n1.below hb7 n1.lt
  have m2 := n2.below hb7 n2.lt
  have hb10 : Below w.heap.size w w7 := below_step hb6 hb7 hb6.size
  have hV7 := hV.carry hb10
  clear n0 n1 n2 hb6 hb7
  have c0 := over_blk (B := w7.heap.size) m0 m0.lt
  have c1 := over_blk (B := w7.heap.size) m1 m1.lt
  have c2 := over_blk (B := w7.heap.size) m2 m2.lt
  have c3 := over_blk (B := w7.heap.size) k7 k7.lt
  refine wp_region_over w7.heap.size (by kernel_rfl) (by kernel_rfl) ?_; (repeat (first | go_big_quiet_step (first | (go_at_call 51; exact over_call (Nat.le_refl _) (checkSection_any s _)) | (go_at_call 21; exact over_call (Nat.le_refl _) (rCheckSection_any s _)) | (go_at_call 52; exact over_call (Nat.le_refl _) (checkState_any y _)) | (go_at_call 23; exact over_call (Nat.le_refl _) (rCheckState_any y _)) | (go_at_call 15; exact over_call (Nat.le_refl _) (awake_v _ (over_vars hV7 _)))) | quiet_step (first | (go_at_call 51; exact over_call (Nat.le_refl _) (checkSection_any s _)) | (go_at_call 21; exact over_call (Nat.le_refl _) (rCheckSection_any s _)) | (go_at_call 52; exact over_call (Nat.le_refl _) (checkState_any y _)) | (go_at_call 23; exact over_call (Nat.le_refl _) (rCheckState_any y _)) | (go_at_call 15; exact over_call (Nat.le_refl _) (awake_v _ (over_vars hV7 _)))))); refine wpQuiet_nil ?_; rintro W ⟨x, rfl⟩
  go_wp2
  go_ret
  exact ⟨rfl, hb10.trans ((over_below _ _ _).mono hb10.size)⟩

theorem lawSteps_any (s : Sec) (y : St) (i : Int) (w : World) (hV : Vars w) :
    Calls Tryd.prog 9 #[.agg #[.int .i64 s.b0, .int .i64 s.b1, .int .i64 s.b2, .int .i64 s.a1, .int .i64 s.a2, .int .i64 s.sh], .agg #[.int .i64 y.x1, .int .i64 y.x2, .int .i64 y.y1, .int .i64 y.y2], .int .i64 i] w fun e w' => e = .returned (.bool true) ∧ Below w.heap.size w w' := by
  by_cases he : stepErr s y i = 0
  · exact lawSteps_ok s y i w hV he
  · exact lawSteps_bad s y i w hV (by simpa using he)
end Go.Proofs.YtlaaajkehjoffaaDoor
