/- The law SectionSettles. -/
import Derived.Test.YtlaaajkehjoffaaDoorTot
namespace Go.Proofs.YtlaaajkehjoffaaDoor
open Go.RowKit Go.Shelf
set_option maxRecDepth 100000

def SomeInt (w : World) (e : Ending) (w' : World) : Prop := ∃ r : Int, e = .returned (.int .i64 r) ∧ w = w'
theorem rabs_ex (n : Int) (w : World) : Calls Tryd.prog 72 #[.int .i64 n] w (SomeInt w) := by
  go_enter Tryd.func72, Tryd.ntmps72
  go_wp2
  all_goals (go_ret; exact ⟨_, rfl, rfl⟩)
def SomeBool (w : World) (e : Ending) (w' : World) : Prop := ∃ b : Bool, e = .returned (.bool b) ∧ Below w.heap.size w w'
set_option maxHeartbeats 1000000 in
theorem small_ex (s : Sec) (y : St) (w : World) : Calls Tryd.prog 28 #[.agg #[.int .i64 s.b0, .int .i64 s.b1, .int .i64 s.b2, .int .i64 s.a1, .int .i64 s.a2, .int .i64 s.sh], .agg #[.int .i64 y.x1, .int .i64 y.x2, .int .i64 y.y1, .int .i64 y.y2]] w (SomeBool w) := by
  go_enter Tryd.func28, Tryd.ntmps28
  go_wp2_with (go_at_call 72; refine (rabs_ex _ _).mono ?_; rintro e w' ⟨r, rfl, rfl⟩)
  all_goals (go_ret; exact ⟨_, rfl, (by repeat (first | exact Below.refl _ _ | exact Below.refl _ _ | refine Below.drew ?_ | refine below_drewN ?_ _ | refine below_set ?_ (by omega) _ | refine below_new ?_ (by omega) _))⟩)

set_option maxHeartbeats 4000000 in
theorem lawSettles_at (s : Sec) (y : St) (w : World) (hV : Vars w) (t : Bool) (ht : (setErr s y == 0) = t) :
    Calls Tryd.prog 4 #[.agg #[.int .i64 s.b0, .int .i64 s.b1, .int .i64 s.b2, .int .i64 s.a1, .int .i64 s.a2, .int .i64 s.sh], .agg #[.int .i64 y.x1, .int .i64 y.x2, .int .i64 y.y1, .int .i64 y.y2]] w fun e w' => e = .returned (.bool true) ∧ Below w.heap.size w w' := by
  have t1 : (fnz [s.err, y.err] == 0) = t := ht
  have h2 : t = true ∨ (t = false ∧ (s.setV y).1 = 0 ∧ (s.setV y).2.1 = 0 ∧ (s.setV y).2.2 = fnz [s.err, y.err]) := by
    cases t
    · right
      have h0 : setErr s y ≠ 0 := by simpa using ht
      unfold Sec.setV
      rw [if_neg h0]
      exact ⟨rfl, rfl, rfl, rfl⟩
    · exact .inl rfl
  have H2 := hide h2; clear h2
  have HT := hide ht; clear ht
  go_enter Tryd.func4, Tryd.ntmps4
  go_wp2_with fail
  obtain ⟨w1, e1, hb1, hz1, k0, k1⟩ := box2 w #[.int .i64 s.b0, .int .i64 s.b1, .int .i64 s.b2, .int .i64 s.a1, .int .i64 s.a2, .int .i64 s.sh] #[.int .i64 y.x1, .int .i64 y.x2, .int .i64 y.y1, .int .i64 y.y2] 23 25
  rw [← e1]; clear e1
  refine (small_ex s y _).mono ?_
  rintro e w2 ⟨b, rfl, hb2⟩
  have hb3 := below_step hb1 hb2 hb1.size
  have m0 := carryK k0 hb2
  have m1 := carryK k1 hb2
  clear k0 k1 hb1 hb2
  cases b
  · go_wp2_with fail
    refine (awake_v _ (hV.carry hb3)).mono ?_
    rintro e w6 ⟨rfl, hb9⟩
    go_wp2
    go_ret
    exact ⟨rfl, below_step hb3 hb9 hb3.size⟩
  · have c0 := m0.cell
    have c1 := m1.cell
    go_wp2_with fail
    refine (Settle_tot s y _).mono ?_
    rintro e w4 ⟨rfl, hb4⟩
    have hb5 := below_step hb3 hb4 hb3.size
    have n0 := carryK m0 hb4
    have n1 := carryK m1 hb4
    clear c0 c1 m0 m1 hb3 hb4
    have c0 : ∀ i W, Below w4.heap.size w4 W → W.cell? ⟨w.heap.size, i, none⟩ = (#[.int .i64 s.b0, .int .i64 s.b1, .int .i64 s.b2, .int .i64 s.a1, .int .i64 s.a2, .int .i64 s.sh] : Array Value)[i]? := fun i W h => (n0.below h n0.lt).cell i
    have c1 : ∀ i W, Below w4.heap.size w4 W → W.cell? ⟨w.heap.size + 1, i, none⟩ = (#[.int .i64 y.x1, .int .i64 y.x2, .int .i64 y.y1, .int .i64 y.y2] : Array Value)[i]? := fun i W h => (n1.below h n1.lt).cell i
    go_wp2
    go_region_held3 (fun W => Below w4.heap.size w4 W) (first | exact (Below.refl _ _).drew | (with_reducible assumption) | exact below_new ‹Below w4.heap.size w4 _› (Nat.le_refl _) _ | (refine below_set (below_set (below_set (below_set (by assumption) (by omega) _) (by omega) _) (by omega) _) (by omega) _)) (first | (go_at_call 21; refine (rCheckSection_any s _).mono ?_; rintro e W' ⟨rfl, hbW⟩; have hS := below_step ‹Below w4.heap.size w4 _› hbW (Below.size ‹Below w4.heap.size w4 _›)) | (go_at_call 23; refine (rCheckState_any y _).mono ?_; rintro e W' ⟨rfl, hbW⟩; have hS := below_step ‹Below w4.heap.size w4 _› hbW (Below.size ‹Below w4.heap.size w4 _›)) | (go_at_call 20; (first | (with_reducible (refine (rFirst_any _ _ _ _ _ _ (reads2 _ _ _ _) (by omega)).mono ?_)) | (with_reducible (refine (rFirst_any _ _ _ _ _ _ (Reads.drew (reads2 _ _ _ _)) (by omega)).mono ?_))); rintro e W' ⟨rfl, rfl⟩))
    have hB : Below w4.heap.size w4 _ := ‹Below w4.heap.size w4 _›
    generalize World.alloc _ _ = w5 at hB ⊢
    have hb6 := below_step hb5 hB hb5.size
    have p0 := carryK n0 hB
    have p1 := carryK n1 hB
    clear c0 c1 n0 n1 hb5 hB
    have c0 := p0.cell
    have c1 := p1.cell
    rcases H2.out with rfl | ⟨rfl, q1, q2, q3⟩
    · have h0 : setErr s y = 0 := by simpa using HT.out
      have H0 := hide h0; clear h0
      go_wp2_with fail
      refine (rSettle_tot s y _ H0.out).mono ?_
      rintro e w6 ⟨rfl, hb7⟩
      have hb8 := below_step hb6 hb7 hb6.size
      clear c0 c1 p0 p1 hb6 hb7
      go_wp2_with fail
      refine (awake_v _ (hV.carry hb8)).mono ?_
      rintro e w7 ⟨rfl, hb9⟩
      go_wp2
      go_ret
      exact ⟨rfl, below_step hb8 hb9 hb8.size⟩
    · clear c0 c1 p0 p1
      have t2 : ((s.setV y).1 == 0) = true := by rw [q1]; rfl
      have t3 : ((s.setV y).2.1 == 0) = true := by rw [q2]; rfl
      have t4 : ((s.setV y).2.2 == fnz [s.err, y.err]) = true := by rw [q3]; simp
      clear q1 q2 q3
      go_wp2_with fail
      refine (awake_v _ (hV.carry hb6)).mono ?_
      rintro e w7 ⟨rfl, hb9⟩
      go_wp2
      go_ret
      exact ⟨rfl, below_step hb6 hb9 hb6.size⟩
theorem lawSettles_any (s : Sec) (y : St) (w : World) (hV : Vars w) :
    Calls Tryd.prog 4 #[.agg #[.int .i64 s.b0, .int .i64 s.b1, .int .i64 s.b2, .int .i64 s.a1, .int .i64 s.a2, .int .i64 s.sh], .agg #[.int .i64 y.x1, .int .i64 y.x2, .int .i64 y.y1, .int .i64 y.y2]] w fun e w' => e = .returned (.bool true) ∧ Below w.heap.size w w' := lawSettles_at s y w hV _ rfl
end Go.Proofs.YtlaaajkehjoffaaDoor
