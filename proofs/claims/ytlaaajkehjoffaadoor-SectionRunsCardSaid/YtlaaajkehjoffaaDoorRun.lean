/- The contracts of From and Run. -/
import Derived.Test.YtlaaajkehjoffaaDoorFrom
namespace Go.Proofs.YtlaaajkehjoffaaDoor
open Go.RowKit Go.Shelf
set_option maxRecDepth 100000

/-- The error of From. -/
def fromErr (s : Sec) (y : St) (xs : List Int) : Int := fnz [s.err, y.err, sigErr xs]
theorem fnz3_zero {a b c : Int} (h : fnz [a, b, c] = 0) : a = 0 ∧ b = 0 ∧ c = 0 := by
  simp only [fnz] at h
  split at h
  · split at h
    · split at h
      · exact ⟨‹_›, ‹_›, ‹_›⟩
      · omega
    · omega
  · omega
theorem fnz2_zero {a b : Int} (h : fnz [a, b] = 0) : a = 0 ∧ b = 0 := by
  simp only [fnz] at h
  split at h
  · split at h
    · exact ⟨‹_›, ‹_›⟩
    · omega
  · omega
def St.zero : St := ⟨0, 0, 0, 0⟩
theorem zero_ok : St.zero.Ok := ⟨by decide, by decide, by decide, by decide, by decide, by decide, by decide, by decide⟩

set_option maxHeartbeats 1000000 in
theorem From_ok (s : Sec) (y : St) (A : Option Addr) (m c : Nat) (xs : List Int) (w : World) (he : fromErr s y xs = 0) (hm : m ≤ 1000000000000) (hR : Reads w w.heap.size 1 A m (ints xs)) :
    Calls Tryd.prog 18 #[.agg #[.int .i64 s.b0, .int .i64 s.b1, .int .i64 s.b2, .int .i64 s.a1, .int .i64 s.a2, .int .i64 s.sh], .agg #[.int .i64 y.x1, .int .i64 y.x2, .int .i64 y.y1, .int .i64 y.y2], .slice A m c] w fun e w' => ∃ v, e = .returned (.tuple #[v, .agg #[.int .i64 (s.after y xs).x1, .int .i64 (s.after y xs).x2, .int .i64 (s.after y xs).y1, .int .i64 (s.after y xs).y2], .int .i64 0]) ∧ w'.ownsRow w.heap.size 3 1 v m (ints (s.outs y xs)) ∧ Below w.heap.size w w' := by
  obtain ⟨a1, a2, a3⟩ := fnz3_zero he
  have hs := Sec.err_ok a1
  have hy := St.err_ok a2
  have hx := (sigErr_ok a3).2
  clear a1 a2 a3
  have HE := hide he; clear he
  go_enter Tryd.func18, Tryd.ntmps18
  go_wp2
  obtain ⟨w1, e1, hb1, hz1, k0, k1, k2⟩ := box3 w #[.int .i64 s.b0, .int .i64 s.b1, .int .i64 s.b2, .int .i64 s.a1, .int .i64 s.a2, .int .i64 s.sh] #[.int .i64 y.x1, .int .i64 y.x2, .int .i64 y.y1, .int .i64 y.y2] #[.int .i64 0, .int .i64 0, .int .i64 0, .int .i64 0] 32 34 34
  rw [← e1]; clear e1
  have c0 : ∀ i W, Below w1.heap.size w1 W → W.cell? ⟨w.heap.size, i, none⟩ = (#[.int .i64 s.b0, .int .i64 s.b1, .int .i64 s.b2, .int .i64 s.a1, .int .i64 s.a2, .int .i64 s.sh] : Array Value)[i]? := fun i W h => (k0.below h (by omega)).cell i
  have c1 : ∀ i W, Below w1.heap.size w1 W → W.cell? ⟨w.heap.size + 1, i, none⟩ = (#[.int .i64 y.x1, .int .i64 y.x2, .int .i64 y.y1, .int .i64 y.y2] : Array Value)[i]? := fun i W h => (k1.below h (by omega)).cell i
  have r0 : ∀ W, Below w1.heap.size w1 W → Reads W W.heap.size 1 A m (ints xs) := fun W h => ((hR.below hb1).below (h.mono hb1.size)).more (Nat.le_trans hb1.size h.size)
  have R0 := hide r0; clear r0
  go_region_held3 (fun W => Below w1.heap.size w1 W) (first | exact (Below.refl _ _).drew | (with_reducible assumption) | exact below_new ‹Below w1.heap.size w1 _› (Nat.le_refl _) _ | (refine below_set (below_set (below_set (below_set (by assumption) (by omega) _) (by omega) _) (by omega) _) (by omega) _)) (first
    | (go_at_call 51; refine (checkSection_any s _).mono ?_; rintro e W' ⟨rfl, hbW⟩; have hS := below_step ‹Below w1.heap.size w1 _› hbW (Below.size ‹Below w1.heap.size w1 _›))
    | (go_at_call 52; refine (checkState_any y _).mono ?_; rintro e W' ⟨rfl, hbW⟩; have hS := below_step ‹Below w1.heap.size w1 _› hbW (Below.size ‹Below w1.heap.size w1 _›))
    | (go_at_call 65; refine (checkSignal_any _ _ _ _ _ (R0.out _ ‹Below w1.heap.size w1 _›) hm).mono ?_; rintro e W' ⟨rfl, hbW⟩; have hS := below_step ‹Below w1.heap.size w1 _› hbW (Below.size ‹Below w1.heap.size w1 _›))
    | (go_at_call 64; with_reducible (refine (first_any _ _ _ _ _ _ (reads3 _ _ _ _ _) (by omega)).mono ?_); rintro e W' ⟨rfl, rfl⟩))
  have hB : Below w1.heap.size w1 _ := ‹Below w1.heap.size w1 _›
  generalize World.alloc W' _ = w4 at hB ⊢
  have hb4 : Below w.heap.size w w4 := below_step hb1 hB (by omega)
  have c0' := (k0.below hB (by omega)).cell
  have c1' := (k1.below hB (by omega)).cell
  have k2' := k2.below hB (by omega)
  have t1 : (fnz [s.err, y.err, sigErr xs] != 0) = false := by rw [show fnz [s.err, y.err, sigErr xs] = 0 from HE.out]; rfl
  have r4 := R0.out _ hB
  clear c0 c1 k0 k1 k2 R0 hbW hS hR hb1
  go_wp2_with (go_at_call 66; refine (from_any s y A m c xs _ hs hy hx hm r4).mono ?_; rintro e w5 ⟨v, rfl, ho, hb5⟩)
  obtain ⟨w6, e6, hb6, hz6, k6⟩ := box1 w5 #[.int .i64 (s.after y xs).x1, .int .i64 (s.after y xs).x2, .int .i64 (s.after y xs).y1, .int .i64 (s.after y xs).y2] 34
  rw [← e6]; clear e6
  have k2'' := (k2'.below hb5 (by have := hB.size; omega)).below hb6 (by have := hB.size; have := hb5.size; omega)
  have c6 := k6.cell
  have c2 := k2''.cell
  have f2 := k2''.frozen
  have ho6 := row_below ho hb6
  have hb7 : Below w.heap.size w w6 := below_step (below_step hb4 hb5 (hb4.size)) hb6 (Nat.le_trans hb4.size hb5.size)
  go_region
  obtain ⟨w7, e7, k7, z7, o7, b7, _, _, rr7⟩ := set4 w6 (w.heap.size + 2) 34 _ _ _ _ (.int .i64 (s.after y xs).x1) (.int .i64 (s.after y xs).x2) (.int .i64 (s.after y xs).y1) (.int .i64 (s.after y xs).y2) k2''
  rw [← e7]; clear e7
  have c7 := k7.cell
  go_wp2
  refine bodyPost_ret (v := .tuple #[v, .agg #[.int .i64 (s.after y xs).x1, .int .i64 (s.after y xs).x2, .int .i64 (s.after y xs).y1, .int .i64 (s.after y xs).y2], .int .i64 0]) (by simp [results, Tryd.results18, go_sem, c7]) rfl ?_
  exact ⟨v, rfl, (rr7 _ _ _ _ _ _ (by decide) ho6).weaken hb4.size, (hb7.trans (b7 _ (by omega))).drew⟩

theorem From_bad (s : Sec) (y : St) (A : Option Addr) (m c : Nat) (xs : List Int) (w : World) (he : (fromErr s y xs != 0) = true) (hm : m ≤ 1000000000000) (hR : Reads w w.heap.size 1 A m (ints xs)) :
    Calls Tryd.prog 18 #[.agg #[.int .i64 s.b0, .int .i64 s.b1, .int .i64 s.b2, .int .i64 s.a1, .int .i64 s.a2, .int .i64 s.sh], .agg #[.int .i64 y.x1, .int .i64 y.x2, .int .i64 y.y1, .int .i64 y.y2], .slice A m c] w fun e w' => e = .returned (.tuple #[.slice none 0 0, .agg #[.int .i64 St.zero.x1, .int .i64 St.zero.x2, .int .i64 St.zero.y1, .int .i64 St.zero.y2], .int .i64 (fromErr s y xs)]) ∧ Below w.heap.size w w' := by
  have HE := hide he; clear he
  go_enter Tryd.func18, Tryd.ntmps18
  go_wp2
  obtain ⟨w1, e1, hb1, hz1, k0, k1, k2⟩ := box3 w #[.int .i64 s.b0, .int .i64 s.b1, .int .i64 s.b2, .int .i64 s.a1, .int .i64 s.a2, .int .i64 s.sh] #[.int .i64 y.x1, .int .i64 y.x2, .int .i64 y.y1, .int .i64 y.y2] #[.int .i64 0, .int .i64 0, .int .i64 0, .int .i64 0] 32 34 34
  rw [← e1]; clear e1
  have c0 : ∀ i W, Below w1.heap.size w1 W → W.cell? ⟨w.heap.size, i, none⟩ = (#[.int .i64 s.b0, .int .i64 s.b1, .int .i64 s.b2, .int .i64 s.a1, .int .i64 s.a2, .int .i64 s.sh] : Array Value)[i]? := fun i W h => (k0.below h (by omega)).cell i
  have c1 : ∀ i W, Below w1.heap.size w1 W → W.cell? ⟨w.heap.size + 1, i, none⟩ = (#[.int .i64 y.x1, .int .i64 y.x2, .int .i64 y.y1, .int .i64 y.y2] : Array Value)[i]? := fun i W h => (k1.below h (by omega)).cell i
  have r0 : ∀ W, Below w1.heap.size w1 W → Reads W W.heap.size 1 A m (ints xs) := fun W h => ((hR.below hb1).below (h.mono hb1.size)).more (Nat.le_trans hb1.size h.size)
  have R0 := hide r0; clear r0
  go_region_held3 (fun W => Below w1.heap.size w1 W) (first | exact (Below.refl _ _).drew | (with_reducible assumption) | exact below_new ‹Below w1.heap.size w1 _› (Nat.le_refl _) _ | (refine below_set (below_set (below_set (below_set (by assumption) (by omega) _) (by omega) _) (by omega) _) (by omega) _)) (first
    | (go_at_call 51; refine (checkSection_any s _).mono ?_; rintro e W' ⟨rfl, hbW⟩; have hS := below_step ‹Below w1.heap.size w1 _› hbW (Below.size ‹Below w1.heap.size w1 _›))
    | (go_at_call 52; refine (checkState_any y _).mono ?_; rintro e W' ⟨rfl, hbW⟩; have hS := below_step ‹Below w1.heap.size w1 _› hbW (Below.size ‹Below w1.heap.size w1 _›))
    | (go_at_call 65; refine (checkSignal_any _ _ _ _ _ (R0.out _ ‹Below w1.heap.size w1 _›) hm).mono ?_; rintro e W' ⟨rfl, hbW⟩; have hS := below_step ‹Below w1.heap.size w1 _› hbW (Below.size ‹Below w1.heap.size w1 _›))
    | (go_at_call 64; with_reducible (refine (first_any _ _ _ _ _ _ (reads3 _ _ _ _ _) (by omega)).mono ?_); rintro e W' ⟨rfl, rfl⟩))
  have hB : Below w1.heap.size w1 _ := ‹Below w1.heap.size w1 _›
  generalize World.alloc W' _ = w4 at hB ⊢
  have hb4 : Below w.heap.size w w4 := below_step hb1 hB (by omega)
  have k2' := k2.below hB (by omega)
  have t1 : (fnz [s.err, y.err, sigErr xs] != 0) = true := HE.out
  have c2 := k2'.cell
  have f2 := k2'.frozen
  clear c0 c1 k0 k1 k2 R0 hbW hS hR hb1
  go_wp2
  refine bodyPost_ret (v := .tuple #[.slice none 0 0, .agg #[.int .i64 St.zero.x1, .int .i64 St.zero.x2, .int .i64 St.zero.y1, .int .i64 St.zero.y2], .int .i64 (fromErr s y xs)]) (by simp [results, Tryd.results18, go_sem, c2, St.zero, fromErr]) rfl ?_
  exact ⟨rfl, (by repeat (first | exact hb4 | exact Below.refl _ _ | refine Below.drew ?_ | refine below_drewN ?_ _ | refine below_set ?_ (by omega) _ | refine below_new ?_ (by omega) _))⟩
end Go.Proofs.YtlaaajkehjoffaaDoor
