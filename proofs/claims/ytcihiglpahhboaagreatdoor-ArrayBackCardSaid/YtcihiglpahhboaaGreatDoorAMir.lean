/- Mirror of the program. -/
import Derived.Test.YtcihiglpahhboaaGreatDoorBaseM
namespace Go.Proofs.YtcihiglpahhboaaGreatDoor
open Go.RowKit
set_option maxRecDepth 100000
def sgn (soft : Bool) : Int := if soft then -1 else 1
theorem sgn_mul (soft : Bool) {s : Src} (h : s.Ok) : wrap64 (sgn soft * s.g) = if soft then -s.g else s.g := by
  have := h.g1; have := h.g2
  cases soft
  · simp [sgn]; unfold wrap64; omega
  · simp [sgn]; unfold wrap64; omega
set_option maxHeartbeats 1000000 in
theorem mirror1_any (s : Src) (u : Int) (soft : Bool) (Bx By : Nat) (w : World) (hs : s.Ok) (hu : -100 ≤ u ∧ u ≤ 100) (kx : Blk w Bx 3 #[.int .i64 u]) (ky : Blk w By 3 #[.int .i64 (sgn soft)]) :
    Calls Tryz.prog 116 #[.agg #[.int .i64 s.x, .int .i64 s.y, .int .i64 s.g, .int .i64 s.p], .pointer (some ⟨Bx, 0, none⟩), .pointer (some ⟨By, 0, none⟩)] w fun e w' => e = .returned (.agg #[.int .i64 (mir u soft s).x, .int .i64 (mir u soft s).y, .int .i64 (mir u soft s).g, .int .i64 (mir u soft s).p]) ∧ Below w.heap.size w w' := by
  have h1 : wrap64 (wrap64 (2 * u) - s.x) = 2 * u - s.x := by have := hs.x1; have := hs.x2; unfold wrap64; omega
  have h2 := sgn_mul soft hs
  obtain ⟨g, hg⟩ : ∃ g, (if soft then -s.g else s.g) = g := ⟨_, rfl⟩
  obtain ⟨q, hq⟩ : ∃ q, sgn soft = q := ⟨_, rfl⟩
  have em : mir u soft s = ⟨2 * u - s.x, s.y, g, s.p⟩ := by unfold mir; rw [hg]
  have EM := hide em
  rw [EM.out]
  rw [hg, hq] at h2
  rw [hq] at ky
  clear hs hu hg hq em
  go_enter Tryz.func116, Tryz.ntmps116
  go_upto_region 1 with (fail)
  obtain ⟨w1, e1, hb1, hz1, k0, k1⟩ := box2 w #[.int .i64 s.x, .int .i64 s.y, .int .i64 s.g, .int .i64 s.p] #[.int .i64 0, .int .i64 0, .int .i64 0, .int .i64 0] 60 60
  rw [← e1]; clear e1
  have c0 := k0.cell
  have c1 := k1.cell
  have f1 := k1.frozen
  have cx := (carryK kx hb1).cell
  have cy := (carryK ky hb1).cell
  go_wp2_with fail
  with_reducible refine fins4 60 hb1 (Nat.le_succ w.heap.size) k1 (fun X hX kX => ?_)
  have cX := kX.cell
  refine bodyPost_ret (v := .agg #[.int .i64 (2 * u - s.x), .int .i64 s.y, .int .i64 g, .int .i64 s.p]) (by simp [results, Tryz.results116, go_sem, cX]) rfl ?_
  exact ⟨rfl, hX⟩
/-- The error of sources and a wall. -/
def miE (l : List Src) (u : Int) : Int := fnz [lstErr l, rng u (-100) 100]
theorem miE_ok {l : List Src} {u : Int} (h : miE l u = 0) : LOk l ∧ (-100 ≤ u ∧ u ≤ 100) := by
  unfold miE at h
  rw [fnz_zero] at h
  exact ⟨lst_ok (h _ (by simp)), rng_zero.1 (h _ (by simp))⟩
def mirL (l : List Src) (u : Int) (soft : Bool) : List Src := l ++ l.map (mir u soft)
/-- What Mirror returns. -/
def miO (l : List Src) (u : Int) (soft : Bool) : List Src × Int := if miE l u = 0 then (vld (mirL l u soft), lstErr (mirL l u soft)) else ([], miE l u)
theorem enters_mirror1 : ∀ a p q W, Sem.run Tryz.prog (callFunc 116 #[a, p, q]) W = .ok (.enter 116 #[a, p, q]) W := fun _ _ _ _ => by kernel_rfl
set_option maxHeartbeats 2000000 in
theorem Mirror_any (A : Option Addr) (m c : Nat) (l : List Src) (u : Int) (soft : Bool) (w : World) (hR : Reads w w.heap.size 4 A m (srcs l)) (hm : m ≤ 40000) :
    Calls Tryz.prog 66 #[.slice A m c, .int .i64 u, .bool soft] w fun e w' => OutS w (miO l u soft).1 (miO l u soft).2 e w' := by
  unfold miO
  by_cases h0 : miE l u = 0
  · obtain ⟨hok, hx⟩ := miE_ok h0
    rw [if_pos h0]
    have t0 : (fnz [lstErr l, rng u (-100) 100] != 0) = false := by rw [show fnz [lstErr l, rng u (-100) 100] = 0 from h0]; rfl
    have HO := hide hok
    have HX := hide hx
    clear h0 hok hx
    cases soft
    ·
      go_enter Tryz.func66, Tryz.ntmps66
      go_upto_region 1 with (fail)
      obtain ⟨w1, e1, hb1, hz1, kx⟩ := box1 w #[.int .i64 u] 3
      rw [← e1]; clear e1
      have hR1 := carry hR hb1
      have cx := over_blk kx kx.lt
      refine wp_region_part 4 w1.heap.size (by kernel_rfl) (by kernel_rfl) ?_; simp only [List.take_succ_cons, List.take_zero, List.drop_succ_cons, List.drop_zero]; (repeat (first | go_big_quiet_step (first | (go_at_call 62; exact over_call (Nat.le_refl _) (CheckSources_any A m c l _ (carry hR1 (over_below _ _ _)) (by omega))) | (go_at_call 90; exact over_same (checkPlace_any u _))) | quiet_step (first | (go_at_call 62; exact over_call (Nat.le_refl _) (CheckSources_any A m c l _ (carry hR1 (over_below _ _ _)) (by omega))) | (go_at_call 90; exact over_same (checkPlace_any u _))))); refine wpQuiet_nil ?_; rintro W ⟨x, rfl⟩
      have hbY := over_below w1.heap.size w1 x
      generalize over w1.heap.size w1 x = Y at hbY ⊢
      clear cx
      go_upto_region 4 with ((go_at_call 86; (first | (with_reducible (refine (first_any _ _ _ _ _ _ (reads2 _ _ _ _) (by omega)).mono ?_)) | (with_reducible (refine (first_any _ _ _ _ _ _ (Reads.drew (reads2 _ _ _ _)) (by omega)).mono ?_))); rintro e W' ⟨rfl, rfl⟩))
      obtain ⟨w3, e3⟩ : ∃ w3, w3 = Y.alloc (.cells #[.int .i64 (lstErr l), .int .i64 (rng u (-100) 100)] 27) := ⟨_, rfl⟩
      have hb3 : Below Y.heap.size Y w3 := by rw [e3]; exact (Below.refl _ _).alloc (Nat.le_refl _) _
      rw [← e3]; clear e3
      go_wp2_with fail
      obtain ⟨w4, e4, hb4, hz4, ks⟩ := box1 w3 #[.int .i64 1] 3
      rw [← e4]; clear e4
      have kx4 := carryK (w' := w4) kx (by repeat (first | with_reducible assumption | exact Below.refl _ _ | refine below_next (by with_reducible assumption) ?_))
      refine (mapS2 (.pointer (some ⟨w.heap.size, 0, none⟩)) (.pointer (some ⟨w3.heap.size, 0, none⟩)) 116 (mir u false) (fun a W => enters_mirror1 _ _ _ _) A m c l _ (carry hR (by repeat (first | with_reducible assumption | exact Below.refl _ _ | refine below_next (by with_reducible assumption) ?_))) (by omega) (fun s W hs hW => mirror1_any s u false _ _ W (HO.out.all s hs) HX.out (carryK kx4 hW) (carryK ks hW))).mono ?_
      rintro e w5 ⟨A5, c5, rfl, hR5, hb5⟩
      have hb05 : Below w.heap.size w w5 := (by repeat (first | with_reducible assumption | exact Below.refl _ _ | refine below_next (by with_reducible assumption) ?_))
      go_wp2_with fail
      obtain ⟨w6, e6, hb6, hz6, kL⟩ := box1 w5 #[.slice A m c, .slice A5 m c5] 26
      rw [← e6]; clear e6
      refine (concat_any A m c l A5 m c5 (l.map (mir u false)) w5.heap.size w6 kL (carry hR (by repeat (first | with_reducible assumption | exact Below.refl _ _ | refine below_next (by with_reducible assumption) ?_))) (carry hR5 (by repeat (first | with_reducible assumption | exact Below.refl _ _ | refine below_next (by with_reducible assumption) ?_))) (by omega) (by omega)).mono ?_
      rintro e w7 ⟨v7, rfl, ho7, hb7⟩
      obtain ⟨A7, c7, rfl, hR7⟩ := own_slice ho7
      go_wp2_with fail
      refine (valid_any A7 (m + m) c7 _ _ hR7 (by omega)).mono ?_
      rintro e w8 ⟨A8, n8, c8, rfl, hR8, hb8⟩
      go_wp2_with fail
      go_ret2
      exact ⟨A8, n8, c8, rfl, hR8, (by repeat (first | with_reducible assumption | exact Below.refl _ _ | refine below_next (by with_reducible assumption) ?_))⟩
    ·
      go_enter Tryz.func66, Tryz.ntmps66
      go_upto_region 1 with (fail)
      obtain ⟨w1, e1, hb1, hz1, kx⟩ := box1 w #[.int .i64 u] 3
      rw [← e1]; clear e1
      have hR1 := carry hR hb1
      have cx := over_blk kx kx.lt
      refine wp_region_part 4 w1.heap.size (by kernel_rfl) (by kernel_rfl) ?_; simp only [List.take_succ_cons, List.take_zero, List.drop_succ_cons, List.drop_zero]; (repeat (first | go_big_quiet_step (first | (go_at_call 62; exact over_call (Nat.le_refl _) (CheckSources_any A m c l _ (carry hR1 (over_below _ _ _)) (by omega))) | (go_at_call 90; exact over_same (checkPlace_any u _))) | quiet_step (first | (go_at_call 62; exact over_call (Nat.le_refl _) (CheckSources_any A m c l _ (carry hR1 (over_below _ _ _)) (by omega))) | (go_at_call 90; exact over_same (checkPlace_any u _))))); refine wpQuiet_nil ?_; rintro W ⟨x, rfl⟩
      have hbY := over_below w1.heap.size w1 x
      generalize over w1.heap.size w1 x = Y at hbY ⊢
      clear cx
      go_upto_region 4 with ((go_at_call 86; (first | (with_reducible (refine (first_any _ _ _ _ _ _ (reads2 _ _ _ _) (by omega)).mono ?_)) | (with_reducible (refine (first_any _ _ _ _ _ _ (Reads.drew (reads2 _ _ _ _)) (by omega)).mono ?_))); rintro e W' ⟨rfl, rfl⟩))
      obtain ⟨w3, e3⟩ : ∃ w3, w3 = Y.alloc (.cells #[.int .i64 (lstErr l), .int .i64 (rng u (-100) 100)] 27) := ⟨_, rfl⟩
      have hb3 : Below Y.heap.size Y w3 := by rw [e3]; exact (Below.refl _ _).alloc (Nat.le_refl _) _
      rw [← e3]; clear e3
      go_wp2_with fail
      obtain ⟨w4, e4, hb4, hz4, ks⟩ := box1 w3 #[.int .i64 (-1)] 3
      rw [← e4]; clear e4
      have kx4 := carryK (w' := w4) kx (by repeat (first | with_reducible assumption | exact Below.refl _ _ | refine below_next (by with_reducible assumption) ?_))
      refine (mapS2 (.pointer (some ⟨w.heap.size, 0, none⟩)) (.pointer (some ⟨w3.heap.size, 0, none⟩)) 116 (mir u true) (fun a W => enters_mirror1 _ _ _ _) A m c l _ (carry hR (by repeat (first | with_reducible assumption | exact Below.refl _ _ | refine below_next (by with_reducible assumption) ?_))) (by omega) (fun s W hs hW => mirror1_any s u true _ _ W (HO.out.all s hs) HX.out (carryK kx4 hW) (carryK ks hW))).mono ?_
      rintro e w5 ⟨A5, c5, rfl, hR5, hb5⟩
      have hb05 : Below w.heap.size w w5 := (by repeat (first | with_reducible assumption | exact Below.refl _ _ | refine below_next (by with_reducible assumption) ?_))
      go_wp2_with fail
      obtain ⟨w6, e6, hb6, hz6, kL⟩ := box1 w5 #[.slice A m c, .slice A5 m c5] 26
      rw [← e6]; clear e6
      refine (concat_any A m c l A5 m c5 (l.map (mir u true)) w5.heap.size w6 kL (carry hR (by repeat (first | with_reducible assumption | exact Below.refl _ _ | refine below_next (by with_reducible assumption) ?_))) (carry hR5 (by repeat (first | with_reducible assumption | exact Below.refl _ _ | refine below_next (by with_reducible assumption) ?_))) (by omega) (by omega)).mono ?_
      rintro e w7 ⟨v7, rfl, ho7, hb7⟩
      obtain ⟨A7, c7, rfl, hR7⟩ := own_slice ho7
      go_wp2_with fail
      refine (valid_any A7 (m + m) c7 _ _ hR7 (by omega)).mono ?_
      rintro e w8 ⟨A8, n8, c8, rfl, hR8, hb8⟩
      go_wp2_with fail
      go_ret2
      exact ⟨A8, n8, c8, rfl, hR8, (by repeat (first | with_reducible assumption | exact Below.refl _ _ | refine below_next (by with_reducible assumption) ?_))⟩
  · rw [if_neg h0]
    have t0 : (fnz [lstErr l, rng u (-100) 100] != 0) = true := by simpa using (show ¬ fnz [lstErr l, rng u (-100) 100] = 0 from h0)
    clear h0
    go_enter Tryz.func66, Tryz.ntmps66
    go_upto_region 1 with (fail)
    obtain ⟨w1, e1, hb1, hz1, kx⟩ := box1 w #[.int .i64 u] 3
    rw [← e1]; clear e1
    have hR1 := carry hR hb1
    have cx := over_blk kx kx.lt
    refine wp_region_part 4 w1.heap.size (by kernel_rfl) (by kernel_rfl) ?_; simp only [List.take_succ_cons, List.take_zero, List.drop_succ_cons, List.drop_zero]; (repeat (first | go_big_quiet_step (first | (go_at_call 62; exact over_call (Nat.le_refl _) (CheckSources_any A m c l _ (carry hR1 (over_below _ _ _)) (by omega))) | (go_at_call 90; exact over_same (checkPlace_any u _))) | quiet_step (first | (go_at_call 62; exact over_call (Nat.le_refl _) (CheckSources_any A m c l _ (carry hR1 (over_below _ _ _)) (by omega))) | (go_at_call 90; exact over_same (checkPlace_any u _))))); refine wpQuiet_nil ?_; rintro W ⟨x, rfl⟩
    have hbY := over_below w1.heap.size w1 x
    generalize over w1.heap.size w1 x = Y at hbY ⊢
    clear cx
    go_wp2_with ((go_at_call 86; (first | (with_reducible (refine (first_any _ _ _ _ _ _ (reads2 _ _ _ _) (by omega)).mono ?_)) | (with_reducible (refine (first_any _ _ _ _ _ _ (Reads.drew (reads2 _ _ _ _)) (by omega)).mono ?_))); rintro e W' ⟨rfl, rfl⟩))
    obtain ⟨w3, e3⟩ : ∃ w3, w3 = Y.alloc (.cells #[.int .i64 (lstErr l), .int .i64 (rng u (-100) 100)] 27) := ⟨_, rfl⟩
    have hb3 : Below Y.heap.size Y w3 := by rw [e3]; exact (Below.refl _ _).alloc (Nat.le_refl _) _
    rw [← e3]; clear e3
    go_ret2
    exact OutS.none_ (by repeat (first | with_reducible assumption | exact Below.refl _ _ | refine below_next (by with_reducible assumption) ?_))
end Go.Proofs.YtcihiglpahhboaaGreatDoor
