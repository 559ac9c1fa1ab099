/- Steer of the program. -/
import Derived.Test.YtcihiglpahhboaaGreatDoorBaseM
import Derived.Test.YtcihiglpahhboaaGreatDoorALev
namespace Go.Proofs.YtcihiglpahhboaaGreatDoor
open Go.RowKit
set_option maxRecDepth 100000
set_option maxHeartbeats 2000000 in
theorem steer1_any (s : Src) (d : Nat) (hd : d < 8) (B : Nat) (w : World) (hs : s.Ok) (hV : Vr w) (kd : Blk w B 3 #[.int .i64 (d : Int)]) :
    Calls Tryz.prog 99 #[.agg #[.int .i64 s.x, .int .i64 s.y, .int .i64 s.g, .int .i64 s.p], .pointer (some ⟨B, 0, none⟩)] w fun e w' => e = .returned (.agg #[.int .i64 (str d s).x, .int .i64 (str d s).y, .int .i64 (str d s).g, .int .i64 (str d s).p]) ∧ Below w.heap.size w w' := by
  have hp := pth_in hs d
  have h1 : wrap64 (-pth s d) = -pth s d := by unfold wrap64; omega
  obtain ⟨q, hq⟩ : ∃ q, (-pth s d) % 4 = q := ⟨_, rfl⟩
  have HS := hide hs
  have HQ := hide hq
  have h2 : wrap64 (q + 2) = q + 2 := by unfold wrap64; omega
  clear hp hq hs
  by_cases hg : s.g < 0
  · have es : str d s = ⟨s.x, s.y, s.g, (q + 2) % 4⟩ := by unfold str; rw [if_pos hg, HQ.out]
    have ES := hide es
    rw [ES.out]
    clear es
    go_enter Tryz.func99, Tryz.ntmps99
    go_upto_region 1 with (fail)
    obtain ⟨w1, e1, hb1, hz1, k0, k1⟩ := box2 w #[.int .i64 s.x, .int .i64 s.y, .int .i64 s.g, .int .i64 s.p] #[.int .i64 0, .int .i64 0, .int .i64 0, .int .i64 0] 60 60
    rw [← e1]; clear e1
    have c0 := k0.cell
    have cd := (carryK kd hb1).cell
    go_wp2_with fail
    refine (path_any s d hd HS.out _ (hV.carry hb1)).mono ?_
    rintro e w2 ⟨rfl, hb2⟩
    have k02 := carryK k0 hb2
    have k12 := carryK k1 hb2
    have c02 := k02.cell
    have f02 := k02.frozen
    clear c0 cd
    have hbw2 : Below w.heap.size w w2 := (by repeat (first | with_reducible assumption | exact Below.refl _ _ | refine below_next (by with_reducible assumption) ?_))
    go_upto_region 2 with (go_at_call 87; refine (modulo_any _ _).mono ?_; rintro e W' ⟨rfl, rfl⟩; rw [HQ.out])
    have kA : Blk (w2.setCell ⟨w.heap.size, 3, none⟩ (.int .i64 q)) w.heap.size 60 #[.int .i64 s.x, .int .i64 s.y, .int .i64 s.g, .int .i64 q] := by simpa using k02.set_ 3 (.int .i64 q)
    have kB : Blk (w2.setCell ⟨w.heap.size, 3, none⟩ (.int .i64 q)) (w.heap.size + 1) 60 #[.int .i64 0, .int .i64 0, .int .i64 0, .int .i64 0] := k12.far (p := ⟨w.heap.size, 3, none⟩) (by simp) _
    have hbA := below_set hbw2 (Nat.le_refl w.heap.size) (i := 3) (.int .i64 q)
    generalize w2.setCell ⟨w.heap.size, 3, none⟩ (.int .i64 q) = w3 at kA kB hbA ⊢
    clear c02 f02
    have cA := kA.cell
    have fA := kA.frozen
    go_upto_region 4 with (go_at_call 87; refine (modulo_any _ _).mono ?_; rintro e W' ⟨rfl, rfl⟩)
    have kC : Blk (w3.setCell ⟨w.heap.size, 3, none⟩ (.int .i64 ((q + 2) % 4))) w.heap.size 60 #[.int .i64 s.x, .int .i64 s.y, .int .i64 s.g, .int .i64 ((q + 2) % 4)] := by simpa using kA.set_ 3 (.int .i64 ((q + 2) % 4))
    have kD : Blk (w3.setCell ⟨w.heap.size, 3, none⟩ (.int .i64 ((q + 2) % 4))) (w.heap.size + 1) 60 #[.int .i64 0, .int .i64 0, .int .i64 0, .int .i64 0] := kB.far (p := ⟨w.heap.size, 3, none⟩) (by simp) _
    have hbC := below_set hbA (Nat.le_refl w.heap.size) (i := 3) (.int .i64 ((q + 2) % 4))
    generalize w3.setCell ⟨w.heap.size, 3, none⟩ (.int .i64 ((q + 2) % 4)) = w4 at kC kD hbC ⊢
    clear cA fA
    have cC := kC.cell
    have cD := kD.cell
    have fD := kD.frozen
    go_wp2_with fail
    with_reducible refine fins4 60 hbC (Nat.le_succ w.heap.size) kD (fun X hX kX => ?_)
    have cX := kX.cell
    refine bodyPost_ret (v := .agg #[.int .i64 s.x, .int .i64 s.y, .int .i64 s.g, .int .i64 ((q + 2) % 4)]) (by simp [results, Tryz.results99, go_sem, cX]) rfl ?_
    exact ⟨rfl, hX⟩
  · have es : str d s = ⟨s.x, s.y, s.g, q⟩ := by unfold str; rw [if_neg hg, HQ.out]
    have ES := hide es
    rw [ES.out]
    clear es
    go_enter Tryz.func99, Tryz.ntmps99
    go_upto_region 1 with (fail)
    obtain ⟨w1, e1, hb1, hz1, k0, k1⟩ := box2 w #[.int .i64 s.x, .int .i64 s.y, .int .i64 s.g, .int .i64 s.p] #[.int .i64 0, .int .i64 0, .int .i64 0, .int .i64 0] 60 60
    rw [← e1]; clear e1
    have c0 := k0.cell
    have cd := (carryK kd hb1).cell
    go_wp2_with fail
    refine (path_any s d hd HS.out _ (hV.carry hb1)).mono ?_
    rintro e w2 ⟨rfl, hb2⟩
    have k02 := carryK k0 hb2
    have k12 := carryK k1 hb2
    have c02 := k02.cell
    have f02 := k02.frozen
    clear c0 cd
    have hbw2 : Below w.heap.size w w2 := (by repeat (first | with_reducible assumption | exact Below.refl _ _ | refine below_next (by with_reducible assumption) ?_))
    go_upto_region 2 with (go_at_call 87; refine (modulo_any _ _).mono ?_; rintro e W' ⟨rfl, rfl⟩; rw [HQ.out])
    have kA : Blk (w2.setCell ⟨w.heap.size, 3, none⟩ (.int .i64 q)) w.heap.size 60 #[.int .i64 s.x, .int .i64 s.y, .int .i64 s.g, .int .i64 q] := by simpa using k02.set_ 3 (.int .i64 q)
    have kB : Blk (w2.setCell ⟨w.heap.size, 3, none⟩ (.int .i64 q)) (w.heap.size + 1) 60 #[.int .i64 0, .int .i64 0, .int .i64 0, .int .i64 0] := k12.far (p := ⟨w.heap.size, 3, none⟩) (by simp) _
    have hbA := below_set hbw2 (Nat.le_refl w.heap.size) (i := 3) (.int .i64 q)
    generalize w2.setCell ⟨w.heap.size, 3, none⟩ (.int .i64 q) = w3 at kA kB hbA ⊢
    clear c02 f02
    have cA := kA.cell
    have cB := kB.cell
    have fB := kB.frozen
    go_wp2_with fail
    with_reducible refine fins4 60 hbA (Nat.le_succ w.heap.size) kB (fun X hX kX => ?_)
    have cX := kX.cell
    refine bodyPost_ret (v := .agg #[.int .i64 s.x, .int .i64 s.y, .int .i64 s.g, .int .i64 q]) (by simp [results, Tryz.results99, go_sem, cX]) rfl ?_
    exact ⟨rfl, hX⟩
/-- What Steer returns. -/
def stO (l : List Src) (d : Int) : List Src := if prE l d = 0 then l.map (str d.toNat) else []
theorem enters_steer1 : ∀ a p W, Sem.run Tryz.prog (callFunc 99 #[a, p]) W = .ok (.enter 99 #[a, p]) W := fun _ _ _ => by kernel_rfl
set_option maxHeartbeats 2000000 in
theorem Steer_any (A : Option Addr) (m c : Nat) (l : List Src) (d : Int) (w : World) (hR : Reads w w.heap.size 4 A m (srcs l)) (hV : Vr w) (hm : m ≤ 1000000) :
    Calls Tryz.prog 38 #[.slice A m c, .int .i64 d] w fun e w' => OutS w (stO l d) (prE l d) e w' := by
  unfold stO
  by_cases h0 : prE l d = 0
  · obtain ⟨hok, k, hk, rfl⟩ := prE_ok h0
    rw [if_pos h0, h0]
    have t0 : (fnz [lstErr l, rng (k : Int) 0 7] != 0) = false := by rw [show fnz [lstErr l, rng (k : Int) 0 7] = 0 from h0]; rfl
    have HO := hide hok
    clear h0 hok
    go_enter Tryz.func38, Tryz.ntmps38
    go_upto_region 1 with (fail)
    obtain ⟨w1, e1, hb1, hz1, kx⟩ := box1 w #[.int .i64 ((k : Int))] 3
    rw [← e1]; clear e1
    have hR1 := carry hR hb1
    have cx := over_blk kx kx.lt
    refine wp_region_part 4 w1.heap.size (by kernel_rfl) (by kernel_rfl) ?_; simp only [List.take_succ_cons, List.take_zero, List.drop_succ_cons, List.drop_zero]; (repeat (first | go_big_quiet_step (first | (go_at_call 62; exact over_call (Nat.le_refl _) (CheckSources_any A m c l _ (carry hR1 (over_below _ _ _)) (by omega))) | (go_at_call 97; exact over_same (checkDirection_any _ _))) | quiet_step (first | (go_at_call 62; exact over_call (Nat.le_refl _) (CheckSources_any A m c l _ (carry hR1 (over_below _ _ _)) (by omega))) | (go_at_call 97; exact over_same (checkDirection_any _ _))))); refine wpQuiet_nil ?_; rintro W ⟨x, rfl⟩
    have hbY := over_below w1.heap.size w1 x
    generalize over w1.heap.size w1 x = Y at hbY ⊢
    clear cx
    go_wp2_with ((go_at_call 86; (first | (with_reducible (refine (first_any _ _ _ _ _ _ (reads2 _ _ _ _) (by omega)).mono ?_)) | (with_reducible (refine (first_any _ _ _ _ _ _ (Reads.drew (reads2 _ _ _ _)) (by omega)).mono ?_))); rintro e W' ⟨rfl, rfl⟩))
    obtain ⟨w3, e3⟩ : ∃ w3, w3 = Y.alloc (.cells #[.int .i64 (lstErr l), .int .i64 (rng ((k : Int)) 0 7)] 27) := ⟨_, rfl⟩
    have hb3 : Below Y.heap.size Y w3 := by rw [e3]; exact (Below.refl _ _).alloc (Nat.le_refl _) _
    rw [← e3]; clear e3
    have kx3 := carryK (w' := w3) kx (by repeat (first | with_reducible assumption | exact Below.refl _ _ | refine below_next (by with_reducible assumption) ?_))
    have hV3 := hV.carry (show Below w.heap.size w w3 from (by repeat (first | with_reducible assumption | exact Below.refl _ _ | refine below_next (by with_reducible assumption) ?_)))
    refine (mapS1 (.pointer (some ⟨w.heap.size, 0, none⟩)) 99 (str k) (fun a W => enters_steer1 _ _ _) A m c l _ (carry hR (by repeat (first | with_reducible assumption | exact Below.refl _ _ | refine below_next (by with_reducible assumption) ?_))) (by omega) (fun s W hs hW => steer1_any s k hk _ W (HO.out.all s hs) (hV3.carry hW) (carryK kx3 hW))).mono ?_
    rintro e w4 ⟨A4, c4, rfl, hR4, hb4⟩
    go_wp2_with fail
    go_ret2
    exact ⟨A4, m, c4, rfl, hR4, (by repeat (first | with_reducible assumption | exact Below.refl _ _ | refine below_next (by with_reducible assumption) ?_))⟩
  · rw [if_neg h0]
    have t0 : (fnz [lstErr l, rng d 0 7] != 0) = true := by simpa using (show ¬ fnz [lstErr l, rng d 0 7] = 0 from h0)
    clear h0
    go_enter Tryz.func38, Tryz.ntmps38
    go_upto_region 1 with (fail)
    obtain ⟨w1, e1, hb1, hz1, kx⟩ := box1 w #[.int .i64 (d)] 3
    rw [← e1]; clear e1
    have hR1 := carry hR hb1
    have cx := over_blk kx kx.lt
    refine wp_region_part 4 w1.heap.size (by kernel_rfl) (by kernel_rfl) ?_; simp only [List.take_succ_cons, List.take_zero, List.drop_succ_cons, List.drop_zero]; (repeat (first | go_big_quiet_step (first | (go_at_call 62; exact over_call (Nat.le_refl _) (CheckSources_any A m c l _ (carry hR1 (over_below _ _ _)) (by omega))) | (go_at_call 97; exact over_same (checkDirection_any _ _))) | quiet_step (first | (go_at_call 62; exact over_call (Nat.le_refl _) (CheckSources_any A m c l _ (carry hR1 (over_below _ _ _)) (by omega))) | (go_at_call 97; exact over_same (checkDirection_any _ _))))); refine wpQuiet_nil ?_; rintro W ⟨x, rfl⟩
    have hbY := over_below w1.heap.size w1 x
    generalize over w1.heap.size w1 x = Y at hbY ⊢
    clear cx
    go_wp2_with ((go_at_call 86; (first | (with_reducible (refine (first_any _ _ _ _ _ _ (reads2 _ _ _ _) (by omega)).mono ?_)) | (with_reducible (refine (first_any _ _ _ _ _ _ (Reads.drew (reads2 _ _ _ _)) (by omega)).mono ?_))); rintro e W' ⟨rfl, rfl⟩))
    obtain ⟨w3, e3⟩ : ∃ w3, w3 = Y.alloc (.cells #[.int .i64 (lstErr l), .int .i64 (rng (d) 0 7)] 27) := ⟨_, rfl⟩
    have hb3 : Below Y.heap.size Y w3 := by rw [e3]; exact (Below.refl _ _).alloc (Nat.le_refl _) _
    rw [← e3]; clear e3
    go_ret2
    exact OutS.none_ (by repeat (first | with_reducible assumption | exact Below.refl _ _ | refine below_next (by with_reducible assumption) ?_))
end Go.Proofs.YtcihiglpahhboaaGreatDoor
