/- Pattern, Nulls of the program. -/
import Derived.Test.YtcihiglpahhboaaGreatDoorAPat2
namespace Go.Proofs.YtcihiglpahhboaaGreatDoor
open Go.RowKit Go.Shelf
set_option maxRecDepth 100000
/-- The pressures, or 0. -/
def ptV (l : List Src) (k : Nat) : G := if lstErr l = 0 then prs l k else .zero
theorem ptV_ok {l : List Src} (h : lstErr l = 0) : ptV l = prs l := by funext k; unfold ptV; rw [if_pos h]
theorem ptV_bad {l : List Src} (h : ¬ lstErr l = 0) : ptV l = fun _ => .zero := by funext k; unfold ptV; rw [if_neg h]
set_option maxHeartbeats 2000000 in
theorem Pattern_any (A : Option Addr) (m c : Nat) (l : List Src) (w : World) (hR : Reads w w.heap.size 4 A m (srcs l)) (hV : Vr w) (hm : m ≤ 1000000) :
    Calls Tryz.prog 34 #[.slice A m c] w fun e w' => e = .returned (.tuple #[.agg #[.int .i64 (ptV l 0).re, .int .i64 (ptV l 0).im, .int .i64 (ptV l 1).re, .int .i64 (ptV l 1).im, .int .i64 (ptV l 2).re, .int .i64 (ptV l 2).im, .int .i64 (ptV l 3).re, .int .i64 (ptV l 3).im, .int .i64 (ptV l 4).re, .int .i64 (ptV l 4).im, .int .i64 (ptV l 5).re, .int .i64 (ptV l 5).im, .int .i64 (ptV l 6).re, .int .i64 (ptV l 6).im, .int .i64 (ptV l 7).re, .int .i64 (ptV l 7).im], .int .i64 (lstErr l)]) ∧ Below w.heap.size w w' := by
  by_cases h0 : lstErr l = 0
  · have hok := lst_ok h0
    rw [ptV_ok h0, h0]
    have t0 : (lstErr l != 0) = false := by rw [h0]; rfl
    have HO := hide hok
    clear h0 hok
    go_enter Tryz.func34, Tryz.ntmps34
    go_upto_region 1 with (fail)
    obtain ⟨w1, e1, hb1, hz1, k0⟩ := box1 w #[.int .i64 0, .int .i64 0, .int .i64 0, .int .i64 0, .int .i64 0, .int .i64 0, .int .i64 0, .int .i64 0, .int .i64 0, .int .i64 0, .int .i64 0, .int .i64 0, .int .i64 0, .int .i64 0, .int .i64 0, .int .i64 0] 55
    rw [← e1]; clear e1
    go_wp2_with fail
    refine (CheckSources_any A m c l _ (carry hR hb1) (by omega)).mono ?_
    rintro e w2 ⟨rfl, hb2⟩
    go_wp2_with fail
    refine (pattern_any A m c l _ HO.out (carry hR (by repeat (first | with_reducible assumption | exact Below.refl _ _ | refine below_next (by with_reducible assumption) ?_))) (hV.carry (by repeat (first | with_reducible assumption | exact Below.refl _ _ | refine below_next (by with_reducible assumption) ?_)))).mono ?_
    rintro e w4 ⟨rfl, hb4⟩
    have k4 := carryK k0 (show Below w1.heap.size w1 w4 from (by repeat (first | with_reducible assumption | exact Below.refl _ _ | refine below_next (by with_reducible assumption) ?_)))
    have c4 := k4.cell
    have f4 := k4.frozen
    have hbw : Below w.heap.size w w4 := (by repeat (first | with_reducible assumption | exact Below.refl _ _ | refine below_next (by with_reducible assumption) ?_))
    go_wp2_with fail
    with_reducible refine fins16 55 hbw (Nat.le_refl w.heap.size) k4 (fun X hX kX => ?_)
    have cX := kX.cell
    clear c4 f4
    refine bodyPost_ret (v := .tuple #[.agg #[.int .i64 (prs l 0).re, .int .i64 (prs l 0).im, .int .i64 (prs l 1).re, .int .i64 (prs l 1).im, .int .i64 (prs l 2).re, .int .i64 (prs l 2).im, .int .i64 (prs l 3).re, .int .i64 (prs l 3).im, .int .i64 (prs l 4).re, .int .i64 (prs l 4).im, .int .i64 (prs l 5).re, .int .i64 (prs l 5).im, .int .i64 (prs l 6).re, .int .i64 (prs l 6).im, .int .i64 (prs l 7).re, .int .i64 (prs l 7).im], .int .i64 0]) (by simp [results, Tryz.results34, go_sem, cX]) rfl ?_
    exact ⟨rfl, hX⟩
  · rw [ptV_bad h0]
    have t0 : (lstErr l != 0) = true := by simpa using h0
    clear h0
    go_enter Tryz.func34, Tryz.ntmps34
    go_upto_region 1 with (fail)
    obtain ⟨w1, e1, hb1, hz1, k0⟩ := box1 w #[.int .i64 0, .int .i64 0, .int .i64 0, .int .i64 0, .int .i64 0, .int .i64 0, .int .i64 0, .int .i64 0, .int .i64 0, .int .i64 0, .int .i64 0, .int .i64 0, .int .i64 0, .int .i64 0, .int .i64 0, .int .i64 0] 55
    rw [← e1]; clear e1
    go_wp2_with fail
    refine (CheckSources_any A m c l _ (carry hR hb1) (by omega)).mono ?_
    rintro e w2 ⟨rfl, hb2⟩
    have k4 := carryK k0 hb2
    have c4 := k4.cell
    have f4 := k4.frozen
    have hbw : Below w.heap.size w w2 := (by repeat (first | with_reducible assumption | exact Below.refl _ _ | refine below_next (by with_reducible assumption) ?_))
    go_wp2_with fail
    with_reducible refine fins16 55 hbw (Nat.le_refl w.heap.size) k4 (fun X hX kX => ?_)
    have cX := kX.cell
    clear c4 f4
    refine bodyPost_ret (v := .tuple #[.agg #[.int .i64 ((fun _ => G.zero) 0).re, .int .i64 ((fun _ => G.zero) 0).im, .int .i64 ((fun _ => G.zero) 1).re, .int .i64 ((fun _ => G.zero) 1).im, .int .i64 ((fun _ => G.zero) 2).re, .int .i64 ((fun _ => G.zero) 2).im, .int .i64 ((fun _ => G.zero) 3).re, .int .i64 ((fun _ => G.zero) 3).im, .int .i64 ((fun _ => G.zero) 4).re, .int .i64 ((fun _ => G.zero) 4).im, .int .i64 ((fun _ => G.zero) 5).re, .int .i64 ((fun _ => G.zero) 5).im, .int .i64 ((fun _ => G.zero) 6).re, .int .i64 ((fun _ => G.zero) 6).im, .int .i64 ((fun _ => G.zero) 7).re, .int .i64 ((fun _ => G.zero) 7).im], .int .i64 (lstErr l)]) (by simp [results, Tryz.results34, go_sem, cX, G.zero]) rfl ?_
    exact ⟨rfl, hX⟩
end Go.Proofs.YtcihiglpahhboaaGreatDoor
