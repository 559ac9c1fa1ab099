/- pattern, Pattern, Pressure, Level of the program. -/
import Derived.Test.YtcihiglpahhboaaGreatDoorBaseC
import Derived.Test.YtcihiglpahhboaaGreatDoorAPrs
namespace Go.Proofs.YtcihiglpahhboaaGreatDoor
open Go.RowKit Go.Shelf
set_option maxRecDepth 100000
def z16 : Array Value := #[.int .i64 0, .int .i64 0, .int .i64 0, .int .i64 0, .int .i64 0, .int .i64 0, .int .i64 0, .int .i64 0, .int .i64 0, .int .i64 0, .int .i64 0, .int .i64 0, .int .i64 0, .int .i64 0, .int .i64 0, .int .i64 0]
set_option maxHeartbeats 2000000 in
theorem pattern_any (A : Option Addr) (m c : Nat) (l : List Src) (w : World) (hok : LOk l) (hR : Reads w w.heap.size 4 A m (srcs l)) (hV : Vr w) :
    Calls Tryz.prog 96 #[.slice A m c] w fun e w' => e = .returned (.agg #[.int .i64 (prs l 0).re, .int .i64 (prs l 0).im, .int .i64 (prs l 1).re, .int .i64 (prs l 1).im, .int .i64 (prs l 2).re, .int .i64 (prs l 2).im, .int .i64 (prs l 3).re, .int .i64 (prs l 3).im, .int .i64 (prs l 4).re, .int .i64 (prs l 4).im, .int .i64 (prs l 5).re, .int .i64 (prs l 5).im, .int .i64 (prs l 6).re, .int .i64 (prs l 6).im, .int .i64 (prs l 7).re, .int .i64 (prs l 7).im]) ∧ Below w.heap.size w w' := by
  go_enter Tryz.func96, Tryz.ntmps96
  go_upto_region 2 with (fail)
  obtain ⟨w1, e1, hb1, hz1, k0, k1⟩ := box2 w #[.int .i64 0, .int .i64 0, .int .i64 0, .int .i64 0, .int .i64 0, .int .i64 0, .int .i64 0, .int .i64 0, .int .i64 0, .int .i64 0, .int .i64 0, .int .i64 0, .int .i64 0, .int .i64 0, .int .i64 0, .int .i64 0] #[.int .i64 0, .int .i64 0, .int .i64 0, .int .i64 0, .int .i64 0, .int .i64 0, .int .i64 0, .int .i64 0, .int .i64 0, .int .i64 0, .int .i64 0, .int .i64 0, .int .i64 0, .int .i64 0, .int .i64 0, .int .i64 0] 55 55
  rw [← e1]; clear e1
  go_wp2_with fail
  go_loopw [5] (fun i wr => ∃ k : Nat, k ≤ 8 ∧ i = .int .i64 k ∧ Blk wr w.heap.size 55 z16 ∧ Blk wr (w.heap.size + 1) 55 (pcs (prs l) k).toArray ∧ Below w.heap.size w wr) (fun i _ => 8 - (intOf i).toNat)
  case atStart => exact ⟨0, by omega, rfl, k0, k1, hb1⟩
  case round =>
    rename World => wo
    clear k0 k1 hb1
    obtain ⟨k, hk, rfl, k0, k1, hb⟩ := hrel
    by_cases hlt : k < 8
    · have hki : (k : Int) < 8 := by omega
      go_wp2_with fail
      refine (pressure_any A m c l k _ hlt hok (carry hR hb) (hV.carry hb)).mono ?_
      rintro e w2 ⟨rfl, hb2⟩
      have k0 := carryK k0 hb2
      have k1 := carryK k1 hb2
      have hbb := below_next hb hb2
      have hl1 := k1.lt
      have f1 := k1.frozen
      obtain ⟨v0, hv0⟩ : ∃ v, w2.cell? ⟨w.heap.size + 1, k * 2, none⟩ = some v := by rw [k1.cell, List.getElem?_toArray]; exact ⟨_, List.getElem?_eq_getElem (by rw [pcs_len]; omega)⟩
      obtain ⟨v1, hv1⟩ : ∃ v, w2.cell? ⟨w.heap.size + 1, k * 2 + 1, none⟩ = some v := by rw [k1.cell, List.getElem?_toArray]; exact ⟨_, List.getElem?_eq_getElem (by rw [pcs_len]; omega)⟩
      go_wp2_with fail
      go_roundw
      case rel => exact ⟨k + 1, by omega, by go_num, (k0.far (p := ⟨w.heap.size + 1, _, none⟩) (by show w.heap.size ≠ w.heap.size + 1; omega) _).far (p := ⟨w.heap.size + 1, _, none⟩) (by show w.heap.size ≠ w.heap.size + 1; omega) _, pcs_set hlt k1, below_set (below_set hbb (by omega) _) (by omega) _⟩
      case measure => simp [intOf]; omega
    · obtain rfl : k = 8 := by omega
      rw [pcs_all] at k1
      have k0 : Blk wo w.heap.size 55 #[.int .i64 0, .int .i64 0, .int .i64 0, .int .i64 0, .int .i64 0, .int .i64 0, .int .i64 0, .int .i64 0, .int .i64 0, .int .i64 0, .int .i64 0, .int .i64 0, .int .i64 0, .int .i64 0, .int .i64 0, .int .i64 0] := k0
      have c1 := k1.cell
      have c0 := k0.cell
      have f0 := k0.frozen
      go_wp2_with fail
      with_reducible refine fins16 55 hb (Nat.le_refl w.heap.size) k0 (fun X hX kX => ?_)
      have cX := kX.cell
      refine bodyPost_ret (v := .agg #[.int .i64 (prs l 0).re, .int .i64 (prs l 0).im, .int .i64 (prs l 1).re, .int .i64 (prs l 1).im, .int .i64 (prs l 2).re, .int .i64 (prs l 2).im, .int .i64 (prs l 3).re, .int .i64 (prs l 3).im, .int .i64 (prs l 4).re, .int .i64 (prs l 4).im, .int .i64 (prs l 5).re, .int .i64 (prs l 5).im, .int .i64 (prs l 6).re, .int .i64 (prs l 6).im, .int .i64 (prs l 7).re, .int .i64 (prs l 7).im]) (by simp [results, Tryz.results96, go_sem, cX]) rfl ?_
      exact ⟨rfl, hX⟩
end Go.Proofs.YtcihiglpahhboaaGreatDoor
