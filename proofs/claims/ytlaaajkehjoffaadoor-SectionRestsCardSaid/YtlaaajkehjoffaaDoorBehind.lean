/- behind, of the law's package. -/
import Derived.Test.YtlaaajkehjoffaaDoorPlain
import Derived.Test.YtlaaajkehjoffaaDoorChain
namespace Go.Proofs.YtlaaajkehjoffaaDoor
open Go.RowKit Go.Shelf
set_option maxRecDepth 100000

theorem behind_next {s : Sec} {x : St} {N k : Nat} (hk : k < N) {v : Int} (hv : (s.outs x (List.replicate N 0))[k]? = some v) : s.orb x (k + 1) = ⟨0, (s.orb x k).x1, v, (s.orb x k).y1⟩ := by
  rw [zeros_outs s x hk] at hv
  rw [← Option.some.inj hv]; rfl

set_option maxHeartbeats 1000000 in
theorem behind_any (s : Sec) (x : St) (A : Option Addr) (N c k : Nat) (i : Int) (w : World) (hi : i = k) (hk : k ≤ N) (hN : N ≤ 4096) (hR : Reads w w.heap.size 1 A N (ints (s.outs x (List.replicate N 0)))) :
    Calls Tryd.prog 47 #[.agg #[.int .i64 x.x1, .int .i64 x.x2, .int .i64 x.y1, .int .i64 x.y2], .slice A N c, .int .i64 i] w fun e w' => e = .returned (.agg #[.int .i64 (s.orb x k).x1, .int .i64 (s.orb x k).x2, .int .i64 (s.orb x k).y1, .int .i64 (s.orb x k).y2]) ∧ Below w.heap.size w w' := by
  subst hi
  go_enter Tryd.func47, Tryd.ntmps47
  go_wp2_with fail
  obtain ⟨w1, e1, hb1, hz1, k0, k1⟩ := box2 w #[.int .i64 x.x1, .int .i64 x.x2, .int .i64 x.y1, .int .i64 x.y2] #[.int .i64 0, .int .i64 0, .int .i64 0, .int .i64 0] 25 25
  rw [← e1]; clear e1
  go_loopw [9] (fun i wr => ∃ j : Nat, j ≤ k ∧ i = .int .i64 j ∧ Below w.heap.size w wr ∧ Blk wr w.heap.size 25 #[.int .i64 (s.orb x j).x1, .int .i64 (s.orb x j).x2, .int .i64 (s.orb x j).y1, .int .i64 (s.orb x j).y2] ∧ Blk wr (w.heap.size + 1) 25 #[.int .i64 0, .int .i64 0, .int .i64 0, .int .i64 0]) (fun i _ => k - (intOf i).toNat)
  case atStart => exact ⟨0, by omega, rfl, hb1, k0, k1⟩
  case round =>
    obtain ⟨j, hj, rfl, hbw, q0, q1⟩ := hrel
    clear k0 k1
    by_cases hlt : j < k
    · obtain ⟨ad, v, rfl, _, hv, hc⟩ := reads_at (carry hR hbw) (by omega : j < N)
      have hn := behind_next (show j < N by omega) hv
      have HN := hide hn; clear hn hv
      have c0 := q0.cell
      have f0 := q0.frozen
      have l0 := q0.lt
      have n1 : w.heap.size + 1 ≠ w.heap.size := by omega
      go_upto_region 4 with (fail)
      go_region
      all_goals (
        go_wp2
        go_roundw
        case rel =>
          refine ⟨j + 1, by omega, by go_num, ?_, ?_, ?_⟩
          · repeat (first | exact hbw | refine Below.drew ?_ | refine below_set ?_ (Nat.le_refl _) _)
          · rw [HN.out]; exact blk4 q0
          · exact far4 q1 (by omega)
        case measure => simp [intOf]; omega)
    · obtain rfl : j = k := by omega
      have c0 := q0.cell
      have f1 := q1.frozen
      have l1 := q1.lt
      have c1 := q1.cell
      go_wp2
      refine fin4 (B := w.heap.size) (v := w) 25 hbw (by omega) q1 (fun Z hZ kZ => ?_)
      have cZ := kZ.cell
      refine bodyPost_ret (v := .agg #[.int .i64 (s.orb x j).x1, .int .i64 (s.orb x j).x2, .int .i64 (s.orb x j).y1, .int .i64 (s.orb x j).y2]) (by simp [results, Tryd.results47, go_sem, cZ]) rfl ?_
      exact ⟨rfl, hZ⟩
end Go.Proofs.YtlaaajkehjoffaaDoor
