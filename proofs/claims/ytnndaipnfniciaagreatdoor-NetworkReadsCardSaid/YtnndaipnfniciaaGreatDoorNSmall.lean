/- checkSmall, Determinant, Product of the program. -/
import Derived.Test.YtnndaipnfniciaaGreatDoorBaseV
import Derived.Test.YtnndaipnfniciaaGreatDoorBaseQ
namespace Go.Proofs.YtnndaipnfniciaaGreatDoor
open Go.RowKit Go.Shelf
set_option maxRecDepth 100000
/-- The error of complex integers that are arguments. -/
def smE (z : G) : Int := fnz [rng z.re (-30000) 30000, rng z.im (-30000) 30000]
def smErr (l : List G) : Int := fnz (l.map smE)
set_option maxHeartbeats 2000000 in
theorem checkSmall_any (l : List G) (A : Option Addr) (n c : Nat) (w : World) (hR : Reads w w.heap.size 2 A n (gs l)) (hn : n ≤ 1000000) :
    Calls Tryz.prog 83 #[.slice A n c] w fun e w' => e = .returned (.int .i64 (smErr l)) ∧ Below w.heap.size w w' := by
  have HL := hide (gs_reads_len hR)
  go_enter Tryz.func83, Tryz.ntmps83
  go_wp2_with fail
  go_loopw [8] (fun i wr => ∃ k : Nat, k ≤ n ∧ i = .int .i64 k ∧ (∀ z ∈ l.take k, smE z = 0) ∧ Below w.heap.size w wr) (fun i _ => n - (intOf i).toNat)
  case atStart => exact ⟨0, by omega, rfl, by simp, Below.refl _ _⟩
  case round =>
    rename World => wo
    obtain ⟨k, hk, rfl, hz, hbo⟩ := hrel
    have HZ := hide hz
    clear hz
    by_cases hlt : k < n
    · obtain ⟨ad, z, rfl, _, hzk, hcz⟩ := gs_hit (carry hR hbo) hlt (Nat.le_refl _)
      have HK := hide hzk
      obtain ⟨q0, q1⟩ := hcz wo (Below.refl _ _)
      clear hzk hcz
      go_upto_region 4 with (fail)
      obtain ⟨w4, e4, hb4, hz4, k4⟩ := box1 wo #[.int .i64 z.re, .int .i64 z.im] 23
      rw [← e4]; clear e4 q0 q1
      have c0 := over_blk k4 k4.lt
      refine wp_region_part 6 w4.heap.size (by kernel_rfl) (by kernel_rfl) ?_; simp only [List.take_succ_cons, List.take_zero, List.drop_succ_cons, List.drop_zero]; (repeat (first | go_big_quiet_step ((go_at_call 113; exact over_same (within_any _ _ _ _))) | quiet_step ((go_at_call 113; exact over_same (within_any _ _ _ _))))); refine wpQuiet_nil ?_; rintro W ⟨x, rfl⟩
      have hbY := over_below w4.heap.size w4 x
      generalize over w4.heap.size w4 x = Y at hbY ⊢
      go_upto_region 5 with ((go_at_call 82; (first | (with_reducible (refine (first_any _ _ _ _ _ _ (reads2 _ _ _ _) (by omega)).mono ?_)) | (with_reducible (refine (first_any _ _ _ _ _ _ (Reads.drew (reads2 _ _ _ _)) (by omega)).mono ?_))); rintro e W' ⟨rfl, rfl⟩))
      obtain ⟨w5, e5, hb5, hz5, k5⟩ := box1 Y #[.int .i64 (rng z.re (-30000) 30000), .int .i64 (rng z.im (-30000) 30000)] 29
      rw [← e5]; clear e5 k5 c0
      have hbz := below_next hbo (below_next (below_next hb4 hbY) hb5)
      by_cases h0 : smE z = 0
      · have H0 := hide h0
        have t0 : (fnz [rng z.re (-30000) 30000, rng z.im (-30000) 30000] != 0) = false := by rw [show fnz [rng z.re (-30000) 30000, rng z.im (-30000) 30000] = 0 from h0]; rfl
        clear h0
        go_wp2_with fail
        go_roundw
        case rel =>
          refine ⟨k + 1, by omega, by go_num, fun y hy => ?_, hbz⟩
          rw [List.take_add_one, HK.out] at hy
          simp at hy
          rcases hy with hy | rfl
          · exact HZ.out y hy
          · exact H0.out
        case measure => simp [intOf]; omega
      · have t0 : (smE z != 0) = true := by simpa using h0
        have hh : smErr l = smE z := fnz_hit (k := k) (by rw [List.getElem?_map, HK.out]; rfl) (fun e he => by
          rw [← List.map_take] at he
          obtain ⟨y, hy, rfl⟩ := List.mem_map.1 he
          exact HZ.out y hy) t0
        have HH := hide hh
        have t1 : (fnz [rng z.re (-30000) 30000, rng z.im (-30000) 30000] != 0) = true := t0
        clear h0 hh t0
        go_wp2_with fail
        go_ret
        exact ⟨by rw [HH.out]; rfl, hbz⟩
    · have hh : smErr l = 0 := by
        unfold smErr
        rw [fnz_zero]
        intro e he
        obtain ⟨y, hy, rfl⟩ := List.mem_map.1 he
        exact HZ.out y (by rw [List.take_of_length_le (by rw [HL.out]; omega)]; exact hy)
      have HH := hide hh
      clear hh
      go_wp2_with fail
      go_ret
      exact ⟨by rw [HH.out]; rfl, hbo⟩
end Go.Proofs.YtnndaipnfniciaaGreatDoor
