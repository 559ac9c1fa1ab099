/- Binomial of the program. -/
import Derived.Test.YtcihiglpahhboaaGreatDoorBaseM
namespace Go.Proofs.YtcihiglpahhboaaGreatDoor
open Go.RowKit
set_option maxRecDepth 100000
def bnE (n u v : Int) : Int := fnz [rng n 1 9, rng u (-100) 100, rng v (-100) 100]
theorem bnE_ok {n u v : Int} (h : bnE n u v = 0) : (∃ N : Nat, 1 ≤ N ∧ N ≤ 9 ∧ n = N) ∧ (-100 ≤ u ∧ u ≤ 100) ∧ (-100 ≤ v ∧ v ≤ 100) := by
  unfold bnE at h
  rw [fnz_zero] at h
  have h1 := rng_zero.1 (h (rng n 1 9) (by simp))
  exact ⟨⟨n.toNat, by omega, by omega, by omega⟩, rng_zero.1 (h _ (by simp)), rng_zero.1 (h _ (by simp))⟩
/-- What Binomial returns. -/
def bnO (n u v : Int) : List Src × Int := if bnE n u v = 0 then (vld (row n.toNat u v), lstErr (row n.toNat u v)) else ([], bnE n u v)
def rowK (n : Nat) (u v : Int) (k : Nat) : List Src := (List.range k).map fun (j : Nat) => ⟨(j : Int) * u, (j : Int) * v, bino (n - 1) j, 0⟩
theorem rowK_succ (n : Nat) (u v : Int) (k : Nat) : rowK n u v (k + 1) = rowK n u v k ++ [⟨(k : Int) * u, (k : Int) * v, bino (n - 1) k, 0⟩] := by simp [rowK, List.range_succ]
theorem bino_zero (n : Nat) : bino n 0 = 1 := by cases n <;> rfl
theorem gain_step : ∀ n, n < 10 → ∀ k, k < n → (bino (n - 1) k * ((n : Int) - 1 - k)).tdiv ((k : Int) + 1) = bino (n - 1) (k + 1) := by decide +kernel
theorem gain_in : ∀ n, n < 10 → ∀ k, k < 11 → 0 ≤ bino (n - 1) k ∧ bino (n - 1) k ≤ 70 := by decide +kernel
theorem k_mul {k : Nat} {u : Int} (hk : k < 10) (hu : -100 ≤ u ∧ u ≤ 100) : wrap64 ((k : Int) * u) = (k : Int) * u := mul_in (by omega) hu
set_option maxHeartbeats 2000000 in
theorem Binomial_any (n u v : Int) (w : World) :
    Calls Tryz.prog 21 #[.int .i64 n, .int .i64 u, .int .i64 v] w fun e w' => OutS w (bnO n u v).1 (bnO n u v).2 e w' := by
  unfold bnO
  by_cases h0 : bnE n u v = 0
  · obtain ⟨⟨N, hN1, hN9, rfl⟩, hu, hv⟩ := bnE_ok h0
    rw [if_pos h0]
    have t0 : (fnz [rng (N : Int) 1 9, rng u (-100) 100, rng v (-100) 100] != 0) = false := by rw [show fnz [rng (N : Int) 1 9, rng u (-100) 100, rng v (-100) 100] = 0 from h0]; rfl
    have eN : ((N : Int)).toNat = N := rfl
    rw [eN]
    have HU := hide hu
    have HV := hide hv
    clear h0 hu hv eN
    go_enter Tryz.func21, Tryz.ntmps21
    go_wp2_with (first | (go_at_call 89; refine (within_any _ _ _ _).mono ?_; rintro e w' ⟨rfl, rfl⟩) | (go_at_call 90; refine (checkPlace_any _ _).mono ?_; rintro e w' ⟨rfl, rfl⟩) | (go_at_call 86; (first | (with_reducible (refine (first_any _ _ _ _ _ _ (reads3 _ _ _ _ _) (by omega)).mono ?_)) | (with_reducible (refine (first_any _ _ _ _ _ _ (Reads.drew (reads3 _ _ _ _ _)) (by omega)).mono ?_))); rintro e W' ⟨rfl, rfl⟩))
    obtain ⟨w3, e3⟩ : ∃ w3, w3 = w.alloc (.cells #[.int .i64 (rng ((N : Int)) 1 9), .int .i64 (rng u (-100) 100), .int .i64 (rng v (-100) 100)] 27) := ⟨_, rfl⟩
    have hb3 : Below w.heap.size w w3 := by rw [e3]; exact (Below.refl _ _).alloc (Nat.le_refl _) _
    rw [← e3]; clear e3
    go_loopw [9, 10, 24] (fun s g i wr => ∃ k : Nat, k ≤ N ∧ i = .int .i64 k ∧ g = .int .i64 (bino (N - 1) k) ∧ wr.ownsRow w.heap.size 60 4 s k (srcs (rowK N u v k)) ∧ Below w.heap.size w wr) (fun _ _ i _ => N - (intOf i).toNat)
    case atStart => exact ⟨0, by omega, rfl, by rw [bino_zero], World.ownsRow_nil _ _ _ _, hb3⟩
    case round =>
      rename World => wo
      obtain ⟨k, hk, rfl, rfl, ho, hb⟩ := hrel
      by_cases hlt : k < N
      · have hg := gain_in N (by omega) k (by omega)
        have hstep := gain_step N (by omega) k hlt
        obtain ⟨g, eg⟩ : ∃ g, bino (N - 1) k = g := ⟨_, rfl⟩
        have EG := hide eg
        rw [eg] at hg hstep
        rw [EG.out]
        clear eg
        have v1 := k_mul (by omega : k < 10) HU.out
        have v2 := k_mul (by omega : k < 10) HV.out
        have A1 : k + 1 ≤ maxLen := by unfold maxLen; omega
        have A2 : (k + 1) * 32 ≤ 140737488355328 := by omega
        have hsz := hb.size
        have HST := hide hstep
        clear hstep
        go_wp2_with (at_builtin; refine wpList_push _ rfl (.tmp 27) (.tmp 36) _ rfl w.heap.size 60 _ 4 32 Tryz.underlying26 info_src rfl (by decide) _ k _ rfl (ho.alloc _) wo.heap.size (srcCells ⟨(k : Int) * u, (k : Int) * v, g, 0⟩) rfl rfl (src_new1 _ ⟨(k : Int) * u, (k : Int) * v, g, 0⟩ _) (one_src _) A1 A2 (le_alloc hsz _) ?_; intro v1 w4 ho4 hb4)
        have z1 : wrap64 (g * ((N : Int) - 1 - (k : Int))) = g * ((N : Int) - 1 - (k : Int)) := mul_in (by omega) (by omega)
        have hg2 := gain_in N (by omega) (k + 1) (by omega)
        have z2 : wrap64 (bino (N - 1) (k + 1)) = bino (N - 1) (k + 1) := by unfold wrap64; omega
        exact ⟨⟨k + 1, by omega, by go_num, by rw [z1, HST.out, z2], by rw [rowK_succ, srcs_snoc, EG.out]; exact ho4, (hb.alloc hsz _).trans hb4⟩, by simp [intOf]; omega⟩
      · obtain rfl : k = N := by omega
        obtain ⟨A7, c7, rfl, hR7⟩ := own_slice ho
        go_wp2_with fail
        refine (valid_any A7 k c7 (row k u v) _ hR7 (by omega)).mono ?_
        rintro e w5 ⟨A5, n5, c5, rfl, hR5, hb5⟩
        go_wp2_with fail
        go_ret2
        exact ⟨A5, n5, c5, rfl, hR5, below_next hb hb5⟩
  · rw [if_neg h0]
    have t0 : (fnz [rng n 1 9, rng u (-100) 100, rng v (-100) 100] != 0) = true := by simpa using (show ¬ fnz [rng n 1 9, rng u (-100) 100, rng v (-100) 100] = 0 from h0)
    clear h0
    go_enter Tryz.func21, Tryz.ntmps21
    go_wp2_with (first | (go_at_call 89; refine (within_any _ _ _ _).mono ?_; rintro e w' ⟨rfl, rfl⟩) | (go_at_call 90; refine (checkPlace_any _ _).mono ?_; rintro e w' ⟨rfl, rfl⟩) | (go_at_call 86; (first | (with_reducible (refine (first_any _ _ _ _ _ _ (reads3 _ _ _ _ _) (by omega)).mono ?_)) | (with_reducible (refine (first_any _ _ _ _ _ _ (Reads.drew (reads3 _ _ _ _ _)) (by omega)).mono ?_))); rintro e W' ⟨rfl, rfl⟩))
    obtain ⟨w3, e3⟩ : ∃ w3, w3 = w.alloc (.cells #[.int .i64 (rng (n) 1 9), .int .i64 (rng u (-100) 100), .int .i64 (rng v (-100) 100)] 27) := ⟨_, rfl⟩
    have hb3 : Below w.heap.size w w3 := by rw [e3]; exact (Below.refl _ _).alloc (Nat.le_refl _) _
    rw [← e3]; clear e3
    go_ret2
    exact OutS.none_ hb3
end Go.Proofs.YtcihiglpahhboaaGreatDoor
