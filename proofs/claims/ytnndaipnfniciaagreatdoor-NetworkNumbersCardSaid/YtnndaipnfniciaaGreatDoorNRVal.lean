/- The reference's Value. -/
import Derived.Test.YtnndaipnfniciaaGreatDoorNRTurn
import Derived.Test.YtnndaipnfniciaaGreatDoorNRNum
namespace Go.Proofs.YtnndaipnfniciaaGreatDoor
open Go.RowKit Go.Shelf
set_option maxRecDepth 100000
set_option maxHeartbeats 2000000 in
theorem rPolValue_ok (p : List Int) (f : Int) (A : Option Addr) (m c : Nat) (w : World) (he : valErr p f = 0) (hR : Reads w w.heap.size 1 A m (ints p)) :
    Calls Tryz.prog 22 #[.slice A m c, .int .i64 f] w fun e w' => e = .returned (.agg #[.int .i64 (ev (iw f) p).re, .int .i64 (ev (iw f) p).im]) ∧ Below w.heap.size w w' := by
  unfold valErr at he
  rw [fnz_zero] at he
  simp only [List.mem_cons, List.not_mem_nil, or_false, forall_eq_or_imp, forall_eq] at he
  obtain ⟨hp0, hf⟩ := he
  obtain ⟨f1, f8⟩ := rng_zero.1 hf
  obtain ⟨hl6, hpx⟩ := pol_ok2 hp0
  have hcb := co_bd hpx
  have hm6 : m ≤ 6 := by rw [← reads_len hR]; exact hl6
  have HLN := hide (reads_len hR)
  have HCB := hide hcb
  have hev := vsum_ev f p
  rw [HLN.out] at hev
  have HEV := hide hev
  clear hp0 hf hl6 hpx hcb hev
  go_enter Tryz.func22, Tryz.ntmps22
  go_wp2_with fail
  obtain ⟨w1, e1, hb1, hz1, kR⟩ := box1 w #[.int .i64 0, .int .i64 0] 23
  rw [← e1]; clear e1
  refine (rZero_any _).mono ?_
  rintro e w2 ⟨rfl, hb2⟩
  go_upto_region 2 with (fail)
  obtain ⟨w3, e3, hb3, hz3, kS⟩ := box1 w2 #[.int .i64 G.zero.re, .int .i64 G.zero.im] 23
  rw [← e3]; clear e3
  have kR3 := carryK (w' := w3) kR (by repeat (first | with_reducible assumption | exact Below.refl _ _ | refine below_next (by with_reducible assumption) ?_))
  have hbw : Below w.heap.size w w3 := (by repeat (first | with_reducible assumption | exact Below.refl _ _ | refine below_next (by with_reducible assumption) ?_))
  have hg : w.heap.size + 1 ≤ w2.heap.size := by have := hb2.size; omega
  obtain ⟨g, eg⟩ : ∃ g, w2.heap.size = g := ⟨_, rfl⟩
  rw [eg] at kS hg ⊢
  clear eg kR hb1 hb2 hb3 hz1 hz3
  go_wp2_with fail
  go_loopw [6, 7] (fun v i wr => ∃ k : Nat, k ≤ m ∧ i = .int .i64 k ∧ v = .int .i64 (f ^ k) ∧ Blk wr g 23 #[.int .i64 (vsum f (co p) k).re, .int .i64 (vsum f (co p) k).im] ∧ Blk wr w.heap.size 23 #[.int .i64 0, .int .i64 0] ∧ Below w.heap.size w wr) (fun _ i _ => m - (intOf i).toNat)
  case atStart => exact ⟨0, by omega, rfl, by simp, kS, kR3, hbw⟩
  case round =>
    rename World => wo
    clear kS kR3 hbw
    obtain ⟨k, hk, rfl, rfl, kS, kR, hbo⟩ := hrel
    by_cases hlt : k < m
    · obtain ⟨ad, y, rfl, had, hy, hcy⟩ := reads_at (carry hR hbo) hlt
      have hc2 : ∀ z, (over wo.heap.size wo z).cell? (ad.add k) = some (.int .i64 y) := fun z => ((over_below wo.heap.size wo z).cell (p := ad.add k) (by rw [block_of_add]; exact had)).trans hcy
      have hco := co_get hy
      have hyb := HCB.out k
      rw [hco] at hyb
      have htb := term_in f1 f8 (k := k) (by omega) hyb
      have hpk := pow_in f1 f8 (k := k) (by omega)
      have hpk2 := pow_in f1 f8 (k := k + 1) (by omega)
      have hvs := vsum_in f1 f8 HCB.out (k + 1) (by omega)
      obtain ⟨z, hz⟩ : ∃ z, f ^ k = z := ⟨_, rfl⟩
      obtain ⟨z', hz'⟩ : ∃ z, f ^ (k + 1) = z := ⟨_, rfl⟩
      obtain ⟨X, hX⟩ : ∃ X, y * z = X := ⟨_, rfl⟩
      obtain ⟨T, hTD⟩ : ∃ T, (turnG k).mul ⟨X, 0⟩ = T := ⟨_, rfl⟩
      obtain ⟨S, hS⟩ : ∃ S, vsum f (co p) k = S := ⟨_, rfl⟩
      obtain ⟨U, hU⟩ : ∃ U, vsum f (co p) (k + 1) = U := ⟨_, rfl⟩
      have hstep : S.add T = U := by rw [← hU, ← hS, ← hTD, ← hX, ← hz, ← hco]; rfl
      have hUn : U.nrm ≤ 9223372036854775807 := by rw [← hU]; omega
      have hXn : (⟨X, 0⟩ : G).nrm ≤ 9223372036854775807 := by show X.natAbs + (0 : Int).natAbs ≤ _; rw [← hX, ← hz]; omega
      have hxw : IntKind.i64.wrap (y * z) = X := by rw [hX]; exact IntWalk.i64_in _ (by rw [← hX, ← hz]; omega)
      have hxv : wrap64 (y * z) = X := by rw [hX]; have : X.natAbs ≤ 300000000000000 := by (rw [← hX, ← hz]; exact htb)
                                          unfold wrap64; omega
      have hpw : wrap64 (z * f) = z' := by
        rw [← hz, ← hz', ← Int.pow_succ]
        generalize f ^ (k + 1) = r at hpk2 ⊢
        unfold wrap64; omega
      rw [hS] at kS
      rw [hz] at hpk ⊢
      have HTR : Hid (∀ W, Calls Tryz.prog 94 #[.agg #[.int .i64 X, .int .i64 0], .int .i64 k] W fun e w' => e = .returned (.agg #[.int .i64 T.re, .int .i64 T.im]) ∧ Below W.heap.size W w') := fun W => by
        have := qTurn_any ⟨X, 0⟩ k W hXn
        rw [turnI_nat, hTD] at this
        exact this
      have HPL : Hid (∀ W, Calls Tryz.prog 66 #[.agg #[.int .i64 S.re, .int .i64 S.im], .agg #[.int .i64 T.re, .int .i64 T.im]] W fun e w' => e = .returned (.agg #[.int .i64 U.re, .int .i64 U.im]) ∧ Below W.heap.size W w') := fun W => by
        have := rPlus_any S T W
        rw [hstep, G.w_in hUn] at this
        exact this
      have HUD := hide hU
      have HPW := hide hz'
      have c0 := over_blk kS kS.lt
      clear hy hco hyb htb hpk hpk2 hvs hz hz' hX hTD hS hU hstep hUn hXn hcy had
      go_upto_region 6 with (fail)
      refine wp_region_part 11 wo.heap.size (by kernel_rfl) (by kernel_rfl) ?_; simp only [List.take_succ_cons, List.take_zero, List.drop_succ_cons, List.drop_zero]; (repeat (first | go_big_quiet_step (first | (go_at_call 94; with_reducible exact over_call (Nat.le_refl _) (HTR.out _)) | (go_at_call 66; with_reducible exact over_call (Nat.le_refl _) (HPL.out _))) | quiet_step (first | (go_at_call 94; with_reducible exact over_call (Nat.le_refl _) (HTR.out _)) | (go_at_call 66; with_reducible exact over_call (Nat.le_refl _) (HPL.out _))))); refine wpQuiet_nil ?_; rintro W ⟨x, rfl⟩
      have hbY := over_below wo.heap.size wo x
      generalize over wo.heap.size wo x = Y at hbY ⊢
      have kY := carryK kS hbY
      have kRY := carryK kR hbY
      clear c0 hc2
      have c0 := kY.cell
      have f0 := kY.frozen
      go_wp2_with fail
      have kZ := blk2 (u0 := .int .i64 U.re) (u1 := .int .i64 U.im) kY
      have kRZ := far2 (u0 := .int .i64 U.re) (u1 := .int .i64 U.im) kRY (show w.heap.size ≠ g by omega)
      have hZ := below2 (u0 := .int .i64 U.re) (u1 := .int .i64 U.im) (below_next hbo hbY) (show w.heap.size ≤ g by omega)
      go_roundw
      case rel => exact ⟨k + 1, by omega, by go_num, by rw [HPW.out, hpw], by rw [HUD.out]; exact kZ, kRZ, hZ⟩
      case measure => simp [intOf]; omega
    · obtain rfl : k = m := by omega
      have c0 := kS.cell
      have c5 := kR.cell
      have f5 := kR.frozen
      have kX := blk2 (u0 := .int .i64 (vsum f (co p) k).re) (u1 := .int .i64 (vsum f (co p) k).im) kR
      have hX := below2 (u0 := .int .i64 (vsum f (co p) k).re) (u1 := .int .i64 (vsum f (co p) k).im) hbo (Nat.le_refl w.heap.size)
      go_wp2_with fail
      have cX := kX.cell
      clear c0 c5 f5
      refine bodyPost_ret (v := .agg #[.int .i64 (vsum f (co p) k).re, .int .i64 (vsum f (co p) k).im]) (by simp [results, Tryz.results22, go_sem, cX]) rfl ?_
      exact ⟨by rw [HEV.out], hX⟩
end Go.Proofs.YtnndaipnfniciaaGreatDoor
