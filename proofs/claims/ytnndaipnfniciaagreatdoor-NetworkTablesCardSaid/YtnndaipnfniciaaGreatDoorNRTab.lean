/- The reference's Less, CheckTable, CheckLevel, Table, Peak, Below. -/
import Derived.Test.YtnndaipnfniciaaGreatDoorNRImp
import Derived.Test.YtnndaipnfniciaaGreatDoorNBel
import Derived.Test.YtnndaipnfniciaaGreatDoorNPeak
namespace Go.Proofs.YtnndaipnfniciaaGreatDoor
open Go.RowKit Go.Shelf
set_option maxRecDepth 100000
theorem mod_in {a : Rt} (h : a.In) : 0 ≤ a.n % a.d ∧ a.n % a.d < a.d := by
  have := h.pos.d
  exact ⟨Int.emod_nonneg a.n (by omega), Int.emod_lt_of_pos a.n (by omega)⟩
set_option maxHeartbeats 2000000 in
theorem lessR_aux (N : Nat) : ∀ (a b : Rt) (w : World), a.In → b.In → (a.d + b.d).toNat ≤ N →
    Calls Tryz.prog 107 #[.agg #[.int .i64 a.n, .int .i64 a.d], .agg #[.int .i64 b.n, .int .i64 b.d]] w fun e w' => e = .returned (.bool (a.lt b)) ∧ Below w.heap.size w w' := by
  induction N with
  | zero => intro a b w ha hb h; have := ha.pos.d; have := hb.pos.d; omega
  | succ N ih =>
    intro a b w ha hb hN
    have HIH := hide ih
    have bp := quo_in ha
    have bq := quo_in hb
    have wp := wq_in ha
    have wq := wq_in hb
    have dp := ha.pos.d
    have dq := hb.pos.d
    have np0 := ha.pos.n
    have nq0 := hb.pos.n
    have dp2 := ha.d
    have dq2 := hb.d
    have np2 := ha.n
    have nq2 := hb.n
    have ma := mod_in ha
    have mb := mod_in hb
    clear ih
    by_cases hw : a.n / a.d = b.n / b.d
    · have t0 : (a.n / a.d != b.n / b.d) = false := by simpa using hw
      by_cases h1 : b.n % b.d = 0
      · have HL := hide (lt_same0 ha.pos hb.pos hw h1)
        have t1 : (b.n % b.d == 0) = true := by simpa using h1
        have t2 : (b.n % b.d != 0) = false := by simpa using h1
        clear hw h1
        by_cases h2 : a.n % a.d = 0
        · have t3 : (a.n % a.d == 0) = true := by simpa using h2
          clear h2
          go_enter Tryz.func107, Tryz.ntmps107
          go_upto_region 1 with (fail)
          obtain ⟨w1, e1, hb1, hz1, k0, k1⟩ := box2 w #[.int .i64 a.n, .int .i64 a.d] #[.int .i64 b.n, .int .i64 b.d] 54 54
          rw [← e1]; clear e1
          have c0 := over_blk k0 k0.lt
          have c1 := over_blk k1 k1.lt
          refine wp_region_over w1.heap.size (by kernel_rfl) (by kernel_rfl) ?_; (repeat (first | go_big_quiet_step (fail) | quiet_step (fail))); refine wpQuiet_nil ?_; rintro W ⟨x, rfl⟩
          have hbY := over_below w1.heap.size w1 x
          generalize over w1.heap.size w1 x = Y at hbY ⊢
          clear c0 c1
          go_upto_region 4 with (fail)
          have c0 := over_blk (carryK k0 hbY) (carryK k0 hbY).lt
          have c1 := over_blk (carryK k1 hbY) (carryK k1 hbY).lt
          refine wp_region_over Y.heap.size (by kernel_rfl) (by kernel_rfl) ?_; (repeat (first | go_big_quiet_step (fail) | quiet_step (fail))); refine wpQuiet_nil ?_; rintro W ⟨x, rfl⟩
          have hbZ := over_below Y.heap.size Y x
          generalize over Y.heap.size Y x = Z at hbZ ⊢
          clear c0 c1
          go_wp2_with fail
          go_ret
          exact ⟨by rw [HL.out]; rfl, (by repeat (first | with_reducible assumption | exact Below.refl _ _ | refine below_next (by with_reducible assumption) ?_))⟩
        · have t3 : (a.n % a.d == 0) = false := by simpa using h2
          clear h2
          go_enter Tryz.func107, Tryz.ntmps107
          go_upto_region 1 with (fail)
          obtain ⟨w1, e1, hb1, hz1, k0, k1⟩ := box2 w #[.int .i64 a.n, .int .i64 a.d] #[.int .i64 b.n, .int .i64 b.d] 54 54
          rw [← e1]; clear e1
          have c0 := over_blk k0 k0.lt
          have c1 := over_blk k1 k1.lt
          refine wp_region_over w1.heap.size (by kernel_rfl) (by kernel_rfl) ?_; (repeat (first | go_big_quiet_step (fail) | quiet_step (fail))); refine wpQuiet_nil ?_; rintro W ⟨x, rfl⟩
          have hbY := over_below w1.heap.size w1 x
          generalize over w1.heap.size w1 x = Y at hbY ⊢
          clear c0 c1
          go_upto_region 4 with (fail)
          have c0 := over_blk (carryK k0 hbY) (carryK k0 hbY).lt
          have c1 := over_blk (carryK k1 hbY) (carryK k1 hbY).lt
          refine wp_region_over Y.heap.size (by kernel_rfl) (by kernel_rfl) ?_; (repeat (first | go_big_quiet_step (fail) | quiet_step (fail))); refine wpQuiet_nil ?_; rintro W ⟨x, rfl⟩
          have hbZ := over_below Y.heap.size Y x
          generalize over Y.heap.size Y x = Z at hbZ ⊢
          clear c0 c1
          go_wp2_with fail
          go_ret
          exact ⟨by rw [HL.out]; rfl, (by repeat (first | with_reducible assumption | exact Below.refl _ _ | refine below_next (by with_reducible assumption) ?_))⟩
      · have t1 : (b.n % b.d == 0) = false := by simpa using h1
        have t2 : (b.n % b.d != 0) = true := by simpa using h1
        by_cases h2 : a.n % a.d = 0
        · have HL := hide (lt_same1 ha.pos hb.pos hw h2 h1)
          have t3 : (a.n % a.d == 0) = true := by simpa using h2
          clear hw h1 h2
          go_enter Tryz.func107, Tryz.ntmps107
          go_upto_region 1 with (fail)
          obtain ⟨w1, e1, hb1, hz1, k0, k1⟩ := box2 w #[.int .i64 a.n, .int .i64 a.d] #[.int .i64 b.n, .int .i64 b.d] 54 54
          rw [← e1]; clear e1
          have c0 := over_blk k0 k0.lt
          have c1 := over_blk k1 k1.lt
          refine wp_region_over w1.heap.size (by kernel_rfl) (by kernel_rfl) ?_; (repeat (first | go_big_quiet_step (fail) | quiet_step (fail))); refine wpQuiet_nil ?_; rintro W ⟨x, rfl⟩
          have hbY := over_below w1.heap.size w1 x
          generalize over w1.heap.size w1 x = Y at hbY ⊢
          clear c0 c1
          go_upto_region 4 with (fail)
          have c0 := over_blk (carryK k0 hbY) (carryK k0 hbY).lt
          have c1 := over_blk (carryK k1 hbY) (carryK k1 hbY).lt
          refine wp_region_over Y.heap.size (by kernel_rfl) (by kernel_rfl) ?_; (repeat (first | go_big_quiet_step (fail) | quiet_step (fail))); refine wpQuiet_nil ?_; rintro W ⟨x, rfl⟩
          have hbZ := over_below Y.heap.size Y x
          generalize over Y.heap.size Y x = Z at hbZ ⊢
          clear c0 c1
          go_wp2_with fail
          go_ret
          exact ⟨by rw [HL.out]; rfl, (by repeat (first | with_reducible assumption | exact Below.refl _ _ | refine below_next (by with_reducible assumption) ?_))⟩
        · have HL := hide (lt_same2 hw)
          have t3 : (a.n % a.d == 0) = false := by simpa using h2
          have I1 := hide (turn_in ha h2)
          have I2 := hide (turn_in hb h1)
          have HM : Hid ((b.n % b.d + a.n % a.d).toNat ≤ N) := by show _ ≤ N; omega
          clear hw h1 h2
          go_enter Tryz.func107, Tryz.ntmps107
          go_upto_region 1 with (fail)
          obtain ⟨w1, e1, hb1, hz1, k0, k1⟩ := box2 w #[.int .i64 a.n, .int .i64 a.d] #[.int .i64 b.n, .int .i64 b.d] 54 54
          rw [← e1]; clear e1
          have c0 := over_blk k0 k0.lt
          have c1 := over_blk k1 k1.lt
          refine wp_region_over w1.heap.size (by kernel_rfl) (by kernel_rfl) ?_; (repeat (first | go_big_quiet_step (fail) | quiet_step (fail))); refine wpQuiet_nil ?_; rintro W ⟨x, rfl⟩
          have hbY := over_below w1.heap.size w1 x
          generalize over w1.heap.size w1 x = Y at hbY ⊢
          clear c0 c1
          go_upto_region 4 with (fail)
          have c0 := over_blk (carryK k0 hbY) (carryK k0 hbY).lt
          have c1 := over_blk (carryK k1 hbY) (carryK k1 hbY).lt
          refine wp_region_over Y.heap.size (by kernel_rfl) (by kernel_rfl) ?_; (repeat (first | go_big_quiet_step (fail) | quiet_step (fail))); refine wpQuiet_nil ?_; rintro W ⟨x, rfl⟩
          have hbZ := over_below Y.heap.size Y x
          generalize over Y.heap.size Y x = Z at hbZ ⊢
          clear c0 c1
          have c0 := (carryK (w' := Z) k0 (by repeat (first | with_reducible assumption | exact Below.refl _ _ | refine below_next (by with_reducible assumption) ?_))).cell
          have c1 := (carryK (w' := Z) k1 (by repeat (first | with_reducible assumption | exact Below.refl _ _ | refine below_next (by with_reducible assumption) ?_))).cell
          go_wp2_with fail
          refine (HIH.out ⟨b.d, b.n % b.d⟩ ⟨a.d, a.n % a.d⟩ _ I2.out I1.out HM.out).mono ?_
          rintro e w9 ⟨rfl, hb9⟩
          clear c0 c1
          go_wp2_with fail
          go_ret
          exact ⟨by rw [HL.out]; rfl, (by repeat (first | with_reducible assumption | exact Below.refl _ _ | refine below_next (by with_reducible assumption) ?_))⟩
    · have t0 : (a.n / a.d != b.n / b.d) = true := by simpa using hw
      have HL := hide (lt_whole ha.pos hb.pos hw)
      clear hw
      go_enter Tryz.func107, Tryz.ntmps107
      go_upto_region 1 with (fail)
      obtain ⟨w1, e1, hb1, hz1, k0, k1⟩ := box2 w #[.int .i64 a.n, .int .i64 a.d] #[.int .i64 b.n, .int .i64 b.d] 54 54
      rw [← e1]; clear e1
      have c0 := over_blk k0 k0.lt
      have c1 := over_blk k1 k1.lt
      refine wp_region_over w1.heap.size (by kernel_rfl) (by kernel_rfl) ?_; (repeat (first | go_big_quiet_step (fail) | quiet_step (fail))); refine wpQuiet_nil ?_; rintro W ⟨x, rfl⟩
      have hbY := over_below w1.heap.size w1 x
      generalize over w1.heap.size w1 x = Y at hbY ⊢
      clear c0 c1
      go_wp2_with fail
      go_ret
      exact ⟨by rw [HL.out]; rfl, (by repeat (first | with_reducible assumption | exact Below.refl _ _ | refine below_next (by with_reducible assumption) ?_))⟩
theorem lessR_any (a b : Rt) (w : World) (ha : a.In) (hb : b.In) :
    Calls Tryz.prog 107 #[.agg #[.int .i64 a.n, .int .i64 a.d], .agg #[.int .i64 b.n, .int .i64 b.d]] w fun e w' => e = .returned (.bool (a.lt b)) ∧ Below w.heap.size w w' := lessR_aux _ a b w ha hb (Nat.le_refl _)
theorem tab_split (l : List El) (a b : Int) : tabErr l a b = if fnz [ladErr l, rng a 1 8, rng b 1 8] = 0 then (if b < a then 11 else 0) else fnz [ladErr l, rng a 1 8, rng b 1 8] := by
  unfold tabErr
  by_cases h : fnz [ladErr l, rng a 1 8, rng b 1 8] = 0
  · rw [if_pos h]
    rw [fnz_zero] at h
    simp only [List.mem_cons, List.not_mem_nil, or_false, forall_eq_or_imp, forall_eq] at h
    obtain ⟨h1, h2, h3⟩ := h
    rw [h1, h2, h3]
    by_cases h4 : b < a <;> simp [fnz, h4]
  · rw [if_neg h]
    exact fnz_pre _ [ladErr l, rng a 1 8, rng b 1 8] h
set_option maxHeartbeats 1000000 in
theorem rCheckTable_any (A : Option Addr) (n c : Nat) (l : List El) (a b : Int) (w : World) (h : Reads w w.heap.size 3 A n (els l)) :
    Calls Tryz.prog 32 #[.slice A n c, .int .i64 a, .int .i64 b] w fun e w' => e = .returned (.int .i64 (tabErr l a b)) ∧ Below w.heap.size w w' := by
  rw [tab_split]
  obtain ⟨E, hE⟩ : ∃ E, fnz [ladErr l, rng a 1 8, rng b 1 8] = E := ⟨_, rfl⟩
  rw [hE]
  have HF := hide hE
  clear hE
  by_cases h0 : E = 0
  · subst h0
    rw [if_pos rfl]
    have t0 : ((0 : Int) != 0) = false := rfl
    by_cases hba : b < a
    · rw [if_pos hba]
      go_enter Tryz.func32, Tryz.ntmps32
      go_wp2_with fail
      refine (rCheckLadder_all A n c l _ h).mono ?_
      rintro e w1 ⟨rfl, hb1⟩
      go_upto_region 2 with (first | (go_at_call 20; refine (rCheckW_any _ _).mono ?_; rintro e W' ⟨rfl, rfl⟩) | (go_at_call 18; (first | (with_reducible (refine (rFirst_any _ _ _ _ _ _ (reads3 _ _ _ _ _) (by omega)).mono ?_)) | (with_reducible (refine (rFirst_any _ _ _ _ _ _ (Reads.drew (reads3 _ _ _ _ _)) (by omega)).mono ?_))); rintro e W' ⟨rfl, rfl⟩))
      obtain ⟨w2, e2, hb2, hz2, _⟩ := box1 w1 #[.int .i64 (ladErr l), .int .i64 (rng a 1 8), .int .i64 (rng b 1 8)] 3
      rw [← e2]; clear e2
      rw [HF.out]
      go_wp2_with fail
      go_ret
      exact ⟨rfl, (by repeat (first | with_reducible assumption | exact Below.refl _ _ | refine below_next (by with_reducible assumption) ?_))⟩
    · rw [if_neg hba]
      go_enter Tryz.func32, Tryz.ntmps32
      go_wp2_with fail
      refine (rCheckLadder_all A n c l _ h).mono ?_
      rintro e w1 ⟨rfl, hb1⟩
      go_upto_region 2 with (first | (go_at_call 20; refine (rCheckW_any _ _).mono ?_; rintro e W' ⟨rfl, rfl⟩) | (go_at_call 18; (first | (with_reducible (refine (rFirst_any _ _ _ _ _ _ (reads3 _ _ _ _ _) (by omega)).mono ?_)) | (with_reducible (refine (rFirst_any _ _ _ _ _ _ (Reads.drew (reads3 _ _ _ _ _)) (by omega)).mono ?_))); rintro e W' ⟨rfl, rfl⟩))
      obtain ⟨w2, e2, hb2, hz2, _⟩ := box1 w1 #[.int .i64 (ladErr l), .int .i64 (rng a 1 8), .int .i64 (rng b 1 8)] 3
      rw [← e2]; clear e2
      rw [HF.out]
      go_wp2_with fail
      go_ret
      exact ⟨rfl, (by repeat (first | with_reducible assumption | exact Below.refl _ _ | refine below_next (by with_reducible assumption) ?_))⟩
  · rw [if_neg h0]
    have t0 : (E != 0) = true := by simpa using h0
    clear h0
    go_enter Tryz.func32, Tryz.ntmps32
    go_wp2_with fail
    refine (rCheckLadder_all A n c l _ h).mono ?_
    rintro e w1 ⟨rfl, hb1⟩
    go_upto_region 2 with (first | (go_at_call 20; refine (rCheckW_any _ _).mono ?_; rintro e W' ⟨rfl, rfl⟩) | (go_at_call 18; (first | (with_reducible (refine (rFirst_any _ _ _ _ _ _ (reads3 _ _ _ _ _) (by omega)).mono ?_)) | (with_reducible (refine (rFirst_any _ _ _ _ _ _ (Reads.drew (reads3 _ _ _ _ _)) (by omega)).mono ?_))); rintro e W' ⟨rfl, rfl⟩))
    obtain ⟨w2, e2, hb2, hz2, _⟩ := box1 w1 #[.int .i64 (ladErr l), .int .i64 (rng a 1 8), .int .i64 (rng b 1 8)] 3
    rw [← e2]; clear e2
    rw [HF.out]
    go_wp2_with fail
    go_ret
    exact ⟨rfl, (by repeat (first | with_reducible assumption | exact Below.refl _ _ | refine below_next (by with_reducible assumption) ?_))⟩
set_option maxHeartbeats 1000000 in
theorem rCheckLevel_any (x : Rt) (w : World) :
    Calls Tryz.prog 33 #[.agg #[.int .i64 x.n, .int .i64 x.d]] w fun e w' => e = .returned (.int .i64 (lvlErr x)) ∧ Below w.heap.size w w' := by
  obtain ⟨E, hE⟩ : ∃ E, ratErr x = E := ⟨_, rfl⟩
  have HR := hide hE
  by_cases h0 : E = 0
  · subst h0
    have t0 : ((0 : Int) != 0) = false := rfl
    have hl : lvlErr x = rng x.n 0 999999999 := by
      unfold lvlErr
      rw [hE]
      have hr : x.n ≤ 999999999 := by
        unfold ratErr at hE
        split at hE
        · rename_i h; rw [fnz_zero] at h; have := rng_zero.1 (h (rng x.n (-999999999) 999999999) (by simp)); omega
        · rename_i h; exact absurd hE h
      unfold rng
      by_cases hn : x.n < 0
      · rw [if_pos hn, if_pos (Or.inl hn)]; rfl
      · rw [if_neg hn, if_neg (by omega)]; rfl
    have HL := hide hl
    clear hE hl
    go_enter Tryz.func33, Tryz.ntmps33
    go_upto_region 1 with (fail)
    obtain ⟨w1, e1, hb1, hz1, k0⟩ := box1 w #[.int .i64 x.n, .int .i64 x.d] 54
    rw [← e1]; clear e1
    have c0 := k0.cell
    go_wp2_with fail
    refine (rCheckRatio_any x _).mono ?_
    rintro e w2 ⟨rfl, hb2⟩
    clear c0
    rw [HR.out]
    have c0 := (carryK k0 hb2).cell
    go_wp2_with (go_at_call 93; refine (checkRange_any _ _ _ _).mono ?_; rintro e W' ⟨rfl, rfl⟩)
    go_ret
    exact ⟨by rw [HL.out]; rfl, (by repeat (first | with_reducible assumption | exact Below.refl _ _ | refine below_next (by with_reducible assumption) ?_))⟩
  · have t0 : (E != 0) = true := by simpa using h0
    have hl : lvlErr x = E := by unfold lvlErr; rw [hE]; simp [fnz, h0]
    have HL := hide hl
    clear hE hl h0
    go_enter Tryz.func33, Tryz.ntmps33
    go_upto_region 1 with (fail)
    obtain ⟨w1, e1, hb1, hz1, k0⟩ := box1 w #[.int .i64 x.n, .int .i64 x.d] 54
    rw [← e1]; clear e1
    have c0 := k0.cell
    go_wp2_with fail
    refine (rCheckRatio_any x _).mono ?_
    rintro e w2 ⟨rfl, hb2⟩
    clear c0
    rw [HR.out]
    have c0 := (carryK k0 hb2).cell
    go_wp2_with fail
    go_ret
    exact ⟨by rw [HL.out]; rfl, (by repeat (first | with_reducible assumption | exact Below.refl _ _ | refine below_next (by with_reducible assumption) ?_))⟩
set_option maxHeartbeats 2000000 in
theorem rTable_ok (l : List El) (a b : Int) (A : Option Addr) (m c n : Nat) (w : World) (he : tabErr l a b = 0) (hn : (n : Int) = b - a + 1) (hR : Reads w w.heap.size 3 A m (els l)) :
    Calls Tryz.prog 34 #[.slice A m c, .int .i64 a, .int .i64 b] w (LvPost l a n w) := by
  obtain ⟨hl, ha, hb, hab⟩ := tab_zero he
  have HOK := hide (lad_ok hl)
  have n9 : a + (n : Int) ≤ 9 := by omega
  have n8 : n ≤ 8 := by omega
  clear he hl
  go_enter Tryz.func34, Tryz.ntmps34
  go_wp2_with fail
  go_loopw [8, 9] (fun v i wr => ∃ k : Nat, k ≤ n ∧ i = .int .i64 (a + (k : Int)) ∧ wr.ownsRow w.heap.size 54 2 v k (rts (tab l a k)) ∧ noPole l a k ∧ Below w.heap.size w wr) (fun _ i _ => (b + 1 - intOf i).toNat)
  case atStart => exact ⟨0, by omega, by simp, by simp [tab, rts, World.ownsRow_nil], fun i hi => absurd hi (by omega), Below.refl _ _⟩
  case round =>
    rename World => wo
    obtain ⟨k, hk, rfl, ho, hnp, hbo⟩ := hrel
    have HNP := hide hnp
    clear hnp
    obtain ⟨f, hf⟩ : ∃ f, a + (k : Int) = f := ⟨_, rfl⟩
    have HF := hide hf
    rw [hf]
    by_cases hlt : k < n
    · have f1 : 1 ≤ f := by omega
      have f8 : f ≤ 8 := by omega
      have fb : f ≤ b := by omega
      clear hf
      by_cases hz : (chn f .id l).a = .zero
      · have HZ := hide hz
        clear hz
        go_wp2_with fail
        refine (rLevel_no l f A m c _ HOK.out f1 f8 (carry hR hbo) HZ.out).mono ?_
        rintro e w2 ⟨rfl, hb2⟩
        go_wp2_with fail
        go_ret2
        exact ⟨below_next (below_next hbo hb2) ((Below.refl _ _).alloc (Nat.le_refl _) _), .inr ⟨fun hp => hp k hlt (by rw [HF.out]; exact HZ.out), rfl⟩⟩
      · have HZ := hide hz
        clear hz
        go_wp2_with fail
        refine (rLevel_ok l f A m c _ HOK.out f1 f8 (carry hR hbo) HZ.out).mono ?_
        rintro e w2 ⟨rfl, hb2⟩
        obtain ⟨L, hL⟩ : ∃ L, lvR l f = L := ⟨_, rfl⟩
        have HL := hide hL
        rw [hL]
        clear hL
        go_upto_region 6 with (fail)
        obtain ⟨w3, e3, hb3, hz3, k3⟩ := box1 w2 #[.int .i64 L.n, .int .i64 L.d] 54
        rw [← e3]; clear e3
        have c3 := k3.cell
        have ho3 := row_below (row_below ho hb2) hb3
        have hbw3 := below_next (below_next hbo hb2) hb3
        have hsz := hbw3.size
        have A1 : k + 1 ≤ maxLen := by unfold maxLen; omega
        have A2 : (k + 1) * 16 ≤ 140737488355328 := by omega
        clear ho
        go_wp2_with (at_builtin; refine wpList_push _ rfl (.tmp 27) (.tmp 29) _ rfl w.heap.size 54 _ 2 16 Tryz.underlying57 info_rt rfl (by decide) _ k _ rfl (ho3.alloc _) w3.heap.size (rtCells L) rfl rfl (cells_new _ (rtCells L) _) (one_rt _) A1 A2 (le_alloc hsz _) ?_; intro v1 w5 ho5 hb5)
        go_roundw
        case rel =>
          refine ⟨k + 1, by omega, ?_, by rw [tab_snoc, HF.out, HL.out, rts_snoc]; exact ho5, fun i hi => ?_, (hbw3.alloc hsz _).trans hb5⟩
          · have := HF.out; congr 1; push_cast; omega
          · by_cases e : i = k
            · rw [e, HF.out]; exact HZ.out
            · exact HNP.out i (by omega)
        case measure => simp [intOf]; omega
    · have hkn : k = n := by omega
      subst hkn
      have fb : ¬ f ≤ b := by omega
      clear hf
      go_wp2_with fail
      obtain ⟨A', c', rfl, hr⟩ := own_slice ho
      go_ret2
      exact ⟨hbo, .inl ⟨HNP.out, A', c', rfl, hr⟩⟩
end Go.Proofs.YtnndaipnfniciaaGreatDoor
