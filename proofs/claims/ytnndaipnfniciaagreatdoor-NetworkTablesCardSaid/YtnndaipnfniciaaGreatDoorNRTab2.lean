/- The reference's Peak and Below. -/
import Derived.Test.YtnndaipnfniciaaGreatDoorNRTab
namespace Go.Proofs.YtnndaipnfniciaaGreatDoor
open Go.RowKit Go.Shelf
set_option maxRecDepth 100000
theorem pkN_one (t : List Rt) : pkN t 1 = 0 := by have := pkN_lt t (k := 1) (by omega); omega
set_option maxHeartbeats 2000000 in
theorem rPeak_ok (l : List El) (a b : Int) (A : Option Addr) (m c n : Nat) (w : World) (he : tabErr l a b = 0) (hn : (n : Int) = b - a + 1) (hR : Reads w w.heap.size 3 A m (els l)) :
    Calls Tryz.prog 35 #[.slice A m c, .int .i64 a, .int .i64 b] w (PkPost l a n w) := by
  obtain ⟨hl, ha, hb, hab⟩ := tab_zero he
  have HE := hide he
  have HN := hide hn
  have n9 : a + (n : Int) ≤ 9 := by omega
  have n0 : 0 < n := by omega
  have HOK := hide (lad_ok hl)
  clear he hn hl
  go_enter Tryz.func35, Tryz.ntmps35
  go_wp2_with fail
  refine (rTable_ok l a b A m c n _ HE.out HN.out hR).mono ?_
  rintro e w2 ⟨hb2, ⟨hp, A', c', rfl, hr⟩ | ⟨hp, rfl⟩⟩
  · have HP := hide hp
    have hin := fun k x hx => tab_in (k := k) (x := x) HOK.out ha n9 hp hx
    have hbx := fun k (hk : 0 < k) => pkN_lt (tab l a n) hk
    have HIN := hide hin
    clear hp hin hR
    go_wp2_with fail
    go_loopw [10, 11] (fun v i wr => ∃ k : Nat, 0 < k ∧ k ≤ n ∧ i = .int .i64 k ∧ v = .int .i64 (pkN (tab l a n) k) ∧ Below w2.heap.size w2 wr) (fun _ i _ => n - (intOf i).toNat)
    case atStart => exact ⟨1, by omega, by omega, rfl, by rw [pkN_one]; rfl, Below.refl _ _⟩
    case round =>
      rename World => wo
      obtain ⟨k, hk0, hk, rfl, rfl, hbo⟩ := hrel
      have hbk := hbx k hk0
      clear hbx
      obtain ⟨j, hj⟩ : ∃ j, pkN (tab l a n) k = j := ⟨_, rfl⟩
      rw [hj] at hbk ⊢
      have HJ := hide hj
      clear hj
      by_cases hlt : k < n
      · have hro := carry hr hbo
        obtain ⟨ad, y, rfl, _, hyk, hcy⟩ := rts_hit hro hlt (Nat.le_refl _)
        obtain ⟨ad', z, e0, _, hzk, hcz⟩ := rts_hit hro (show j < n by omega) (Nat.le_refl _)
        cases e0
        have HY := hide hyk
        have HZ := hide hzk
        clear hyk hzk
        have q0 : ∀ x, (over wo.heap.size wo x).cell? (ad.add (j * 2)) = some (.int .i64 z.n) := fun x => (hcz _ (over_below _ _ _)).1
        have q1 : ∀ x, (over wo.heap.size wo x).cell? ⟨(ad.add (j * 2)).block, (ad.add (j * 2)).off + 1, none⟩ = some (.int .i64 z.d) := fun x => (hcz _ (over_below _ _ _)).2
        have q2 : ∀ x, (over wo.heap.size wo x).cell? (ad.add (k * 2)) = some (.int .i64 y.n) := fun x => (hcy _ (over_below _ _ _)).1
        have q3 : ∀ x, (over wo.heap.size wo x).cell? ⟨(ad.add (k * 2)).block, (ad.add (k * 2)).off + 1, none⟩ = some (.int .i64 y.d) := fun x => (hcy _ (over_below _ _ _)).2
        have hjn : j < n := by omega
        go_upto_region 8 with (fail)
        refine wp_region_over wo.heap.size (by kernel_rfl) (by kernel_rfl) ?_; (repeat (first | go_big_quiet_step ((go_at_call 107; with_reducible exact over_call (Nat.le_refl _) (lessR_any z y _ (HIN.out _ _ HZ.out) (HIN.out _ _ HY.out)))) | quiet_step ((go_at_call 107; with_reducible exact over_call (Nat.le_refl _) (lessR_any z y _ (HIN.out _ _ HZ.out) (HIN.out _ _ HY.out)))))); refine wpQuiet_nil ?_; rintro W ⟨x, rfl⟩
        have hbY := over_below wo.heap.size wo x
        generalize over wo.heap.size wo x = Y at hbY ⊢
        have hs := pkN_succ (t := tab l a n) (k := k) (by rw [HJ.out]; exact HZ.out) HY.out
        rw [HJ.out] at hs
        have HS := hide hs
        have hbz := below_next hbo hbY
        clear q0 q1 q2 q3 hs hcz hcy hro
        cases hq : z.lt y
        · rw [hq] at HS
          have HS := HS
          go_wp2_with fail
          go_roundw
          case rel => exact ⟨k + 1, by omega, by omega, by go_num, by rw [HS.out]; rfl, hbz⟩
          case measure => simp [intOf]; omega
        · rw [hq] at HS
          have HS := HS
          go_wp2_with fail
          go_roundw
          case rel => exact ⟨k + 1, by omega, by omega, by go_num, by rw [HS.out]; rfl, hbz⟩
          case measure => simp [intOf]; omega
      · obtain rfl : k = n := by omega
        go_wp2_with fail
        go_ret2
        exact ⟨below_next hb2 hbo, .inl ⟨HP.out, by rw [HJ.out]; rfl⟩⟩
  · have HP := hide hp
    clear hp
    go_wp2_with fail
    go_ret2
    exact ⟨hb2, .inr ⟨HP.out, rfl⟩⟩
/-- What the reference's Below returns. -/
def RbPost (l : List El) (a : Int) (n : Nat) (x : Rt) (w : World) (e : Ending) (w' : World) : Prop :=
  Below w.heap.size w w' ∧ ((¬ noPole l a n ∧ e = .returned (.tuple #[.int .i64 0, .int .i64 17])) ∨
    (noPole l a n ∧ ((∃ i : Nat, blN (tab l a n) x n = some i ∧ e = .returned (.tuple #[.int .i64 (a + i), .int .i64 0])) ∨ (blN (tab l a n) x n = none ∧ e = .returned (.tuple #[.int .i64 0, .int .i64 7])))))
set_option maxHeartbeats 2000000 in
theorem rBelow_ok (l : List El) (a b : Int) (x' : Rt) (A : Option Addr) (m c n : Nat) (w : World) (he : tabErr l a b = 0) (hn : (n : Int) = b - a + 1) (hx : x'.In) (hR : Reads w w.heap.size 3 A m (els l)) :
    Calls Tryz.prog 36 #[.slice A m c, .int .i64 a, .int .i64 b, .agg #[.int .i64 x'.n, .int .i64 x'.d]] w (RbPost l a n x' w) := by
  obtain ⟨hl, ha, hb, hab⟩ := tab_zero he
  have HE := hide he
  have HN := hide hn
  have HXI := hide hx
  have n9 : a + (n : Int) ≤ 9 := by omega
  have HOK := hide (lad_ok hl)
  clear he hn hl hx
  go_enter Tryz.func36, Tryz.ntmps36
  go_wp2_with fail
  obtain ⟨w1, e1, hb1, hz1, k0⟩ := box1 w #[.int .i64 x'.n, .int .i64 x'.d] 54
  rw [← e1]; clear e1
  refine (rTable_ok l a b A m c n _ HE.out HN.out (carry hR hb1)).mono ?_
  rintro e w2 ⟨hb2, ⟨hp, A', c', rfl, hr⟩ | ⟨hp, rfl⟩⟩
  · have HP := hide hp
    have hin := fun k x hx => tab_in (k := k) (x := x) HOK.out ha n9 hp hx
    have HIN := hide hin
    have k2 := carryK k0 hb2
    have hbw2 := below_next hb1 hb2
    clear hp hin hR k0 hb1 hb2
    go_wp2_with fail
    go_loopw [12] (fun i wr => ∃ k : Nat, k ≤ n ∧ i = .int .i64 k ∧ blN (tab l a n) x' k = none ∧ Below w2.heap.size w2 wr) (fun i _ => n - (intOf i).toNat)
    case atStart => exact ⟨0, by omega, rfl, rfl, Below.refl _ _⟩
    case round =>
      rename World => wo
      obtain ⟨k, hk, rfl, hbn, hbo⟩ := hrel
      have HBN := hide hbn
      clear hbn
      by_cases hlt : k < n
      · have hro := carry hr hbo
        obtain ⟨ad, y, rfl, _, hyk, hcy⟩ := rts_hit hro hlt (Nat.le_refl _)
        have HY := hide hyk
        clear hyk
        have q2 : ∀ x, (over wo.heap.size wo x).cell? (ad.add (k * 2)) = some (.int .i64 y.n) := fun x => (hcy _ (over_below _ _ _)).1
        have q3 : ∀ x, (over wo.heap.size wo x).cell? ⟨(ad.add (k * 2)).block, (ad.add (k * 2)).off + 1, none⟩ = some (.int .i64 y.d) := fun x => (hcy _ (over_below _ _ _)).2
        have c0 := over_blk (carryK k2 hbo) (carryK k2 hbo).lt
        go_upto_region 7 with (fail)
        refine wp_region_over wo.heap.size (by kernel_rfl) (by kernel_rfl) ?_; (repeat (first | go_big_quiet_step ((go_at_call 107; with_reducible exact over_call (Nat.le_refl _) (lessR_any y x' _ (HIN.out _ _ HY.out) HXI.out))) | quiet_step ((go_at_call 107; with_reducible exact over_call (Nat.le_refl _) (lessR_any y x' _ (HIN.out _ _ HY.out) HXI.out))))); refine wpQuiet_nil ?_; rintro W ⟨x, rfl⟩
        have hbY := over_below wo.heap.size wo x
        generalize over wo.heap.size wo x = Y at hbY ⊢
        have hbz := below_next hbo hbY
        have HLT := hide hlt
        clear q2 q3 hcy hro c0
        cases hq : y.lt x'
        · have HS := hide (blN_miss HY.out HBN.out hq)
          go_wp2_with fail
          go_roundw
          case rel => exact ⟨k + 1, by omega, by go_num, HS.out, hbz⟩
          case measure => simp [intOf]; omega
        · have HS := hide (blN_hit HY.out HBN.out hq hlt)
          go_wp2_with fail
          go_ret2
          exact ⟨below_next hbw2 hbz, .inr ⟨HP.out, .inl ⟨k, HS.out, rfl⟩⟩⟩
      · obtain rfl : k = n := by omega
        go_wp2_with fail
        go_ret2
        exact ⟨below_next hbw2 hbo, .inr ⟨HP.out, .inr ⟨HBN.out, rfl⟩⟩⟩
  · have HP := hide hp
    have hbw2 := below_next hb1 hb2
    clear hp
    go_wp2_with fail
    go_ret2
    exact ⟨hbw2, .inl ⟨HP.out, rfl⟩⟩
end Go.Proofs.YtnndaipnfniciaaGreatDoor
