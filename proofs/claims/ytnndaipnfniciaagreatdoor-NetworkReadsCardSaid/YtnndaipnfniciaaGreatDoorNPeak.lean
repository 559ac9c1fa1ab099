/- Peak of the program. -/
import Derived.Test.YtnndaipnfniciaaGreatDoorBaseW
namespace Go.Proofs.YtnndaipnfniciaaGreatDoor
open Go.RowKit Go.Shelf
set_option maxRecDepth 100000
theorem tab_in {l : List El} {a : Int} {n k : Nat} (hl : LadOk l) (ha : 1 ≤ a) (hn : a + n ≤ 9) (hp : noPole l a n) {x : Rt} (hx : (tab l a n)[k]? = some x) : x.In := by
  have hk : k < n := by have := (List.getElem?_eq_some_iff.1 hx).1; rwa [tab_len] at this
  rw [tab_at hk] at hx
  cases hx
  have h1 := lvR_le (f := a + k) hl (by omega) (by omega)
  exact ⟨lvR_pos (hp k hk), Int.le_trans h1.1 (by decide), Int.le_trans h1.2 (by decide)⟩
/-- What Peak returns. -/
def PkPost (l : List El) (a : Int) (n : Nat) (w : World) (e : Ending) (w' : World) : Prop :=
  Below w.heap.size w w' ∧ ((noPole l a n ∧ e = .returned (.tuple #[.int .i64 (a + pkN (tab l a n) n), .int .i64 0])) ∨ (¬ noPole l a n ∧ e = .returned (.tuple #[.int .i64 0, .int .i64 17])))
theorem Peak_bad (l : List El) (a b : Int) (A : Option Addr) (m c : Nat) (w : World) (he : ¬ tabErr l a b = 0) (hm : m ≤ 1000000000000) (hR : Reads w w.heap.size 3 A m (els l)) :
    Calls Tryz.prog 30 #[.slice A m c, .int .i64 a, .int .i64 b] w fun e w' => e = .returned (.tuple #[.int .i64 0, .int .i64 (tabErr l a b)]) ∧ Below w.heap.size w w' := by
  have t1 : (tabErr l a b != 0) = true := by simpa using he
  go_enter Tryz.func30, Tryz.ntmps30
  go_wp2_with fail
  refine (levels_bad l a b A m c _ he hm hR).mono ?_
  rintro e w2 ⟨rfl, hb2⟩
  clear he
  go_wp2_with fail
  go_ret2
  exact ⟨rfl, hb2⟩
set_option maxHeartbeats 4000000 in
theorem Peak_ok (l : List El) (a b : Int) (A : Option Addr) (m c n : Nat) (w : World) (hC : Con w) (he : tabErr l a b = 0) (hn : (n : Int) = b - a + 1) (hm : m ≤ 1000000000000) (hR : Reads w w.heap.size 3 A m (els l)) :
    Calls Tryz.prog 30 #[.slice A m c, .int .i64 a, .int .i64 b] w (PkPost l a n w) := by
  obtain ⟨hl, ha, hb, hab⟩ := tab_zero he
  have HE := hide he
  have HN := hide hn
  have n9 : a + (n : Int) ≤ 9 := by omega
  have n0 : 0 < n := by omega
  have HOK := hide (lad_ok hl)
  clear he hn hl
  go_enter Tryz.func30, Tryz.ntmps30
  go_wp2_with fail
  refine (levels_ok l a b A m c n _ hC HE.out HN.out hm hR).mono ?_
  rintro e w2 ⟨hb2, ⟨hp, A', c', rfl, hr⟩ | ⟨hp, rfl⟩⟩
  · have HP := hide hp
    have hin := fun k x hx => tab_in (k := k) (x := x) HOK.out ha n9 hp hx
    have hbx := fun k => pkN_le (tab l a n) k
    have HIN := hide hin
    clear hp hin hR
    go_wp2_with fail
    go_loopw [10, 25] (fun v i wr => ∃ k : Nat, k ≤ n ∧ i = .int .i64 k ∧ v = .int .i64 (pkN (tab l a n) k) ∧ Below w2.heap.size w2 wr) (fun _ i _ => n - (intOf i).toNat)
    case atStart => exact ⟨0, by omega, rfl, rfl, Below.refl _ _⟩
    case round =>
      rename World => wo
      obtain ⟨k, hk, rfl, rfl, hbo⟩ := hrel
      have hbk := hbx k
      clear hbx
      obtain ⟨j, hj⟩ : ∃ j, pkN (tab l a n) k = j := ⟨_, rfl⟩
      rw [hj] at hbk ⊢
      have HJ := hide hj
      clear hj
      by_cases hlt : k < n
      · have hro := carry hr hbo
        obtain ⟨ad, y, rfl, _, hyk, hcy⟩ := rts_hit hro hlt (Nat.le_refl _)
        obtain ⟨ad', z, e0, _, hzk, hcz⟩ := rts_hit hro (show j < n by omega) (Nat.le_refl _)
        cases e0
        have HY := hide hyk
        have HZ := hide hzk
        obtain ⟨q0, q1⟩ := hcy wo (Below.refl _ _)
        clear hyk hzk
        go_upto_region 8 with (fail)
        obtain ⟨w4, e4, hb4, hz4, k4⟩ := box1 wo #[.int .i64 y.n, .int .i64 y.d] 54
        rw [← e4]; clear e4 q0 q1 hcy
        have c0 := over_blk k4 k4.lt
        have q0 : ∀ x, (over w4.heap.size w4 x).cell? (ad.add (j * 2)) = some (.int .i64 z.n) := fun x => (hcz _ (below_next hb4 (over_below _ _ _))).1
        have q1 : ∀ x, (over w4.heap.size w4 x).cell? ⟨(ad.add (j * 2)).block, (ad.add (j * 2)).off + 1, none⟩ = some (.int .i64 z.d) := fun x => (hcz _ (below_next hb4 (over_below _ _ _))).2
        have hjn : j < n := by omega
        refine wp_region_over w4.heap.size (by kernel_rfl) (by kernel_rfl) ?_; (repeat (first | go_big_quiet_step ((go_at_call 104; with_reducible exact over_call (Nat.le_refl _) (less_any z y _ (HIN.out _ _ HZ.out) (HIN.out _ _ HY.out)))) | quiet_step ((go_at_call 104; with_reducible exact over_call (Nat.le_refl _) (less_any z y _ (HIN.out _ _ HZ.out) (HIN.out _ _ HY.out)))))); refine wpQuiet_nil ?_; rintro W ⟨x, rfl⟩
        have hbY := over_below w4.heap.size w4 x
        generalize over w4.heap.size w4 x = Y at hbY ⊢
        have hs := pkN_succ (t := tab l a n) (k := k) (by rw [HJ.out]; exact HZ.out) HY.out
        rw [HJ.out] at hs
        have HS := hide hs
        have hbz := below_next hbo (below_next hb4 hbY)
        clear c0 q0 q1 hs hcz hro
        cases hq : z.lt y
        · rw [hq] at HS
          have HS := HS
          go_wp2_with fail
          go_roundw
          case rel => exact ⟨k + 1, by omega, by go_num, by rw [HS.out]; rfl, hbz⟩
          case measure => simp [intOf]; omega
        · rw [hq] at HS
          have HS := HS
          go_wp2_with fail
          go_roundw
          case rel => exact ⟨k + 1, by omega, by go_num, by rw [HS.out]; rfl, hbz⟩
          case measure => simp [intOf]; omega
      · obtain rfl : k = n := by omega
        go_wp2_with fail
        go_ret2
        exact ⟨below_next hb2 hbo, .inl ⟨HP.out, by rw [HJ.out]; rfl⟩⟩
  · have HP := hide hp
    clear hp
    go_wp2_with fail
    go_ret2
    exact ⟨hb2, .inr ⟨HP.out, rfl⟩⟩
end Go.Proofs.YtnndaipnfniciaaGreatDoor
