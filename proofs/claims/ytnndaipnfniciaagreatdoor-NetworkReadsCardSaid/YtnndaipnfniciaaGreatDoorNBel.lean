/- Below of the program. -/
import Derived.Test.YtnndaipnfniciaaGreatDoorBaseW
import Derived.Test.YtnndaipnfniciaaGreatDoorPlainA
import Derived.Test.YtnndaipnfniciaaGreatDoorNPeak
namespace Go.Proofs.YtnndaipnfniciaaGreatDoor
open Go.RowKit Go.Shelf
set_option maxRecDepth 100000
/-- The error of a level. -/
def lvlErr (x : Rt) : Int := fnz [ratErr x, if x.n < 0 then 3 else 0]
theorem lvl_in {x : Rt} (h : lvlErr x = 0) : x.In := by
  unfold lvlErr at h
  rw [fnz_zero] at h
  simp only [List.mem_cons, List.not_mem_nil, or_false, forall_eq_or_imp, forall_eq] at h
  obtain ⟨h1, h2⟩ := h
  unfold ratErr at h1
  split at h1
  · rename_i h0
    have := rat_zero h0
    split at h2
    · omega
    · exact ⟨⟨by omega, by omega⟩, by omega, by omega⟩
  · omega
/-- What Below returns behind the errors of ladder and frequencies. -/
def BlPost (l : List El) (a : Int) (n : Nat) (x : Rt) (w : World) (e : Ending) (w' : World) : Prop :=
  Below w.heap.size w w' ∧ ((¬ lvlErr x = 0 ∧ e = .returned (.tuple #[.int .i64 0, .int .i64 (lvlErr x)])) ∨ (lvlErr x = 0 ∧ ¬ noPole l a n ∧ e = .returned (.tuple #[.int .i64 0, .int .i64 17])) ∨
    (lvlErr x = 0 ∧ noPole l a n ∧ ((∃ i : Nat, blN (tab l a n) x n = some i ∧ e = .returned (.tuple #[.int .i64 (a + i), .int .i64 0])) ∨ (blN (tab l a n) x n = none ∧ e = .returned (.tuple #[.int .i64 0, .int .i64 7])))))
set_option maxHeartbeats 1000000 in
theorem Below_bad (l : List El) (a b : Int) (x : Rt) (A : Option Addr) (m c : Nat) (w : World) (he : ¬ tabErr l a b = 0) (hm : m ≤ 1000000000000) (hR : Reads w w.heap.size 3 A m (els l)) :
    Calls Tryz.prog 31 #[.slice A m c, .int .i64 a, .int .i64 b, .agg #[.int .i64 x.n, .int .i64 x.d]] w fun e w' => e = .returned (.tuple #[.int .i64 0, .int .i64 (tabErr l a b)]) ∧ Below w.heap.size w w' := by
  have t1 : (tabErr l a b != 0) = true := by simpa using he
  have t2 : (tabErr l a b != 17) = true := by simpa using tab_ne l a b
  have HE := hide he
  clear he
  go_enter Tryz.func31, Tryz.ntmps31
  go_wp2_with fail
  obtain ⟨w1, e1, hb1, hz1, k0⟩ := box1 w #[.int .i64 x.n, .int .i64 x.d] 54
  rw [← e1]; clear e1
  go_step3
  go_wp2_with fail
  refine (levels_bad l a b A m c _ HE.out hm (carry hR hb1)).mono ?_
  rintro e w2 ⟨rfl, hb2⟩
  go_wp2_with fail
  rw [Exit.noGoto_ret]
  go_ret2
  exact ⟨rfl, below_next hb1 hb2⟩
set_option maxHeartbeats 4000000 in
theorem Below_no (l : List El) (a b : Int) (x' : Rt) (A : Option Addr) (m c n : Nat) (w : World) (hC : Con w) (he : tabErr l a b = 0) (hn : (n : Int) = b - a + 1) (hx : ¬ lvlErr x' = 0) (hm : m ≤ 1000000000000) (hR : Reads w w.heap.size 3 A m (els l)) :
    Calls Tryz.prog 31 #[.slice A m c, .int .i64 a, .int .i64 b, .agg #[.int .i64 x'.n, .int .i64 x'.d]] w (BlPost l a n x' w) := by
  have HE := hide he
  have HN := hide hn
  have HX := hide hx
  have hl3 : ∀ E : Int, fnz [ratErr x', if x'.n < 0 then 3 else 0, E] = lvlErr x' := fun E => fnz_pre E _ hx
  have HL3 := hide hl3
  clear he hn hx hl3
  go_enter Tryz.func31, Tryz.ntmps31
  go_wp2_with fail
  obtain ⟨w1, e1, hb1, hz1, k0⟩ := box1 w #[.int .i64 x'.n, .int .i64 x'.d] 54
  rw [← e1]; clear e1
  go_step3
  go_wp2_with fail
  refine (levels_ok l a b A m c n _ (hC.carry hb1) HE.out HN.out hm (carry hR hb1)).mono ?_
  rintro e w2 ⟨hb2, ⟨hp, A', c', rfl, hr⟩ | ⟨hp, rfl⟩⟩
  · by_cases hs : x'.n < 0
    · have h3 := HL3.out 0
      rw [if_pos hs] at h3
      have t1 : (fnz [ratErr x', 3, 0] != 0) = true := by rw [h3]; simpa using HX.out
      have H3 := hide h3
      have hd : decide (x'.n < 0) = true := decide_eq_true hs
      clear h3
      go_upto_region 4 with (fail)
      have kX2 := carryK k0 hb2
      have c0 : ∀ i W, Below w2.heap.size w2 W → W.cell? ⟨w.heap.size, i, none⟩ = (#[.int .i64 x'.n, .int .i64 x'.d] : Array Value)[i]? := fun i W h => (carryK kX2 h).cell i
      go_region_held3 (fun W => Below w2.heap.size w2 W) (first | exact (Below.refl _ _).drew | (with_reducible assumption) | exact below_new ‹Below w2.heap.size w2 _› (Nat.le_refl _) _ | (refine below_set (below_set (below_set (below_set (by assumption) (by omega) _) (by omega) _) (by omega) _) (by omega) _)) (first | (go_at_call 105; refine (CheckRatio_any x' _).mono ?_; rintro e W' ⟨rfl, hbW⟩; have hS := below_step ‹Below w2.heap.size w2 _› hbW (Below.size ‹Below w2.heap.size w2 _›)) | (go_at_call 84; refine (when_any _ _ _).mono ?_; rintro e W' ⟨rfl, rfl⟩) | (go_at_call 82; (first | (with_reducible (refine (first_any _ _ _ _ _ _ (reads3 _ _ _ _ _) (by omega)).mono ?_)) | (with_reducible (refine (first_any _ _ _ _ _ _ (Reads.drew (reads3 _ _ _ _ _)) (by omega)).mono ?_))); rintro e W' ⟨rfl, rfl⟩))
      have hB3 := ‹Below w2.heap.size w2 _›
      generalize World.alloc _ _ = w3 at hB3 ⊢
      clear c0
      have hbw3 := below_next (below_next hb1 hb2) hB3
      have k3 := carryK kX2 hB3
      clear hS hbW
      go_wp2_with fail
      rw [Exit.noGoto_ret]
      go_ret2
      exact ⟨hbw3, .inl ⟨HX.out, by rw [← H3.out]; rfl⟩⟩
    · have h3 := HL3.out 0
      rw [if_neg hs] at h3
      have t1 : (fnz [ratErr x', 0, 0] != 0) = true := by rw [h3]; simpa using HX.out
      have H3 := hide h3
      have hd : decide (x'.n < 0) = false := decide_eq_false hs
      clear h3
      go_upto_region 4 with (fail)
      have kX2 := carryK k0 hb2
      have c0 : ∀ i W, Below w2.heap.size w2 W → W.cell? ⟨w.heap.size, i, none⟩ = (#[.int .i64 x'.n, .int .i64 x'.d] : Array Value)[i]? := fun i W h => (carryK kX2 h).cell i
      go_region_held3 (fun W => Below w2.heap.size w2 W) (first | exact (Below.refl _ _).drew | (with_reducible assumption) | exact below_new ‹Below w2.heap.size w2 _› (Nat.le_refl _) _ | (refine below_set (below_set (below_set (below_set (by assumption) (by omega) _) (by omega) _) (by omega) _) (by omega) _)) (first | (go_at_call 105; refine (CheckRatio_any x' _).mono ?_; rintro e W' ⟨rfl, hbW⟩; have hS := below_step ‹Below w2.heap.size w2 _› hbW (Below.size ‹Below w2.heap.size w2 _›)) | (go_at_call 84; refine (when_any _ _ _).mono ?_; rintro e W' ⟨rfl, rfl⟩) | (go_at_call 82; (first | (with_reducible (refine (first_any _ _ _ _ _ _ (reads3 _ _ _ _ _) (by omega)).mono ?_)) | (with_reducible (refine (first_any _ _ _ _ _ _ (Reads.drew (reads3 _ _ _ _ _)) (by omega)).mono ?_))); rintro e W' ⟨rfl, rfl⟩))
      have hB3 := ‹Below w2.heap.size w2 _›
      generalize World.alloc _ _ = w3 at hB3 ⊢
      clear c0
      have hbw3 := below_next (below_next hb1 hb2) hB3
      have k3 := carryK kX2 hB3
      clear hS hbW
      go_wp2_with fail
      rw [Exit.noGoto_ret]
      go_ret2
      exact ⟨hbw3, .inl ⟨HX.out, by rw [← H3.out]; rfl⟩⟩
  · by_cases hs : x'.n < 0
    · have h3 := HL3.out 17
      rw [if_pos hs] at h3
      have t1 : (fnz [ratErr x', 3, 17] != 0) = true := by rw [h3]; simpa using HX.out
      have H3 := hide h3
      have hd : decide (x'.n < 0) = true := decide_eq_true hs
      clear h3
      go_upto_region 4 with (fail)
      have kX2 := carryK k0 hb2
      have c0 : ∀ i W, Below w2.heap.size w2 W → W.cell? ⟨w.heap.size, i, none⟩ = (#[.int .i64 x'.n, .int .i64 x'.d] : Array Value)[i]? := fun i W h => (carryK kX2 h).cell i
      go_region_held3 (fun W => Below w2.heap.size w2 W) (first | exact (Below.refl _ _).drew | (with_reducible assumption) | exact below_new ‹Below w2.heap.size w2 _› (Nat.le_refl _) _ | (refine below_set (below_set (below_set (below_set (by assumption) (by omega) _) (by omega) _) (by omega) _) (by omega) _)) (first | (go_at_call 105; refine (CheckRatio_any x' _).mono ?_; rintro e W' ⟨rfl, hbW⟩; have hS := below_step ‹Below w2.heap.size w2 _› hbW (Below.size ‹Below w2.heap.size w2 _›)) | (go_at_call 84; refine (when_any _ _ _).mono ?_; rintro e W' ⟨rfl, rfl⟩) | (go_at_call 82; (first | (with_reducible (refine (first_any _ _ _ _ _ _ (reads3 _ _ _ _ _) (by omega)).mono ?_)) | (with_reducible (refine (first_any _ _ _ _ _ _ (Reads.drew (reads3 _ _ _ _ _)) (by omega)).mono ?_))); rintro e W' ⟨rfl, rfl⟩))
      have hB3 := ‹Below w2.heap.size w2 _›
      generalize World.alloc _ _ = w3 at hB3 ⊢
      clear c0
      have hbw3 := below_next (below_next hb1 hb2) hB3
      have k3 := carryK kX2 hB3
      clear hS hbW
      go_wp2_with fail
      rw [Exit.noGoto_ret]
      go_ret2
      exact ⟨hbw3, .inl ⟨HX.out, by rw [← H3.out]; rfl⟩⟩
    · have h3 := HL3.out 17
      rw [if_neg hs] at h3
      have t1 : (fnz [ratErr x', 0, 17] != 0) = true := by rw [h3]; simpa using HX.out
      have H3 := hide h3
      have hd : decide (x'.n < 0) = false := decide_eq_false hs
      clear h3
      go_upto_region 4 with (fail)
      have kX2 := carryK k0 hb2
      have c0 : ∀ i W, Below w2.heap.size w2 W → W.cell? ⟨w.heap.size, i, none⟩ = (#[.int .i64 x'.n, .int .i64 x'.d] : Array Value)[i]? := fun i W h => (carryK kX2 h).cell i
      go_region_held3 (fun W => Below w2.heap.size w2 W) (first | exact (Below.refl _ _).drew | (with_reducible assumption) | exact below_new ‹Below w2.heap.size w2 _› (Nat.le_refl _) _ | (refine below_set (below_set (below_set (below_set (by assumption) (by omega) _) (by omega) _) (by omega) _) (by omega) _)) (first | (go_at_call 105; refine (CheckRatio_any x' _).mono ?_; rintro e W' ⟨rfl, hbW⟩; have hS := below_step ‹Below w2.heap.size w2 _› hbW (Below.size ‹Below w2.heap.size w2 _›)) | (go_at_call 84; refine (when_any _ _ _).mono ?_; rintro e W' ⟨rfl, rfl⟩) | (go_at_call 82; (first | (with_reducible (refine (first_any _ _ _ _ _ _ (reads3 _ _ _ _ _) (by omega)).mono ?_)) | (with_reducible (refine (first_any _ _ _ _ _ _ (Reads.drew (reads3 _ _ _ _ _)) (by omega)).mono ?_))); rintro e W' ⟨rfl, rfl⟩))
      have hB3 := ‹Below w2.heap.size w2 _›
      generalize World.alloc _ _ = w3 at hB3 ⊢
      clear c0
      have hbw3 := below_next (below_next hb1 hb2) hB3
      have k3 := carryK kX2 hB3
      clear hS hbW
      go_wp2_with fail
      rw [Exit.noGoto_ret]
      go_ret2
      exact ⟨hbw3, .inl ⟨HX.out, by rw [← H3.out]; rfl⟩⟩
set_option maxHeartbeats 4000000 in
theorem Below_ok (l : List El) (a b : Int) (x' : Rt) (A : Option Addr) (m c n : Nat) (w : World) (hC : Con w) (he : tabErr l a b = 0) (hn : (n : Int) = b - a + 1) (hx : lvlErr x' = 0) (hm : m ≤ 1000000000000) (hR : Reads w w.heap.size 3 A m (els l)) :
    Calls Tryz.prog 31 #[.slice A m c, .int .i64 a, .int .i64 b, .agg #[.int .i64 x'.n, .int .i64 x'.d]] w (BlPost l a n x' w) := by
  obtain ⟨hl, ha, hb, hab⟩ := tab_zero he
  have n9 : a + (n : Int) ≤ 9 := by omega
  have HOK := hide (lad_ok hl)
  have HXI := hide (lvl_in hx)
  have HE := hide he
  have HN := hide hn
  have HX := hide hx
  have hs : ¬ x'.n < 0 := by have := HXI.out.pos.n; omega
  have hd : decide (x'.n < 0) = false := decide_eq_false hs
  have hrz : ratErr x' = 0 := by
    unfold lvlErr at hx
    rw [fnz_zero] at hx
    exact hx _ (by simp)
  have t1 : (fnz [ratErr x', 0, 0] != 0) = false := by rw [hrz]; rfl
  have t2 : (fnz [ratErr x', 0, 17] != 0) = true := by rw [hrz]; rfl
  have t3 : fnz [ratErr x', 0, 17] = 17 := by rw [hrz]; rfl
  have H3 := hide t3
  clear he hn hx hl hrz t3
  go_enter Tryz.func31, Tryz.ntmps31
  go_wp2_with fail
  obtain ⟨w1, e1, hb1, hz1, k0⟩ := box1 w #[.int .i64 x'.n, .int .i64 x'.d] 54
  rw [← e1]; clear e1
  go_step3
  go_wp2_with fail
  refine (levels_ok l a b A m c n _ (hC.carry hb1) HE.out HN.out hm (carry hR hb1)).mono ?_
  rintro e w2 ⟨hb2, ⟨hp, A', c', rfl, hr⟩ | ⟨hp, rfl⟩⟩
  · have HP := hide hp
    have hin := fun k x hx => tab_in (k := k) (x := x) HOK.out ha n9 hp hx
    have HIN := hide hin
    clear hp hin
    go_upto_region 4 with (fail)
    have kX2 := carryK k0 hb2
    have c0 : ∀ i W, Below w2.heap.size w2 W → W.cell? ⟨w.heap.size, i, none⟩ = (#[.int .i64 x'.n, .int .i64 x'.d] : Array Value)[i]? := fun i W h => (carryK kX2 h).cell i
    go_region_held3 (fun W => Below w2.heap.size w2 W) (first | exact (Below.refl _ _).drew | (with_reducible assumption) | exact below_new ‹Below w2.heap.size w2 _› (Nat.le_refl _) _ | (refine below_set (below_set (below_set (below_set (by assumption) (by omega) _) (by omega) _) (by omega) _) (by omega) _)) (first | (go_at_call 105; refine (CheckRatio_any x' _).mono ?_; rintro e W' ⟨rfl, hbW⟩; have hS := below_step ‹Below w2.heap.size w2 _› hbW (Below.size ‹Below w2.heap.size w2 _›)) | (go_at_call 84; refine (when_any _ _ _).mono ?_; rintro e W' ⟨rfl, rfl⟩) | (go_at_call 82; (first | (with_reducible (refine (first_any _ _ _ _ _ _ (reads3 _ _ _ _ _) (by omega)).mono ?_)) | (with_reducible (refine (first_any _ _ _ _ _ _ (Reads.drew (reads3 _ _ _ _ _)) (by omega)).mono ?_))); rintro e W' ⟨rfl, rfl⟩))
    have hB3 := ‹Below w2.heap.size w2 _›
    generalize World.alloc _ _ = w3 at hB3 ⊢
    clear c0
    have hbw3 := below_next (below_next hb1 hb2) hB3
    have k3 := carryK kX2 hB3
    clear hS hbW
    have hr3 := carry hr hB3
    clear k0 kX2 hb1 hb2 hB3 hr
    go_wp2_with fail
    go_step3
    go_wp2_with fail
    go_loopw [13, 14, 45] (fun o b' i wr => o = .int .i64 0 ∧ b' = .int .i64 7 ∧ ∃ k : Nat, k ≤ n ∧ i = .int .i64 k ∧ blN (tab l a n) x' k = none ∧ Below w3.heap.size w3 wr) (fun _ _ i _ => n - (intOf i).toNat)
    case atStart => exact ⟨rfl, rfl, 0, by omega, rfl, rfl, Below.refl _ _⟩
    case round =>
      rename World => wo
      obtain ⟨rfl, rfl, k, hk, rfl, hbn, hbo⟩ := hrel
      have HBN := hide hbn
      clear hbn
      by_cases hlt : k < n
      · have hro := carry hr3 hbo
        obtain ⟨ad, y, rfl, _, hyk, hcy⟩ := rts_hit hro hlt (Nat.le_refl _)
        have HY := hide hyk
        have HYI := hide (HIN.out _ _ hyk)
        obtain ⟨q0, q1⟩ := hcy wo (Below.refl _ _)
        clear hyk hcy hro
        go_upto_region 11 with (fail)
        obtain ⟨w4, e4, hb4, hz4, k4⟩ := box1 wo #[.int .i64 y.n, .int .i64 y.d] 54
        rw [← e4]; clear e4 q0 q1
        have c4 := k4.cell
        have c5 := (carryK (carryK k3 hbo) hb4).cell
        go_wp2_with fail
        refine (less_any y x' _ HYI.out HXI.out).mono ?_
        rintro e w5 ⟨rfl, hb5⟩
        have hbz := below_next hbo (below_next hb4 hb5)
        clear c4 c5
        cases hq : y.lt x'
        · have HQ := hide (blN_miss HY.out HBN.out hq)
          clear hq
          go_wp2_with fail
          go_roundw
          case rel => exact ⟨rfl, rfl, k + 1, by omega, by go_num, HQ.out, hbz⟩
          case measure => simp [intOf]; omega
        · have HQ := hide (blN_hit HY.out HBN.out hq hlt)
          clear hq
          go_wp2_with fail
          rw [Exit.noGoto_ret]
          go_ret2
          exact ⟨below_next hbw3 hbz, .inr (.inr ⟨HX.out, HP.out, .inl ⟨k, HQ.out, rfl⟩⟩)⟩
      · obtain rfl : k = n := by omega
        go_wp2_with fail
        rw [Exit.noGoto_ret]
        go_ret2
        exact ⟨below_next hbw3 hbo, .inr (.inr ⟨HX.out, HP.out, .inr ⟨HBN.out, rfl⟩⟩)⟩
  · have HP := hide hp
    clear hp
    go_upto_region 4 with (fail)
    have kX2 := carryK k0 hb2
    have c0 : ∀ i W, Below w2.heap.size w2 W → W.cell? ⟨w.heap.size, i, none⟩ = (#[.int .i64 x'.n, .int .i64 x'.d] : Array Value)[i]? := fun i W h => (carryK kX2 h).cell i
    go_region_held3 (fun W => Below w2.heap.size w2 W) (first | exact (Below.refl _ _).drew | (with_reducible assumption) | exact below_new ‹Below w2.heap.size w2 _› (Nat.le_refl _) _ | (refine below_set (below_set (below_set (below_set (by assumption) (by omega) _) (by omega) _) (by omega) _) (by omega) _)) (first | (go_at_call 105; refine (CheckRatio_any x' _).mono ?_; rintro e W' ⟨rfl, hbW⟩; have hS := below_step ‹Below w2.heap.size w2 _› hbW (Below.size ‹Below w2.heap.size w2 _›)) | (go_at_call 84; refine (when_any _ _ _).mono ?_; rintro e W' ⟨rfl, rfl⟩) | (go_at_call 82; (first | (with_reducible (refine (first_any _ _ _ _ _ _ (reads3 _ _ _ _ _) (by omega)).mono ?_)) | (with_reducible (refine (first_any _ _ _ _ _ _ (Reads.drew (reads3 _ _ _ _ _)) (by omega)).mono ?_))); rintro e W' ⟨rfl, rfl⟩))
    have hB3 := ‹Below w2.heap.size w2 _›
    generalize World.alloc _ _ = w3 at hB3 ⊢
    clear c0
    have hbw3 := below_next (below_next hb1 hb2) hB3
    have k3 := carryK kX2 hB3
    clear hS hbW
    go_wp2_with fail
    rw [Exit.noGoto_ret]
    go_ret2
    exact ⟨hbw3, .inr (.inl ⟨HX.out, HP.out, by rw [H3.out]; rfl⟩)⟩
end Go.Proofs.YtnndaipnfniciaaGreatDoor
