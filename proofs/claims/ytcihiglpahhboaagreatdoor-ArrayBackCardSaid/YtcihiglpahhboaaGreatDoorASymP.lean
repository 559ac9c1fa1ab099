/- Normal, Symmetries of the program. -/
import Derived.Test.YtcihiglpahhboaaGreatDoorANrm2
import Derived.Test.YtcihiglpahhboaaGreatDoorBaseM
namespace Go.Proofs.YtcihiglpahhboaaGreatDoor
open Go.RowKit Go.Shelf
set_option maxRecDepth 100000
def nmO (l : List Src) : List Wt := if lstErr l = 0 then nrm l else []
def syO (l : List Src) : List Int := if lstErr l = 0 then (sym l).map (fun n : Nat => (n : Int)) else []
set_option maxHeartbeats 1000000 in
theorem Normal_any (A : Option Addr) (m c : Nat) (l : List Src) (w : World) (hR : Reads w w.heap.size 4 A m (srcs l)) (hV : Vr w) (hm : m ≤ 1000000) :
    Calls Tryz.prog 27 #[.slice A m c] w fun e w' => OutS w ((nmO l).map asS) (lstErr l) e w' ∧ Below w.heap.size w w' := by
  unfold nmO
  by_cases h0 : lstErr l = 0
  · rw [if_pos h0]
    have HO := hide (lst_ok h0)
    have H0 := hide h0
    go_enter Tryz.func27, Tryz.ntmps27
    go_wp2_with fail
    refine (CheckSources_any A m c l _ hR (by omega)).mono ?_
    rintro e w1 ⟨rfl, hb1⟩
    rw [h0]
    go_wp2_with fail
    refine (normal_any A m c l _ HO.out (carry hR hb1) (hV.carry hb1)).mono ?_
    rintro e w2 ⟨v, rfl, ho, hb2⟩
    obtain ⟨A', c', rfl, hR'⟩ := own_slice ho
    clear h0
    go_wp2_with fail
    go_ret2
    exact ⟨⟨A', _, c', by rw [H0.out]; rfl, hR', below_next hb1 hb2⟩, below_next hb1 hb2⟩
  · rw [if_neg h0]
    have t0 : (lstErr l != 0) = true := by simpa using h0
    clear h0
    go_enter Tryz.func27, Tryz.ntmps27
    go_wp2_with fail
    refine (CheckSources_any A m c l _ hR (by omega)).mono ?_
    rintro e w1 ⟨rfl, hb1⟩
    go_wp2_with fail
    go_ret2
    exact ⟨OutS.none_ hb1, hb1⟩
theorem sym_step (l : List Src) {k : Nat} : ((List.range (k + 1)).filter fun n => decide (nrm (l.map (trn n)) = nrm l)) = ((List.range k).filter fun n => decide (nrm (l.map (trn n)) = nrm l)) ++ (if nrm (l.map (trn k)) = nrm l then [k] else []) := by
  rw [List.range_succ, List.filter_append]
  congr 1
  by_cases h : nrm (l.map (trn k)) = nrm l
  · rw [if_pos h]; simp [h]
  · rw [if_neg h]; simp [h]
/-- The symmetries so far. -/
def syP (l : List Src) (k : Nat) : List Int := ((List.range k).filter fun n => decide (nrm (l.map (trn n)) = nrm l)).map (fun n : Nat => (n : Int))
theorem syP_len (l : List Src) (k : Nat) : (syP l k).length ≤ k := by
  unfold syP
  rw [List.length_map]
  exact Nat.le_trans (List.length_filter_le _ _) (by simp)
theorem syP_yes {l : List Src} {k : Nat} (h : nrm (l.map (trn k)) = nrm l) : syP l (k + 1) = syP l k ++ [(k : Int)] := by
  unfold syP
  rw [sym_step, if_pos h, List.map_append]; rfl
theorem syP_no {l : List Src} {k : Nat} (h : ¬ nrm (l.map (trn k)) = nrm l) : syP l (k + 1) = syP l k := by
  unfold syP
  rw [sym_step, if_neg h, List.append_nil]
theorem trn_lok {l : List Src} (h : LOk l) (n : Nat) : LOk (l.map (trn n)) where
  len := by rw [List.length_map]; exact h.len
  all s hs := by
    obtain ⟨t, ht, rfl⟩ := List.mem_map.1 hs
    exact trn_ok (h.all t ht) n
theorem asS_map {a b : List Wt} (h : a.map asS = b.map asS) : a = b := List.map_inj_right (fun _ _ => asS_inj) |>.1 h
set_option maxHeartbeats 4000000 in
theorem Symmetries_any (A : Option Addr) (m c : Nat) (l : List Src) (w : World) (hR : Reads w w.heap.size 4 A m (srcs l)) (hV : Vr w) (hm : m ≤ 1000000) :
    Calls Tryz.prog 28 #[.slice A m c] w fun e w' => ∃ A' n' c', e = .returned (.tuple #[.slice A' n' c', .int .i64 (lstErr l)]) ∧ Reads w' w'.heap.size 1 A' n' (ints (syO l)) ∧ Below w.heap.size w w' := by
  unfold syO
  by_cases h0 : lstErr l = 0
  · rw [if_pos h0]
    have HO := hide (lst_ok h0)
    have H0 := hide h0
    have hq : ∀ n, (nrm (l.map (trn n))).length ≤ 1000 := fun n => by
      have h1 := allW_len (l.map (trn n))
      have h2 := List.length_filter_le (fun w : Wt => decide (w.z ≠ .zero)) (allW (l.map (trn n)))
      have h3 := (lst_ok h0).len
      rw [List.length_map] at h1
      unfold nrm
      omega
    have hq0 : (nrm l).length ≤ 1000 := by have := hq 0; rwa [map_trn_zero] at this
    go_enter Tryz.func28, Tryz.ntmps28
    go_wp2_with fail
    refine (CheckSources_any A m c l _ hR (by omega)).mono ?_
    rintro e w1 ⟨rfl, hb1⟩
    rw [h0]
    clear h0
    go_wp2_with fail
    go_loopw [5, 12] (fun v i wr => ∃ k : Nat, k ≤ 4 ∧ i = .int .i64 k ∧ wr.ownsRow w.heap.size 3 1 v (syP l k).length (ints (syP l k)) ∧ Below w.heap.size w wr) (fun _ i _ => 4 - (intOf i).toNat)
    case atStart => exact ⟨0, by omega, rfl, World.ownsRow_nil _ _ _ _, hb1⟩
    case round =>
      rename World => wo
      clear hb1
      obtain ⟨k, hk, rfl, ho, hb⟩ := hrel
      by_cases hlt : k < 4
      · have hki : (k : Int) < 4 := by omega
        have hkm : ((k : Int) % 4).toNat = k := by omega
        have hlen := syP_len l k
        go_wp2_with fail
        refine (turned_any A m c l k wo HO.out (carry hR hb)).mono ?_
        rintro e w2 ⟨A2, c2, rfl, hR2, hb2⟩
        rw [hkm] at hR2
        go_wp2_with fail
        refine (normal_any A2 m c2 _ w2 (trn_lok HO.out k) hR2 (hV.carry (by repeat (first | with_reducible assumption | exact Below.refl _ _ | refine below_next (by with_reducible assumption) ?_)))).mono ?_
        rintro e w3 ⟨v3, rfl, ho3, hb3⟩
        obtain ⟨A3, c3, rfl, hR3⟩ := own_slice ho3
        clear ho3
        go_wp2_with fail
        refine (normal_any A m c l w3 HO.out (carry hR (by repeat (first | with_reducible assumption | exact Below.refl _ _ | refine below_next (by with_reducible assumption) ?_))) (hV.carry (by repeat (first | with_reducible assumption | exact Below.refl _ _ | refine below_next (by with_reducible assumption) ?_)))).mono ?_
        rintro e w4 ⟨v4, rfl, ho4, hb4⟩
        obtain ⟨A4, c4, rfl, hR4⟩ := own_slice ho4
        clear ho4
        go_wp2_with fail
        refine (eqW_any A3 _ c3 _ A4 _ c4 _ w4 (carry hR3 hb4) hR4 (by have := hq k; omega) (by omega)).mono ?_
        rintro e w5 ⟨rfl, hb5⟩
        have ho5 := row_below ho (show Below wo.heap.size wo w5 from (by repeat (first | with_reducible assumption | exact Below.refl _ _ | refine below_next (by with_reducible assumption) ?_)))
        have hb05 : Below w.heap.size w w5 := (by repeat (first | with_reducible assumption | exact Below.refl _ _ | refine below_next (by with_reducible assumption) ?_))
        clear ho hR2 hR3 hR4 hb hb2 hb3 hb4 hb5 hq hq0
        by_cases he : nrm (l.map (trn k)) = nrm l
        · have HY := hide (syP_yes he)
          rw [he, decide_eq_true rfl]
          clear he
          go_wp2_with (at_builtin; refine wpList_push _ rfl (.tmp 22) (.tmp 24) _ rfl w.heap.size 3 (.int .i64 0) 1 8 Tryz.underlying34 info_int rfl (by decide) _ (syP l k).length _ rfl (ho5.alloc _) w5.heap.size [.int .i64 (k : Int)] rfl rfl (cell_new1 _ _ _) (one_int _) (by unfold maxLen; omega) (by omega) (le_alloc hb05.size _) ?_; intro v1 w6 ho6 hb6)
          go_roundw
          case rel => exact ⟨k + 1, by omega, by go_num, by rw [HY.out, List.length_append, ints_snoc]; exact ho6, (hb05.alloc hb05.size _).trans hb6⟩
          case measure => simp [intOf]; omega
        · have HY := hide (syP_no he)
          rw [decide_eq_false (fun e => he (asS_map e))]
          clear he
          go_wp2_with fail
          go_roundw
          case rel => exact ⟨k + 1, by omega, by go_num, by rw [HY.out]; exact ho5, hb05⟩
          case measure => simp [intOf]; omega
      · obtain rfl : k = 4 := by omega
        obtain ⟨A7, c7, rfl, hR7⟩ := own_slice ho
        go_wp2_with fail
        go_ret2
        exact ⟨A7, _, c7, by rw [H0.out]; rfl, hR7, hb⟩
  · rw [if_neg h0]
    have t0 : (lstErr l != 0) = true := by simpa using h0
    clear h0
    go_enter Tryz.func28, Tryz.ntmps28
    go_wp2_with fail
    refine (CheckSources_any A m c l _ hR (by omega)).mono ?_
    rintro e w1 ⟨rfl, hb1⟩
    go_wp2_with fail
    go_ret2
    exact ⟨none, 0, 0, rfl, Reads.none_, hb1⟩
end Go.Proofs.YtcihiglpahhboaaGreatDoor
