/- Nulls of the program. -/
import Derived.Test.YtcihiglpahhboaaGreatDoorAPat2
namespace Go.Proofs.YtcihiglpahhboaaGreatDoor
open Go.RowKit Go.Shelf
set_option maxRecDepth 100000
/-- The directions without pressure, among the first k. -/
def nulK (l : List Src) (k : Nat) : List Int := ((List.range k).filter fun j => decide (prs l j = .zero)).map Int.ofNat
theorem nulK_succ (l : List Src) (k : Nat) : nulK l (k + 1) = nulK l k ++ if prs l k = .zero then [(k : Int)] else [] := by
  unfold nulK
  rw [List.range_succ, List.filter_append, List.map_append]
  by_cases h : prs l k = .zero <;> simp [h]
def nulV (l : List Src) : List Int := if lstErr l = 0 then nulK l 8 else []
theorem nulK_len (l : List Src) (k : Nat) : (nulK l k).length ≤ k := by
  unfold nulK
  rw [List.length_map]
  have := List.length_filter_le (fun j => decide (prs l j = .zero)) (List.range k)
  rw [List.length_range] at this
  exact this
set_option maxHeartbeats 2000000 in
theorem Nulls_any (A : Option Addr) (m c : Nat) (l : List Src) (w : World) (hR : Reads w w.heap.size 4 A m (srcs l)) (hV : Vr w) (hm : m ≤ 1000000) :
    Calls Tryz.prog 50 #[.slice A m c] w fun e w' => ∃ A' n' c', e = .returned (.tuple #[.slice A' n' c', .int .i64 (lstErr l)]) ∧ Reads w' w'.heap.size 1 A' n' (ints (nulV l)) ∧ Below w.heap.size w w' := by
  unfold nulV
  by_cases h0 : lstErr l = 0
  · have hok := lst_ok h0
    rw [h0, if_pos rfl]
    have t0 : (lstErr l != 0) = false := by rw [h0]; rfl
    have HO := hide hok
    clear h0 hok
    go_enter Tryz.func50, Tryz.ntmps50
    go_wp2_with fail
    refine (CheckSources_any A m c l _ hR (by omega)).mono ?_
    rintro e w2 ⟨rfl, hb2⟩
    go_wp2_with fail
    refine (pattern_any A m c l _ HO.out (carry hR hb2) (hV.carry hb2)).mono ?_
    rintro e w3 ⟨rfl, hb3⟩
    have hbw3 : Below w.heap.size w w3 := (by repeat (first | with_reducible assumption | exact Below.refl _ _ | refine below_next (by with_reducible assumption) ?_))
    clear hb2 hb3
    go_wp2_with fail
    go_loopw [5, 15] (fun v i wr => ∃ k : Nat, k ≤ 8 ∧ i = .int .i64 k ∧ wr.ownsRow w.heap.size 3 1 v (nulK l k).length (ints (nulK l k)) ∧ Below w.heap.size w wr) (fun _ i _ => 8 - (intOf i).toNat)
    case atStart => exact ⟨0, by omega, rfl, World.ownsRow_nil _ _ _ _, hbw3⟩
    case round =>
      rename World => wo
      obtain ⟨k, hk, rfl, ho, hb⟩ := hrel
      clear hbw3
      by_cases hlt : k < 8
      · have ri : ∀ W, (Instr.index 55 (.agg #[.int .i64 (prs l 0).re, .int .i64 (prs l 0).im, .int .i64 (prs l 1).re, .int .i64 (prs l 1).im, .int .i64 (prs l 2).re, .int .i64 (prs l 2).im, .int .i64 (prs l 3).re, .int .i64 (prs l 3).im, .int .i64 (prs l 4).re, .int .i64 (prs l 4).im, .int .i64 (prs l 5).re, .int .i64 (prs l 5).im, .int .i64 (prs l 6).re, .int .i64 (prs l 6).im, .int .i64 (prs l 7).re, .int .i64 (prs l 7).im]) (.int .i64 (k : Int))).run Tryz.prog W = .ok (.agg #[.int .i64 (prs l k).re, .int .i64 (prs l k).im]) W := fun W => pat_index (prs l) hlt W
        have hki : (k : Int) < 8 := by omega
        have hln := nulK_len l k
        have hsu := nulK_succ l k
        have HSU := hide hsu
        clear hsu
        obtain ⟨z, hz⟩ : ∃ z, prs l k = z := ⟨_, rfl⟩
        have HZ := hide hz
        rw [hz] at ri
        clear hz
        go_upto_region 8 with (fail)
        obtain ⟨w4, e4, hb4, hz4, k4⟩ := box1 wo #[.int .i64 z.re, .int .i64 z.im] 54
        rw [← e4]; clear e4 ri
        have c4 := k4.cell
        have ho4 := row_below ho hb4
        have hbw4 := below_next hb hb4
        have qz := eqG z .zero
        clear ho hb4
        by_cases h : z = .zero
        · rw [decide_eq_true h] at qz
          have qz' : ∀ W, (binOp .eql 54 (.agg #[.int .i64 z.re, .int .i64 z.im]) (.agg #[.int .i64 0, .int .i64 0])).run Tryz.prog W = .ok (.bool true) W := qz
          have A1 : (nulK l k).length + 1 ≤ maxLen := by unfold maxLen; omega
          have A2 : ((nulK l k).length + 1) * 8 ≤ 140737488355328 := by omega
          have hsz := hbw4.size
          have HH := hide h
          clear h qz
          go_wp2_with (at_builtin; refine wpList_push _ rfl (.tmp 22) (.tmp 24) _ rfl w.heap.size 3 (.int .i64 0) 1 8 Tryz.underlying34 info_int rfl (by decide) _ (nulK l k).length _ rfl (ho4.alloc _) w4.heap.size [.int .i64 (k : Int)] rfl rfl (cell_new1 _ _ _) (one_int _) A1 A2 (le_alloc hsz _) ?_; intro v1 w5 ho5 hb5)
          have hbw5 := (hbw4.alloc hsz (.cells #[.int .i64 (k : Int)] 3)).trans hb5
          have e : nulK l (k + 1) = nulK l k ++ [(k : Int)] := by rw [HSU.out, HZ.out, if_pos HH.out]
          have HE := hide e
          clear e
          go_roundw
          case rel => exact ⟨k + 1, by omega, by go_num, by rw [HE.out, List.length_append, ints_snoc]; exact ho5, hbw5⟩
          case measure => simp [intOf]; omega
        · rw [decide_eq_false h] at qz
          have qz' : ∀ W, (binOp .eql 54 (.agg #[.int .i64 z.re, .int .i64 z.im]) (.agg #[.int .i64 0, .int .i64 0])).run Tryz.prog W = .ok (.bool false) W := qz
          have HH := hide h
          clear h qz
          go_wp2_with fail
          have e : nulK l (k + 1) = nulK l k := by rw [HSU.out, HZ.out, if_neg HH.out, List.append_nil]
          have HE := hide e
          clear e
          go_roundw
          case rel => exact ⟨k + 1, by omega, by go_num, by rw [HE.out]; exact ho4, hbw4⟩
          case measure => simp [intOf]; omega
      · obtain rfl : k = 8 := by omega
        obtain ⟨A7, c7, rfl, hR7⟩ := own_slice ho
        go_wp2_with fail
        go_ret2
        exact ⟨A7, _, c7, rfl, hR7, hb⟩
  · rw [if_neg h0]
    have t0 : (lstErr l != 0) = true := by simpa using h0
    clear h0
    go_enter Tryz.func50, Tryz.ntmps50
    go_wp2_with fail
    refine (CheckSources_any A m c l _ hR (by omega)).mono ?_
    rintro e w2 ⟨rfl, hb2⟩
    go_wp2_with fail
    go_ret2
    exact ⟨none, 0, 0, rfl, Reads.none_, hb2⟩
end Go.Proofs.YtcihiglpahhboaaGreatDoor
