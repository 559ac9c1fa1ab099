/- Ladders in a row: slices.Concat, Join. -/
import Derived.Test.YthlnmoecmicofaaDoorNSpi
import Derived.Lib.AppendZeros
import Derived.Lib.AppendZerosOnto
import Derived.Lib.SliceRun
namespace Go.Proofs.YthlnmoecmicofaaDoor
open Go.RowKit Go.Shelf
set_option maxRecDepth 100000
set_option maxHeartbeats 2000000 in
theorem grow_nil (n : Nat) (w : World) (hn : n ≤ 1000000) :
    Calls Tryd.prog 92 #[.slice none 0 0, .int .i64 n] w fun e w' => ∃ v, e = .returned v ∧ w'.ownsRow w.heap.size 62 3 v 0 [] ∧ Below w.heap.size w w' := by
  obtain ⟨i, hi, hz, hsize, hby⟩ := info_parts info_el
  by_cases h0 : n = 0
  · subst h0
    go_enter Tryd.func92, Tryd.ntmps92
    go_wp2
    go_ret
    exact ⟨_, rfl, World.ownsRow_nil _ _ _ _, Below.refl _ _⟩
  · have g1 : (0 : Int) < (n : Int) := by omega
    have g2 : ¬ ((n : Int) < 0) := by omega
    have hrz := fun (w : World) ty => Lib.run_append_grow_zeros (P := Tryd.prog) w 41 3 ty 62 i _ .i64 .i64 Tryd.underlying41 Tryd.underlying3 hi hz none 0 0 [] (run_firstCells_none w.drew i.size 0 0 0) n (by omega) (by omega) (by omega) (by omega) (by rw [hby]; omega) (growslice_fits (by omega) (by rw [hby]; omega))
    go_enter Tryd.func92, Tryd.ntmps92
    go_wp2_with (at_builtin; refine Lib.wpList_append_run _ rfl _ _ _ _ rfl _ _ rfl rfl _ _ (hrz _ _) ?_)
    have hG := grownCap_ge w n 0 62
    have hm := grownCap_le_maxLen w n 0 62 (by unfold maxLen; omega)
    clear hrz
    generalize grownCap w n 0 62 = G at hG hm ⊢
    go_ret
    refine ⟨_, rfl, World.ownsRow_made w _ G (Nat.le_refl _) hm ?_, (by repeat (first | exact Below.refl _ _ | exact Below.refl _ _ | refine Below.drew ?_ | refine below_drewN ?_ _ | refine below_set ?_ (by omega) _ | refine below_new ?_ (by omega) _))⟩
    simp [size_zeroCells]
    omega
theorem els_one (l : List El) : ∀ u ∈ els l, u.oneCell' = true := by
  intro u hu
  simp only [els, List.mem_flatMap] at hu
  obtain ⟨x, _, hx⟩ := hu
  exact one_el x u hx
/-- The list so far, its numbers. -/
def cat2 (l1 l2 : List El) : Nat → List El
  | 0 => []
  | 1 => l1
  | _ => l1 ++ l2
set_option maxHeartbeats 2000000 in
theorem concat_any (A1 : Option Addr) (m1 c1 : Nat) (l1 : List El) (A2 : Option Addr) (m2 c2 : Nat) (l2 : List El) (g : Nat) (w : World) (kL : Blk w g 41 #[.slice A1 m1 c1, .slice A2 m2 c2]) (h1 : Reads w w.heap.size 3 A1 m1 (els l1)) (h2 : Reads w w.heap.size 3 A2 m2 (els l2)) (hm1 : m1 ≤ 100000) (hm2 : m2 ≤ 100000) :
    Calls Tryd.prog 68 #[.slice (some ⟨g, 0, none⟩) 2 2] w fun e w' => ∃ v, e = .returned v ∧ w'.ownsRow w.heap.size 62 3 v (m1 + m2) (els (l1 ++ l2)) ∧ Below w.heap.size w w' := by
  have HL1 := hide (els_reads_len h1)
  have HL2 := hide (els_reads_len h2)
  obtain ⟨i, hi, hz, hsize, hby⟩ := info_parts info_el
  have cL := kL.cell
  go_enter Tryd.func68, Tryd.ntmps68
  go_wp2_with fail
  go_loop [3, 11] (fun s v => ∃ k : Nat, k ≤ 2 ∧ v = .int .i64 k ∧ s = .int .i64 ((cat2 l1 l2 k).length : Nat)) (fun _ v => 2 - (intOf v).toNat)
  case atStart => exact ⟨0, by omega, rfl, rfl⟩
  case round =>
    obtain ⟨k, hk, rfl, rfl⟩ := hrel
    have hc : k = 0 ∨ k = 1 ∨ k = 2 := by omega
    rcases hc with rfl | rfl | rfl
    · have e0 : (cat2 l1 l2 0).length = 0 := rfl
      rw [e0]
      have g1 : ¬ ((m1 : Int) < 0) := by omega
      go_wp2
      go_round
      case rel => exact ⟨1, by omega, rfl, by show _ = Value.int .i64 (l1.length : Nat); rw [HL1.out]⟩
      case measure => simp [intOf]
    · have e0 : (cat2 l1 l2 1).length = m1 := HL1.out
      rw [e0]
      have g1 : ¬ ((m1 : Int) + (m2 : Int) < 0) := by omega
      go_wp2
      go_round
      case rel => exact ⟨2, by omega, rfl, by show _ = Value.int .i64 ((l1 ++ l2).length : Nat); rw [List.length_append, HL1.out, HL2.out]; simp⟩
      case measure => simp [intOf]
    · have e0 : (cat2 l1 l2 2).length = m1 + m2 := by show (l1 ++ l2).length = _; rw [List.length_append, HL1.out, HL2.out]
      rw [e0]
      go_wp2_with fail
      refine (grow_nil (m1 + m2) w (by omega)).mono ?_
      rintro e w1 ⟨v, rfl, ho, hb1⟩
      have kL1 := kL.below hb1 kL.lt
      clear cL
      go_wp2_with fail
      go_loopw [6, 27] (fun s v wq => ∃ k : Nat, k ≤ 2 ∧ v = .int .i64 k ∧ wq.ownsRow w.heap.size 62 3 s (cat2 l1 l2 k).length (els (cat2 l1 l2 k)) ∧ Below w.heap.size w wq) (fun _ v _ => 2 - (intOf v).toNat)
      case atStart => exact ⟨0, by omega, rfl, ho, hb1⟩
      case round =>
        rename World => wq
        obtain ⟨k, hk, rfl, hoq, hbq⟩ := hrel
        clear ho hb1 kL1
        have cQ := (kL.below hbq kL.lt).cell
        have hrq1 := h1.below hbq
        have hrq2 := h2.below hbq
        have hzq := hbq.size
        have hc : k = 0 ∨ k = 1 ∨ k = 2 := by omega
        rcases hc with rfl | rfl | rfl
        · have q1 : (cat2 l1 l2 0).length + m1 ≤ maxLen := by show 0 + m1 ≤ _; unfold maxLen; omega
          have q2 : ((cat2 l1 l2 0).length + m1) * 32 ≤ 140737488355328 := by show (0 + m1) * 32 ≤ _; omega
          go_wp2_with (at_builtin; refine wpList_append_any _ rfl (.tmp 31) (.tmp 32) _ rfl w.heap.size 62 i _ 3 32 Tryd.underlying41 hi hz hsize hby rfl (by decide) _ (cat2 l1 l2 0).length _ rfl hoq w.heap.size A1 m1 c1 (els l1) rfl hrq1 (els_one l1) q1 q2 hzq ?_; intro v1 w3 ho3 hg3 hq3)
          have hb3 := hbq.grown hg3 hzq fun k hk => (hoq.lt k hk).1
          go_roundw
          case rel =>
            refine ⟨1, by omega, rfl, ?_, hb3⟩
            have e1 : (cat2 l1 l2 1).length = (cat2 l1 l2 0).length + m1 := by show l1.length = 0 + m1; rw [HL1.out]; omega
            rw [e1]
            exact ho3
          case measure => simp [intOf]
        · have q1 : (cat2 l1 l2 1).length + m2 ≤ maxLen := by show l1.length + m2 ≤ _; rw [HL1.out]; unfold maxLen; omega
          have q2 : ((cat2 l1 l2 1).length + m2) * 32 ≤ 140737488355328 := by show (l1.length + m2) * 32 ≤ _; rw [HL1.out]; omega
          go_wp2_with (at_builtin; refine wpList_append_any _ rfl (.tmp 31) (.tmp 32) _ rfl w.heap.size 62 i _ 3 32 Tryd.underlying41 hi hz hsize hby rfl (by decide) _ (cat2 l1 l2 1).length _ rfl hoq w.heap.size A2 m2 c2 (els l2) rfl hrq2 (els_one l2) q1 q2 hzq ?_; intro v1 w3 ho3 hg3 hq3)
          have hb3 := hbq.grown hg3 hzq fun k hk => (hoq.lt k hk).1
          go_roundw
          case rel =>
            refine ⟨2, by omega, rfl, ?_, hb3⟩
            have e1 : (cat2 l1 l2 2).length = (cat2 l1 l2 1).length + m2 := by show (l1 ++ l2).length = l1.length + m2; rw [List.length_append, HL2.out]
            have e2 : els (cat2 l1 l2 2) = els (cat2 l1 l2 1) ++ els l2 := by show els (l1 ++ l2) = els l1 ++ els l2; simp [els]
            rw [e1, e2]
            exact ho3
          case measure => simp [intOf]
        · go_wp2_with fail
          go_ret
          have e1 : (cat2 l1 l2 2).length = m1 + m2 := by show (l1 ++ l2).length = _; rw [List.length_append, HL1.out, HL2.out]
          rw [e1] at hoq
          exact ⟨_, rfl, hoq, hbq⟩
theorem ladder_joined {a b : List El} (ha : LadOk a) (hb : LadOk b) (h : a.length + b.length ≤ 5) : LadOk (a ++ b) := ⟨by simp; omega, fun x hx => (List.mem_append.1 hx).elim (ha.all x) (hb.all x)⟩
set_option maxHeartbeats 1000000 in
theorem Join_ok (A1 : Option Addr) (m1 c1 : Nat) (l1 : List El) (A2 : Option Addr) (m2 c2 : Nat) (l2 : List El) (w : World) (h1 : Reads w w.heap.size 3 A1 m1 (els l1)) (h2 : Reads w w.heap.size 3 A2 m2 (els l2)) (e1 : ladErr l1 = 0) (e2 : ladErr l2 = 0) (h5 : m1 + m2 ≤ 5) :
    Calls Tryd.prog 35 #[.slice A1 m1 c1, .slice A2 m2 c2] w fun e w' => ∃ A c, e = .returned (.tuple #[.slice A (m1 + m2) c, .int .i64 0]) ∧ Reads w' w'.heap.size 3 A (m1 + m2) (els (l1 ++ l2)) ∧ Below w.heap.size w w' := by
  have E1 := hide e1
  have E2 := hide e2
  have g1 : ¬ (5 : Int) < (m1 : Int) + (m2 : Int) := by omega
  clear e1 e2
  go_enter Tryd.func35, Tryd.ntmps35
  go_wp2_with fail
  refine (checkLadder_any A1 m1 c1 l1 _ h1 (by omega)).mono ?_
  rintro e w1 ⟨rfl, hb1⟩
  rw [E1.out]
  go_wp2_with fail
  refine (checkLadder_any A2 m2 c2 l2 _ (carry h2 hb1) (by omega)).mono ?_
  rintro e w2 ⟨rfl, hb2⟩
  rw [E2.out]
  go_upto_region 2 with (first | (go_at_call 67; refine (when_any _ _ _).mono ?_; rintro e W' ⟨rfl, rfl⟩) | (go_at_call 44; (first | (with_reducible (refine (first_any _ _ _ _ _ _ (reads3 _ _ _ _ _) (by omega)).mono ?_)) | (with_reducible (refine (first_any _ _ _ _ _ _ (Reads.drew (reads3 _ _ _ _ _)) (by omega)).mono ?_))); rintro e W' ⟨rfl, rfl⟩))
  obtain ⟨w3, e3, hb3, hz3, _⟩ := box1 w2 #[.int .i64 0, .int .i64 0, .int .i64 0] 33
  rw [← e3]; clear e3
  rw [show fnz [0, 0, 0] = 0 from rfl]
  have hbw3 := below_next (below_next hb1 hb2) hb3
  go_wp2_with fail
  obtain ⟨w4, e4, hb4, hz4, kL⟩ := box1 w3 #[.slice A1 m1 c1, .slice A2 m2 c2] 41
  rw [← e4]; clear e4
  have hbw4 := below_next hbw3 hb4
  refine (concat_any A1 m1 c1 l1 A2 m2 c2 l2 _ _ kL (carry h1 hbw4) (carry h2 hbw4) (by omega) (by omega)).mono ?_
  rintro e w5 ⟨v, rfl, ho, hb5⟩
  obtain ⟨A', c', rfl, hr⟩ := own_slice ho
  have hbw5 := below_next hbw4 hb5
  go_wp2_with fail
  refine bodyPost_ret (v := .tuple #[.slice A' (m1 + m2) c', .int .i64 0]) (by simp [results, Tryd.results35, go_sem]) rfl ?_
  exact ⟨_, _, rfl, hr, hbw5⟩
end Go.Proofs.YthlnmoecmicofaaDoor
