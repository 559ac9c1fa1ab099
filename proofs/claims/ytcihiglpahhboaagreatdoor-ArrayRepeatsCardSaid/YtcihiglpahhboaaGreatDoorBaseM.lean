/- valid, Shift, Repeat of the program; functions from sources to sources. slices.Concat of two lists of sources; copies into blocks of one's own. Copies append([]T{}, x...). What the laws of this package share: Short, number, sources. slices.Equal at weights. Quarter turns of the program. -/
import Derived.Test.YtcihiglpahhboaaGreatDoorBaseC
import Derived.Test.YtcihiglpahhboaaGreatDoorPlainA
import Derived.Test.YtcihiglpahhboaaGreatDoorBaseS
import Derived.Lib.AppendZeros
import Derived.Lib.AppendZerosOnto
import Derived.Lib.SliceRun
import Derived.Deep.OwnRows
import Derived.Laws.CopyOwn
import Derived.Test.YtcihiglpahhboaaGreatDoorBaseF
namespace Go.Proofs.YtcihiglpahhboaaGreatDoor
open Go.RowKit
set_option maxRecDepth 100000
/-- Sources if they are valid. -/
def vld (l : List Src) : List Src := if lstErr l = 0 then l else []
theorem vld_ok {l : List Src} (h : lstErr l = 0) : vld l = l := by unfold vld; rw [if_pos h]
theorem vld_bad {l : List Src} (h : ¬ lstErr l = 0) : vld l = [] := by unfold vld; rw [if_neg h]
/-- What a function with sources and an error returns. -/
def OutS (w : World) (r : List Src) (er : Int) (e : Ending) (w' : World) : Prop := ∃ A n c, e = .returned (.tuple #[.slice A n c, .int .i64 er]) ∧ Reads w' w'.heap.size 4 A n (srcs r) ∧ Below w.heap.size w w'
theorem OutS.none_ {w w' : World} {er : Int} (h : Below w.heap.size w w') : OutS w [] er (.returned (.tuple #[.slice none 0 0, .int .i64 er])) w' := ⟨none, 0, 0, rfl, Reads.none_, h⟩
theorem valid_any (A : Option Addr) (m c : Nat) (l : List Src) (w : World) (hR : Reads w w.heap.size 4 A m (srcs l)) (hm : m ≤ 1000000) :
    Calls Tryz.prog 88 #[.slice A m c] w fun e w' => OutS w (vld l) (lstErr l) e w' := by
  by_cases h0 : lstErr l = 0
  · rw [vld_ok h0, h0]
    have t0 : (lstErr l != 0) = false := by rw [h0]; rfl
    clear h0
    go_enter Tryz.func88, Tryz.ntmps88
    go_wp2_with fail
    refine (CheckSources_any A m c l _ hR (by omega)).mono ?_
    rintro e w2 ⟨rfl, hb2⟩
    go_wp2_with fail
    go_ret2
    exact ⟨A, m, c, rfl, carry hR hb2, hb2⟩
  · rw [vld_bad h0]
    have t0 : (lstErr l != 0) = true := by simpa using h0
    clear h0
    go_enter Tryz.func88, Tryz.ntmps88
    go_wp2_with fail
    refine (CheckSources_any A m c l _ hR (by omega)).mono ?_
    rintro e w2 ⟨rfl, hb2⟩
    go_wp2_with fail
    go_ret2
    exact OutS.none_ hb2
theorem add_in {a b : Int} (ha : -100000 ≤ a ∧ a ≤ 100000) (hb : -100000 ≤ b ∧ b ≤ 100000) : wrap64 (a + b) = a + b := by unfold wrap64; omega
theorem sub_in {a b : Int} (ha : -100000 ≤ a ∧ a ≤ 100000) (hb : -100000 ≤ b ∧ b ≤ 100000) : wrap64 (a - b) = a - b := by unfold wrap64; omega
theorem mul_in {a b : Int} (ha : -100 ≤ a ∧ a ≤ 100) (hb : -100 ≤ b ∧ b ≤ 100) : wrap64 (a * b) = a * b := by
  have h1 : (a * b).natAbs = a.natAbs * b.natAbs := Int.natAbs_mul a b
  have h2 : a.natAbs * b.natAbs ≤ 100 * 100 := Nat.mul_le_mul (by omega) (by omega)
  unfold wrap64; omega
set_option maxHeartbeats 1000000 in
theorem shift1_any (s : Src) (x y : Int) (Bx By : Nat) (w : World) (hs : s.Ok) (hx : -100 ≤ x ∧ x ≤ 100) (hy : -100 ≤ y ∧ y ≤ 100) (kx : Blk w Bx 3 #[.int .i64 x]) (ky : Blk w By 3 #[.int .i64 y]) :
    Calls Tryz.prog 114 #[.agg #[.int .i64 s.x, .int .i64 s.y, .int .i64 s.g, .int .i64 s.p], .pointer (some ⟨Bx, 0, none⟩), .pointer (some ⟨By, 0, none⟩)] w fun e w' => e = .returned (.agg #[.int .i64 (shf x y s).x, .int .i64 (shf x y s).y, .int .i64 (shf x y s).g, .int .i64 (shf x y s).p]) ∧ Below w.heap.size w w' := by
  have h1 : wrap64 (s.x + x) = s.x + x := add_in (by have := hs.x1; have := hs.x2; omega) (by omega)
  have h2 : wrap64 (s.y + y) = s.y + y := add_in (by have := hs.y1; have := hs.y2; omega) (by omega)
  clear hs hx hy
  go_enter Tryz.func114, Tryz.ntmps114
  go_upto_region 1 with (fail)
  obtain ⟨w1, e1, hb1, hz1, k0, k1⟩ := box2 w #[.int .i64 s.x, .int .i64 s.y, .int .i64 s.g, .int .i64 s.p] #[.int .i64 0, .int .i64 0, .int .i64 0, .int .i64 0] 60 60
  rw [← e1]; clear e1
  have c0 := k0.cell
  have c1 := k1.cell
  have f1 := k1.frozen
  have cx := (carryK kx hb1).cell
  have cy := (carryK ky hb1).cell
  go_wp2_with fail
  with_reducible refine fins4 60 hb1 (Nat.le_succ w.heap.size) k1 (fun X hX kX => ?_)
  have cX := kX.cell
  refine bodyPost_ret (v := .agg #[.int .i64 (shf x y s).x, .int .i64 (shf x y s).y, .int .i64 (shf x y s).g, .int .i64 (shf x y s).p]) (by simp [results, Tryz.results114, go_sem, cX, shf]) rfl ?_
  exact ⟨rfl, hX⟩
/-- The error of sources and a shift. -/
def shE (l : List Src) (u v : Int) : Int := fnz [lstErr l, rng u (-100) 100, rng v (-100) 100]
theorem shE_ok {l : List Src} {u v : Int} (h : shE l u v = 0) : LOk l ∧ (-100 ≤ u ∧ u ≤ 100) ∧ (-100 ≤ v ∧ v ≤ 100) := by
  unfold shE at h
  rw [fnz_zero] at h
  exact ⟨lst_ok (h _ (by simp)), rng_zero.1 (h _ (by simp)), rng_zero.1 (h _ (by simp))⟩
/-- What Shift returns. -/
def shO (l : List Src) (u v : Int) : List Src × Int := if shE l u v = 0 then (vld (l.map (shf u v)), lstErr (l.map (shf u v))) else ([], shE l u v)
theorem enters_shift1 : ∀ a p q W, Sem.run Tryz.prog (callFunc 114 #[a, p, q]) W = .ok (.enter 114 #[a, p, q]) W := fun _ _ _ _ => by kernel_rfl
set_option maxHeartbeats 2000000 in
theorem Shift_any (A : Option Addr) (m c : Nat) (l : List Src) (u v : Int) (w : World) (hR : Reads w w.heap.size 4 A m (srcs l)) (hm : m ≤ 1000000) :
    Calls Tryz.prog 65 #[.slice A m c, .int .i64 u, .int .i64 v] w fun e w' => OutS w (shO l u v).1 (shO l u v).2 e w' := by
  have HL := hide (srcs_reads_len hR)
  unfold shO
  by_cases h0 : shE l u v = 0
  · obtain ⟨hok, hx, hy⟩ := shE_ok h0
    rw [if_pos h0]
    have t0 : (fnz [lstErr l, rng u (-100) 100, rng v (-100) 100] != 0) = false := by rw [show fnz [lstErr l, rng u (-100) 100, rng v (-100) 100] = 0 from h0]; rfl
    have HO := hide hok
    have HX := hide hx
    have HY := hide hy
    clear h0 hok hx hy
    go_enter Tryz.func65, Tryz.ntmps65
    go_upto_region 1 with (fail)
    obtain ⟨w1, e1, hb1, hz1, kx, ky⟩ := box2 w #[.int .i64 u] #[.int .i64 v] 3 3
    rw [← e1]; clear e1
    have hR1 := carry hR hb1
    have cx := over_blk kx kx.lt
    have cy := over_blk ky ky.lt
    refine wp_region_part 6 w1.heap.size (by kernel_rfl) (by kernel_rfl) ?_; simp only [List.take_succ_cons, List.take_zero, List.drop_succ_cons, List.drop_zero]; (repeat (first | go_big_quiet_step (first | (go_at_call 62; exact over_call (Nat.le_refl _) (CheckSources_any A m c l _ (carry hR1 (over_below _ _ _)) (by omega))) | (go_at_call 90; with_reducible first | exact over_same (checkPlace_any u _) | exact over_same (checkPlace_any v _))) | quiet_step (first | (go_at_call 62; exact over_call (Nat.le_refl _) (CheckSources_any A m c l _ (carry hR1 (over_below _ _ _)) (by omega))) | (go_at_call 90; with_reducible first | exact over_same (checkPlace_any u _) | exact over_same (checkPlace_any v _))))); refine wpQuiet_nil ?_; rintro W ⟨x, rfl⟩
    have hbY := over_below w1.heap.size w1 x
    generalize over w1.heap.size w1 x = Y at hbY ⊢
    clear cx cy
    go_wp2_with ((go_at_call 86; (first | (with_reducible (refine (first_any _ _ _ _ _ _ (reads3 _ _ _ _ _) (by omega)).mono ?_)) | (with_reducible (refine (first_any _ _ _ _ _ _ (Reads.drew (reads3 _ _ _ _ _)) (by omega)).mono ?_))); rintro e W' ⟨rfl, rfl⟩))
    obtain ⟨w3, e3⟩ : ∃ w3, w3 = Y.alloc (.cells #[.int .i64 (lstErr l), .int .i64 (rng u (-100) 100), .int .i64 (rng v (-100) 100)] 27) := ⟨_, rfl⟩
    have hb3 : Below Y.heap.size Y w3 := by rw [e3]; exact (Below.refl _ _).alloc (Nat.le_refl _) _
    rw [← e3]; clear e3
    have hb03 : Below w.heap.size w w3 := (by repeat (first | with_reducible assumption | exact Below.refl _ _ | refine below_next (by with_reducible assumption) ?_))
    have kx3 := carryK (w' := w3) kx (by repeat (first | with_reducible assumption | exact Below.refl _ _ | refine below_next (by with_reducible assumption) ?_))
    have ky3 := carryK (w' := w3) ky (by repeat (first | with_reducible assumption | exact Below.refl _ _ | refine below_next (by with_reducible assumption) ?_))
    refine (mapS2 (.pointer (some ⟨w.heap.size, 0, none⟩)) (.pointer (some ⟨w.heap.size + 1, 0, none⟩)) 114 (shf u v) (fun a W => enters_shift1 _ _ _ _) A m c l _ (carry hR (by repeat (first | with_reducible assumption | exact Below.refl _ _ | refine below_next (by with_reducible assumption) ?_))) (by omega) (fun s W hs hW => shift1_any s u v _ _ W (HO.out.all s hs) HX.out HY.out (carryK kx3 hW) (carryK ky3 hW))).mono ?_
    rintro e w4 ⟨A4, c4, rfl, hR4, hb4⟩
    go_wp2_with fail
    refine (valid_any A4 m c4 _ _ hR4 (by omega)).mono ?_
    rintro e w5 ⟨A5, n5, c5, rfl, hR5, hb5⟩
    go_wp2_with fail
    go_ret2
    exact ⟨A5, n5, c5, rfl, hR5, (by repeat (first | with_reducible assumption | exact Below.refl _ _ | refine below_next (by with_reducible assumption) ?_))⟩
  · rw [if_neg h0]
    have t0 : (fnz [lstErr l, rng u (-100) 100, rng v (-100) 100] != 0) = true := by simpa using (show ¬ fnz [lstErr l, rng u (-100) 100, rng v (-100) 100] = 0 from h0)
    clear h0
    go_enter Tryz.func65, Tryz.ntmps65
    go_upto_region 1 with (fail)
    obtain ⟨w1, e1, hb1, hz1, kx, ky⟩ := box2 w #[.int .i64 u] #[.int .i64 v] 3 3
    rw [← e1]; clear e1
    have hR1 := carry hR hb1
    have cx := over_blk kx kx.lt
    have cy := over_blk ky ky.lt
    refine wp_region_part 6 w1.heap.size (by kernel_rfl) (by kernel_rfl) ?_; simp only [List.take_succ_cons, List.take_zero, List.drop_succ_cons, List.drop_zero]; (repeat (first | go_big_quiet_step (first | (go_at_call 62; exact over_call (Nat.le_refl _) (CheckSources_any A m c l _ (carry hR1 (over_below _ _ _)) (by omega))) | (go_at_call 90; with_reducible first | exact over_same (checkPlace_any u _) | exact over_same (checkPlace_any v _))) | quiet_step (first | (go_at_call 62; exact over_call (Nat.le_refl _) (CheckSources_any A m c l _ (carry hR1 (over_below _ _ _)) (by omega))) | (go_at_call 90; with_reducible first | exact over_same (checkPlace_any u _) | exact over_same (checkPlace_any v _))))); refine wpQuiet_nil ?_; rintro W ⟨x, rfl⟩
    have hbY := over_below w1.heap.size w1 x
    generalize over w1.heap.size w1 x = Y at hbY ⊢
    clear cx cy
    go_wp2_with ((go_at_call 86; (first | (with_reducible (refine (first_any _ _ _ _ _ _ (reads3 _ _ _ _ _) (by omega)).mono ?_)) | (with_reducible (refine (first_any _ _ _ _ _ _ (Reads.drew (reads3 _ _ _ _ _)) (by omega)).mono ?_))); rintro e W' ⟨rfl, rfl⟩))
    obtain ⟨w3, e3⟩ : ∃ w3, w3 = Y.alloc (.cells #[.int .i64 (lstErr l), .int .i64 (rng u (-100) 100), .int .i64 (rng v (-100) 100)] 27) := ⟨_, rfl⟩
    have hb3 : Below Y.heap.size Y w3 := by rw [e3]; exact (Below.refl _ _).alloc (Nat.le_refl _) _
    rw [← e3]; clear e3
    go_ret2
    exact OutS.none_ (by repeat (first | with_reducible assumption | exact Below.refl _ _ | refine below_next (by with_reducible assumption) ?_))
end Go.Proofs.YtcihiglpahhboaaGreatDoor

namespace Go.Proofs.YtcihiglpahhboaaGreatDoor
open Go.RowKit
set_option maxRecDepth 100000
set_option maxHeartbeats 2000000 in
theorem grow_nil (n : Nat) (w : World) (hn : n ≤ 1000000) :
    Calls Tryz.prog 136 #[.slice none 0 0, .int .i64 n] w fun e w' => ∃ v, e = .returned v ∧ w'.ownsRow w.heap.size 60 4 v 0 [] ∧ Below w.heap.size w w' := by
  obtain ⟨i, hi, hz, hsize, hby⟩ := info_parts info_src
  by_cases h0 : n = 0
  · subst h0
    go_enter Tryz.func136, Tryz.ntmps136
    go_wp2
    go_ret
    exact ⟨_, rfl, World.ownsRow_nil _ _ _ _, Below.refl _ _⟩
  · have g1 : (0 : Int) < (n : Int) := by omega
    have g2 : ¬ ((n : Int) < 0) := by omega
    have hrz := fun (w : World) ty => Lib.run_append_grow_zeros (P := Tryz.prog) w 26 3 ty 60 i _ .i64 .i64 Tryz.underlying26 Tryz.underlying3 hi hz none 0 0 [] (run_firstCells_none w.drew i.size 0 0 0) n (by omega) (by omega) (by omega) (by omega) (by rw [hby]; omega) (growslice_fits (by omega) (by rw [hby]; omega))
    go_enter Tryz.func136, Tryz.ntmps136
    go_wp2_with (at_builtin; refine Lib.wpList_append_run _ rfl _ _ _ _ rfl _ _ rfl rfl _ _ (hrz _ _) ?_)
    have hG := grownCap_ge w n 0 60
    have hm := grownCap_le_maxLen w n 0 60 (by unfold maxLen; omega)
    clear hrz
    generalize grownCap w n 0 60 = G at hG hm ⊢
    go_ret
    refine ⟨_, rfl, World.ownsRow_made w _ G (Nat.le_refl _) hm ?_, (by repeat (first | exact Below.refl _ _ | exact Below.refl _ _ | refine Below.drew ?_ | refine below_drewN ?_ _ | refine below_set ?_ (by omega) _ | refine below_new ?_ (by omega) _))⟩
    simp [size_zeroCells]
    omega
/-- The list so far, its numbers. -/
def cat2 (l1 l2 : List Src) : Nat → List Src
  | 0 => []
  | 1 => l1
  | _ => l1 ++ l2
set_option maxHeartbeats 2000000 in
theorem concat_any (A1 : Option Addr) (m1 c1 : Nat) (l1 : List Src) (A2 : Option Addr) (m2 c2 : Nat) (l2 : List Src) (g : Nat) (w : World) (kL : Blk w g 26 #[.slice A1 m1 c1, .slice A2 m2 c2]) (h1 : Reads w w.heap.size 4 A1 m1 (srcs l1)) (h2 : Reads w w.heap.size 4 A2 m2 (srcs l2)) (hm1 : m1 ≤ 100000) (hm2 : m2 ≤ 100000) :
    Calls Tryz.prog 115 #[.slice (some ⟨g, 0, none⟩) 2 2] w fun e w' => ∃ v, e = .returned v ∧ w'.ownsRow w.heap.size 60 4 v (m1 + m2) (srcs (l1 ++ l2)) ∧ Below w.heap.size w w' := by
  have HL1 := hide (srcs_reads_len h1)
  have HL2 := hide (srcs_reads_len h2)
  obtain ⟨i, hi, hz, hsize, hby⟩ := info_parts info_src
  have cL := kL.cell
  go_enter Tryz.func115, Tryz.ntmps115
  go_wp2_with fail
  go_loop [3, 11] (fun s v => ∃ k : Nat, k ≤ 2 ∧ v = .int .i64 k ∧ s = .int .i64 ((cat2 l1 l2 k).length : Nat)) (fun _ v => 2 - (intOf v).toNat)
  case atStart => exact ⟨0, by omega, rfl, rfl⟩
  case round =>
    obtain ⟨k, hk, rfl, rfl⟩ := hrel
    have hc : k = 0 ∨ k = 1 ∨ k = 2 := by omega
    rcases hc with rfl | rfl | rfl
    · have e0 : (cat2 l1 l2 0).length = 0 := rfl
      rw [e0]
      have g1 : ¬ ((m1 : Int) < 0) := by omega
      go_wp2
      go_round
      case rel => exact ⟨1, by omega, rfl, by show _ = Value.int .i64 (l1.length : Nat); rw [HL1.out]⟩
      case measure => simp [intOf]
    · have e0 : (cat2 l1 l2 1).length = m1 := HL1.out
      rw [e0]
      have g1 : ¬ ((m1 : Int) + (m2 : Int) < 0) := by omega
      go_wp2
      go_round
      case rel => exact ⟨2, by omega, rfl, by show _ = Value.int .i64 ((l1 ++ l2).length : Nat); rw [List.length_append, HL1.out, HL2.out]; simp⟩
      case measure => simp [intOf]
    · have e0 : (cat2 l1 l2 2).length = m1 + m2 := by show (l1 ++ l2).length = _; rw [List.length_append, HL1.out, HL2.out]
      rw [e0]
      go_wp2_with fail
      refine (grow_nil (m1 + m2) w (by omega)).mono ?_
      rintro e w1 ⟨v, rfl, ho, hb1⟩
      have kL1 := kL.below hb1 kL.lt
      clear cL
      go_wp2_with fail
      go_loopw [6, 27] (fun s v wq => ∃ k : Nat, k ≤ 2 ∧ v = .int .i64 k ∧ wq.ownsRow w.heap.size 60 4 s (cat2 l1 l2 k).length (srcs (cat2 l1 l2 k)) ∧ Below w.heap.size w wq) (fun _ v _ => 2 - (intOf v).toNat)
      case atStart => exact ⟨0, by omega, rfl, ho, hb1⟩
      case round =>
        rename World => wq
        obtain ⟨k, hk, rfl, hoq, hbq⟩ := hrel
        clear ho hb1 kL1
        have cQ := (kL.below hbq kL.lt).cell
        have hrq1 := h1.below hbq
        have hrq2 := h2.below hbq
        have hzq := hbq.size
        have hc : k = 0 ∨ k = 1 ∨ k = 2 := by omega
        rcases hc with rfl | rfl | rfl
        · have q1 : (cat2 l1 l2 0).length + m1 ≤ maxLen := by show 0 + m1 ≤ _; unfold maxLen; omega
          have q2 : ((cat2 l1 l2 0).length + m1) * 32 ≤ 140737488355328 := by show (0 + m1) * 32 ≤ _; omega
          go_wp2_with (at_builtin; refine wpList_append_any _ rfl (.tmp 31) (.tmp 32) _ rfl w.heap.size 60 i _ 4 32 Tryz.underlying26 hi hz hsize hby rfl (by decide) _ (cat2 l1 l2 0).length _ rfl hoq w.heap.size A1 m1 c1 (srcs l1) rfl hrq1 (srcs_one l1) q1 q2 hzq ?_; intro v1 w3 ho3 hg3 hq3)
          have hb3 := hbq.grown hg3 hzq fun k hk => (hoq.lt k hk).1
          go_roundw
          case rel =>
            refine ⟨1, by omega, rfl, ?_, hb3⟩
            have e1 : (cat2 l1 l2 1).length = (cat2 l1 l2 0).length + m1 := by show l1.length = 0 + m1; rw [HL1.out]; omega
            rw [e1]
            exact ho3
          case measure => simp [intOf]
        · have q1 : (cat2 l1 l2 1).length + m2 ≤ maxLen := by show l1.length + m2 ≤ _; rw [HL1.out]; unfold maxLen; omega
          have q2 : ((cat2 l1 l2 1).length + m2) * 32 ≤ 140737488355328 := by show (l1.length + m2) * 32 ≤ _; rw [HL1.out]; omega
          go_wp2_with (at_builtin; refine wpList_append_any _ rfl (.tmp 31) (.tmp 32) _ rfl w.heap.size 60 i _ 4 32 Tryz.underlying26 hi hz hsize hby rfl (by decide) _ (cat2 l1 l2 1).length _ rfl hoq w.heap.size A2 m2 c2 (srcs l2) rfl hrq2 (srcs_one l2) q1 q2 hzq ?_; intro v1 w3 ho3 hg3 hq3)
          have hb3 := hbq.grown hg3 hzq fun k hk => (hoq.lt k hk).1
          go_roundw
          case rel =>
            refine ⟨2, by omega, rfl, ?_, hb3⟩
            have e1 : (cat2 l1 l2 2).length = (cat2 l1 l2 1).length + m2 := by show (l1 ++ l2).length = l1.length + m2; rw [List.length_append, HL2.out]
            have e2 : srcs (cat2 l1 l2 2) = srcs (cat2 l1 l2 1) ++ srcs l2 := by show srcs (l1 ++ l2) = srcs l1 ++ srcs l2; simp [srcs]
            rw [e1, e2]
            exact ho3
          case measure => simp [intOf]
        · go_wp2_with fail
          go_ret
          have e1 : (cat2 l1 l2 2).length = m1 + m2 := by show (l1 ++ l2).length = _; rw [List.length_append, HL1.out, HL2.out]
          rw [e1] at hoq
          exact ⟨_, rfl, hoq, hbq⟩
/-- copy(dst, src): the whole of src over a block of its own. -/
theorem run_copy_full {P : Program} (w : World) (dT sT ty elem : TypeId) (size g n dCap c : Nat) (A : Option Addr) (xs : List Value) (cur : Array Value) (t : TypeId) (B : Nat)
    (hu : P.underlying dT = some (.slice elem)) (hs : (P.info? elem).map (·.size) = some size) (hk : Blk w g t cur) (hc : cur.size = n * size) (hr : Reads w B size A n xs) (h1 : ∀ v ∈ xs, v.oneCell' = true) :
    (Builtin.copy_ #[dT, sT] ty #[.slice (some ⟨g, 0, none⟩) n dCap, .slice A n c]).run P w = .ok (goInt n) (w.setRow g xs.toArray) := by
  have hst := run_storeCells_at P g 0 t xs 0 cur w hk (by rw [hr.1, hc]; omega) h1
  have hd : cur.toList.drop xs.length = [] := List.drop_eq_nil_of_le (by rw [Array.length_toList, hr.1, hc]; omega)
  simp [hd] at hst
  cases hq : P.info? elem with
  | none => simp [hq] at hs
  | some i =>
    have hi : i.size = size := by simpa [hq] using hs
    rcases Nat.eq_zero_or_pos n with rfl | hn
    · have hx : xs = [] := List.eq_nil_of_length_eq_zero (by simpa using hr.1)
      subst hx
      have hl : ∀ (x : Addr), (loadCells x 0).run P w = .ok #[] w := fun x => by simpa using run_loadCells_list (P := P) w x [] (by simp)
      cases A <;> simp [Builtin.copy_, run_underlying hu, Builtin.lenOf, Builtin.firstCells, sizeOf, typeInfo, hq, hl, hst]
    · obtain ⟨ad, rfl, _, hsrc⟩ := hr.2 hn
      have hl := run_loadCells_list (P := P) w ad xs hsrc
      rw [hr.1] at hl
      simp [Builtin.copy_, run_underlying hu, Builtin.lenOf, Builtin.firstCells, sizeOf, typeInfo, hq, hi, hl, hst]
theorem wpList_copy_full {P : Program} {w : World} {ops : Array Oper} {rest : List Oper} {o : Oper} {a : Act} {Q : Exit → Act → World → Prop} (hgd : o.guard = none) (d s : Operand) (dT sT : TypeId)
    (ho : o.op = .call { callee := .builtin .copy, args := #[d, s], argTypes := #[dT, sT] }) (elem : TypeId) (size : Nat) (hu : P.underlying dT = some (.slice elem)) (hs : (P.info? elem).map (·.size) = some size)
    (g n dCap c : Nat) (A : Option Addr) (xs : List Value) (cur : Array Value) (t : TypeId) (B : Nat) (hd : a.eval d = .slice (some ⟨g, 0, none⟩) n dCap) (hsr : a.eval s = .slice A n c)
    (hk : Blk w g t cur) (hc : cur.size = n * size) (hr : Reads w B size A n xs) (h1 : ∀ v ∈ xs, v.oneCell' = true) (C : Nat) (w0 : World) (hb : Below C w0 w) (hC : C ≤ g)
    (h : ∀ w', Blk w' g t xs.toArray → Below C w0 w' → wpList P ops Q rest (a.put o.dst (goInt n)) w') : wpList P ops Q (o :: rest) a w := by
  refine wpList_plain hgd fun K hK => ?_
  have hrun := run_copy_full (P := P) w dT sT o.type elem size g n dCap c A xs cur t B hu hs hk hc hr h1
  unfold Oper.wp
  simp [execOp, ho, resolve, invoke, builtin, hd, hsr, hrun, Result.andThen]
  exact hK _ _ (h _ (setRow_heap w g cur _ t _ hk) (below_setRow hb hC _))
/-- copy(dst, src): what else lies in memory stays. -/
theorem wpList_copy_keep {P : Program} {w : World} {ops : Array Oper} {rest : List Oper} {o : Oper} {a : Act} {Q : Exit → Act → World → Prop} (hgd : o.guard = none) (d s : Operand) (dT sT : TypeId)
    (ho : o.op = .call { callee := .builtin .copy, args := #[d, s], argTypes := #[dT, sT] }) (elem : TypeId) (size : Nat) (hu : P.underlying dT = some (.slice elem)) (hs : (P.info? elem).map (·.size) = some size)
    (g n dCap c : Nat) (A : Option Addr) (xs : List Value) (cur : Array Value) (t : TypeId) (B : Nat) (hd : a.eval d = .slice (some ⟨g, 0, none⟩) n dCap) (hsr : a.eval s = .slice A n c)
    (hk : Blk w g t cur) (hc : cur.size = n * size) (hr : Reads w B size A n xs) (h1 : ∀ v ∈ xs, v.oneCell' = true)
    (h : ∀ w', Blk w' g t xs.toArray → (∀ g' t' cs', g' ≠ g → Blk w g' t' cs' → Blk w' g' t' cs') → (∀ C w0, C ≤ g → Below C w0 w → Below C w0 w') → wpList P ops Q rest (a.put o.dst (goInt n)) w') : wpList P ops Q (o :: rest) a w := by
  refine wpList_plain hgd fun K hK => ?_
  have hrun := run_copy_full (P := P) w dT sT o.type elem size g n dCap c A xs cur t B hu hs hk hc hr h1
  unfold Oper.wp
  simp [execOp, ho, resolve, invoke, builtin, hd, hsr, hrun, Result.andThen]
  exact hK _ _ (h _ (setRow_heap w g cur _ t _ hk) (fun g' t' cs' hg h => (setRow_other w g g' _ hg).trans h) (fun C w0 hC hb => below_setRow hb hC _))
/-! ### A list of sources in a block of one's own, with spare room -/
structure Row (W : World) (A : Option Addr) (n B : Nat) (l : List Src) : Prop where
  len : l.length = n
  blk : 0 < n → ∃ g sp, A = some ⟨g, 0, none⟩ ∧ B ≤ g ∧ Blk W g 60 (srcs l ++ sp).toArray
theorem Row.reads {W : World} {A : Option Addr} {n B : Nat} {l : List Src} (h : Row W A n B l) : Reads W W.heap.size 4 A n (srcs l) := by
  refine ⟨by rw [srcs_len, h.len], fun hn => ?_⟩
  obtain ⟨g, sp, rfl, _, hk⟩ := h.blk hn
  refine ⟨_, rfl, hk.lt, fun j u hu => ?_⟩
  have : (⟨g, 0, none⟩ : Addr).add j = ⟨g, j, none⟩ := by unfold Addr.add; split <;> simp_all
  rw [this, hk.cell, List.getElem?_toArray, List.getElem?_append_left (List.getElem?_eq_some_iff.1 hu).1]
  exact hu
theorem Row.of_own {W : World} {B n : Nat} {v : Value} {l : List Src} (h : W.ownsRow B 60 4 v n (srcs l)) (hl : l.length = n) : ∃ A c, v = .slice A n c ∧ Row W A n B l := by
  rcases h.2 with ⟨rfl, rfl⟩ | ⟨g, cap, cur, rfl, hg, hh, hcap, hmx, hcs, htk⟩
  · exact ⟨none, 0, rfl, hl, fun hn => by omega⟩
  · refine ⟨_, cap, rfl, hl, fun _ => ?_⟩
    have e : (srcs l ++ cur.toList.drop (n * 4)).toArray = cur := by rw [← htk, List.take_append_drop]
    exact ⟨g, cur.toList.drop (n * 4), rfl, hg, by rw [e]; exact hh⟩
/-- Nothing but the block of a slice has turned. -/
def Keep (A : Option Addr) (w w' : World) : Prop := ∀ g' t' cs', (∀ g, A = some ⟨g, 0, none⟩ → g' ≠ g) → Blk w g' t' cs' → Blk w' g' t' cs'
end Go.Proofs.YtcihiglpahhboaaGreatDoor

namespace Go.Proofs.YtcihiglpahhboaaGreatDoor
open Go.RowKit
set_option maxRecDepth 100000
theorem wpList_copied {P : Program} {ops : Array Oper} {rest : List Oper} {o : Oper} {a : Act} {Q : Exit → Act → World → Prop} (w : World) (hgd : o.guard = none) (s x : Operand) (t : TypeId)
    (ho : o.op = .call { callee := .builtin .append, args := #[s, x], argTypes := #[t, t] })
    (e : TypeId) (z : Value) (size bytes : Nat) (ht : P.underlying t = some (.slice e)) (hinfo : (P.info? e).map (fun i => (i.zero, i.size, i.bytes)) = some (some z, size, bytes))
    (hzs : z.cells.size = size) (hsz : 0 < size) (hby2 : bytes ≤ 100)
    (hs : a.eval s = .slice (some ⟨w.heap.size, 0, none⟩) 0 0) (A : Option Addr) (n c : Nat) (xs : List Value) (hx : a.eval x = .slice A n c) (hR : Reads w w.heap.size size A n xs) (h1 : ∀ u ∈ xs, u.oneCell' = true) (hn : n ≤ 100000)
    (h : ∀ A' c' w', Reads w' w'.heap.size size A' n xs → Below w.heap.size w w' → wpList P ops Q rest (a.put o.dst (.slice A' n c')) w') : wpList P ops Q (o :: rest) a (w.alloc (.cells #[] e)) := by
  obtain ⟨i, hi, hz, hsize, hby⟩ := info_parts hinfo
  have hown : (w.alloc (.cells #[] e)).ownsRow w.heap.size e size (.slice (some ⟨w.heap.size, 0, none⟩) 0 0) 0 [] :=
    ⟨by simp, .inr ⟨w.heap.size, 0, #[], rfl, Nat.le_refl _, Blk.new w e #[], Nat.le_refl _, by unfold maxLen; omega, by simp, by simp⟩⟩
  have hb : (0 + n) * bytes ≤ 140737488355328 := by
    have := Nat.mul_le_mul hn hby2
    rw [Nat.zero_add]; omega
  refine wpList_append_any _ hgd s x t ho w.heap.size e i z size bytes ht hi hz hsize hby hzs hsz _ 0 [] hs hown w.heap.size A n c xs hx (hR.alloc (Nat.le_refl _) _) h1 (by unfold maxLen; omega) hb (by simp) ?_
  intro v1 w1 ho1 hg1 _
  rw [Nat.zero_add, List.nil_append] at ho1
  obtain ⟨A', c', rfl, hr⟩ := own_slice ho1
  exact h A' c' w1 hr (((Below.refl w.heap.size w).alloc (Nat.le_refl _) _).grown hg1 (by simp) fun k hk => (hown.lt k hk).1)
end Go.Proofs.YtcihiglpahhboaaGreatDoor

namespace Go.Proofs.YtcihiglpahhboaaGreatDoor
open Go.RowKit
set_option maxRecDepth 100000
def shrt (n : Nat) (k : Int) : Bool := decide ((n : Int) ≤ k) || decide (n = 17)
theorem short_any (A : Option Addr) (n c : Nat) (k : Int) (w : World) :
    Calls Tryz.prog 18 #[.slice A n c, .int .i64 k] w fun e w' => e = .returned (.bool (shrt n k)) ∧ w = w' := by
  unfold shrt
  by_cases h1 : (n : Int) ≤ k
  · have t1 : decide ((n : Int) ≤ k) = true := by simp [h1]
    go_enter Tryz.func18, Tryz.ntmps18
    go_wp2
    all_goals (go_ret; exact ⟨by simp [h1], rfl⟩)
  · have t1 : decide ((n : Int) ≤ k) = false := by simp [h1]
    by_cases h2 : n = 17
    · subst h2
      go_enter Tryz.func18, Tryz.ntmps18
      go_wp2
      all_goals (go_ret; exact ⟨by simp, rfl⟩)
    · have t2 : ((n : Int) == 17) = false := by simp; omega
      go_enter Tryz.func18, Tryz.ntmps18
      go_wp2
      all_goals (go_ret; exact ⟨by simp, rfl⟩)
/-- A result and its error are the expected ones. -/
theorem number_any (x e : Int) (w : World) (h : e ≠ 0 → x = 0) :
    Calls Tryz.prog 46 #[.int .i64 x, .int .i64 e, .int .i64 e, .int .i64 x] w fun r w' => r = .returned (.bool true) ∧ w = w' := by
  by_cases h0 : e = 0
  · subst h0
    go_enter Tryz.func46, Tryz.ntmps46
    go_wp2
    all_goals (go_ret; exact ⟨rfl, rfl⟩)
  · obtain rfl := h h0
    have t0 : (e != 0) = true := by simpa using h0
    have t1 : (e == 0) = false := by simpa using h0
    clear h0 h
    go_enter Tryz.func46, Tryz.ntmps46
    go_wp2
    all_goals (go_ret; exact ⟨rfl, rfl⟩)
theorem sources_any (A : Option Addr) (n c : Nat) (l : List Src) (er : Int) (A' : Option Addr) (m c' : Nat) (w : World) (hR : Reads w w.heap.size 4 A n (srcs l)) (hR' : Reads w w.heap.size 4 A' m (srcs l)) (hn : n ≤ 1000000) (h : er ≠ 0 → l = []) :
    Calls Tryz.prog 26 #[.slice A n c, .int .i64 er, .int .i64 er, .slice A' m c'] w fun r w' => r = .returned (.bool true) ∧ Below w.heap.size w w' := by
  have HL := srcs_reads_len hR
  have HL' := srcs_reads_len hR'
  by_cases h0 : er = 0
  · subst h0
    go_enter Tryz.func26, Tryz.ntmps26
    go_wp2_with fail
    refine (told_any A n c l _ hR (by omega)).mono ?_
    rintro e w1 ⟨A1, c1, rfl, hR1, hb1⟩
    go_wp2_with fail
    refine (rSame_any A1 n c1 l A' m c' l _ hR1 (carry hR' hb1) (by omega) (by omega)).mono ?_
    rintro e w2 ⟨rfl, hb2⟩
    rw [decide_eq_true rfl]
    go_wp2_with fail
    go_ret
    exact ⟨rfl, below_next hb1 hb2⟩
  · obtain rfl := h h0
    obtain rfl : 0 = n := HL
    have t0 : (er != 0) = true := by simpa using h0
    have t1 : (er == 0) = false := by simpa using h0
    clear h0 h
    go_enter Tryz.func26, Tryz.ntmps26
    go_wp2
    all_goals (go_ret; exact ⟨rfl, (by repeat (first | exact Below.refl _ _ | exact Below.refl _ _ | refine Below.drew ?_ | refine below_drewN ?_ _ | refine below_set ?_ (by omega) _ | refine below_new ?_ (by omega) _))⟩)
end Go.Proofs.YtcihiglpahhboaaGreatDoor

namespace Go.Proofs.YtcihiglpahhboaaGreatDoor
open Go.RowKit
set_option maxRecDepth 100000
theorem neqWA (a b : Src) (w : World) : (binOp .neq 123 (.agg #[.int .i64 a.x, .int .i64 a.y, .int .i64 a.g, .int .i64 a.p]) (.agg #[.int .i64 b.x, .int .i64 b.y, .int .i64 b.g, .int .i64 b.p])).run Tryz.prog w = .ok (.bool (!decide (a = b))) w := by
  have hg := fun W => gEqD ⟨a.g, a.p⟩ ⟨b.g, b.p⟩ W
  have hd2 : decide ((⟨a.g, a.p⟩ : G) = ⟨b.g, b.p⟩) = (decide (a.g = b.g) && decide (a.p = b.p)) := by
    rw [Bool.eq_iff_iff]; simp only [decide_eq_true_eq, Bool.and_eq_true]
    exact ⟨fun h => by injection h with h1 h2; exact ⟨h1, h2⟩, fun h => G.ext' h.1 h.2⟩
  simp only [hd2] at hg
  have hh : (Op.equalIn 10000 123 (.agg #[.int .i64 a.x, .int .i64 a.y, .int .i64 a.g, .int .i64 a.p]) (.agg #[.int .i64 b.x, .int .i64 b.y, .int .i64 b.g, .int .i64 b.p])).run Tryz.prog w = .ok (decide (a = b)) w := by
    rw [src_dec, show (10000 : Nat) = 9999 + 1 from rfl, run_equalIn_struct w 9999 123 _ _ (by kernel_rfl) (by kernel_rfl)]
    by_cases h1 : a.x = b.x <;> by_cases h2 : a.y = b.y <;> by_cases h3 : a.g = b.g <;> by_cases h4 : a.p = b.p <;> simp [Program.fieldsOf, Tryz.underlying123, Op.eqFields, go_sem, run_equalIn_int _ _ _ _ _ _ _ Tryz.underlying3, hg, h1, h2, h3, h4]
  simp only [binOp, Op.equal, Op.maxDepth]
  simp [hh, go_sem]
set_option maxHeartbeats 2000000 in
theorem eqW_any (A : Option Addr) (n c : Nat) (xs : List Src) (A' : Option Addr) (m c' : Nat) (ys : List Src) (w : World) (h : Reads w w.heap.size 4 A n (srcs xs)) (h' : Reads w w.heap.size 4 A' m (srcs ys)) (hn : n ≤ 1000000000000) (hm : m ≤ 1000000000000) :
    Calls Tryz.prog 93 #[.slice A n c, .slice A' m c'] w fun r w' => r = .returned (.bool (decide (xs = ys))) ∧ Below w.heap.size w w' := by
  have hl := srcs_reads_len h
  have hl' := srcs_reads_len h'
  go_enter Tryz.func93, Tryz.ntmps93
  by_cases hnm : n = m
  · obtain rfl : m = n := hnm.symm
    have HL := hide hl
    have HL' := hide hl'
    have t0 : ((m : Int) != (m : Int)) = false := by simp
    clear hl hl'
    go_wp2_with fail
    go_loopw [13] (fun i wr => ∃ k : Nat, k ≤ m ∧ i = .int .i64 k ∧ xs.take k = ys.take k ∧ Below w.heap.size w wr) (fun i _ => m - (intOf i).toNat)
    case atStart => exact ⟨0, by omega, rfl, rfl, Below.refl _ _⟩
    case round =>
      rename World => wo
      obtain ⟨k, hk, rfl, ht, hb⟩ := hrel
      have HT := hide ht
      clear ht
      by_cases hlt : k < m
      · obtain ⟨ad, p, rfl, _, hx, hc⟩ := src_hit (carry h hb) hlt (Nat.le_refl _)
        obtain ⟨ad', q, rfl, _, hy, hc'⟩ := src_hit (carry h' hb) hlt (Nat.le_refl _)
        have HX := hide hx
        have HY := hide hy
        have q0 : ∀ x, (over wo.heap.size wo x).cell? (ad.add (k * 4)) = some (.int .i64 p.x) := fun x => (hc _ (over_below _ _ _)).1
        have q1 : ∀ x, (over wo.heap.size wo x).cell? ⟨(ad.add (k * 4)).block, (ad.add (k * 4)).off + 1, none⟩ = some (.int .i64 p.y) := fun x => (hc _ (over_below _ _ _)).2.1
        have q2 : ∀ x, (over wo.heap.size wo x).cell? ⟨(ad.add (k * 4)).block, (ad.add (k * 4)).off + 2, none⟩ = some (.int .i64 p.g) := fun x => (hc _ (over_below _ _ _)).2.2.1
        have q3 : ∀ x, (over wo.heap.size wo x).cell? ⟨(ad.add (k * 4)).block, (ad.add (k * 4)).off + 3, none⟩ = some (.int .i64 p.p) := fun x => (hc _ (over_below _ _ _)).2.2.2
        have r0 : ∀ x, (over wo.heap.size wo x).cell? (ad'.add (k * 4)) = some (.int .i64 q.x) := fun x => (hc' _ (over_below _ _ _)).1
        have r1 : ∀ x, (over wo.heap.size wo x).cell? ⟨(ad'.add (k * 4)).block, (ad'.add (k * 4)).off + 1, none⟩ = some (.int .i64 q.y) := fun x => (hc' _ (over_below _ _ _)).2.1
        have r2 : ∀ x, (over wo.heap.size wo x).cell? ⟨(ad'.add (k * 4)).block, (ad'.add (k * 4)).off + 2, none⟩ = some (.int .i64 q.g) := fun x => (hc' _ (over_below _ _ _)).2.2.1
        have r3 : ∀ x, (over wo.heap.size wo x).cell? ⟨(ad'.add (k * 4)).block, (ad'.add (k * 4)).off + 3, none⟩ = some (.int .i64 q.p) := fun x => (hc' _ (over_below _ _ _)).2.2.2
        have hq := neqWA p q
        clear hx hy hc hc'
        by_cases hpq : p = q
        · rw [decide_eq_true hpq] at hq
          have HPQ := hide hpq
          clear hpq
          go_upto_region 6 with (fail)
          refine wp_region_over wo.heap.size (by kernel_rfl) (by kernel_rfl) ?_; (repeat (first | go_big_quiet_step (fail) | quiet_step (fail))); refine wpQuiet_nil ?_; rintro W ⟨x, rfl⟩
          have hbY := over_below wo.heap.size wo x
          generalize over wo.heap.size wo x = Y at hbY ⊢
          go_wp2_with fail
          go_roundw
          case rel => exact ⟨k + 1, by omega, by go_num, by rw [List.take_add_one, List.take_add_one, HX.out, HY.out, HT.out, HPQ.out], below_next hb hbY⟩
          case measure => simp [intOf]; omega
        · rw [decide_eq_false hpq] at hq
          have hne : ¬ xs = ys := fun e => by
            have := HX.out
            rw [e, HY.out] at this
            exact hpq (Option.some.inj this).symm
          have HNE := hide (decide_eq_false hne)
          clear hpq hne
          go_upto_region 6 with (fail)
          refine wp_region_over wo.heap.size (by kernel_rfl) (by kernel_rfl) ?_; (repeat (first | go_big_quiet_step (fail) | quiet_step (fail))); refine wpQuiet_nil ?_; rintro W ⟨x, rfl⟩
          have hbY := over_below wo.heap.size wo x
          generalize over wo.heap.size wo x = Y at hbY ⊢
          go_wp2_with fail
          go_ret
          exact ⟨by rw [HNE.out]; rfl, below_next hb hbY⟩
      · obtain rfl : k = m := by omega
        have he : xs = ys := by
          have := HT.out
          rwa [List.take_of_length_le (by rw [HL.out]; omega), List.take_of_length_le (by rw [HL'.out]; omega)] at this
        have HE := hide (decide_eq_true he)
        clear he
        go_wp2_with fail
        go_ret
        exact ⟨by rw [HE.out]; rfl, hb⟩
  · have t0 : ((n : Int) != (m : Int)) = true := by simp; omega
    have hne : ¬ xs = ys := fun e => hnm (by rw [← hl, ← hl', e])
    have HNE := hide (decide_eq_false hne)
    clear hnm hl hl' hne
    go_wp2_with fail
    go_ret
    exact ⟨by rw [HNE.out]; rfl, Below.refl _ _⟩
end Go.Proofs.YtcihiglpahhboaaGreatDoor

namespace Go.Proofs.YtcihiglpahhboaaGreatDoor
open Go.RowKit
set_option maxRecDepth 100000
set_option maxHeartbeats 4000000 in
theorem turned_any (A : Option Addr) (m c : Nat) (l : List Src) (n : Int) (w : World) (hok : LOk l) (hR : Reads w w.heap.size 4 A m (srcs l)) :
    Calls Tryz.prog 94 #[.slice A m c, .int .i64 n] w fun e w' => ∃ A' c', e = .returned (.slice A' m c') ∧ Reads w' w'.heap.size 4 A' m (srcs (l.map (trn (n % 4).toNat))) ∧ Below w.heap.size w w' := by
  have HL := hide (srcs_reads_len hR)
  have HO := hide hok
  have hm16 : m ≤ 16 := by rw [← HL.out]; exact hok.len
  obtain ⟨q, hq⟩ : ∃ q : Nat, n % 4 = (q : Int) := ⟨(n % 4).toNat, by omega⟩
  have hq4 : q < 4 := by omega
  have eq : (n % 4).toNat = q := by omega
  rw [eq]
  have HQ := hide hq
  clear hok hq eq
  obtain ⟨i, hi, hz, hsize, hby⟩ := info_parts info_src
  have hmk : ∀ w, (Instr.makeSlice 26 (.int .i64 (m : Int)) (.int .i64 (m : Int))).run Tryz.prog w = .ok (.slice (some ⟨w.heap.size, 0, none⟩) m m) (w.alloc (.cells (madeCells #[.int .i64 0, .int .i64 0, .int .i64 0, .int .i64 0] (m * 4)) 60)) := fun w => by
    have := run_make (P := Tryz.prog) w 26 60 i _ Tryz.underlying26 hi hz .i64 .i64 m m (by omega) (by omega) (by rw [hby]; omega) (by omega)
    simpa [hsize, Value.cells] using this
  go_enter Tryz.func94, Tryz.ntmps94
  go_upto_region 2 with (fail)
  obtain ⟨w1, e1, hb1, hz1, k1⟩ := box1 w (madeCells #[.int .i64 0, .int .i64 0, .int .i64 0, .int .i64 0] (m * 4)) 60
  rw [← e1]; clear e1 hmk
  have hR1 := hR.below hb1
  go_wp2_with (first | (refine wpList_copy_full rfl (.tmp 11) (.tmp 12) 26 26 rfl 60 4 Tryz.underlying26 (by kernel_rfl) w.heap.size m m c A (srcs l) _ _ _ (by rfl) (by rfl) k1 (size_madeCells _ _) hR1 (srcs_one l) w.heap.size w hb1 (Nat.le_refl _) ?_; intro w2 k2 hb2) | (go_at_call 87; refine (modulo_any _ _).mono ?_; rintro e W' ⟨rfl, rfl⟩; rw [HQ.out]))
  go_loopw [16] (fun v wr => ∃ k : Nat, k ≤ q ∧ v = .int .i64 k ∧ Blk wr w.heap.size 60 (srcs (l.map (trn k))).toArray ∧ Below w.heap.size w wr) (fun v _ => q - (intOf v).toNat)
  case atStart => exact ⟨0, by omega, rfl, by rw [map_trn_zero]; exact k2, hb2⟩
  case round =>
    rename World => wo
    clear k2 hb2 k1 hb1
    obtain ⟨k, hk, rfl, kB, hb⟩ := hrel
    by_cases hlt : k < q
    · go_wp2_with fail
      go_loopw [20] (fun v wr => ∃ j : Nat, j ≤ m ∧ v = .int .i64 j ∧ Blk wr w.heap.size 60 (srcs (mix (l.map (trn (k + 1))) (l.map (trn k)) j) ++ []).toArray ∧ Below w.heap.size w wr) (fun v _ => m - (intOf v).toNat)
      case atStart => exact ⟨0, by omega, rfl, by rw [mix_zero, List.append_nil]; exact kB, hb⟩
      case round =>
        rename World => wq
        clear kB hb
        obtain ⟨j, hj, rfl, kB, hb⟩ := hrel
        by_cases hlt2 : j < m
        · have hjl : j < l.length := by rw [HL.out]; exact hlt2
          obtain ⟨s0, hs0⟩ : ∃ s, l[j]? = some s := ⟨_, List.getElem?_eq_getElem hjl⟩
          have hm0 : (l.map (trn k))[j]? = some (trn k s0) := by rw [List.getElem?_map, hs0]; rfl
          have hm1 : (l.map (trn (k + 1)))[j]? = some (trn1 (trn k s0)) := by rw [List.getElem?_map, hs0]; rfl
          have hlen : (l.map (trn (k + 1))).length = (l.map (trn k)).length := by simp
          have hs := trn_ok (HO.out.all s0 (List.mem_of_getElem? hs0)) k
          obtain ⟨s, es⟩ : ∃ s, trn k s0 = s := ⟨_, rfl⟩
          rw [es] at hm0 hm1 hs
          have hmix : (mix (l.map (trn (k + 1))) (l.map (trn k)) j)[j]? = some s := by rw [mix_at hlen, if_neg (Nat.lt_irrefl _)]; exact hm0
          obtain ⟨d0, d1, d2, d3⟩ := blk_hitS kB hmix
          have hmlen : j < (mix (l.map (trn (k + 1))) (l.map (trn k)) j).length := (List.getElem?_eq_some_iff.1 hmix).1
          have hn : wrap64 (-s.y) = -s.y := by have := hs.y1; have := hs.y2; unfold wrap64; omega
          have ha : (⟨w.heap.size, 0, none⟩ : Addr).add (j * 4) = ⟨w.heap.size, j * 4, none⟩ := by unfold Addr.add; split <;> simp_all
          have HMX := hide hmix
          have HM1 := hide hm1
          have HML := hide hmlen
          clear es hs hs0 hm0 hm1 hjl hmix hmlen
          go_upto_region 8 with (fail)
          obtain ⟨w4, e4, hb4, hz4, k4⟩ := box1 wq #[.int .i64 s.x, .int .i64 s.y, .int .i64 s.g, .int .i64 s.p] 60
          rw [← e4]; clear e4 d0 d1 d2 d3
          have kB4 := carryK kB hb4
          have hbw4 := below_next hb hb4
          obtain ⟨d0, d1, d2, d3⟩ := blk_hitS kB4 HMX.out
          have kX := blk_srcS (s' := ⟨-s.y, s.y, s.g, s.p⟩) (j := 0) (v := .int .i64 (-s.y)) kB4 HMX.out (by omega) rfl
          have kY := blk_srcS (s := ⟨-s.y, s.y, s.g, s.p⟩) (s' := ⟨-s.y, s.x, s.g, s.p⟩) (j := 1) (v := .int .i64 s.x) kX (by rw [List.getElem?_set_self HML.out]) (by omega) rfl
          rw [List.set_set, show (⟨-s.y, s.x, s.g, s.p⟩ : Src) = trn1 s from rfl, mix_step hlen HM1.out] at kY
          have hY := below_set (below_set hbw4 (Nat.le_refl w.heap.size) (i := j * 4 + 0) (.int .i64 (-s.y))) (Nat.le_refl w.heap.size) (i := j * 4 + 1) (.int .i64 s.x)
          have KY := hide kY
          have HY := hide hY
          have fB := kB4.frozen
          have c4 := k4.cell
          have hlq : w.heap.size < wq.heap.size := kB.lt
          have hn1 : ¬ (w.heap.size = wq.heap.size) := by omega
          have hn2 : ¬ (wq.heap.size = w.heap.size) := by omega
          clear kB kX kY hY hb hbw4 kB4 d2 d3
          go_region
          go_wp2_with fail
          go_roundw
          case rel => exact ⟨j + 1, by omega, by go_num, KY.out.drew, HY.out.drew⟩
          case measure => simp [intOf]; omega
        · obtain rfl : j = m := by omega
          go_wp2_with fail
          go_roundw
          case rel => exact ⟨k + 1, by omega, by go_num, by rw [List.append_nil, mix_all (by simp) (by simp [HL.out])] at kB; exact kB, hb⟩
          case measure => simp [intOf]; omega
    · obtain rfl : k = q := by omega
      go_wp2_with fail
      go_ret
      refine ⟨_, _, rfl, ⟨by simp [srcs_len, HL.out], fun _ => ⟨_, rfl, kB.lt, fun j u hu => ?_⟩⟩, hb⟩
      have : (⟨w.heap.size, 0, none⟩ : Addr).add j = ⟨w.heap.size, j, none⟩ := by unfold Addr.add; split <;> simp_all
      rw [this, kB.cell, List.getElem?_toArray]
      exact hu
/-- What Turn returns. -/
def tuE (l : List Src) (n : Int) : Int := fnz [lstErr l, rng n (-999999999) 999999999]
def tuO (l : List Src) (n : Int) : List Src := if tuE l n = 0 then l.map (trn (n % 4).toNat) else []
set_option maxHeartbeats 2000000 in
theorem Turn_any (A : Option Addr) (m c : Nat) (l : List Src) (n : Int) (w : World) (hR : Reads w w.heap.size 4 A m (srcs l)) (hm : m ≤ 1000000) :
    Calls Tryz.prog 64 #[.slice A m c, .int .i64 n] w fun e w' => OutS w (tuO l n) (tuE l n) e w' := by
  have HL := hide (srcs_reads_len hR)
  unfold tuO
  by_cases h0 : tuE l n = 0
  · rw [if_pos h0]
    have hok : LOk l := by
      unfold tuE at h0
      rw [fnz_zero] at h0
      exact lst_ok (h0 _ (by simp))
    have t0 : (fnz [lstErr l, rng n (-999999999) 999999999] != 0) = false := by rw [show fnz [lstErr l, rng n (-999999999) 999999999] = 0 from h0]; rfl
    have H0 := hide h0
    have HO := hide hok
    clear h0 hok
    go_enter Tryz.func64, Tryz.ntmps64
    go_wp2_with fail
    refine (CheckSources_any A m c l _ hR (by omega)).mono ?_
    rintro e w1 ⟨rfl, hb1⟩
    go_wp2_with (first | (go_at_call 89; refine (within_any _ _ _ _).mono ?_; rintro e W' ⟨rfl, rfl⟩) | (go_at_call 86; (first | (with_reducible (refine (first_any _ _ _ _ _ _ (reads2 _ _ _ _) (by omega)).mono ?_)) | (with_reducible (refine (first_any _ _ _ _ _ _ (Reads.drew (reads2 _ _ _ _)) (by omega)).mono ?_))); rintro e W' ⟨rfl, rfl⟩))
    obtain ⟨w3, e3⟩ : ∃ w3, w3 = w1.alloc (.cells #[.int .i64 (lstErr l), .int .i64 (rng n (-999999999) 999999999)] 27) := ⟨_, rfl⟩
    have hb3 : Below w1.heap.size w1 w3 := by rw [e3]; exact (Below.refl _ _).alloc (Nat.le_refl _) _
    rw [← e3]; clear e3
    go_wp2_with fail
    refine (turned_any A m c l n _ HO.out (carry hR (by repeat (first | with_reducible assumption | exact Below.refl _ _ | refine below_next (by with_reducible assumption) ?_)))).mono ?_
    rintro e w5 ⟨A5, c5, rfl, hR5, hb5⟩
    go_wp2_with fail
    go_ret2
    exact ⟨A5, m, c5, by rw [H0.out]; rfl, hR5, (by repeat (first | with_reducible assumption | exact Below.refl _ _ | refine below_next (by with_reducible assumption) ?_))⟩
  · rw [if_neg h0]
    have t0 : (fnz [lstErr l, rng n (-999999999) 999999999] != 0) = true := by simpa using (show ¬ fnz [lstErr l, rng n (-999999999) 999999999] = 0 from h0)
    clear h0
    go_enter Tryz.func64, Tryz.ntmps64
    go_wp2_with fail
    refine (CheckSources_any A m c l _ hR (by omega)).mono ?_
    rintro e w1 ⟨rfl, hb1⟩
    go_wp2_with (first | (go_at_call 89; refine (within_any _ _ _ _).mono ?_; rintro e W' ⟨rfl, rfl⟩) | (go_at_call 86; (first | (with_reducible (refine (first_any _ _ _ _ _ _ (reads2 _ _ _ _) (by omega)).mono ?_)) | (with_reducible (refine (first_any _ _ _ _ _ _ (Reads.drew (reads2 _ _ _ _)) (by omega)).mono ?_))); rintro e W' ⟨rfl, rfl⟩))
    obtain ⟨w3, e3⟩ : ∃ w3, w3 = w1.alloc (.cells #[.int .i64 (lstErr l), .int .i64 (rng n (-999999999) 999999999)] 27) := ⟨_, rfl⟩
    have hb3 : Below w1.heap.size w1 w3 := by rw [e3]; exact (Below.refl _ _).alloc (Nat.le_refl _) _
    rw [← e3]; clear e3
    go_wp2_with fail
    go_ret2
    exact OutS.none_ (by repeat (first | with_reducible assumption | exact Below.refl _ _ | refine below_next (by with_reducible assumption) ?_))
end Go.Proofs.YtcihiglpahhboaaGreatDoor
