/- What is equal to itself: quotients, matrices. -/
import Derived.Test.YtnndaipnfniciaaGreatDoorBaseW
import Derived.ChangeKeysEq
namespace Go.Proofs.YtnndaipnfniciaaGreatDoor
open Go.RowKit Go.Shelf
set_option maxRecDepth 100000
theorem reflPr_in (a : Pr) (w : World) : (Op.equalIn 10000 32 (.agg #[.int .i64 a.n.re, .int .i64 a.n.im, .int .i64 a.d.re, .int .i64 a.d.im]) (.agg #[.int .i64 a.n.re, .int .i64 a.n.im, .int .i64 a.d.re, .int .i64 a.d.im])).run Tryz.prog w = .ok true w := by
  have c2 : Tryz.prog.cellsOf 23 = 2 := by kernel_rfl
  rw [show (10000 : Nat) = 9999 + 1 from rfl, run_equalIn_struct w 9999 32 _ _ (by kernel_rfl) (by kernel_rfl)]
  simp [Program.fieldsOf, Tryz.underlying32, Tryz.underlying23, Op.eqFields, go_sem, run_equalIn_int _ _ _ _ _ _ _ Tryz.underlying3]
theorem reflPr_eq (a : Pr) (w : World) : (binOp .eql 32 (.agg #[.int .i64 a.n.re, .int .i64 a.n.im, .int .i64 a.d.re, .int .i64 a.d.im]) (.agg #[.int .i64 a.n.re, .int .i64 a.n.im, .int .i64 a.d.re, .int .i64 a.d.im])).run Tryz.prog w = .ok (.bool true) w := by
  have hh := reflPr_in a w
  simp only [binOp, Op.equal, Op.maxDepth]
  simp [hh, go_sem]
theorem reflPr_ne (a : Pr) (w : World) : (binOp .neq 32 (.agg #[.int .i64 a.n.re, .int .i64 a.n.im, .int .i64 a.d.re, .int .i64 a.d.im]) (.agg #[.int .i64 a.n.re, .int .i64 a.n.im, .int .i64 a.d.re, .int .i64 a.d.im])).run Tryz.prog w = .ok (.bool false) w := by
  have hh := reflPr_in a w
  simp only [binOp, Op.equal, Op.maxDepth]
  simp [hh, go_sem]
theorem reflPrR_in (a : Pr) (w : World) : (Op.equalIn 10000 25 (.agg #[.int .i64 a.n.re, .int .i64 a.n.im, .int .i64 a.d.re, .int .i64 a.d.im]) (.agg #[.int .i64 a.n.re, .int .i64 a.n.im, .int .i64 a.d.re, .int .i64 a.d.im])).run Tryz.prog w = .ok true w := by
  have c2 : Tryz.prog.cellsOf 23 = 2 := by kernel_rfl
  rw [show (10000 : Nat) = 9999 + 1 from rfl, run_equalIn_struct w 9999 25 _ _ (by kernel_rfl) (by kernel_rfl)]
  simp [Program.fieldsOf, Tryz.underlying25, Tryz.underlying23, Op.eqFields, go_sem, run_equalIn_int _ _ _ _ _ _ _ Tryz.underlying3]
theorem reflPrR_eq (a : Pr) (w : World) : (binOp .eql 25 (.agg #[.int .i64 a.n.re, .int .i64 a.n.im, .int .i64 a.d.re, .int .i64 a.d.im]) (.agg #[.int .i64 a.n.re, .int .i64 a.n.im, .int .i64 a.d.re, .int .i64 a.d.im])).run Tryz.prog w = .ok (.bool true) w := by
  have hh := reflPrR_in a w
  simp only [binOp, Op.equal, Op.maxDepth]
  simp [hh, go_sem]
theorem reflPrR_ne (a : Pr) (w : World) : (binOp .neq 25 (.agg #[.int .i64 a.n.re, .int .i64 a.n.im, .int .i64 a.d.re, .int .i64 a.d.im]) (.agg #[.int .i64 a.n.re, .int .i64 a.n.im, .int .i64 a.d.re, .int .i64 a.d.im])).run Tryz.prog w = .ok (.bool false) w := by
  have hh := reflPrR_in a w
  simp only [binOp, Op.equal, Op.maxDepth]
  simp [hh, go_sem]
theorem info_gauss : ∃ i, (Tryz.prog.info? 23) = some i := Option.isSome_iff_exists.1 (by kernel_rfl)
theorem gEq0 (a b : Int) (w : World) : (Op.equalIn 9999 23 (.agg #[.int .i64 a, .int .i64 b]) (.agg #[.int .i64 a, .int .i64 b])).run Tryz.prog w = .ok true w := by
  rw [show (9999 : Nat) = 9998 + 1 from rfl, run_equalIn_struct w 9998 23 _ _ (by kernel_rfl) (by kernel_rfl)]
  simp [Program.fieldsOf, Tryz.underlying23, Op.eqFields, go_sem, run_equalIn_int _ _ _ _ _ _ _ Tryz.underlying3]
theorem reflMa_in (m : Mat) (w : World) : (Op.equalIn 10000 73 (.agg #[.int .i64 m.a.re, .int .i64 m.a.im, .int .i64 m.b.re, .int .i64 m.b.im, .int .i64 m.c.re, .int .i64 m.c.im, .int .i64 m.d.re, .int .i64 m.d.im]) (.agg #[.int .i64 m.a.re, .int .i64 m.a.im, .int .i64 m.b.re, .int .i64 m.b.im, .int .i64 m.c.re, .int .i64 m.c.im, .int .i64 m.d.re, .int .i64 m.d.im])).run Tryz.prog w = .ok true w := by
  obtain ⟨i, hi⟩ := info_gauss
  have c2 : Tryz.prog.cellsOf 23 = 2 := by kernel_rfl
  rw [show (10000 : Nat) = 9999 + 1 from rfl, run_equalIn_array w 9999 _ _ Tryz.underlying73 hi, c2]
  simp only [show List.range 4 = [0, 1, 2, 3] from rfl, Op.eqItems, go_sem]
  simp [go_sem, gEq0]
theorem reflMa_eq (m : Mat) (w : World) : (binOp .eql 73 (.agg #[.int .i64 m.a.re, .int .i64 m.a.im, .int .i64 m.b.re, .int .i64 m.b.im, .int .i64 m.c.re, .int .i64 m.c.im, .int .i64 m.d.re, .int .i64 m.d.im]) (.agg #[.int .i64 m.a.re, .int .i64 m.a.im, .int .i64 m.b.re, .int .i64 m.b.im, .int .i64 m.c.re, .int .i64 m.c.im, .int .i64 m.d.re, .int .i64 m.d.im])).run Tryz.prog w = .ok (.bool true) w := by
  have hh := reflMa_in m w
  simp only [binOp, Op.equal, Op.maxDepth]
  simp [hh, go_sem]
theorem reflMa_ne (m : Mat) (w : World) : (binOp .neq 73 (.agg #[.int .i64 m.a.re, .int .i64 m.a.im, .int .i64 m.b.re, .int .i64 m.b.im, .int .i64 m.c.re, .int .i64 m.c.im, .int .i64 m.d.re, .int .i64 m.d.im]) (.agg #[.int .i64 m.a.re, .int .i64 m.a.im, .int .i64 m.b.re, .int .i64 m.b.im, .int .i64 m.c.re, .int .i64 m.c.im, .int .i64 m.d.re, .int .i64 m.d.im])).run Tryz.prog w = .ok (.bool false) w := by
  have hh := reflMa_in m w
  simp only [binOp, Op.equal, Op.maxDepth]
  simp [hh, go_sem]
theorem reflMaR_in (m : Mat) (w : World) : (Op.equalIn 10000 78 (.agg #[.int .i64 m.a.re, .int .i64 m.a.im, .int .i64 m.b.re, .int .i64 m.b.im, .int .i64 m.c.re, .int .i64 m.c.im, .int .i64 m.d.re, .int .i64 m.d.im]) (.agg #[.int .i64 m.a.re, .int .i64 m.a.im, .int .i64 m.b.re, .int .i64 m.b.im, .int .i64 m.c.re, .int .i64 m.c.im, .int .i64 m.d.re, .int .i64 m.d.im])).run Tryz.prog w = .ok true w := by
  obtain ⟨i, hi⟩ := info_gauss
  have c2 : Tryz.prog.cellsOf 23 = 2 := by kernel_rfl
  rw [show (10000 : Nat) = 9999 + 1 from rfl, run_equalIn_array w 9999 _ _ Tryz.underlying78 hi, c2]
  simp only [show List.range 4 = [0, 1, 2, 3] from rfl, Op.eqItems, go_sem]
  simp [go_sem, gEq0]
theorem reflMaR_eq (m : Mat) (w : World) : (binOp .eql 78 (.agg #[.int .i64 m.a.re, .int .i64 m.a.im, .int .i64 m.b.re, .int .i64 m.b.im, .int .i64 m.c.re, .int .i64 m.c.im, .int .i64 m.d.re, .int .i64 m.d.im]) (.agg #[.int .i64 m.a.re, .int .i64 m.a.im, .int .i64 m.b.re, .int .i64 m.b.im, .int .i64 m.c.re, .int .i64 m.c.im, .int .i64 m.d.re, .int .i64 m.d.im])).run Tryz.prog w = .ok (.bool true) w := by
  have hh := reflMaR_in m w
  simp only [binOp, Op.equal, Op.maxDepth]
  simp [hh, go_sem]
theorem reflMaR_ne (m : Mat) (w : World) : (binOp .neq 78 (.agg #[.int .i64 m.a.re, .int .i64 m.a.im, .int .i64 m.b.re, .int .i64 m.b.im, .int .i64 m.c.re, .int .i64 m.c.im, .int .i64 m.d.re, .int .i64 m.d.im]) (.agg #[.int .i64 m.a.re, .int .i64 m.a.im, .int .i64 m.b.re, .int .i64 m.b.im, .int .i64 m.c.re, .int .i64 m.c.im, .int .i64 m.d.re, .int .i64 m.d.im])).run Tryz.prog w = .ok (.bool false) w := by
  have hh := reflMaR_in m w
  simp only [binOp, Op.equal, Op.maxDepth]
  simp [hh, go_sem]
theorem reflG_eq (a : G) (w : World) : (binOp .eql 23 (.agg #[.int .i64 a.re, .int .i64 a.im]) (.agg #[.int .i64 a.re, .int .i64 a.im])).run Tryz.prog w = .ok (.bool true) w := by
  have := eqG a a w
  rwa [decide_eq_true rfl] at this
theorem reflG_ne (a : G) (w : World) : (binOp .neq 23 (.agg #[.int .i64 a.re, .int .i64 a.im]) (.agg #[.int .i64 a.re, .int .i64 a.im])).run Tryz.prog w = .ok (.bool false) w := by
  have := neqG a a w
  rwa [decide_eq_true rfl] at this
set_option maxHeartbeats 1000000 in
theorem sameWords_true (xs : List ByteArray) (A : Option Addr) (n c : Nat) (A' : Option Addr) (c' : Nat) (w : World) (h : Reads w w.heap.size 1 A n (strs xs)) (h' : Reads w w.heap.size 1 A' n (strs xs)) (hn : n ≤ 1000000) :
    Calls Tryz.prog 43 #[.slice A n c, .slice A' n c'] w fun r w' => r = .returned (.bool true) ∧ Below w.heap.size w w' := by
  have t0 : ((n : Int) != (n : Int)) = false := by simp
  go_enter Tryz.func43, Tryz.ntmps43
  go_wp2_with fail
  go_loopw [5] (fun i wr => ∃ k : Nat, k ≤ n ∧ i = .int .i64 k ∧ Below w.heap.size w wr) (fun i _ => n - (intOf i).toNat)
  case atStart => exact ⟨0, by omega, rfl, Below.refl _ _⟩
  case round =>
    rename World => wo
    obtain ⟨k, hk, rfl, hb⟩ := hrel
    by_cases hlt : k < n
    · obtain ⟨ad, u, rfl, hB1, hu, hc⟩ := (carry h hb).at_ hlt
      obtain ⟨ad', u', rfl, hB2, hu', hc'⟩ := (carry h' hb).at_ hlt
      rw [hu] at hu'
      obtain rfl := Option.some.inj hu'
      obtain ⟨y, hy, rfl⟩ := strs_at hu
      have t1 : (y.toList != y.toList) = false := by simp
      have q0 : ∀ x, (over wo.heap.size wo x).cell? (ad.add k) = some (.string y) := fun x => ((over_below wo.heap.size wo x).cell (p := ad.add k) (by rw [block_of_add]; exact hB1)).trans hc
      have q1 : ∀ x, (over wo.heap.size wo x).cell? (ad'.add k) = some (.string y) := fun x => ((over_below wo.heap.size wo x).cell (p := ad'.add k) (by rw [block_of_add]; exact hB2)).trans hc'
      clear hu hu' hy hc hc'
      go_upto_region 6 with (fail)
      refine wp_region_over wo.heap.size (by kernel_rfl) (by kernel_rfl) ?_; (repeat (first | go_big_quiet_step (fail) | quiet_step (fail))); refine wpQuiet_nil ?_; rintro W ⟨x, rfl⟩
      have hbY := over_below wo.heap.size wo x
      generalize over wo.heap.size wo x = Y at hbY ⊢
      go_wp2_with fail
      go_roundw
      case rel => exact ⟨k + 1, by omega, by go_num, below_next hb hbY⟩
      case measure => simp [intOf]; omega
    · go_wp2_with fail
      go_ret
      exact ⟨rfl, hb⟩
theorem nKinds_any (w : World) :
    Calls Tryz.prog 44 #[] w fun e w' => ∃ g, e = .returned (.slice (some ⟨g, 0, none⟩) 4 4) ∧ Reads w' w'.heap.size 1 (some ⟨g, 0, none⟩) 4 (strs [kBlock, kSeries, kShunt, kTrap]) ∧ Below w.heap.size w w' := by
  go_enter Tryz.func44, Tryz.ntmps44
  go_wp2
  go_ret
  refine ⟨_, rfl, ⟨rfl, fun _ => ⟨_, rfl, by simp, fun j u hu => ?_⟩⟩, (by repeat (first | exact Below.refl _ _ | exact Below.refl _ _ | refine Below.drew ?_ | refine below_drewN ?_ _ | refine below_set ?_ (by omega) _ | refine below_new ?_ (by omega) _))⟩
  have : (⟨w.heap.size, 0, none⟩ : Addr).add j = ⟨w.heap.size, j, none⟩ := by unfold Addr.add; split <;> simp_all
  rw [this]
  exact cells_new _ _ _ j u hu
end Go.Proofs.YtnndaipnfniciaaGreatDoor
