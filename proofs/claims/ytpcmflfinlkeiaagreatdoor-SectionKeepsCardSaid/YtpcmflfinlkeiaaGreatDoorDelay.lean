/- The contract of Delay. -/
import Derived.Test.YtpcmflfinlkeiaaGreatDoorBaseB
import Derived.Test.YtpcmflfinlkeiaaGreatDoorBaseC
import Derived.Laws.Cover3
import Derived.ChangeKeysEq
namespace Go.Proofs.YtpcmflfinlkeiaaGreatDoor
open Go.RowKit Go.Shelf
set_option maxRecDepth 100000

/-- The delay of a section: numerator, denominator, error. -/
def Sec.delay (s : Sec) : Int × Int × Int :=
  if s.a1 ≠ 0 ∨ s.a2 ≠ 0 ∨ (s.b0 = 0 ∧ s.b1 = 0 ∧ s.b2 = 0) then (0, 0, 7) else if s.b0 = s.b2 then (1, 1, 0) else if s.b0 = s.b1 ∧ s.b2 = 0 then (1, 2, 0) else (0, 0, 7)

theorem info_int' : ∃ i, (Tryz.prog.info? 3) = some i := Option.isSome_iff_exists.1 (by kernel_rfl)
theorem eq3 (a b c x y z : Int) (w : World) : (Op.equalIn 10000 131 (.agg #[.int .i64 a, .int .i64 b, .int .i64 c]) (.agg #[.int .i64 x, .int .i64 y, .int .i64 z])).run Tryz.prog w = .ok (a == x && (b == y && c == z)) w := by
  obtain ⟨i, hi⟩ := info_int'
  rw [show (10000 : Nat) = 9998 + 1 + 1 from rfl, run_equalIn_array w (9998 + 1) _ _ Tryz.underlying131 hi]
  have hc : Tryz.prog.cellsOf 3 = 1 := by kernel_rfl
  rw [hc]
  simp only [show List.range 3 = [0, 1, 2] from rfl, Op.eqItems, go_sem]
  simp [go_sem, run_equalIn_int _ _ _ _ _ _ _ Tryz.underlying3]
  by_cases h1 : a = x <;> by_cases h2 : b = y <;> by_cases h3 : c = z <;> simp [h1, h2, h3]

theorem fin2 {Q : World → Prop} {B : Nat} {v W : World} {g : Nat} {c0 c1 u0 u1 : Value} (t : TypeId) (hB : Below B v W) (hg : B ≤ g) (hk : Blk W g t #[c0, c1]) (h : ∀ X, Below B v X → Blk X g t #[u0, u1] → Q X) :
    Q ((W.setCell ⟨g, 0, none⟩ u0).setCell ⟨g, 1, none⟩ u1) :=
  h _ (below_set (below_set hB hg _) hg _) (by simpa using (hk.set_ 0 u0).set_ 1 u1)

theorem fin2a {Q : World → Prop} {v W : World} {g : Nat} {c0 c1 u0 u1 : Value} {o o' : Obj} (t : TypeId) (hB : Below v.heap.size v W) (hg : v.heap.size ≤ g) (hk : Blk W g t #[c0, c1]) (h : ∀ X, Below v.heap.size v X → Blk X g t #[u0, u1] → Q X) :
    Q ((((W.setCell ⟨g, 0, none⟩ u0).setCell ⟨g, 1, none⟩ u1).alloc o).alloc o') :=
  h _ (below_new (below_new (below_set (below_set hB hg _) hg _) (Nat.le_refl _) _) (Nat.le_refl _) _) ((by simpa using (hk.set_ 0 u0).set_ 1 u1 : Blk ((W.setCell ⟨g, 0, none⟩ u0).setCell ⟨g, 1, none⟩ u1) g t #[u0, u1]).alloc o |>.alloc o')

theorem Delay_bad (s : Sec) (w : World) (ht : (s.err != 0) = true) :
    Calls Tryz.prog 32 #[.agg #[.int .i64 s.b0, .int .i64 s.b1, .int .i64 s.b2, .int .i64 s.a1, .int .i64 s.a2, .int .i64 s.sh]] w fun e w' => e = .returned (.tuple #[.agg #[.int .i64 0, .int .i64 0], .int .i64 s.err]) ∧ Below w.heap.size w w' := by
  go_enter Tryz.func32, Tryz.ntmps32
  go_wp2_with fail
  obtain ⟨w1, e1, hb1, hz1, k0, k1⟩ := box2 w #[.int .i64 s.b0, .int .i64 s.b1, .int .i64 s.b2, .int .i64 s.a1, .int .i64 s.a2, .int .i64 s.sh] #[.int .i64 0, .int .i64 0] 53 72
  rw [← e1]; clear e1
  refine (checkSection_any s _).mono ?_
  rintro e w2 ⟨rfl, hb2⟩
  have hb3 := below_step hb1 hb2 hb1.size
  have k1' := k1.below hb2 (by omega)
  have c1 := k1'.cell
  have f1 := k1'.frozen
  clear k0 k1 hb1
  go_wp2
  refine fin2 (B := w.heap.size) (v := w) 72 hb3 (by omega) k1' (fun Y hY kY => ?_)
  have cY := kY.cell
  clear c1 f1 kY k1'
  refine bodyPost_ret (v := .tuple #[.agg #[.int .i64 0, .int .i64 0], .int .i64 s.err]) (by simp [results, Tryz.results32, go_sem, cY]) rfl ?_
  exact ⟨rfl, hY⟩

set_option maxHeartbeats 2000000 in
theorem Delay_ok (s : Sec) (w : World) (he : s.err = 0) :
    Calls Tryz.prog 32 #[.agg #[.int .i64 s.b0, .int .i64 s.b1, .int .i64 s.b2, .int .i64 s.a1, .int .i64 s.a2, .int .i64 s.sh]] w fun e w' => e = .returned (.tuple #[.agg #[.int .i64 s.delay.1, .int .i64 s.delay.2.1], .int .i64 s.delay.2.2]) ∧ Below w.heap.size w w' := by
  have ht : (s.err != 0) = false := by rw [he]; rfl
  clear he
  obtain ⟨V, hV⟩ : ∃ V, V = Value.tuple #[.agg #[.int .i64 s.delay.1, .int .i64 s.delay.2.1], .int .i64 s.delay.2.2] := ⟨_, rfl⟩
  rw [← hV]
  have HV := hide hV; clear hV
  have hat : ∀ a w, (Instr.arrayAt 131 (.slice a 3 6)).run Tryz.prog w = .ok (.pointer a) w := fun a w => run_arrayAt w 131 _ 3 a 3 6 Tryz.underlying131 (by decide)
  have he3 := eq3
  go_enter Tryz.func32, Tryz.ntmps32
  go_wp2_with fail
  obtain ⟨w1, e1, hb1, hz1, k0, k1⟩ := box2 w #[.int .i64 s.b0, .int .i64 s.b1, .int .i64 s.b2, .int .i64 s.a1, .int .i64 s.a2, .int .i64 s.sh] #[.int .i64 0, .int .i64 0] 53 72
  rw [← e1]; clear e1
  refine (checkSection_any s _).mono ?_
  rintro e w2 ⟨rfl, hb2⟩
  have hb3 := below_step hb1 hb2 hb1.size
  have k0' := k0.below hb2 (by omega)
  have k1' := k1.below hb2 (by omega)
  have c0 := k0'.cell
  clear k0 k1 hb1
  go_wp2_with fail
  refine (numbers_any s _).mono ?_
  rintro e w3 ⟨rfl, hb4⟩
  have hb5 := below_step hb3 hb4 hb3.size
  have k0'' := k0'.below hb4 k0'.lt
  have k1'' := k1'.below hb4 k1'.lt
  have c1 := k0''.cell
  have c2 := k1''.cell
  have f2 := k1''.frozen
  have l0 := k0''.lt
  have l1 := k1''.lt
  clear c0 k0' k1' k0''
  go_wp2
  all_goals (
    refine fin2a (v := w) 72 hb5 (by omega) k1'' (fun Y hY kY => ?_)
    have cY := kY.cell
    clear c1 c2 f2 kY k1''
    first
      | (refine bodyPost_ret (v := .tuple #[.agg #[.int .i64 0, .int .i64 0], .int .i64 7]) ?_ rfl ?_; focus (simp [results, Tryz.results32, go_sem, cY]; done))
      | (refine bodyPost_ret (v := .tuple #[.agg #[.int .i64 1, .int .i64 1], .int .i64 0]) ?_ rfl ?_; focus (simp [results, Tryz.results32, go_sem, cY]; done))
      | (refine bodyPost_ret (v := .tuple #[.agg #[.int .i64 1, .int .i64 2], .int .i64 0]) ?_ rfl ?_; focus (simp [results, Tryz.results32, go_sem, cY]; done))
    refine ⟨?_, hY⟩
    rw [HV.out]
    clear hat he3 cY
    (try simp only [beq_iff_eq, beq_eq_false_iff_ne, ne_eq] at *)
    unfold Sec.delay
    repeat' split
    all_goals (first | rfl | (exfalso; omega)))
end Go.Proofs.YtpcmflfinlkeiaaGreatDoor
