/- Mirror of the reference. -/
import Derived.Test.YtcihiglpahhboaaGreatDoorAMir
import Derived.Test.YtcihiglpahhboaaGreatDoorARSh
namespace Go.Proofs.YtcihiglpahhboaaGreatDoor
open Go.RowKit
set_option maxRecDepth 100000
/-- append([]T{}, x...), as a row of one's own. -/
theorem wpList_copiedO {P : Program} {ops : Array Oper} {rest : List Oper} {o : Oper} {a : Act} {Q : Exit → Act → World → Prop} (w : World) (hgd : o.guard = none) (s x : Operand) (t : TypeId)
    (ho : o.op = .call { callee := .builtin .append, args := #[s, x], argTypes := #[t, t] })
    (e : TypeId) (z : Value) (size bytes : Nat) (ht : P.underlying t = some (.slice e)) (hinfo : (P.info? e).map (fun i => (i.zero, i.size, i.bytes)) = some (some z, size, bytes))
    (hzs : z.cells.size = size) (hsz : 0 < size) (hby2 : bytes ≤ 100)
    (hs : a.eval s = .slice (some ⟨w.heap.size, 0, none⟩) 0 0) (A : Option Addr) (n c : Nat) (xs : List Value) (hx : a.eval x = .slice A n c) (hR : Reads w w.heap.size size A n xs) (h1 : ∀ u ∈ xs, u.oneCell' = true) (hn : n ≤ 100000)
    (h : ∀ v' w', w'.ownsRow w.heap.size e size v' n xs → Below w.heap.size w w' → wpList P ops Q rest (a.put o.dst v') w') : wpList P ops Q (o :: rest) a (w.alloc (.cells #[] e)) := by
  obtain ⟨i, hi, hz, hsize, hby⟩ := info_parts hinfo
  have hown : (w.alloc (.cells #[] e)).ownsRow w.heap.size e size (.slice (some ⟨w.heap.size, 0, none⟩) 0 0) 0 [] :=
    ⟨by simp, .inr ⟨w.heap.size, 0, #[], rfl, Nat.le_refl _, Blk.new w e #[], Nat.le_refl _, by unfold maxLen; omega, by simp, by simp⟩⟩
  have hb : (0 + n) * bytes ≤ 140737488355328 := by
    have := Nat.mul_le_mul hn hby2
    rw [Nat.zero_add]; omega
  refine wpList_append_any _ hgd s x t ho w.heap.size e i z size bytes ht hi hz hsize hby hzs hsz _ 0 [] hs hown w.heap.size A n c xs hx (hR.alloc (Nat.le_refl _) _) h1 (by unfold maxLen; omega) hb (by simp) ?_
  intro v1 w1 ho1 hg1 _
  rw [Nat.zero_add, List.nil_append] at ho1
  exact h v1 w1 ho1 (((Below.refl w.heap.size w).alloc (Nat.le_refl _) _).grown hg1 (by simp) fun k hk => (hown.lt k hk).1)
set_option maxHeartbeats 4000000 in
theorem rMirror_any (A : Option Addr) (m c : Nat) (l : List Src) (u : Int) (soft : Bool) (w : World) (hok : LOk l) (hu : -100 ≤ u ∧ u ≤ 100) (hR : Reads w w.heap.size 4 A m (srcs l)) :
    Calls Tryz.prog 71 #[.slice A m c, .int .i64 u, .bool soft] w fun e w' => OutS w (vld (mirL l u soft)) (lstErr (mirL l u soft)) e w' := by
  have HL := hide (srcs_reads_len hR)
  have hm16 : m ≤ 16 := by rw [← HL.out]; exact hok.len
  have HO := hide hok
  have HU := hide hu
  clear hok hu
  cases soft
  · skip
    go_enter Tryz.func71, Tryz.ntmps71
    go_wp2_with (at_builtin; refine wpList_copiedO w rfl (.tmp 12) (.tmp 13) 22 (by rfl) 78 _ 4 32 Tryz.underlying22 info_srcR rfl (by decide) (by decide) (by rfl) A m c (srcs l) (by rfl) hR (srcs_one _) (by omega) ?_; intro v8 w2 ho2 hb2)
    go_loopw [8, 9] (fun o i wr => ∃ k : Nat, k ≤ m ∧ i = .int .i64 k ∧ wr.ownsRow w.heap.size 78 4 o (m + k) (srcs (l ++ (l.take k).map (mir u false))) ∧ Below w.heap.size w wr) (fun _ i _ => m - (intOf i).toNat)
    case atStart => exact ⟨0, by omega, rfl, by simpa using ho2, hb2⟩
    case round =>
      rename World => wo
      clear ho2 hb2
      obtain ⟨k, hk, rfl, ho, hb⟩ := hrel
      by_cases hlt : k < m
      · skip
        obtain ⟨ad, s, rfl, _, hx, hc⟩ := src_hit (carry hR hb) hlt (Nat.le_refl _)
        obtain ⟨d0, d1, d2, d3⟩ := hc wo (Below.refl _ _)
        have hs := HO.out.all s (List.mem_of_getElem? hx)
        have v0 : wrap64 (2 * u) = 2 * u := by have := HU.out; unfold wrap64; omega
        have v1 : wrap64 (2 * u - s.x) = 2 * u - s.x := by have := HU.out; have := hs.x1; have := hs.x2; unfold wrap64; omega
        have v2 : wrap64 (-s.g) = -s.g := by have := hs.g1; have := hs.g2; unfold wrap64; omega
        have v3 : wrap64 (0 - s.g) = -s.g := by have := hs.g1; have := hs.g2; unfold wrap64; omega
        have HX := hide hx
        have A1 : m + k + 1 ≤ maxLen := by unfold maxLen; omega
        have A2 : (m + k + 1) * 32 ≤ 140737488355328 := by omega
        clear hx hs hc
        go_upto_region 6 with (fail)
        obtain ⟨w4, e4, hb4, hz4, k4⟩ := box1 wo #[.int .i64 s.x, .int .i64 s.y, .int .i64 s.g, .int .i64 s.p] 78
        rw [← e4]; clear e4 d0 d1 d2 d3
        have c4 := k4.cell
        have f4 := k4.frozen
        have ho4 := row_below ho hb4
        have hnr : _ ≠ some wo.heap.size := fun e => Nat.lt_irrefl _ (ho.lt _ e).2
        have hbw4 := below_next hb hb4
        go_upto_region 9 with (fail)
        have k5 : Blk _ wo.heap.size 78 #[.int .i64 (mir u false s).x, .int .i64 (mir u false s).y, .int .i64 (mir u false s).g, .int .i64 (mir u false s).p] := k4.set_ 0 (.int .i64 (2 * u - s.x))
        have ho5 := ownsRow_setCell_other (a := ⟨wo.heap.size, 0, none⟩) ho4 hnr (.int .i64 (2 * u - s.x))
        have hb5 := below_set hbw4 hb.size (i := 0) (.int .i64 (2 * u - s.x))
        clear c4 f4 k4 ho4 hbw4
        generalize World.setCell _ _ _ = V at k5 ho5 hb5 ⊢
        have c5 := k5.cell
        go_wp2_with (at_builtin; refine wpList_push _ rfl (.tmp 36) (.tmp 38) _ rfl w.heap.size 78 _ 4 32 Tryz.underlying22 info_srcR rfl (by decide) _ (m + k) _ rfl (ho5.alloc _) V.heap.size (srcCells (mir u false s)) rfl rfl (src_new1 V (mir u false s) _) (one_src _) A1 A2 (le_alloc hb5.size _) ?_; intro v1 w6 ho6 hb6)
        go_roundw
        case rel => exact ⟨k + 1, by omega, by go_num, by rw [srcs_app, srcs_map_snoc _ HX.out, ← List.append_assoc, ← srcs_app]; exact ho6, (hb5.alloc hb5.size _).trans hb6⟩
        case measure => simp [intOf]; omega
      · obtain rfl : k = m := by omega
        rw [List.take_of_length_le (by rw [HL.out]; omega)] at ho
        obtain ⟨A7, c7, rfl, hR7⟩ := own_slice ho
        have hR7 : Reads wo wo.heap.size 4 A7 (k + k) (srcs (mirL l u false)) := hR7
        by_cases h0 : lstErr (mirL l u false) = 0
        · have H0 := hide h0
          go_wp2_with fail
          refine (rCheckSources_any A7 _ c7 _ _ hR7 (by omega)).mono ?_
          rintro e w5 ⟨rfl, hb5⟩
          rw [h0]
          clear h0
          go_wp2_with fail
          go_ret2
          exact ⟨A7, _, c7, by rw [H0.out]; rfl, by rw [vld_ok H0.out]; exact carry hR7 hb5, below_next hb hb5⟩
        · have t0 : (lstErr (mirL l u false) != 0) = true := by simpa using h0
          have H0 := hide h0
          clear h0
          go_wp2_with fail
          refine (rCheckSources_any A7 _ c7 _ _ hR7 (by omega)).mono ?_
          rintro e w5 ⟨rfl, hb5⟩
          go_wp2_with fail
          go_ret2
          rw [vld_bad H0.out]
          exact OutS.none_ (below_next hb hb5)
  · skip
    go_enter Tryz.func71, Tryz.ntmps71
    go_wp2_with (at_builtin; refine wpList_copiedO w rfl (.tmp 12) (.tmp 13) 22 (by rfl) 78 _ 4 32 Tryz.underlying22 info_srcR rfl (by decide) (by decide) (by rfl) A m c (srcs l) (by rfl) hR (srcs_one _) (by omega) ?_; intro v8 w2 ho2 hb2)
    go_loopw [8, 9] (fun o i wr => ∃ k : Nat, k ≤ m ∧ i = .int .i64 k ∧ wr.ownsRow w.heap.size 78 4 o (m + k) (srcs (l ++ (l.take k).map (mir u true))) ∧ Below w.heap.size w wr) (fun _ i _ => m - (intOf i).toNat)
    case atStart => exact ⟨0, by omega, rfl, by simpa using ho2, hb2⟩
    case round =>
      rename World => wo
      clear ho2 hb2
      obtain ⟨k, hk, rfl, ho, hb⟩ := hrel
      by_cases hlt : k < m
      · skip
        obtain ⟨ad, s, rfl, _, hx, hc⟩ := src_hit (carry hR hb) hlt (Nat.le_refl _)
        obtain ⟨d0, d1, d2, d3⟩ := hc wo (Below.refl _ _)
        have hs := HO.out.all s (List.mem_of_getElem? hx)
        have v0 : wrap64 (2 * u) = 2 * u := by have := HU.out; unfold wrap64; omega
        have v1 : wrap64 (2 * u - s.x) = 2 * u - s.x := by have := HU.out; have := hs.x1; have := hs.x2; unfold wrap64; omega
        have v2 : wrap64 (-s.g) = -s.g := by have := hs.g1; have := hs.g2; unfold wrap64; omega
        have v3 : wrap64 (0 - s.g) = -s.g := by have := hs.g1; have := hs.g2; unfold wrap64; omega
        have HX := hide hx
        have A1 : m + k + 1 ≤ maxLen := by unfold maxLen; omega
        have A2 : (m + k + 1) * 32 ≤ 140737488355328 := by omega
        clear hx hs hc
        go_upto_region 6 with (fail)
        obtain ⟨w4, e4, hb4, hz4, k4⟩ := box1 wo #[.int .i64 s.x, .int .i64 s.y, .int .i64 s.g, .int .i64 s.p] 78
        rw [← e4]; clear e4 d0 d1 d2 d3
        have c4 := k4.cell
        have f4 := k4.frozen
        have ho4 := row_below ho hb4
        have hnr : _ ≠ some wo.heap.size := fun e => Nat.lt_irrefl _ (ho.lt _ e).2
        have hbw4 := below_next hb hb4
        go_upto_region 9 with (fail)
        have k5 : Blk _ wo.heap.size 78 #[.int .i64 (mir u true s).x, .int .i64 (mir u true s).y, .int .i64 (mir u true s).g, .int .i64 (mir u true s).p] := (k4.set_ 0 (.int .i64 (2 * u - s.x))).set_ 2 (.int .i64 (-s.g))
        have ho5 := ownsRow_setCell_other (a := ⟨wo.heap.size, 2, none⟩) (ownsRow_setCell_other (a := ⟨wo.heap.size, 0, none⟩) ho4 hnr (.int .i64 (2 * u - s.x))) hnr (.int .i64 (-s.g))
        have hb5 := below_set (below_set hbw4 hb.size (i := 0) (.int .i64 (2 * u - s.x))) hb.size (i := 2) (.int .i64 (-s.g))
        clear c4 f4 k4 ho4 hbw4
        generalize World.setCell _ _ _ = V at k5 ho5 hb5 ⊢
        have c5 := k5.cell
        go_wp2_with (at_builtin; refine wpList_push _ rfl (.tmp 36) (.tmp 38) _ rfl w.heap.size 78 _ 4 32 Tryz.underlying22 info_srcR rfl (by decide) _ (m + k) _ rfl (ho5.alloc _) V.heap.size (srcCells (mir u true s)) rfl rfl (src_new1 V (mir u true s) _) (one_src _) A1 A2 (le_alloc hb5.size _) ?_; intro v1 w6 ho6 hb6)
        go_roundw
        case rel => exact ⟨k + 1, by omega, by go_num, by rw [srcs_app, srcs_map_snoc _ HX.out, ← List.append_assoc, ← srcs_app]; exact ho6, (hb5.alloc hb5.size _).trans hb6⟩
        case measure => simp [intOf]; omega
      · obtain rfl : k = m := by omega
        rw [List.take_of_length_le (by rw [HL.out]; omega)] at ho
        obtain ⟨A7, c7, rfl, hR7⟩ := own_slice ho
        have hR7 : Reads wo wo.heap.size 4 A7 (k + k) (srcs (mirL l u true)) := hR7
        by_cases h0 : lstErr (mirL l u true) = 0
        · have H0 := hide h0
          go_wp2_with fail
          refine (rCheckSources_any A7 _ c7 _ _ hR7 (by omega)).mono ?_
          rintro e w5 ⟨rfl, hb5⟩
          rw [h0]
          clear h0
          go_wp2_with fail
          go_ret2
          exact ⟨A7, _, c7, by rw [H0.out]; rfl, by rw [vld_ok H0.out]; exact carry hR7 hb5, below_next hb hb5⟩
        · have t0 : (lstErr (mirL l u true) != 0) = true := by simpa using h0
          have H0 := hide h0
          clear h0
          go_wp2_with fail
          refine (rCheckSources_any A7 _ c7 _ _ hR7 (by omega)).mono ?_
          rintro e w5 ⟨rfl, hb5⟩
          go_wp2_with fail
          go_ret2
          rw [vld_bad H0.out]
          exact OutS.none_ (below_next hb hb5)
end Go.Proofs.YtcihiglpahhboaaGreatDoor
