/- The weights of sources: normal of the program. -/
import Derived.Test.YtcihiglpahhboaaGreatDoorBaseN
import Derived.Test.YtcihiglpahhboaaGreatDoorAPress
import Derived.Test.YtcihiglpahhboaaGreatDoorARep
namespace Go.Proofs.YtcihiglpahhboaaGreatDoor
open Go.RowKit Go.Shelf
set_option maxRecDepth 100000
theorem zeroG (w : World) : (zeroValue 54).run Tryz.prog w = .ok (.agg #[.int .i64 G.zero.re, .int .i64 G.zero.im]) w := by kernel_rfl
theorem map_below {w w' : World} {b n : Nat} {D : DataW Unit} (h : w.ownsMap Tryz.prog 154 gElem b n D) (hb : Below w.heap.size w w') : w'.ownsMap Tryz.prog 154 gElem b n D := by
  have hlt := h.lt
  obtain ⟨es, clock, h1, F, hs, hD⟩ := h
  exact ⟨es, clock, (hb.block b hlt).trans h1, F, hs, hD⟩
theorem map_look {w : World} {b n : Nat} {D : DataW Unit} {l : List Src} (h : w.ownsMap Tryz.prog 154 gElem b n D) (hM : MapOk D l) {x y : Int} {kl : Lit} (hk : keyOf Tryz.prog 154 (kv x y) = some kl) :
    (Instr.lookup 182 (.map (some b)) (.agg #[.int .i64 x, .int .i64 y]) false).run Tryz.prog w = .ok (.agg #[.int .i64 (sumAt l x y).re, .int .i64 (sumAt l x y).im]) w := by
  obtain ⟨v, ps, h1, h2⟩ := h.lookup KW Tryz.underlying182 (zeroG w) (gElem_mk .zero) hk
  rw [hM x y kl hk] at h2
  rw [gElem_eq h2] at h1
  exact h1
theorem row_not_map {w : World} {base : Nat} {e : TypeId} {size : Nat} {v : Value} {n : Nat} {xs : List Value} (h : w.ownsRow base e size v n xs) {b m : Nat} {D : DataW Unit} (hm : w.ownsMap Tryz.prog 154 gElem b m D) : some b ≠ v.ownBlock := by
  obtain ⟨es, c, hb, _⟩ := hm
  rcases h.2 with ⟨rfl, _⟩ | ⟨g', cap, cur, rfl, _, hg, _⟩
  · intro e; cases e
  · intro e
    have : b = g' := Option.some.inj e
    subst this
    rw [hb] at hg
    cases hg
theorem row_not_iter {w : World} {base : Nat} {e : TypeId} {size : Nat} {v : Value} {n : Nat} {xs : List Value} (h : w.ownsRow base e size v n xs) {b r m cnt : Nat} {D : DataW Unit} {left : Lit → Bool} (hm : w.ranges Tryz.prog 154 gElem b r m D left cnt) : some r ≠ v.ownBlock := by
  obtain ⟨_, _, _, _, _, _, _, _, _, hb, _⟩ := hm
  rcases h.2 with ⟨rfl, _⟩ | ⟨g', cap, cur, rfl, _, hg, _⟩
  · intro e; cases e
  · intro e
    have : r = g' := Option.some.inj e
    subst this
    rw [hb] at hg
    cases hg
set_option maxHeartbeats 8000000 in
theorem normal_any (A : Option Addr) (m c : Nat) (l : List Src) (w : World) (hok : LOk l) (hR : Reads w w.heap.size 4 A m (srcs l)) (hV : Vr w) :
    Calls Tryz.prog 92 #[.slice A m c] w fun e w' => ∃ v, e = .returned v ∧ w'.ownsRow w.heap.size 123 4 v (nrm l).length (srcs ((nrm l).map asS)) ∧ Below w.heap.size w w' := by
  have HL := hide (srcs_reads_len hR)
  have HO := hide hok
  have hm16 : m ≤ 16 := by rw [← HL.out]; exact hok.len
  clear hok
  have hmm := @run_makeMap Tryz.prog
  go_enter Tryz.func92, Tryz.ntmps92
  go_wp2_with fail
  obtain ⟨w1, e1⟩ : ∃ w1, w1 = w.alloc (.map #[] 0) := ⟨_, rfl⟩
  have hM1 := World.ownsMap_made w Tryz.prog 154 gElem
  have hb1 : Below w.heap.size w w1 := by rw [e1]; exact (Below.refl _ _).alloc (Nat.le_refl _) _
  rw [← e1] at hM1
  rw [← e1]; clear e1 hmm
  go_loopw [13] (fun i wr => ∃ (k : Nat) (D : DataW Unit), k ≤ m ∧ i = .int .i64 k ∧ wr.ownsMap Tryz.prog 154 gElem w.heap.size k D ∧ Hid (MapOk D (l.take k)) ∧ Below w.heap.size w wr) (fun i _ => m - (intOf i).toNat)
  case atStart => exact ⟨0, .map [], by omega, rfl, hM1, mapOk_nil, hb1⟩
  case round =>
    rename World => wo
    clear hM1 hb1
    obtain ⟨k, D, hk, rfl, ho, HM, hb⟩ := hrel
    by_cases hlt : k < m
    · obtain ⟨ad, s, rfl, _, hx, hc⟩ := src_hit (carry hR hb) hlt (Nat.le_refl _)
      obtain ⟨d0, d1, d2, d3⟩ := hc wo (Below.refl _ _)
      have hs := HO.out.all s (List.mem_of_getElem? hx)
      obtain ⟨kl, hkl⟩ := key_some s.x s.y (by have := hs.x1; have := hs.x2; omega) (by have := hs.y1; have := hs.y2; omega)
      obtain ⟨q, hq⟩ : ∃ q : Nat, s.p = (q : Int) := ⟨s.p.toNat, by have := hs.p1; omega⟩
      have hq4 : q < 4 := by have := hs.p2; omega
      have hqi : (q : Int) < 4 := by omega
      have hsn := sumAt_in (l := l) HO.out s.x s.y
      have hC1 := sumAt_nrm (l := l.take k) (fun t ht => HO.out.all t (List.mem_of_mem_take ht)) s.x s.y
      have hC2 := sumAt_nrm (l := l.take (k + 1)) (fun t ht => HO.out.all t (List.mem_of_mem_take ht)) s.x s.y
      have hadd : sumAt (l.take (k + 1)) s.x s.y = (sumAt (l.take k) s.x s.y).add (own1 s) := by
        rw [src_take hx, sumAt_snoc]; unfold addAt; rw [if_pos ⟨rfl, rfl⟩]
      have hown : (⟨s.g, 0⟩ : G).mul (turnG q) = own1 s := by
        unfold own1; rw [hq, turnI_nat, G.mul_comm]
      have hon := own1_nrm s
      have htk : (l.take k).length ≤ 16 := by rw [List.length_take]; omega
      have htk2 : (l.take (k + 1)).length ≤ 16 := by rw [List.length_take]; omega
      obtain ⟨Z, hZ⟩ : ∃ Z, own1 s = Z := ⟨_, rfl⟩
      obtain ⟨C, hC⟩ : ∃ C, sumAt (l.take k) s.x s.y = C := ⟨_, rfl⟩
      have htimes : Hid (∀ W, Calls Tryz.prog 130 #[.agg #[.int .i64 s.g, .int .i64 0], .agg #[.int .i64 (turnG q).re, .int .i64 (turnG q).im]] W fun e W' => e = .returned (.agg #[.int .i64 Z.re, .int .i64 Z.im]) ∧ Below W.heap.size W W') := fun W => by
        have := times_any ⟨s.g, 0⟩ (turnG q) W
        rw [hown, hZ, G.w_in (by rw [← hZ]; have := hs.g1; have := hs.g2; omega)] at this
        exact this
      have hplus : Hid (∀ W, Calls Tryz.prog 129 #[.agg #[.int .i64 C.re, .int .i64 C.im], .agg #[.int .i64 Z.re, .int .i64 Z.im]] W fun e W' => e = .returned (.agg #[.int .i64 (C.add Z).re, .int .i64 (C.add Z).im]) ∧ Below W.heap.size W W') := fun W => by
        have := plus_any C Z W
        rw [G.w_in (by rw [← hZ, ← hC, ← hadd]; omega)] at this
        exact this
      have hput : Hid (MapOk (D.put kl (gd (C.add Z))) (l.take (k + 1))) := by
        rw [src_take hx, ← hC, ← hZ]
        exact mapOk_put HM.out ho.isMap hkl
      have HK := hide hkl
      have HQ := hide hq
      clear hx hs hc hsn hC1 hC2 hadd hown hon htk htk2 hZ
      go_upto_region 6 with (fail)
      obtain ⟨w2, e2, hb2, hz2, kS, kA⟩ := box2 wo #[.int .i64 s.x, .int .i64 s.y, .int .i64 s.g, .int .i64 (q : Int)] #[.int .i64 s.x, .int .i64 s.y] 60 154
      rw [← e2]; clear e2 d0 d1 d2 d3 hq
      have ho2 := map_below ho hb2
      have hbw2 := below_next hb hb2
      have hV2 := hV.carry hbw2
      have cS := over_blk kS kS.lt
      have cA := over_blk kA kA.lt
      have p0 : ∀ x, (over w2.heap.size w2 x).cell? ⟨1, q * 2, none⟩ = some (.int .i64 (turnG q).re) := fun x => ((hV2.carry (over_below _ _ _)).two hq4).1
      have p1 : ∀ x, (over w2.heap.size w2 x).cell? ⟨1, q * 2 + 1, none⟩ = some (.int .i64 (turnG q).im) := fun x => ((hV2.carry (over_below _ _ _)).two hq4).2
      have lk : ∀ x, (Instr.lookup 182 (.map (some w.heap.size)) (.agg #[.int .i64 s.x, .int .i64 s.y]) false).run Tryz.prog (over w2.heap.size w2 x) = .ok (.agg #[.int .i64 C.re, .int .i64 C.im]) (over w2.heap.size w2 x) := fun x => by
        rw [← hC]
        exact map_look (map_below ho2 (over_below _ _ _)) HM.out HK.out
      clear hC ho
      refine wp_region_part 14 w2.heap.size (by kernel_rfl) (by kernel_rfl) ?_; simp only [List.take_succ_cons, List.take_zero, List.drop_succ_cons, List.drop_zero]; (repeat (first | go_big_quiet_step (first | (go_at_call 130; exact over_call (Nat.le_refl _) (htimes.out _)) | (go_at_call 129; exact over_call (Nat.le_refl _) (hplus.out _))) | quiet_step (first | (go_at_call 130; exact over_call (Nat.le_refl _) (htimes.out _)) | (go_at_call 129; exact over_call (Nat.le_refl _) (hplus.out _))))); refine wpQuiet_nil ?_; rintro W ⟨x, rfl⟩
      have hbY := over_below w2.heap.size w2 x
      generalize over w2.heap.size w2 x = Y at hbY ⊢
      have hoY := map_below ho2 hbY
      have hbwY := below_next hbw2 hbY
      clear lk cS cA p0 p1 ho2 hbw2 hV2
      go_wp2_with (first | (at_mapUpdate; refine wpList_mapUpdate_own _ rfl _ _ _ 182 rfl 154 54 KW Tryz.underlying182 gElem w.heap.size k D rfl hoY (by unfold maxLen; omega) _ _ kl rfl rfl HK.out (gd (C.add Z)) [] (gElem_mk _) ?_; intro w3 ho3 hg3) | go_in)
      go_roundw
      case rel => exact ⟨k + 1, _, by omega, by go_num, ho3, hput, hbwY.grown hg3 hbwY.size (fun j hj => by cases hj; exact Nat.le_refl _)⟩
      case measure => simp [intOf]; omega
    · obtain rfl : k = m := by omega
      rw [List.take_of_length_le (by rw [HL.out]; omega)] at HM
      go_wp2_with (first | (at_range; refine wpList_range_own _ rfl _ 182 rfl 154 54 KW Tryz.underlying182 gElem w.heap.size k D rfl ho ?_; intro w0 hrg0 hg0 hs0) | go_in)
      go_frame
      have hzo : w.heap.size ≤ wo.heap.size := hb.size
      have hb0 : Below w.heap.size w w0 := hb.grown hg0 hb.size (fun j hj => by cases hj)
      have HC0 : Hid (Coll l [] (Maps.has D)) := coll_start HM.out
      have HM' := HM
      have hsz : Maps.size D ≤ k := ho.size_le
      clear HM ho
      go_loopw [7] (fun v wr => ∃ (left : Lit → Bool) (cnt : Nat) (L : List Wt), wr.ranges Tryz.prog 154 gElem w.heap.size wo.heap.size k D left cnt ∧ wr.ownsRow w.heap.size 123 4 v L.length (srcs (L.map asS)) ∧ Hid (Coll l L left) ∧ Below w.heap.size w wr ∧ L.length + cnt ≤ k) (fun _ wr => wr.rangeLeft w.heap.size wo.heap.size)
      case atStart => exact ⟨_, _, [], hrg0, World.ownsRow_nil _ _ _ _, HC0, hb0, by simpa using hsz⟩
      case round =>
        rename World => wq
        clear hrg0 hg0 hs0 hb0 HC0 hb
        obtain ⟨left, cnt, L, hrg, hrow, HC, hb, hlen⟩ := hrel
        go_wp2_with (first
          | (at_next; refine wpList_next_ranges _ rfl _ rfl 154 KW gElem (fun p : Int × Int => .agg #[.int .i64 p.1, .int .i64 p.2]) (fun z : G => .agg #[.int .i64 z.re, .int .i64 z.im]) (fun key kl h => key_inv key kl h) (fun v y h => by obtain ⟨z, h1, _⟩ := gElem_inv h; exact ⟨z, h1⟩) w.heap.size wo.heap.size k D left cnt rfl hrg ?_ ?_)
          | go_in)
        · intro hc0 hl0
          clear hrg
          go_wp2_with (go_at_call 131; refine (sort_any w.heap.size L.length _ L wq rfl (by omega) hrow).mono ?_; rintro e w5 ⟨rfl, L', hP, hS, ho5, hg5⟩)
          have hb5 := hb.grown hg5 hb.size (fun j hj => (hrow.lt j hj).1)
          have hE : L' = nrm l := coll_end HO.out HC.out hl0 hP hS
          go_ret
          exact ⟨_, rfl, by rw [← hE, hP.length_eq]; exact ho5, hb5⟩
        · intro px py z kl yd yp w1 cnt1 hkey hlx hRy hat hrg1 hlt1 hg1 hs1 hen
          have hkey : keyOf Tryz.prog 154 (kv px py) = some kl := hkey
          have hen : (Instr.entry (.pointer (some ⟨wo.heap.size, 0, none⟩))).run Tryz.prog w1 = .ok (.tuple #[.agg #[.int .i64 px, .int .i64 py], .agg #[.int .i64 z.re, .int .i64 z.im]]) w1 := hen
          have hz : z = sumAt l px py := by
            have e1 : yd = gd z := (Prod.mk.inj (Option.some.inj (hRy.symm.trans (gElem_mk z)))).1
            have e2 := hat (gd .zero)
            rw [e1] at e2
            exact gd_inj (e2.symm.trans (HM'.out px py kl hkey))
          have hb1 : Below w.heap.size w w1 := hb.grown hg1 hb.size (fun j hj => by cases hj; exact hzo)
          have hrow1 := hrow.kept hg1 (.inr (row_not_iter hrow hrg).symm)
          have HKY := hide hkey
          have HLX := hide hlx
          have HZ := hide hz
          have HLT := hide hlt1
          have HL0 := hide (hrg.left_eq)
          have HLL := hide hlen
          clear hrg hrow hkey hlx hRy hat hz hlt1 hg1 hs1 hb hlen
          go_upto_region 12 with (fail)
          obtain ⟨w2, e2, hb2, hz2, kP, kZ⟩ := box2 w1 #[.int .i64 px, .int .i64 py] #[.int .i64 z.re, .int .i64 z.im] 154 54
          rw [← e2]; clear e2 hen
          have hg2 : w1.grownBy w2 none := ⟨hb2.os, hb2.tape, hb2.output, hb2.size, fun i hi _ => hb2.block i hi⟩
          have hrg2 := hrg1.kept hg2 (by simp) (by simp)
          have hrow2 := row_below hrow1 hb2
          have hbw2 := below_step hb1 hb2 hb1.size
          have cP := kP.cell
          have cZ := kZ.cell
          clear hrg1 hrow1 hb1 hg2
          by_cases h0 : z = .zero
          · have t0 : ∀ W, (binOp .neq 54 (.agg #[.int .i64 z.re, .int .i64 z.im]) (.agg #[.int .i64 0, .int .i64 0])).run Tryz.prog W = .ok (.bool false) W := fun W => by
              have := neqG z .zero W
              rw [h0] at this ⊢
              exact this
            have H0 := hide h0
            clear h0
            go_wp2_with fail
            go_roundw
            case rel => exact ⟨_, cnt1, L, hrg2, hrow2, coll_skip HC.out HKY.out (by rw [← HZ.out]; exact H0.out), hbw2, by have := HLT.out; have := HLL.out; omega⟩
            case measure => rw [hrg2.left_eq, HL0.out]; exact HLT.out
          · have t0 : ∀ W, (binOp .neq 54 (.agg #[.int .i64 z.re, .int .i64 z.im]) (.agg #[.int .i64 0, .int .i64 0])).run Tryz.prog W = .ok (.bool true) W := fun W => by
              have := neqG z .zero W
              rw [show (!decide (z = .zero)) = true by simp [h0]] at this
              exact this
            have H0 := hide h0
            have A1 : L.length + 1 ≤ maxLen := by have := HLT.out; have := HLL.out; unfold maxLen; omega
            have A2 : (L.length + 1) * 32 ≤ 140737488355328 := by have := HLT.out; have := HLL.out; omega
            clear h0
            go_wp2_with (at_builtin; refine wpList_pushK _ rfl (.tmp 47) (.tmp 54) _ rfl w.heap.size 123 _ 4 32 Tryz.underlying40 info_wt rfl (by decide) _ L.length _ rfl (hrow2.alloc _) w2.heap.size (srcCells (asS ⟨px, py, z⟩)) rfl rfl (src_new1 w2 (asS ⟨px, py, z⟩) _) (one_src _) A1 A2 (le_alloc hbw2.size _) ?_; intro v3 w3 ho3 hb3 hg3 hv3)
            have hga : w2.grownBy w3 u7.ownBlock := (World.grownBy_alloc w2 _ _).andThen hg3 (fun j hj => .inr hj)
            go_roundw
            case rel =>
              refine ⟨_, cnt1, L ++ [⟨px, py, z⟩], hrg2.kept hga (row_not_map hrow2 hrg2.owns) (row_not_iter hrow2 hrg2), ?_, ?_, ?_, ?_⟩
              · simpa [srcs_snoc] using ho3
              · have := coll_add HC.out HKY.out HLX.out (by rw [← HZ.out]; exact H0.out)
                rw [← HZ.out] at this
                exact this
              · exact (hbw2.alloc hbw2.size _).trans hb3
              · have := HLT.out; have := HLL.out; simp; omega
            case measure =>
              rw [(hrg2.kept hga (row_not_map hrow2 hrg2.owns) (row_not_iter hrow2 hrg2)).left_eq, HL0.out]; exact HLT.out
end Go.Proofs.YtcihiglpahhboaaGreatDoor
