/- The reference's polynomials: trimmed, plus, times. -/
import Derived.Test.YtnndaipnfniciaaGreatDoorNAdd
import Derived.Test.YtnndaipnfniciaaGreatDoorBaseC
import Derived.Test.YtnndaipnfniciaaGreatDoorBaseR
namespace Go.Proofs.YtnndaipnfniciaaGreatDoor
open Go.RowKit Go.Shelf
set_option maxRecDepth 100000
theorem wr_half2 (o x : Int) : wrap64 (wr o + x) = wr (o + x) := by rw [wr_is]; simp only [wr_def]; omega
theorem rplus_is (a b : List Int) : rplus a b = trim (addRow (addRow (List.replicate (max a.length b.length) 0) 0 1 a) 0 1 b) := by
  refine ((trim_is _).ext (trim_is _) fun k => ?_ : trim _ = trim _)
  have hz : co (List.replicate (max a.length b.length) (0 : Int)) k = 0 := by
    have := co_pad [] (max a.length b.length) k
    rw [List.nil_append, co_nil] at this
    exact this
  have h2 : co (rplus a b) k = co a k + co b k := co_rplus a b k
  unfold rplus at h2
  rw [h2, co_trim]
  by_cases hk : k < max a.length b.length
  · rw [co_addRow (by rw [addRow_len, List.length_replicate]; exact hk), co_addRow (by rw [List.length_replicate]; exact hk), hz, if_pos (Nat.zero_le _), if_pos (Nat.zero_le _), Nat.sub_zero]
    omega
  · rw [co_far (by omega), co_far (by omega), co_far (by rw [addRow_len, addRow_len, List.length_replicate]; omega)]; rfl
theorem rtimes_is (a b : List Int) : rtimes a b = trim (addRows (List.replicate (a.length + b.length) 0) a b a.length) := by
  unfold rtimes padd
  simp
set_option maxHeartbeats 2000000 in
theorem rTrimmed_any (A : Option Addr) (n c : Nat) (xs : List Int) (w : World) (h : Reads w w.heap.size 1 A n (ints xs)) (hc : n ≤ c) (hn : n ≤ 100000) :
    Calls Tryz.prog 99 #[.slice A n c] w fun e w' => ∃ v, e = .returned v ∧ w'.ownsRow w.heap.size 3 1 v (trim xs).length (ints (trim xs)) ∧ Below w.heap.size w w' := by
  have HL := hide (reads_len h)
  obtain ⟨i, hi, hz, hsize, hby⟩ := info_parts info_int
  have hown : (w.alloc (.cells #[] 3)).ownsRow w.heap.size 3 1 (.slice (some ⟨w.heap.size, 0, none⟩) 0 0) 0 [] :=
    ⟨by simp, .inr ⟨w.heap.size, 0, #[], rfl, Nat.le_refl _, Blk.new w 3 #[], Nat.le_refl _, by unfold maxLen; omega, by simp, by simp⟩⟩
  have hb0 : Below w.heap.size w (w.alloc (.cells #[] 3)) := (Below.refl _ _).alloc (Nat.le_refl _) _
  have hz0 : w.heap.size ≤ (w.alloc (.cells #[] 3)).heap.size := hb0.size
  go_enter Tryz.func99, Tryz.ntmps99
  go_wp2_with fail
  go_loop [3] (fun v => ∃ k : Nat, k ≤ n ∧ v = .int .i64 k ∧ Hid (∀ j, k ≤ j → co xs j = 0)) (fun v => (intOf v).toNat)
  case atStart => exact ⟨n, Nat.le_refl _, rfl, fun j hj => co_far (by rw [HL.out]; exact hj)⟩
  case round =>
    obtain ⟨k, hk, rfl, hzz⟩ := hrel
    have hend : ∀ (hlast : k = 0 ∨ co xs (k - 1) ≠ 0), Hid (trim xs = xs.take k ∧ (trim xs).length = k) := fun hlast => by
      have ht : trim xs = xs.take k := trim_is_take (by rw [HL.out]; exact hk) hzz.out hlast
      exact ⟨ht, by rw [ht, List.length_take, HL.out]; omega⟩
    have hrk := (reads_take h hk).below hb0
    have q1 : 0 + k ≤ maxLen := by unfold maxLen; omega
    have q2 : (0 + k) * 8 ≤ 140737488355328 := by omega
    have hkc : k ≤ c := by omega
    rcases Nat.eq_zero_or_pos k with h0 | h0
    · have HE := hend (.inl h0)
      have g0 : ¬ (0 : Int) < (k : Int) := by omega
      clear hend h0
      go_wp2_with (at_builtin; (refine wpList_append_any _ rfl (.tmp 18) (.tmp 21) _ rfl w.heap.size 3 i _ 1 8 Tryz.underlying26 hi hz hsize hby rfl (by decide) _ 0 _ rfl hown w.heap.size _ k c (ints (xs.take k)) rfl hrk (ints_one _) q1 q2 hz0 ?_; intro v1 w3 ho3 hg3 _; have hb3 := hb0.grown hg3 hz0 (fun k hk => (hown.lt k hk).1)))
      have ho5 : w3.ownsRow w.heap.size 3 1 v1 k (ints (xs.take k)) := by
        have := ho3
        rwa [Nat.zero_add, List.nil_append] at this
      obtain ⟨e1, e2⟩ := HE.out
      rw [e2, e1]
      obtain ⟨A', c', rfl, hr⟩ := own_slice ho5
      refine bodyPost_ret (v := .slice A' k c') (by simp [results, Tryz.results99, go_sem]) rfl ?_
      first
        | exact ⟨_, rfl, ho5, hb3⟩
        | exact ⟨ho5, hb3⟩
    · obtain ⟨ad, x, rfl, _, hx, hcx⟩ := reads_at h (show k - 1 < n by omega)
      have HX := hide hx; clear hx
      have hk1 : ((k : Int) - 1) = ((k - 1 : Nat) : Int) := by omega
      have hg : (0 : Int) < (k : Int) := by omega
      by_cases hx0 : x = 0
      · subst hx0
        clear hend
        go_wp2
        go_round
        case rel =>
          refine ⟨k - 1, by omega, by simp, fun j hj => ?_⟩
          by_cases e : j = k - 1
          · rw [e]; exact co_get HX.out
          · exact hzz.out j (by omega)
        case measure => simp [intOf]; omega
      · have hx1 : (x == 0) = false := by simpa using hx0
        have HE := hend (.inr (by rw [co_get HX.out]; exact hx0))
        clear hx0 hend
        go_wp2_with (at_builtin; (refine wpList_append_any _ rfl (.tmp 18) (.tmp 21) _ rfl w.heap.size 3 i _ 1 8 Tryz.underlying26 hi hz hsize hby rfl (by decide) _ 0 _ rfl hown w.heap.size _ k c (ints (xs.take k)) rfl hrk (ints_one _) q1 q2 hz0 ?_; intro v1 w3 ho3 hg3 _; have hb3 := hb0.grown hg3 hz0 (fun k hk => (hown.lt k hk).1)))
        have ho5 : w3.ownsRow w.heap.size 3 1 v1 k (ints (xs.take k)) := by
          have := ho3
          rwa [Nat.zero_add, List.nil_append] at this
        obtain ⟨e1, e2⟩ := HE.out
        rw [e2, e1]
        obtain ⟨A', c', rfl, hr⟩ := own_slice ho5
        refine bodyPost_ret (v := .slice A' k c') (by simp [results, Tryz.results99, go_sem]) rfl ?_
        first
          | exact ⟨_, rfl, ho5, hb3⟩
          | exact ⟨ho5, hb3⟩
set_option maxHeartbeats 4000000 in
theorem rPolPlus_any (A1 : Option Addr) (na c1 : Nat) (a : List Int) (A2 : Option Addr) (nb c2 : Nat) (b : List Int) (w : World) (h1 : Reads w w.heap.size 1 A1 na (ints a)) (h2 : Reads w w.heap.size 1 A2 nb (ints b)) (l1 : na ≤ 10000) (l2 : nb ≤ 10000) (hs : n1 a + n1 b ≤ 9223372036854775807) :
    Calls Tryz.prog 100 #[.slice A1 na c1, .slice A2 nb c2] w fun e w' => ∃ v, e = .returned v ∧ w'.ownsRow w.heap.size 3 1 v (rplus a b).length (ints (rplus a b)) ∧ Below w.heap.size w w' := by
  have HLa := hide (reads_len h1)
  have HLb := hide (reads_len h2)
  obtain ⟨M, hM⟩ : ∃ M, M = max na nb := ⟨_, rfl⟩
  have hmx := max2 na nb
  rw [← hM] at hmx
  have hM1 : na ≤ M := by omega
  have hM2 : nb ≤ M := by omega
  have hM3 : M ≤ 10000 := by omega
  have hmk := run_make_row' (P := Tryz.prog) 26 3 (.int .i64 0) 8 Tryz.underlying26 info_int rfl .i64 .i64 M (by omega) (by omega)
  have hfin : rplus a b = trim (addRow (addRow (List.replicate M 0) 0 1 a) 0 1 b) := by rw [rplus_is, HLa.out, HLb.out, ← hM]
  have HFIN := hide hfin
  clear hM hfin
  go_enter Tryz.func100, Tryz.ntmps100
  go_upto_region 2 with (fail)
  obtain ⟨w1, e1, hb1, hz1, k0⟩ := box1 w (madeCells #[.int .i64 0] M) 3
  rw [← e1]; clear e1 hmk hmx
  rw [made_eq] at k0
  obtain ⟨Z, hZ⟩ : ∃ Z : List Int, Z = List.replicate M 0 := ⟨_, rfl⟩
  have LZ : Hid (Z.length = M) := by rw [hZ]; exact List.length_replicate
  have n1Z : n1 Z = 0 := by rw [hZ]; exact n1_zeros M
  have HNZ := hide n1Z
  rw [← hZ] at HFIN
  rw [← hZ, ← wints_in (l := Z) (by rw [n1Z]; omega)] at k0
  clear n1Z hZ
  go_wp2_with fail
  go_loopw [6] (fun v wq => ∃ i : Nat, i ≤ na ∧ v = .int .i64 i ∧ Blk wq w.heap.size 3 (wints (addPart Z 0 1 a i)).toArray ∧ Below w.heap.size w wq) (fun v _ => na - (intOf v).toNat)
  case atStart => exact ⟨0, by omega, rfl, by rw [addPart_zero]; exact k0, hb1⟩
  case round =>
    rename World => wq
    obtain ⟨i, hi, rfl, kq, hbq⟩ := hrel
    clear k0 hb1
    by_cases hlt : i < na
    · skip
      obtain ⟨ad1, x', e1, hB1, hx, hcx⟩ := reads_at (h1.below hbq) hlt
      subst e1
      have hin : 0 + i < (Z).length := by rw [LZ.out]; omega
      have hcell : ∀ z, (over wq.heap.size wq z).cell? ⟨w.heap.size, i, none⟩ = some (.int .i64 (wr (co Z i))) := fun z => by
        have := co_addPart_at (x := 1) (b := a) hin
        rw [Nat.zero_add] at this
        rw [(over_below wq.heap.size wq z).cell (p := ⟨w.heap.size, i, none⟩) kq.lt, kq.cell, List.getElem?_toArray, wints_at (by rw [addPart_len]; omega), this]
      have hc2 : ∀ z, (over wq.heap.size wq z).cell? (ad1.add i) = some (.int .i64 x') := fun z => ((over_below wq.heap.size wq z).cell (p := ad1.add i) (by rw [block_of_add]; have := hbq.size; omega)).trans hcx
      have HX := hide hx
      have hiM : i < M := by omega
      clear hx hcx
      go_upto_region 5 with (fail)
      refine wp_region_part 12 wq.heap.size (by kernel_rfl) (by kernel_rfl) ?_; simp only [List.take_succ_cons, List.take_zero, List.drop_succ_cons, List.drop_zero]; (repeat (first | go_big_quiet_step (fail) | quiet_step (fail))); refine wpQuiet_nil ?_; rintro W ⟨x, rfl⟩
      have hbY := over_below wq.heap.size wq x
      generalize over wq.heap.size wq x = Y at hbY ⊢
      clear hcell hc2
      have kY := carryK kq hbY
      have hbz := below_next hbq hbY
      have hfro := kY.frozen i
      have hcel : Y.cell? ⟨w.heap.size, i, none⟩ = some (.int .i64 (wr (co Z i))) := by
        have := co_addPart_at (x := 1) (b := a) hin
        rw [Nat.zero_add] at this
        rw [kY.cell, List.getElem?_toArray, wints_at (by rw [addPart_len]; omega), this]
      have hlt2 := kY.lt
      go_wp2_with fail
      go_roundw
      case rel =>
        refine ⟨i + 1, by omega, by go_num, ?_, below_set hbz (Nat.le_refl _) _⟩
        have e : wrap64 (wr (co Z i) + x') = wr (co Z i + co a i) := by rw [co_get HX.out]; exact wr_half2 _ _
        rw [e]
        have := kY.set_ i (.int .i64 (wr (co Z i + co a i)))
        have ws := wints_set (x := 1) (b := a) hin
        rw [Nat.zero_add, Int.one_mul] at ws
        rwa [ws] at this
      case measure => simp [intOf]; omega
    · obtain rfl : i = na := by omega
      have k1 : Blk wq w.heap.size 3 (wints (addRow Z 0 1 a)).toArray := by
        rw [← addPart_all, HLa.out]
        exact kq
      clear kq
      obtain ⟨V, hV⟩ : ∃ V : List Int, V = addRow Z 0 1 a := ⟨_, rfl⟩
      have LV : Hid (V.length = M) := by rw [hV]; exact (addRow_len _ _ _ _).trans LZ.out
      have NV : Hid (n1 V ≤ n1 a) := by
        have := n1_addRow 1 Z 0 a
        rw [show Int.natAbs 1 = 1 from rfl, Nat.one_mul] at this
        show n1 V ≤ n1 a
        rw [hV]; have h0 := HNZ.out; omega
      rw [← hV] at k1 HFIN
      have hb2 := hbq
      clear hV hbq
      go_wp2_with fail
      go_loopw [7] (fun v wq => ∃ i : Nat, i ≤ nb ∧ v = .int .i64 i ∧ Blk wq w.heap.size 3 (wints (addPart V 0 1 b i)).toArray ∧ Below w.heap.size w wq) (fun v _ => nb - (intOf v).toNat)
      case atStart => exact ⟨0, by omega, rfl, by rw [addPart_zero]; exact k1, hb2⟩
      case round =>
        rename World => wq
        obtain ⟨i, hi, rfl, kq, hbq⟩ := hrel
        clear k1 hb2
        by_cases hlt : i < nb
        · skip
          obtain ⟨ad1, x', e1, hB1, hx, hcx⟩ := reads_at (h2.below hbq) hlt
          subst e1
          have hin : 0 + i < (V).length := by rw [LV.out]; omega
          have hcell : ∀ z, (over wq.heap.size wq z).cell? ⟨w.heap.size, i, none⟩ = some (.int .i64 (wr (co V i))) := fun z => by
            have := co_addPart_at (x := 1) (b := b) hin
            rw [Nat.zero_add] at this
            rw [(over_below wq.heap.size wq z).cell (p := ⟨w.heap.size, i, none⟩) kq.lt, kq.cell, List.getElem?_toArray, wints_at (by rw [addPart_len]; omega), this]
          have hc2 : ∀ z, (over wq.heap.size wq z).cell? (ad1.add i) = some (.int .i64 x') := fun z => ((over_below wq.heap.size wq z).cell (p := ad1.add i) (by rw [block_of_add]; have := hbq.size; omega)).trans hcx
          have HX := hide hx
          have hiM : i < M := by omega
          clear hx hcx
          go_upto_region 9 with (fail)
          refine wp_region_part 12 wq.heap.size (by kernel_rfl) (by kernel_rfl) ?_; simp only [List.take_succ_cons, List.take_zero, List.drop_succ_cons, List.drop_zero]; (repeat (first | go_big_quiet_step (fail) | quiet_step (fail))); refine wpQuiet_nil ?_; rintro W ⟨x, rfl⟩
          have hbY := over_below wq.heap.size wq x
          generalize over wq.heap.size wq x = Y at hbY ⊢
          clear hcell hc2
          have kY := carryK kq hbY
          have hbz := below_next hbq hbY
          have hfro := kY.frozen i
          have hcel : Y.cell? ⟨w.heap.size, i, none⟩ = some (.int .i64 (wr (co V i))) := by
            have := co_addPart_at (x := 1) (b := b) hin
            rw [Nat.zero_add] at this
            rw [kY.cell, List.getElem?_toArray, wints_at (by rw [addPart_len]; omega), this]
          have hlt2 := kY.lt
          go_wp2_with fail
          go_roundw
          case rel =>
            refine ⟨i + 1, by omega, by go_num, ?_, below_set hbz (Nat.le_refl _) _⟩
            have e : wrap64 (wr (co V i) + x') = wr (co V i + co b i) := by rw [co_get HX.out]; exact wr_half2 _ _
            rw [e]
            have := kY.set_ i (.int .i64 (wr (co V i + co b i)))
            have ws := wints_set (x := 1) (b := b) hin
            rw [Nat.zero_add, Int.one_mul] at ws
            rwa [ws] at this
          case measure => simp [intOf]; omega
        · obtain rfl : i = nb := by omega
          have k2 : Blk wq w.heap.size 3 (wints (addRow V 0 1 b)).toArray := by
            rw [← addPart_all, HLb.out]
            exact kq
          clear kq
          obtain ⟨U, hU⟩ : ∃ U : List Int, U = addRow V 0 1 b := ⟨_, rfl⟩
          have hul : U.length = M := by rw [hU]; exact (addRow_len _ _ _ _).trans LV.out
          have hun : n1 U ≤ 9223372036854775807 := by
            have := n1_addRow 1 V 0 b
            rw [show Int.natAbs 1 = 1 from rfl, Nat.one_mul] at this
            rw [hU]; have h0 := NV.out; omega
          rw [← hU] at k2 HFIN
          rw [wints_in hun] at k2
          have hrd := blkR (n := M) k2 (by rw [hul])
          clear hU hul hun
          go_wp2_with fail
          refine (rTrimmed_any _ M M U _ hrd (Nat.le_refl _) (by omega)).mono ?_
          rintro e W' ⟨v, rfl, hr, hb3⟩
          rw [← HFIN.out] at hr
          have hr2 := hr.weaken hbq.size
          go_wp2_with fail
          go_ret
          exact ⟨_, rfl, hr2, below_next hbq hb3⟩
set_option maxHeartbeats 4000000 in
theorem rPolTimes_any (A1 : Option Addr) (na c1 : Nat) (a : List Int) (A2 : Option Addr) (nb c2 : Nat) (b : List Int) (w : World) (h1 : Reads w w.heap.size 1 A1 na (ints a)) (h2 : Reads w w.heap.size 1 A2 nb (ints b)) (l1 : na ≤ 10000) (l2 : nb ≤ 10000) (hs : n1 a * n1 b ≤ 9223372036854775807) :
    Calls Tryz.prog 101 #[.slice A1 na c1, .slice A2 nb c2] w fun e w' => ∃ v, e = .returned v ∧ w'.ownsRow w.heap.size 3 1 v (rtimes a b).length (ints (rtimes a b)) ∧ Below w.heap.size w w' := by
  have HLa := hide (reads_len h1)
  have HLb := hide (reads_len h2)
  obtain ⟨M, hM⟩ : ∃ M, na + nb = M := ⟨_, rfl⟩
  have hcast : (na : Int) + (nb : Int) = (M : Int) := by omega
  have hM3 : M ≤ 20000 := by omega
  have hmk := run_make_row' (P := Tryz.prog) 26 3 (.int .i64 0) 8 Tryz.underlying26 info_int rfl .i64 .i64 M (by omega) (by omega)
  have hfin : rtimes a b = trim (addRows (List.replicate M 0) a b na) := by rw [rtimes_is, HLa.out, HLb.out, hM]
  have HFIN := hide hfin
  have HM := hide hM
  clear hM hfin
  go_enter Tryz.func101, Tryz.ntmps101
  go_upto_region 2 with (fail)
  obtain ⟨w1, e1, hb1, hz1, k0⟩ := box1 w (madeCells #[.int .i64 0] M) 3
  rw [← e1]; clear e1 hmk hcast
  rw [made_eq] at k0
  obtain ⟨Z, hZ⟩ : ∃ Z : List Int, Z = List.replicate M 0 := ⟨_, rfl⟩
  have LZ : Hid (Z.length = M) := by rw [hZ]; exact List.length_replicate
  have n1Z : n1 Z = 0 := by rw [hZ]; exact n1_zeros M
  have HNZ := hide n1Z
  rw [← hZ] at HFIN
  rw [← hZ, ← wints_in (l := Z) (by rw [n1Z]; omega)] at k0
  clear n1Z hZ
  have k1 : Blk w1 w.heap.size 3 (wints (addRows Z a b 0)).toArray := k0
  clear k0
  go_wp2_with fail
  go_loopw [6] (fun v wq => ∃ i : Nat, i ≤ na ∧ v = .int .i64 i ∧ Blk wq w.heap.size 3 (wints (addRows Z a b i)).toArray ∧ Below w.heap.size w wq) (fun v _ => na - (intOf v).toNat)
  case atStart => exact ⟨0, by omega, rfl, k1, hb1⟩
  case round =>
    rename World => wo
    obtain ⟨i, hi, rfl, kr, hbr⟩ := hrel
    clear k1 hb1
    by_cases hlt : i < na
    · obtain ⟨ad1, x', e1, hB1, hx, _⟩ := reads_at (h1.below hbr) hlt
      subst e1
      have HX := hide hx; clear hx
      go_wp2_with fail
      go_loopw [7] (fun v wq => ∃ k : Nat, k ≤ nb ∧ v = .int .i64 k ∧ Blk wq w.heap.size 3 (wints (addPart (addRows Z a b i) i x' b k)).toArray ∧ Below w.heap.size w wq) (fun v _ => nb - (intOf v).toNat)
      case atStart => exact ⟨0, by omega, rfl, by rw [addPart_zero]; exact kr, hbr⟩
      case round =>
        rename World => wq
        obtain ⟨k, hk, rfl, kq, hbq⟩ := hrel
        clear kr hbr
        by_cases hlt2 : k < nb
        · obtain ⟨ad2, y, e2, hB2, hy, hcy⟩ := reads_at (h2.below hbq) hlt2
          subst e2
          obtain ⟨ad1', x2, e3, _, hx2, hcx⟩ := reads_at (h1.below hbq) hlt
          cases e3
          obtain rfl : x' = x2 := Option.some.inj (HX.out.symm.trans hx2)
          have hin : i + k < (addRows Z a b i).length := by rw [addRows_len, LZ.out, ← HM.out]; omega
          have hcell : ∀ z, (over wq.heap.size wq z).cell? ⟨w.heap.size, i + k, none⟩ = some (.int .i64 (wr (co (addRows Z a b i) (i + k)))) := fun z => by
            rw [(over_below wq.heap.size wq z).cell (p := ⟨w.heap.size, i + k, none⟩) kq.lt, kq.cell, List.getElem?_toArray, wints_at (by rw [addPart_len]; exact hin), co_addPart_at hin]
          have hc1 : ∀ z, (over wq.heap.size wq z).cell? (ad1.add i) = some (.int .i64 x') := fun z => ((over_below wq.heap.size wq z).cell (p := ad1.add i) (by rw [block_of_add]; have := hbq.size; omega)).trans hcx
          have hc2 : ∀ z, (over wq.heap.size wq z).cell? (ad2.add k) = some (.int .i64 y) := fun z => ((over_below wq.heap.size wq z).cell (p := ad2.add k) (by rw [block_of_add]; have := hbq.size; omega)).trans hcy
          have HY := hide hy
          have hin2 : i + k < M := by rw [addRows_len, LZ.out] at hin; exact hin
          clear hy hx2 hcx hcy
          go_upto_region 8 with (fail)
          refine wp_region_part 21 wq.heap.size (by kernel_rfl) (by kernel_rfl) ?_; simp only [List.take_succ_cons, List.take_zero, List.drop_succ_cons, List.drop_zero]; (repeat (first | go_big_quiet_step (fail) | quiet_step (fail))); refine wpQuiet_nil ?_; rintro W ⟨x, rfl⟩
          have hbY := over_below wq.heap.size wq x
          generalize over wq.heap.size wq x = Y at hbY ⊢
          clear hcell hc1 hc2
          have kY := carryK kq hbY
          have hbz := below_next hbq hbY
          have hfro := kY.frozen (i + k)
          have hcel : Y.cell? ⟨w.heap.size, i + k, none⟩ = some (.int .i64 (wr (co (addRows Z a b i) (i + k)))) := by
            rw [kY.cell, List.getElem?_toArray, wints_at (by rw [addPart_len]; exact hin), co_addPart_at hin]
          have hlt3 := kY.lt
          go_wp2_with fail
          go_roundw
          case rel =>
            refine ⟨k + 1, by omega, by go_num, ?_, below_set hbz (Nat.le_refl _) _⟩
            have e : wrap64 (wr (co (addRows Z a b i) (i + k)) + wrap64 (x' * y)) = wr (co (addRows Z a b i) (i + k) + x' * co b k) := by rw [co_get HY.out, wr_is, wr_is, wr_step]
            rw [e]
            have := kY.set_ (i + k) (.int .i64 (wr (co (addRows Z a b i) (i + k) + x' * co b k)))
            rwa [wints_set hin] at this
          case measure => simp [intOf]; omega
        · obtain rfl : k = nb := by omega
          have kn : Blk wq w.heap.size 3 (wints (addRows Z a b (i + 1))).toArray := by
            show Blk wq w.heap.size 3 (wints (addRow (addRows Z a b i) i (co a i) b)).toArray
            rw [co_get HX.out, ← addPart_all, HLb.out]
            exact kq
          go_wp2_with fail
          go_roundw
          case rel => exact ⟨i + 1, by omega, by go_num, kn, hbq⟩
          case measure => simp [intOf]; omega
    · obtain rfl : i = na := by omega
      have hfr : n1 (addRows Z a b i) ≤ 9223372036854775807 := by
        have := n1_addRows Z a b i
        rw [← HLa.out, List.take_length, HLa.out, HNZ.out] at this
        omega
      rw [wints_in hfr] at kr
      have hlen : (addRows Z a b i).length = M := by rw [addRows_len, LZ.out]
      have hrd := blkR (n := M) kr (by rw [hlen])
      clear hfr hlen
      go_wp2_with fail
      refine (rTrimmed_any _ M M (addRows Z a b i) _ hrd (Nat.le_refl _) (by omega)).mono ?_
      rintro e W' ⟨v, rfl, hr, hb3⟩
      rw [← HFIN.out] at hr
      have hr2 := hr.weaken hbr.size
      go_wp2_with fail
      go_ret
      exact ⟨_, rfl, hr2, below_next hbr hb3⟩
end Go.Proofs.YtnndaipnfniciaaGreatDoor
