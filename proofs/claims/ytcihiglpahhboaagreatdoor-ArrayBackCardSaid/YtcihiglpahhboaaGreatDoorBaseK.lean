/- checkFour, Harmonics, Back of the program. Back of the program. -/
import Derived.Test.YtcihiglpahhboaaGreatDoorATr
import Derived.Test.YtcihiglpahhboaaGreatDoorASco
namespace Go.Proofs.YtcihiglpahhboaaGreatDoor
open Go.RowKit Go.Shelf
set_option maxRecDepth 100000
def gErr (z : G) : Int := fnz [rng z.re (-999999999) 999999999, rng z.im (-999999999) 999999999]
def fourE (p : F4) : Int := fnz (p.l.map gErr)
theorem gErr_ok {z : G} (h : gErr z = 0) : (-999999999 ≤ z.re ∧ z.re ≤ 999999999) ∧ (-999999999 ≤ z.im ∧ z.im ≤ 999999999) := by
  unfold gErr at h
  rw [fnz_zero] at h
  exact ⟨rng_zero.1 (h _ (by simp)), rng_zero.1 (h _ (by simp))⟩
theorem fourE_bnd {p : F4} (h : fourE p = 0) : Bnd p.l 100000000000 := by
  unfold fourE at h
  rw [fnz_zero] at h
  intro k
  rw [List.getD_eq_getElem?_getD]
  cases hk : p.l[k]? with
  | none => simp [G.nrm, G.zero]
  | some z =>
    have := gErr_ok (h _ (List.mem_map.2 ⟨z, List.mem_of_getElem? hk, rfl⟩))
    simp [G.nrm]
    omega
theorem four1_any (z : G) (w : World) :
    Calls Tryz.prog 138 #[.agg #[.int .i64 z.re, .int .i64 z.im]] w fun e w' => e = .returned (.int .i64 (gErr z)) ∧ Below w.heap.size w w' := by
  go_enter Tryz.func138, Tryz.ntmps138
  go_upto_region 1 with (fail)
  obtain ⟨w1, e1, hb1, hz1, k0⟩ := box1 w #[.int .i64 z.re, .int .i64 z.im] 54
  rw [← e1]; clear e1
  have c0 := over_blk k0 k0.lt
  refine wp_region_part 6 w1.heap.size (by kernel_rfl) (by kernel_rfl) ?_; simp only [List.take_succ_cons, List.take_zero, List.drop_succ_cons, List.drop_zero]; (repeat (first | go_big_quiet_step ((go_at_call 89; exact over_same (within_any _ _ _ _))) | quiet_step ((go_at_call 89; exact over_same (within_any _ _ _ _))))); refine wpQuiet_nil ?_; rintro W ⟨x, rfl⟩
  have hbY := over_below w1.heap.size w1 x
  generalize over w1.heap.size w1 x = Y at hbY ⊢
  go_wp2_with ((go_at_call 86; (first | (with_reducible (refine (first_any _ _ _ _ _ _ (reads2 _ _ _ _) (by omega)).mono ?_)) | (with_reducible (refine (first_any _ _ _ _ _ _ (Reads.drew (reads2 _ _ _ _)) (by omega)).mono ?_))); rintro e W' ⟨rfl, rfl⟩))
  go_ret
  exact ⟨rfl, (by repeat (first | exact below_next hb1 hbY | exact Below.refl _ _ | refine Below.drew ?_ | refine below_drewN ?_ _ | refine below_set ?_ (by omega) _ | refine below_new ?_ (by omega) _))⟩
theorem gints_snoc {l : List G} {k : Nat} {z : G} (h : l[k]? = some z) : ints ((l.take (k + 1)).map gErr) = ints ((l.take k).map gErr) ++ [.int .i64 (gErr z)] := by
  rw [List.take_add_one, h]; simp [ints]
theorem F4.at {p : F4} {k : Nat} (h : k < 4) : p.l[k]? = some (p.l.getD k .zero) := by
  rcases lt4 h with rfl | rfl | rfl | rfl <;> rfl
set_option maxHeartbeats 1000000 in
theorem mappedG_any (p : F4) (g : Nat) (w : World) (kB : Blk w g 114 #[.int .i64 p.a.re, .int .i64 p.a.im, .int .i64 p.b.re, .int .i64 p.b.im, .int .i64 p.c.re, .int .i64 p.c.im, .int .i64 p.d.re, .int .i64 p.d.im]) :
    Calls Tryz.prog 137 #[.slice (some ⟨g, 0, none⟩) 4 4, .func (.func 138) #[] #[]] w fun r w' => ∃ A' c', r = .returned (.slice A' 4 c') ∧ Reads w' w'.heap.size 1 A' 4 (ints (p.l.map gErr)) ∧ Below w.heap.size w w' := by
  go_enter Tryz.func137, Tryz.ntmps137
  go_wp2
  go_loopw [5, 10] (fun v i wr => ∃ k : Nat, k ≤ 4 ∧ i = .int .i64 k ∧ wr.ownsRow w.heap.size 27 1 v k (ints ((p.l.take k).map gErr)) ∧ Below w.heap.size w wr) (fun _ i _ => 4 - (intOf i).toNat)
  case atStart => exact ⟨0, by omega, rfl, by simp [ints, World.ownsRow_nil], Below.refl _ _⟩
  case round =>
    obtain ⟨k, hk, rfl, ho, hb⟩ := hrel
    by_cases hlt : k < 4
    · have hki : (k : Int) < 4 := by omega
      have hx := F4.at (p := p) hlt
      have kQ : Blk wr g 114 (qcs fun j => p.l.getD j .zero).toArray := kB.below hb kB.lt
      obtain ⟨d0, d1⟩ := qcs_at hlt kQ
      obtain ⟨z, hz⟩ : ∃ z, p.l.getD k .zero = z := ⟨_, rfl⟩
      rw [hz] at d0 d1 hx
      have ha : (⟨g, 0, none⟩ : Addr).add (k * 2) = ⟨g, k * 2, none⟩ := by unfold Addr.add; split <;> simp_all
      have HX := hide hx; clear hx hz
      have hsz := hb.size
      have A1 : k + 1 ≤ maxLen := by unfold maxLen; omega
      have A2 : (k + 1) * 8 ≤ 140737488355328 := by omega
      go_wp2_with fail
      refine (four1_any z _).mono ?_
      rintro e w2 ⟨rfl, hb2⟩
      have ho2 := row_below (ho.alloc (.cells #[.int .i64 z.re, .int .i64 z.im] 54)) hb2
      have hbb : Below w.heap.size w w2 := (hb.alloc hsz _).trans (hb2.mono (by simp; omega))
      clear ho hb hb2 d0 d1 kQ
      go_wp2_with (at_builtin; refine wpList_push _ rfl (.tmp 14) (.tmp 18) _ rfl w.heap.size 27 (.int .i64 0) 1 8 Tryz.underlying157 info_errno rfl (by decide) _ k _ rfl (ho2.alloc _) w2.heap.size [.int .i64 (gErr z)] rfl rfl (cell_new1 _ _ _) (one_int _) A1 A2 (le_alloc hbb.size _) ?_; intro v1 w1 ho1 hb1)
      exact ⟨⟨k + 1, by omega, by go_num, by rw [gints_snoc HX.out]; exact ho1, (hbb.alloc hbb.size _).trans hb1⟩, by simp [intOf]; omega⟩
    · obtain rfl : k = 4 := by omega
      go_wp2
      go_ret
      rw [List.take_of_length_le (by simp [F4.l])] at ho
      obtain ⟨A', c', rfl, hr⟩ := own_slice ho
      exact ⟨A', c', rfl, hr, hb⟩
theorem checkFour_any (p : F4) (w : World) :
    Calls Tryz.prog 117 #[.agg #[.int .i64 p.a.re, .int .i64 p.a.im, .int .i64 p.b.re, .int .i64 p.b.im, .int .i64 p.c.re, .int .i64 p.c.im, .int .i64 p.d.re, .int .i64 p.d.im]] w fun e w' => e = .returned (.int .i64 (fourE p)) ∧ Below w.heap.size w w' := by
  go_enter Tryz.func117, Tryz.ntmps117
  go_upto_region 1 with (fail)
  obtain ⟨w1, e1, hb1, hz1, k0⟩ := box1 w #[.int .i64 p.a.re, .int .i64 p.a.im, .int .i64 p.b.re, .int .i64 p.b.im, .int .i64 p.c.re, .int .i64 p.c.im, .int .i64 p.d.re, .int .i64 p.d.im] 114
  rw [← e1]; clear e1
  go_wp2_with fail
  refine (mappedG_any p _ _ k0).mono ?_
  rintro e w2 ⟨A1, c1, rfl, hR1, hb2⟩
  go_wp2_with (go_at_call 86; with_reducible (refine (first_any _ _ _ _ _ _ hR1 (by omega)).mono ?_); rintro e W' ⟨rfl, rfl⟩)
  go_ret
  exact ⟨rfl, below_next hb1 hb2⟩
def F4.zero : F4 := ⟨.zero, .zero, .zero, .zero⟩
/-- The harmonics. -/
def haV (p : F4) : F4 := if fourE p = 0 then trV (-1) p else .zero
theorem Harmonics_any (p : F4) (w : World) (hV : Vr w) :
    Calls Tryz.prog 75 #[.agg #[.int .i64 p.a.re, .int .i64 p.a.im, .int .i64 p.b.re, .int .i64 p.b.im, .int .i64 p.c.re, .int .i64 p.c.im, .int .i64 p.d.re, .int .i64 p.d.im]] w fun e w' => e = .returned (.tuple #[.agg #[.int .i64 (haV p).a.re, .int .i64 (haV p).a.im, .int .i64 (haV p).b.re, .int .i64 (haV p).b.im, .int .i64 (haV p).c.re, .int .i64 (haV p).c.im, .int .i64 (haV p).d.re, .int .i64 (haV p).d.im], .int .i64 (fourE p)]) ∧ Below w.heap.size w w' := by
  unfold haV
  by_cases h0 : fourE p = 0
  · rw [if_pos h0]
    have HB := hide (fourE_bnd h0)
    have H0 := hide h0
    clear h0
    go_enter Tryz.func75, Tryz.ntmps75
    go_upto_region 1 with (fail)
    obtain ⟨w1, e1, hb1, hz1, k0, k1⟩ := box2 w #[.int .i64 p.a.re, .int .i64 p.a.im, .int .i64 p.b.re, .int .i64 p.b.im, .int .i64 p.c.re, .int .i64 p.c.im, .int .i64 p.d.re, .int .i64 p.d.im] #[.int .i64 0, .int .i64 0, .int .i64 0, .int .i64 0, .int .i64 0, .int .i64 0, .int .i64 0, .int .i64 0] 114 114
    rw [← e1]; clear e1
    have c0 := k0.cell
    go_wp2_with fail
    refine (checkFour_any p _).mono ?_
    rintro e w2 ⟨rfl, hb2⟩
    clear c0
    have k02 := carryK k0 hb2
    have k12 := carryK k1 hb2
    have hb02 := below_next hb1 hb2
    have hV2 := hV.carry hb02
    clear hb1 hb2 k0 k1
    rw [H0.out]
    have c0 := k02.cell
    go_wp2_with fail
    refine (transformed_any p (-1) _ (.inr rfl) HB.out hV2).mono ?_
    rintro e w3 ⟨rfl, hb3⟩
    have k13 := carryK k12 hb3
    have hb03 := below_next hb02 hb3
    have c1 := k13.cell
    have f1 := k13.frozen
    clear c0 hb02 hb3
    go_wp2_with fail
    with_reducible refine fins8 114 hb03 (Nat.le_succ w.heap.size) k13 (fun X hX kX => ?_)
    have cX := kX.cell
    refine bodyPost_ret (v := .tuple #[.agg #[.int .i64 (trV (-1) p).a.re, .int .i64 (trV (-1) p).a.im, .int .i64 (trV (-1) p).b.re, .int .i64 (trV (-1) p).b.im, .int .i64 (trV (-1) p).c.re, .int .i64 (trV (-1) p).c.im, .int .i64 (trV (-1) p).d.re, .int .i64 (trV (-1) p).d.im], .int .i64 0]) (by simp [results, Tryz.results75, go_sem, cX]) rfl ?_
    exact ⟨by rw [H0.out], hX⟩
  · rw [if_neg h0]
    have t0 : (fourE p != 0) = true := by simpa using h0
    clear h0
    go_enter Tryz.func75, Tryz.ntmps75
    go_upto_region 1 with (fail)
    obtain ⟨w1, e1, hb1, hz1, k0, k1⟩ := box2 w #[.int .i64 p.a.re, .int .i64 p.a.im, .int .i64 p.b.re, .int .i64 p.b.im, .int .i64 p.c.re, .int .i64 p.c.im, .int .i64 p.d.re, .int .i64 p.d.im] #[.int .i64 0, .int .i64 0, .int .i64 0, .int .i64 0, .int .i64 0, .int .i64 0, .int .i64 0, .int .i64 0] 114 114
    rw [← e1]; clear e1
    have c0 := k0.cell
    go_wp2_with fail
    refine (checkFour_any p _).mono ?_
    rintro e w2 ⟨rfl, hb2⟩
    clear c0
    have k02 := carryK k0 hb2
    have k12 := carryK k1 hb2
    have hb02 := below_next hb1 hb2
    have hV2 := hV.carry hb02
    clear hb1 hb2 k0 k1
    have c1 := k12.cell
    have f1 := k12.frozen
    go_wp2_with fail
    with_reducible refine fins8 114 hb02 (Nat.le_succ w.heap.size) k12 (fun X hX kX => ?_)
    have cX := kX.cell
    refine bodyPost_ret (v := .tuple #[.agg #[.int .i64 F4.zero.a.re, .int .i64 F4.zero.a.im, .int .i64 F4.zero.b.re, .int .i64 F4.zero.b.im, .int .i64 F4.zero.c.re, .int .i64 F4.zero.c.im, .int .i64 F4.zero.d.re, .int .i64 F4.zero.d.im], .int .i64 (fourE p)]) (by simp [results, Tryz.results75, go_sem, cX]; exact ⟨rfl, rfl, rfl, rfl, rfl, rfl, rfl, rfl⟩) rfl ?_
    exact ⟨rfl, hX⟩
/-- A number that can be divided by four. -/
def div4 (z : G) : Bool := decide (z.re.tmod 4 = 0) && decide (z.im.tmod 4 = 0)
def quo4 (z : G) : G := ⟨z.re.tdiv 4, z.im.tdiv 4⟩
def bkOk (p : F4) : Bool := (trV 1 p).l.all div4
def bkE (p : F4) : Int := if fourE p = 0 then (if bkOk p = true then 0 else 30) else fourE p
def bkQ (v : F4) : F4 := ⟨quo4 v.a, quo4 v.b, quo4 v.c, quo4 v.d⟩
def bkV (p : F4) : F4 := if bkE p = 0 then bkQ (trV 1 p) else .zero
/-- The first k have been divided. -/
def bkF (v : F4) (k : Nat) (j : Nat) : G := if j < k then quo4 (v.l.getD j .zero) else v.l.getD j .zero
theorem bkF_upd (v : F4) (k : Nat) : upd (bkF v k) k (quo4 (v.l.getD k .zero)) = bkF v (k + 1) := by
  funext j
  unfold upd bkF
  by_cases h : j = k
  · subst h; simp
  · rw [if_neg h]
    by_cases h1 : j < k
    · rw [if_pos h1, if_pos (by omega)]
    · rw [if_neg h1, if_neg (by omega)]
theorem bk_bad {v : F4} {k : Nat} (h : k < 4) (hd : div4 (v.l.getD k .zero) = false) : v.l.all div4 = false := by
  rw [List.all_eq_false]
  exact ⟨_, List.mem_of_getElem? (F4.at h), by rw [hd]; decide⟩
theorem bk_end {v : F4} (h : ∀ j, j < 4 → div4 (v.l.getD j .zero) = true) : v.l.all div4 = true := by
  have h0 := h 0 (by omega); have h1 := h 1 (by omega); have h2 := h 2 (by omega); have h3 := h 3 (by omega)
  simp only [F4.l, List.getD_cons_zero, List.getD_cons_succ] at h0 h1 h2 h3
  simp [F4.l, h0, h1, h2, h3]
end Go.Proofs.YtcihiglpahhboaaGreatDoor

namespace Go.Proofs.YtcihiglpahhboaaGreatDoor
open Go.RowKit Go.Shelf
set_option maxRecDepth 100000
theorem tdiv4_in {n : Int} (h : n.natAbs ≤ 400000000000) : wrap64 (n.tdiv 4) = n.tdiv 4 := by
  have : (n.tdiv 4).natAbs = n.natAbs / 4 := Int.natAbs_tdiv n 4
  unfold wrap64; omega
set_option maxHeartbeats 4000000 in
theorem Back_any (p : F4) (w : World) (hV : Vr w) :
    Calls Tryz.prog 76 #[.agg #[.int .i64 p.a.re, .int .i64 p.a.im, .int .i64 p.b.re, .int .i64 p.b.im, .int .i64 p.c.re, .int .i64 p.c.im, .int .i64 p.d.re, .int .i64 p.d.im]] w fun e w' => e = .returned (.tuple #[.agg #[.int .i64 (bkV p).a.re, .int .i64 (bkV p).a.im, .int .i64 (bkV p).b.re, .int .i64 (bkV p).b.im, .int .i64 (bkV p).c.re, .int .i64 (bkV p).c.im, .int .i64 (bkV p).d.re, .int .i64 (bkV p).d.im], .int .i64 (bkE p)]) ∧ Below w.heap.size w w' := by
  by_cases h0 : fourE p = 0
  · have HB := hide (fourE_bnd h0)
    have HE : Hid (bkE p = if bkOk p = true then 0 else 30) := by show _ = _; unfold bkE; rw [if_pos h0]
    have H0 := hide h0
    have hnv := fun j => trP_nrm 1 HB.out j 4
    clear h0
    go_enter Tryz.func76, Tryz.ntmps76
    go_upto_region 1 with (fail)
    obtain ⟨w1, e1, hb1, hz1, k0, k1⟩ := box2 w #[.int .i64 p.a.re, .int .i64 p.a.im, .int .i64 p.b.re, .int .i64 p.b.im, .int .i64 p.c.re, .int .i64 p.c.im, .int .i64 p.d.re, .int .i64 p.d.im] #[.int .i64 0, .int .i64 0, .int .i64 0, .int .i64 0, .int .i64 0, .int .i64 0, .int .i64 0, .int .i64 0] 114 114
    rw [← e1]; clear e1
    have c0 := k0.cell
    go_wp2_with fail
    refine (checkFour_any p _).mono ?_
    rintro e w2 ⟨rfl, hb2⟩
    clear c0
    have k02 := carryK k0 hb2
    have k12 := carryK k1 hb2
    have hb02 := below_next hb1 hb2
    have hV2 := hV.carry hb02
    clear hb1 hb2 k0 k1
    rw [H0.out]
    have c0 := k02.cell
    go_wp2_with fail
    refine (transformed_any p 1 _ (.inl rfl) HB.out hV2).mono ?_
    rintro e w3 ⟨rfl, hb3⟩
    have k13 := carryK k12 hb3
    have hb03 := below_next hb02 hb3
    have HV : Hid (bkV p = if bkOk p = true then bkQ (trV 1 p) else .zero) := by
      show _ = _
      unfold bkV
      rw [HE.out]
      cases bkOk p <;> rfl
    have HK : Hid (bkOk p = (trV 1 p).l.all div4) := rfl
    have hnz : ∀ j, j < 4 → ((trV 1 p).l.getD j .zero).nrm ≤ 400000000000 := fun j hj => by
      rcases lt4 hj with rfl | rfl | rfl | rfl
      · exact hnv 0
      · exact hnv 1
      · exact hnv 2
      · exact hnv 3
    obtain ⟨v, hv⟩ : ∃ v, trV 1 p = v := ⟨_, rfl⟩
    rw [hv] at HV HK hnz ⊢
    have HN := hide hnz
    clear c0 hb02 hb3 k02 k12 hV2 hv hnv hnz
    go_upto_region 5 with (fail)
    obtain ⟨w4, e4, hb4, hz4, k4⟩ := box1 w3 #[.int .i64 v.a.re, .int .i64 v.a.im, .int .i64 v.b.re, .int .i64 v.b.im, .int .i64 v.c.re, .int .i64 v.c.im, .int .i64 v.d.re, .int .i64 v.d.im] 114
    rw [← e4]; clear e4
    have k14 := carryK k13 hb4
    have hb04 := below_next hb03 hb4
    have hlt1 : w.heap.size + 1 < w3.heap.size := k13.lt
    have c4 := k4.cell
    go_wp2_with fail
    go_loopw [17] (fun i wr => ∃ k : Nat, k ≤ 4 ∧ i = .int .i64 k ∧ Blk wr (w.heap.size + 1) 114 #[.int .i64 0, .int .i64 0, .int .i64 0, .int .i64 0, .int .i64 0, .int .i64 0, .int .i64 0, .int .i64 0] ∧ Blk wr w3.heap.size 114 (qcs (bkF v k)).toArray ∧ Hid (∀ j, j < k → div4 (v.l.getD j .zero) = true) ∧ Below w.heap.size w wr) (fun i _ => 4 - (intOf i).toNat)
    case atStart => exact ⟨0, by omega, rfl, k14, k4, (fun j hj => absurd hj (Nat.not_lt_zero j)), hb04⟩
    case round =>
      rename World => wo
      clear k4 k14 hb04 k13 hb03 c4 hb4
      obtain ⟨k, hk, rfl, k1, kv, HD, hb⟩ := hrel
      by_cases hlt : k < 4
      · have hki : (k : Int) < 4 := by omega
        have ri : ∀ W, (Instr.index 114 (.agg #[.int .i64 v.a.re, .int .i64 v.a.im, .int .i64 v.b.re, .int .i64 v.b.im, .int .i64 v.c.re, .int .i64 v.c.im, .int .i64 v.d.re, .int .i64 v.d.im]) (.int .i64 (k : Int))).run Tryz.prog W = .ok (.agg #[.int .i64 (v.l.getD k .zero).re, .int .i64 (v.l.getD k .zero).im]) W := fun W => four_index v hlt W
        have hn := HN.out k hlt
        have hup := bkF_upd v k
        have HBD := hide (bk_bad (v := v) hlt)
        have hdd : div4 (v.l.getD k .zero) = true → ∀ j, j < k + 1 → div4 (v.l.getD j .zero) = true := fun h j hj => by
          by_cases e : j = k
          · rw [e]; exact h
          · exact HD.out j (by omega)
        have HDD := hide hdd
        obtain ⟨z, hz⟩ : ∃ z, v.l.getD k .zero = z := ⟨_, rfl⟩
        rw [hz] at ri hn hup HBD HDD
        have HUP := hide hup
        have d1 : wrap64 (z.re.tdiv 4) = z.re.tdiv 4 := tdiv4_in (by unfold G.nrm at hn; omega)
        have d2 : wrap64 (z.im.tdiv 4) = z.im.tdiv 4 := tdiv4_in (by unfold G.nrm at hn; omega)
        obtain ⟨o0, o1⟩ := qcs_at hlt kv
        clear hup hdd hz hn
        go_upto_region 8 with (fail)
        obtain ⟨w5, e5, hb5, hz5, k5⟩ := box1 wo #[.int .i64 z.re, .int .i64 z.im] 54
        rw [← e5]; clear e5 ri o0 o1
        have c5 := k5.cell
        have k15 := carryK k1 hb5
        have kv5 := carryK kv hb5
        have hb05 := below_next hb hb5
        clear k1 kv hb hb5
        by_cases hre : z.re.tmod 4 = 0
        · by_cases him : z.im.tmod 4 = 0
          · have HZ : Hid (div4 z = true) := by show _ = _; unfold div4; rw [decide_eq_true hre, decide_eq_true him]; rfl
            have kX := qcs_set hlt (quo4 z) kv5
            rw [HUP.out] at kX
            have k1X := (k15.far (p := ⟨w3.heap.size, k * 2, none⟩) (by show w.heap.size + 1 ≠ w3.heap.size; omega) (.int .i64 (quo4 z).re)).far (p := ⟨w3.heap.size, k * 2 + 1, none⟩) (by show w.heap.size + 1 ≠ w3.heap.size; omega) (.int .i64 (quo4 z).im)
            have hX := below_set (below_set hb05 (show w.heap.size ≤ w3.heap.size by omega) (i := k * 2) (.int .i64 (quo4 z).re)) (show w.heap.size ≤ w3.heap.size by omega) (i := k * 2 + 1) (.int .i64 (quo4 z).im)
            obtain ⟨v0, hv0⟩ : ∃ v, w5.cell? ⟨w3.heap.size, k * 2, none⟩ = some v := ⟨_, (qcs_at hlt kv5).1⟩
            obtain ⟨v1, hv1⟩ : ∃ v, w5.cell? ⟨w3.heap.size, k * 2 + 1, none⟩ = some v := ⟨_, (qcs_at hlt kv5).2⟩
            have f5 := kv5.frozen
            have KX := hide kX
            have K1X := hide k1X
            have HX := hide hX
            clear kX k1X hX k15 kv5 hb05
            go_wp2_with fail
            go_roundw
            case rel => exact ⟨k + 1, by omega, by go_num, K1X.out, KX.out, HDD.out HZ.out, HX.out⟩
            case measure => simp [intOf]; omega
          · have HZ : Hid (div4 z = false) := by show _ = _; unfold div4; rw [decide_eq_false him, Bool.and_false]
            have hbad := HBD.out HZ.out
            have him' : (z.im.tmod 4 != 0) = true := by simpa using him
            have E1 := HE.out
            have V1 := HV.out
            rw [HK.out, hbad] at E1 V1
            simp only [if_false, Bool.false_eq_true] at E1 V1
            have E2 := hide E1
            have V2 := hide V1
            have c1 := k15.cell
            have f1 := k15.frozen
            clear E1 V1 hbad
            go_wp2_with fail
            with_reducible refine fins8 114 hb05 (Nat.le_succ w.heap.size) k15 (fun X hX kX => ?_)
            have cX := kX.cell
            refine bodyPost_ret (v := .tuple #[.agg #[.int .i64 F4.zero.a.re, .int .i64 F4.zero.a.im, .int .i64 F4.zero.b.re, .int .i64 F4.zero.b.im, .int .i64 F4.zero.c.re, .int .i64 F4.zero.c.im, .int .i64 F4.zero.d.re, .int .i64 F4.zero.d.im], .int .i64 30]) (by simp [results, Tryz.results76, go_sem, cX]; exact ⟨rfl, rfl, rfl, rfl, rfl, rfl, rfl, rfl⟩) rfl ?_
            exact ⟨by rw [E2.out, V2.out], hX⟩
        · have HZ : Hid (div4 z = false) := by show _ = _; unfold div4; rw [decide_eq_false hre, Bool.false_and]
          have hbad := HBD.out HZ.out
          have hre' : (z.re.tmod 4 != 0) = true := by simpa using hre
          have E1 := HE.out
          have V1 := HV.out
          rw [HK.out, hbad] at E1 V1
          simp only [if_false, Bool.false_eq_true] at E1 V1
          have E2 := hide E1
          have V2 := hide V1
          have c1 := k15.cell
          have f1 := k15.frozen
          clear E1 V1 hbad
          go_wp2_with fail
          with_reducible refine fins8 114 hb05 (Nat.le_succ w.heap.size) k15 (fun X hX kX => ?_)
          have cX := kX.cell
          refine bodyPost_ret (v := .tuple #[.agg #[.int .i64 F4.zero.a.re, .int .i64 F4.zero.a.im, .int .i64 F4.zero.b.re, .int .i64 F4.zero.b.im, .int .i64 F4.zero.c.re, .int .i64 F4.zero.c.im, .int .i64 F4.zero.d.re, .int .i64 F4.zero.d.im], .int .i64 30]) (by simp [results, Tryz.results76, go_sem, cX]; exact ⟨rfl, rfl, rfl, rfl, rfl, rfl, rfl, rfl⟩) rfl ?_
          exact ⟨by rw [E2.out, V2.out], hX⟩
      · obtain rfl : k = 4 := by omega
        have hbk : bkOk p = true := by rw [HK.out]; exact bk_end fun j hj => HD.out j hj
        have E1 := HE.out
        have V1 := HV.out
        rw [hbk] at E1 V1
        simp only [if_true] at E1 V1
        have E2 := hide E1
        have V2 := hide V1
        have kv : Blk wo w3.heap.size 114 #[.int .i64 (bkQ v).a.re, .int .i64 (bkQ v).a.im, .int .i64 (bkQ v).b.re, .int .i64 (bkQ v).b.im, .int .i64 (bkQ v).c.re, .int .i64 (bkQ v).c.im, .int .i64 (bkQ v).d.re, .int .i64 (bkQ v).d.im] := kv
        have cv := kv.cell
        have c1 := k1.cell
        have f1 := k1.frozen
        clear E1 V1 hbk
        go_wp2_with fail
        with_reducible refine fins8 114 hb (Nat.le_succ w.heap.size) k1 (fun X hX kX => ?_)
        have cX := kX.cell
        refine bodyPost_ret (v := .tuple #[.agg #[.int .i64 (bkQ v).a.re, .int .i64 (bkQ v).a.im, .int .i64 (bkQ v).b.re, .int .i64 (bkQ v).b.im, .int .i64 (bkQ v).c.re, .int .i64 (bkQ v).c.im, .int .i64 (bkQ v).d.re, .int .i64 (bkQ v).d.im], .int .i64 0]) (by simp [results, Tryz.results76, go_sem, cX]) rfl ?_
        exact ⟨by rw [E2.out, V2.out], hX⟩
  · have HE : Hid (bkE p = fourE p) := by show _ = _; unfold bkE; rw [if_neg h0]
    have HV : Hid (bkV p = .zero) := by show _ = _; unfold bkV; rw [HE.out, if_neg h0]
    have t0 : (fourE p != 0) = true := by simpa using h0
    rw [HE.out, HV.out]
    clear h0
    go_enter Tryz.func76, Tryz.ntmps76
    go_upto_region 1 with (fail)
    obtain ⟨w1, e1, hb1, hz1, k0, k1⟩ := box2 w #[.int .i64 p.a.re, .int .i64 p.a.im, .int .i64 p.b.re, .int .i64 p.b.im, .int .i64 p.c.re, .int .i64 p.c.im, .int .i64 p.d.re, .int .i64 p.d.im] #[.int .i64 0, .int .i64 0, .int .i64 0, .int .i64 0, .int .i64 0, .int .i64 0, .int .i64 0, .int .i64 0] 114 114
    rw [← e1]; clear e1
    have c0 := k0.cell
    go_wp2_with fail
    refine (checkFour_any p _).mono ?_
    rintro e w2 ⟨rfl, hb2⟩
    clear c0
    have k02 := carryK k0 hb2
    have k12 := carryK k1 hb2
    have hb02 := below_next hb1 hb2
    have hV2 := hV.carry hb02
    clear hb1 hb2 k0 k1
    have c1 := k12.cell
    have f1 := k12.frozen
    go_wp2_with fail
    with_reducible refine fins8 114 hb02 (Nat.le_succ w.heap.size) k12 (fun X hX kX => ?_)
    have cX := kX.cell
    refine bodyPost_ret (v := .tuple #[.agg #[.int .i64 F4.zero.a.re, .int .i64 F4.zero.a.im, .int .i64 F4.zero.b.re, .int .i64 F4.zero.b.im, .int .i64 F4.zero.c.re, .int .i64 F4.zero.c.im, .int .i64 F4.zero.d.re, .int .i64 F4.zero.d.im], .int .i64 (fourE p)]) (by simp [results, Tryz.results76, go_sem, cX]; exact ⟨rfl, rfl, rfl, rfl, rfl, rfl, rfl, rfl⟩) rfl ?_
    exact ⟨rfl, hX⟩
end Go.Proofs.YtcihiglpahhboaaGreatDoor
