/- The reference's Reverse, Dual, Join, SameLadder; the law's helper told; Join of the program with an error. -/
import Derived.Test.YtnndaipnfniciaaGreatDoorBaseR
import Derived.Test.YtnndaipnfniciaaGreatDoorNRev
import Derived.Test.YtnndaipnfniciaaGreatDoorNDual
namespace Go.Proofs.YtnndaipnfniciaaGreatDoor
open Go.RowKit Go.Shelf
set_option maxRecDepth 100000
theorem info_elR : (Tryz.prog.info? 103).map (fun i => (i.zero, i.size, i.bytes)) = some (some (.agg #[.string { data := #[] }, .int .i64 0, .int .i64 0]), 3, 32) := by kernel_rfl
theorem reflE_ne (x : El) (w : World) : (binOp .neq 103 (.agg #[.string x.kind, .int .i64 x.a, .int .i64 x.b]) (.agg #[.string x.kind, .int .i64 x.a, .int .i64 x.b])).run Tryz.prog w = .ok (.bool false) w := by
  have hh : (Op.equalIn 10000 103 (.agg #[.string x.kind, .int .i64 x.a, .int .i64 x.b]) (.agg #[.string x.kind, .int .i64 x.a, .int .i64 x.b])).run Tryz.prog w = .ok true w := by
    rw [show (10000 : Nat) = 9999 + 1 from rfl, run_equalIn_struct w 9999 103 _ _ (by kernel_rfl) (by kernel_rfl)]
    simp [Program.fieldsOf, Tryz.underlying103, Op.eqFields, go_sem, run_equalIn_int _ _ _ _ _ _ _ Tryz.underlying3, run_equalIn_string _ _ _ _ _ Tryz.underlying9]
  simp only [binOp, Op.equal, Op.maxDepth]
  simp [hh, go_sem]
set_option maxHeartbeats 1000000 in
theorem sameLadder_true (A : Option Addr) (n c : Nat) (xs : List El) (A' : Option Addr) (c' : Nat) (w : World) (h : Reads w w.heap.size 3 A n (els xs)) (h' : Reads w w.heap.size 3 A' n (els xs)) (hn : n ≤ 1000000000000) :
    Calls Tryz.prog 71 #[.slice A n c, .slice A' n c'] w fun r w' => r = .returned (.bool true) ∧ Below w.heap.size w w' := by
  have t0 : ((n : Int) != (n : Int)) = false := by simp
  go_enter Tryz.func71, Tryz.ntmps71
  go_wp2_with fail
  go_loopw [5] (fun i wr => ∃ k : Nat, k ≤ n ∧ i = .int .i64 k ∧ Below w.heap.size w wr) (fun i _ => n - (intOf i).toNat)
  case atStart => exact ⟨0, by omega, rfl, Below.refl _ _⟩
  case round =>
    rename World => wo
    obtain ⟨k, hk, rfl, hb⟩ := hrel
    by_cases hlt : k < n
    · obtain ⟨ad, x, rfl, _, hx, hc⟩ := els_hit (carry h hb) hlt (Nat.le_refl _)
      obtain ⟨ad', y, rfl, _, hy, hc'⟩ := els_hit (carry h' hb) hlt (Nat.le_refl _)
      obtain rfl : x = y := Option.some.inj (hx.symm.trans hy)
      have q0 : ∀ z, (over wo.heap.size wo z).cell? (ad.add (k * 3)) = some (.string x.kind) := fun z => (hc _ (over_below _ _ _)).1
      have q1 : ∀ z, (over wo.heap.size wo z).cell? ⟨(ad.add (k * 3)).block, (ad.add (k * 3)).off + 1, none⟩ = some (.int .i64 x.a) := fun z => (hc _ (over_below _ _ _)).2.1
      have q2 : ∀ z, (over wo.heap.size wo z).cell? ⟨(ad.add (k * 3)).block, (ad.add (k * 3)).off + 2, none⟩ = some (.int .i64 x.b) := fun z => (hc _ (over_below _ _ _)).2.2
      have r0 : ∀ z, (over wo.heap.size wo z).cell? (ad'.add (k * 3)) = some (.string x.kind) := fun z => (hc' _ (over_below _ _ _)).1
      have r1 : ∀ z, (over wo.heap.size wo z).cell? ⟨(ad'.add (k * 3)).block, (ad'.add (k * 3)).off + 1, none⟩ = some (.int .i64 x.a) := fun z => (hc' _ (over_below _ _ _)).2.1
      have r2 : ∀ z, (over wo.heap.size wo z).cell? ⟨(ad'.add (k * 3)).block, (ad'.add (k * 3)).off + 2, none⟩ = some (.int .i64 x.b) := fun z => (hc' _ (over_below _ _ _)).2.2
      have qE := fun W => reflE_ne x W
      clear hx hy hc hc'
      go_upto_region 6 with (fail)
      refine wp_region_over wo.heap.size (by kernel_rfl) (by kernel_rfl) ?_; (repeat (first | go_big_quiet_step (fail) | quiet_step (fail))); refine wpQuiet_nil ?_; rintro W ⟨x, rfl⟩
      have hbY := over_below wo.heap.size wo x
      generalize over wo.heap.size wo x = Y at hbY ⊢
      clear q0 q1 q2 r0 r1 r2 qE
      go_wp2_with fail
      go_roundw
      case rel => exact ⟨k + 1, by omega, by go_num, below_next hb hbY⟩
      case measure => simp [intOf]; omega
    · obtain rfl : k = n := by omega
      go_wp2_with fail
      go_ret
      exact ⟨rfl, hb⟩
set_option maxHeartbeats 1000000 in
theorem told_lad (A : Option Addr) (n c : Nat) (l : List El) (w : World) (h : Reads w w.heap.size 3 A n (els l)) (hn : n ≤ 1000000) :
    Calls Tryz.prog 72 #[.slice A n c] w fun r w' => ∃ A' c', r = .returned (.slice A' n c') ∧ Reads w' w'.heap.size 3 A' n (els l) ∧ Below w.heap.size w w' := by
  have HL := hide (els_reads_len h)
  go_enter Tryz.func72, Tryz.ntmps72
  go_wp2
  go_loopw [3, 8] (fun v i wr => ∃ k : Nat, k ≤ n ∧ i = .int .i64 k ∧ wr.ownsRow w.heap.size 103 3 v k (els (l.take k)) ∧ Below w.heap.size w wr) (fun _ i _ => n - (intOf i).toNat)
  case atStart => exact ⟨0, by omega, rfl, by simp [els, World.ownsRow_nil], Below.refl _ _⟩
  case round =>
    obtain ⟨k, hk, rfl, ho, hb⟩ := hrel
    by_cases hlt : k < n
    · have hr := h.below hb
      obtain ⟨ad, s, rfl, _, hx, hc⟩ := els_hit hr hlt hb.size
      have HX := hide hx; clear hx
      have hsz := hb.size
      have A1 : k + 1 ≤ maxLen := by unfold maxLen; omega
      have A2 : (k + 1) * 32 ≤ 140737488355328 := by omega
      obtain ⟨d0, d1, d2⟩ := hc wr (Below.refl _ _)
      clear h hr hc
      go_wp2_with (at_builtin; refine wpList_push _ rfl (.tmp 12) (.tmp 14) _ rfl w.heap.size 103 _ 3 32 Tryz.underlying42 info_elR rfl (by decide) _ k _ rfl ((ho.alloc _).alloc _) (wr.heap.size + 1) (elCells s) rfl rfl (el_new2 _ _ _ _) (one_el _) A1 A2 (le_alloc (le_alloc hsz _) _) ?_; intro v1 w1 ho1 hb1)
      exact ⟨⟨k + 1, by omega, by go_num, by rw [els_take_succ HX.out]; exact ho1, ((hb.alloc hsz _).alloc (le_alloc hsz _) _).trans hb1⟩, by simp [intOf]; omega⟩
    · go_wp2
      go_ret
      obtain rfl : k = n := by omega
      rw [List.take_of_length_le (by rw [HL.out]; omega)] at ho
      obtain ⟨A', c', rfl, hR⟩ := own_slice ho
      exact ⟨_, _, rfl, hR, hb⟩
set_option maxHeartbeats 1000000 in
theorem rJoin_many (A1 : Option Addr) (m1 c1 : Nat) (A2 : Option Addr) (m2 c2 : Nat) (w : World) (h5 : 5 < m1 + m2) (hm1 : m1 ≤ 1000000) (hm2 : m2 ≤ 1000000) :
    Calls Tryz.prog 70 #[.slice A1 m1 c1, .slice A2 m2 c2] w fun e w' => e = .returned (.tuple #[.slice none 0 0, .int .i64 5]) ∧ Below w.heap.size w w' := by
  have g1 : (5 : Int) < (m1 : Int) + (m2 : Int) := by omega
  go_enter Tryz.func70, Tryz.ntmps70
  go_wp2_with fail
  go_ret2
  exact ⟨rfl, Below.refl _ _⟩
set_option maxHeartbeats 1000000 in
theorem rJoin_ok (A1 : Option Addr) (m1 c1 : Nat) (l1 : List El) (A2 : Option Addr) (m2 c2 : Nat) (l2 : List El) (w : World) (h1 : Reads w w.heap.size 3 A1 m1 (els l1)) (h2 : Reads w w.heap.size 3 A2 m2 (els l2)) (h5 : m1 + m2 ≤ 5) :
    Calls Tryz.prog 70 #[.slice A1 m1 c1, .slice A2 m2 c2] w fun e w' => ∃ A c, e = .returned (.tuple #[.slice A (m1 + m2) c, .int .i64 0]) ∧ Reads w' w'.heap.size 3 A (m1 + m2) (els (l1 ++ l2)) ∧ Below w.heap.size w w' := by
  have g1 : ¬ (5 : Int) < (m1 : Int) + (m2 : Int) := by omega
  obtain ⟨i, hi, hz, hsize, hby⟩ := info_parts info_elR
  have hown : (w.alloc (.cells #[] 103)).ownsRow w.heap.size 103 3 (.slice (some ⟨w.heap.size, 0, none⟩) 0 0) 0 [] :=
    ⟨by simp, .inr ⟨w.heap.size, 0, #[], rfl, Nat.le_refl _, Blk.new w 103 #[], Nat.le_refl _, by unfold maxLen; omega, by simp, by simp⟩⟩
  have hb0 : Below w.heap.size w (w.alloc (.cells #[] 103)) := (Below.refl _ _).alloc (Nat.le_refl _) _
  have hz0 : w.heap.size ≤ (w.alloc (.cells #[] 103)).heap.size := hb0.size
  have s1 := h1.below hb0
  have q1 : 0 + m1 ≤ maxLen := by unfold maxLen; omega
  have q2 : (0 + m1) * 32 ≤ 140737488355328 := by omega
  have q3 : 0 + m1 + m2 ≤ maxLen := by unfold maxLen; omega
  have q4 : (0 + m1 + m2) * 32 ≤ 140737488355328 := by omega
  go_enter Tryz.func70, Tryz.ntmps70
  go_wp2_with (at_builtin; first
    | (refine wpList_append_any _ rfl (.tmp 12) (.tmp 13) _ rfl w.heap.size 103 i _ 3 32 Tryz.underlying42 hi hz hsize hby rfl (by decide) _ 0 _ rfl hown w.heap.size A1 m1 c1 (els l1) rfl s1 (els_one l1) q1 q2 hz0 ?_; intro v1 w3 ho3 hg3 _; have hb3 := hb0.grown hg3 hz0 (fun k hk => (hown.lt k hk).1); have s2 := h2.below hb3; have hz3 := hb3.size)
    | (refine wpList_append_any _ rfl (.tmp 14) (.tmp 15) _ rfl w.heap.size 103 i _ 3 32 Tryz.underlying42 hi hz hsize hby rfl (by decide) _ (0 + m1) _ rfl ho3 w.heap.size A2 m2 c2 (els l2) rfl s2 (els_one l2) q3 q4 hz3 ?_; intro v2 w4 ho4 hg4 _; have hb4 := hb3.grown hg4 hz3 (fun k hk => (ho3.lt k hk).1)))
  have ho5 : w4.ownsRow w.heap.size 103 3 v2 (m1 + m2) (els (l1 ++ l2)) := by
    have := ho4
    rw [Nat.zero_add, List.nil_append] at this
    rw [show els (l1 ++ l2) = els l1 ++ els l2 by simp [els]]
    exact this
  obtain ⟨A', c', rfl, hr⟩ := own_slice ho5
  refine bodyPost_ret (v := .tuple #[.slice A' (m1 + m2) c', .int .i64 0]) (by simp [results, Tryz.results70, go_sem]) rfl ?_
  first
    | exact ⟨_, _, rfl, hr, hb4⟩
    | exact ⟨_, ⟨_, rfl⟩, hr, hb4⟩
set_option maxHeartbeats 1000000 in
theorem rReverse_any (A : Option Addr) (n c : Nat) (l : List El) (w : World) (h : Reads w w.heap.size 3 A n (els l)) (hn : n ≤ 1000000) :
    Calls Tryz.prog 68 #[.slice A n c] w fun r w' => ∃ A' c', r = .returned (.slice A' n c') ∧ Reads w' w'.heap.size 3 A' n (els l.reverse) ∧ Below w.heap.size w w' := by
  have HL := hide (els_reads_len h)
  go_enter Tryz.func68, Tryz.ntmps68
  go_wp2
  go_loopw [3, 4] (fun v i wr => ∃ k : Nat, k ≤ n ∧ i = .int .i64 ((n : Int) - 1 - (k : Int)) ∧ wr.ownsRow w.heap.size 103 3 v k (els (l.reverse.take k)) ∧ Below w.heap.size w wr) (fun _ i _ => (intOf i + 1).toNat)
  case atStart => exact ⟨0, by omega, by simp, by simp [els, World.ownsRow_nil], Below.refl _ _⟩
  case round =>
    rename World => wr
    obtain ⟨k, hk, rfl, ho, hb⟩ := hrel
    by_cases hlt : k < n
    · obtain ⟨j, hj⟩ : ∃ j, n - 1 - k = j := ⟨_, rfl⟩
      have hjn : j < n := by omega
      have ej : (n : Int) - 1 - (k : Int) = (j : Int) := by omega
      rw [ej]
      obtain ⟨ad, s, rfl, _, hx, hc⟩ := els_hit (h.below hb) hjn hb.size
      have HX : Hid (l.reverse[k]? = some s) := by
        show l.reverse[k]? = some s
        rw [List.getElem?_reverse (by rw [HL.out]; omega), HL.out, hj]; exact hx
      have HJ := hide hj
      have hsz := hb.size
      have A1 : k + 1 ≤ maxLen := by unfold maxLen; omega
      have A2 : (k + 1) * 32 ≤ 140737488355328 := by omega
      obtain ⟨d0, d1, d2⟩ := hc wr (Below.refl _ _)
      clear h hc hx hj
      go_wp2_with (at_builtin; refine wpList_push _ rfl (.tmp 12) (.tmp 17) _ rfl w.heap.size 103 _ 3 32 Tryz.underlying42 info_elR rfl (by decide) _ k _ rfl (ho.alloc _) wr.heap.size (elCells s) rfl rfl (cells_new _ (elCells s) _) (one_el _) A1 A2 (le_alloc hsz _) ?_; intro v1 w1 ho1 hb1)
      go_roundw
      case rel => exact ⟨k + 1, by omega, by go_num, by rw [els_take_succ HX.out]; exact ho1, (hb.alloc hsz _).trans hb1⟩
      case measure => simp [intOf]
    · obtain rfl : k = n := by omega
      have ej : (k : Int) - 1 - (k : Int) = -1 := by omega
      rw [ej]
      go_wp2_with fail
      go_ret
      rw [List.take_of_length_le (by rw [List.length_reverse, HL.out]; omega)] at ho
      obtain ⟨A', c', rfl, hR⟩ := own_slice ho
      exact ⟨_, _, rfl, hR, hb⟩
set_option maxHeartbeats 1000000 in
theorem Join_bad (A1 : Option Addr) (m1 c1 : Nat) (l1 : List El) (A2 : Option Addr) (m2 c2 : Nat) (l2 : List El) (w : World) (h1 : Reads w w.heap.size 3 A1 m1 (els l1)) (h2 : Reads w w.heap.size 3 A2 m2 (els l2)) (hm1 : m1 ≤ 1000000) (hm2 : m2 ≤ 1000000) (E : Int) (hE : fnz [ladErr l1, ladErr l2, if 5 < m1 + m2 then 5 else 0] = E) (h0 : ¬ E = 0) :
    Calls Tryz.prog 67 #[.slice A1 m1 c1, .slice A2 m2 c2] w fun e w' => e = .returned (.tuple #[.slice none 0 0, .int .i64 E]) ∧ Below w.heap.size w w' := by
  have t0 : (E != 0) = true := by simpa using h0
  have hw : fnz [ladErr l1, ladErr l2, if (5 : Int) < (m1 : Int) + (m2 : Int) then 5 else 0] = E := by
    rw [← hE]; by_cases h : 5 < m1 + m2
    · rw [if_pos h, if_pos (by omega)]
    · rw [if_neg h, if_neg (by omega)]
  have HW := hide hw
  clear hE h0 hw
  go_enter Tryz.func67, Tryz.ntmps67
  go_wp2_with fail
  refine (checkLadder_any A1 m1 c1 l1 _ h1 (by omega)).mono ?_
  rintro e w1 ⟨rfl, hb1⟩
  go_wp2_with fail
  refine (checkLadder_any A2 m2 c2 l2 _ (carry h2 hb1) (by omega)).mono ?_
  rintro e w2 ⟨rfl, hb2⟩
  go_upto_region 2 with (first | (go_at_call 84; refine (when_any _ _ _).mono ?_; rintro e W' ⟨rfl, rfl⟩) | (go_at_call 82; (first | (with_reducible (refine (first_any _ _ _ _ _ _ (reads3 _ _ _ _ _) (by omega)).mono ?_)) | (with_reducible (refine (first_any _ _ _ _ _ _ (Reads.drew (reads3 _ _ _ _ _)) (by omega)).mono ?_))); rintro e W' ⟨rfl, rfl⟩))
  obtain ⟨o, ho⟩ : ∃ o : Int, (if (5 : Int) < (m1 : Int) + (m2 : Int) then 5 else 0) = o := ⟨_, rfl⟩
  rw [ho] at HW ⊢
  clear ho
  rw [HW.out]
  obtain ⟨w3, e3, hb3, hz3, _⟩ := box1 w2 #[.int .i64 (ladErr l1), .int .i64 (ladErr l2), .int .i64 o] 29
  rw [← e3]; clear e3
  go_wp2_with fail
  go_ret2
  exact ⟨rfl, (by repeat (first | with_reducible assumption | exact Below.refl _ _ | refine below_next (by with_reducible assumption) ?_))⟩
def kindsL : List ByteArray := [kBlock, kSeries, kShunt, kTrap]
def othersL : List ByteArray := [kTrap, kShunt, kSeries, kBlock]
theorem kinds_at {x : El} (h : x.known = true) : ∃ r, r < 4 ∧ kindsL[r]? = some x.kind ∧ othersL[r]? = some (dualKind x.kind) ∧ ∀ j s, kindsL[j]? = some s → (x.kind = s ↔ j = r) := by
  have hd : ∀ (i j : Nat) (s u : ByteArray), kindsL[i]? = some s → kindsL[j]? = some u → (s = u ↔ i = j) := by
    intro i j s u hi hj
    have hi4 : i < 4 := by rcases Nat.lt_or_ge i 4 with h | h; exact h; rw [List.getElem?_eq_none (by simpa [kindsL] using h)] at hi; cases hi
    have hj4 : j < 4 := by rcases Nat.lt_or_ge j 4 with h | h; exact h; rw [List.getElem?_eq_none (by simpa [kindsL] using h)] at hj; cases hj
    have ci : i = 0 ∨ i = 1 ∨ i = 2 ∨ i = 3 := by omega
    have cj : j = 0 ∨ j = 1 ∨ j = 2 ∨ j = 3 := by omega
    rcases ci with rfl | rfl | rfl | rfl <;> rcases cj with rfl | rfl | rfl | rfl <;> simp only [kindsL, List.getElem?_cons_zero, List.getElem?_cons_succ, Option.some.injEq] at hi hj <;> subst hi <;> subst hj <;> decide
  have go : ∀ (r : Nat) (s : ByteArray), kindsL[r]? = some s → x.kind = s → ∀ (j : Nat) (u : ByteArray), kindsL[j]? = some u → (x.kind = u ↔ j = r) := fun r s hr e j u hj => by rw [e, hd r j s u hr hj]; exact ⟨fun e => e.symm, fun e => e.symm⟩
  rcases El.kinds h with e | e | e | e
  · exact ⟨0, by decide, by rw [e]; rfl, by rw [e]; rfl, go 0 kBlock rfl e⟩
  · exact ⟨1, by decide, by rw [e]; rfl, by rw [e]; rfl, go 1 kSeries rfl e⟩
  · exact ⟨2, by decide, by rw [e]; rfl, by rw [e]; rfl, go 2 kShunt rfl e⟩
  · exact ⟨3, by decide, by rw [e]; rfl, by rw [e]; rfl, go 3 kTrap rfl e⟩
theorem strs_put {w : World} {g : Nat} {t : TypeId} {l : List ByteArray} {n : Nat} (h : Blk w g t (strs l).toArray) (hn : n = l.length) : Reads w w.heap.size 1 (some ⟨g, 0, none⟩) n (strs l) := by
  refine ⟨by simp [strs, hn], fun _ => ⟨_, rfl, h.lt, fun j u hu => ?_⟩⟩
  have : (⟨g, 0, none⟩ : Addr).add j = ⟨g, j, none⟩ := by unfold Addr.add; split <;> simp_all
  rw [this, h.cell]
  simpa using hu
theorem row_drew {w : World} {B n size : Nat} {e : TypeId} {v : Value} {xs : List Value} (h : w.ownsRow B e size v n xs) : w.drew.ownsRow B e size v n xs := h
theorem step_el {P : Program} {ops : Array Oper} {o : Oper} {a : Act} {w : World} {K : Act → World → Prop} {Q : Exit → Act → World → Prop} {E : Prop} (hP : P = Tryz.prog) (hgd : o.guard = none) (s x : Operand) (t : TypeId)
    (ho : o.op = .call { callee := .builtin .append, args := #[s, x], argTypes := #[t, t] }) (ht : P.underlying t = some (.slice 103))
    (B : Nat) (v : Value) (n : Nat) (xs : List El) (hs : a.eval s = v) (hown : w.ownsRow B 103 3 v n (els xs))
    (g : Nat) (y : El) (hx : a.eval x = .slice (some ⟨g, 0, none⟩) 1 1) (hk : Blk w g 103 #[.string y.kind, .int .i64 y.a, .int .i64 y.b]) (h63 : n ≤ 1000) (hB : B ≤ w.heap.size)
    (h : ∀ v' w', w'.ownsRow B 103 3 v' (n + 1) (els (xs ++ [y])) → Below B w w' → K (a.put o.dst v') w') :
    if Region.wanted o (yielded ops a.tmps) = true then Oper.wp P o a w K Q else E := by
  subst hP
  obtain ⟨i, hi, hz, hsize, hby⟩ := info_parts info_elR
  have hr : Reads w w.heap.size 3 (some ⟨g, 0, none⟩) 1 (elCells y) := by
    refine ⟨rfl, fun _ => ⟨_, rfl, hk.lt, fun j u hu => ?_⟩⟩
    have : (⟨g, 0, none⟩ : Addr).add j = ⟨g, j, none⟩ := by unfold Addr.add; split <;> simp_all
    rw [this, hk.cell]
    simpa [elCells] using hu
  refine step_append_any w hgd s x t ho B 103 i _ 3 32 ht hi hz hsize hby rfl (by decide) v n (els xs) hs hown w.heap.size (some ⟨g, 0, none⟩) 1 1 (elCells y) hx hr (one_el _) (by unfold maxLen; omega) (by omega) hB ?_
  intro v' w' ho' hg _
  exact h v' w' (by rw [els_snoc]; exact ho') ((Below.refl B w).grown hg hB fun k hk => (hown.lt k hk).1)
set_option maxHeartbeats 4000000 in
theorem rDual_ok (A : Option Addr) (n c : Nat) (l : List El) (w : World) (h : Reads w w.heap.size 3 A n (els l)) (hl : LadOk l) :
    Calls Tryz.prog 69 #[.slice A n c] w fun r w' => ∃ A' c', r = .returned (.slice A' n c') ∧ Reads w' w'.heap.size 3 A' n (els (l.map El.dual)) ∧ Below w.heap.size w w' := by
  have HL := hide (els_reads_len h)
  have HOK := hide hl
  have hn5 : n ≤ 5 := by rw [← HL.out]; exact hl.len
  clear hl
  go_enter Tryz.func69, Tryz.ntmps69
  go_wp2_with fail
  refine (rKinds_any w).mono ?_
  rintro e w1 ⟨g1, rfl, hK, hb1⟩
  obtain ⟨A3, hA3⟩ : ∃ A : Option Addr, A = some ⟨g1, 0, none⟩ := ⟨_, rfl⟩
  rw [← hA3] at hK ⊢
  clear hA3
  go_upto_region 3 with (fail)
  obtain ⟨w2, e2, hb2, hz2, kO⟩ := box1 w1 (strs othersL).toArray 9
  rw [show w1.alloc (.cells #[.string { data := #[116, 114, 97, 112] }, .string { data := #[115, 104, 117, 110, 116] }, .string { data := #[115, 101, 114, 105, 101, 115] }, .string { data := #[98, 108, 111, 99, 107] }] 9) = w2 from e2.symm]
  clear e2
  have hO := strs_put (n := 4) kO rfl
  obtain ⟨A4, hA4⟩ : ∃ A : Option Addr, A = some ⟨w1.heap.size, 0, none⟩ := ⟨_, rfl⟩
  rw [← hA4] at hO ⊢
  clear hA4 kO
  have hK2 := carry hK hb2
  have h2 := carry h (below_next hb1 hb2)
  have hbw := below_next hb1 hb2
  clear hb1 hb2 hK
  go_wp2_with fail
  go_loopw [5, 6] (fun v i wr => ∃ k : Nat, k ≤ n ∧ i = .int .i64 k ∧ wr.ownsRow w2.heap.size 103 3 v k (els ((l.take k).map El.dual)) ∧ Below w2.heap.size w2 wr) (fun _ i _ => n - (intOf i).toNat)
  case atStart => exact ⟨0, by omega, rfl, by simp [els, World.ownsRow_nil], Below.refl _ _⟩
  case round =>
    rename World => wo
    obtain ⟨k, hk, rfl, ho, hb⟩ := hrel
    by_cases hlt : k < n
    · obtain ⟨ad, el, rfl, _, hx, hc⟩ := els_hit h2 hlt (Nat.le_refl _)
      have hxo := HOK.out.all el (List.mem_of_getElem? hx)
      obtain ⟨r, hr4, hr1, hr2, hr3⟩ := kinds_at hxo.kn
      have HX := hide hx
      have HC := hide hc
      have HR2 := hide hr2
      have HR3 := hide hr3
      clear hx hc hxo hr2 hr3
      have HK1 : Hid (kindsL[r]? = some el.kind) := hr1
      clear hr1
      go_wp2_with fail
      go_loopw [5, 7] (fun v j wr => ∃ m : Nat, m ≤ 4 ∧ j = .int .i64 m ∧ wr.ownsRow w2.heap.size 103 3 v (if r < m then k + 1 else k) (els ((l.take k).map El.dual ++ (if r < m then [el.dual] else []))) ∧ Below w2.heap.size w2 wr) (fun _ j _ => 4 - (intOf j).toNat)
      case atStart => exact ⟨0, by omega, rfl, by simpa using ho, hb⟩
      case round =>
        rename World => wi
        obtain ⟨m, hm, rfl, hoi, hbi⟩ := hrel
        clear ho hb
        by_cases hm4 : m < 4
        · obtain ⟨a3, u, rfl, hb3, hu, hcu⟩ := (carry hK2 hbi).at_ hm4
          obtain ⟨s, hs, rfl⟩ := strs_at hu
          have hbk := toList_beq el.kind s
          have hiff := HR3.out m s hs
          have hbO := fun z => below_next hbi (over_below wi.heap.size wi z)
          have q0 : ∀ z, (over wi.heap.size wi z).cell? (ad.add (k * 3)) = some (.string el.kind) := fun z => (HC.out _ (hbO z)).1
          have q3 : ∀ z, (over wi.heap.size wi z).cell? (a3.add m) = some (.string s) := fun z => ((over_below wi.heap.size wi z).cell (p := a3.add m) (by rw [block_of_add]; exact hb3)).trans hcu
          by_cases hmr : m = r
          · have t0 : (el.kind.toList == s.toList) = true := by rw [hbk]; exact decide_eq_true (hiff.2 hmr)
            have HMR := hide hmr
            rw [if_neg (by omega), if_neg (by omega), List.append_nil] at hoi
            obtain ⟨a4, u4, rfl, hb4, hu4, hcu4⟩ := hO.at_ hm4
            obtain ⟨s4, hs4, rfl⟩ := strs_at hu4
            have hs4' : s4 = dualKind el.kind := by rw [hmr, HR2.out] at hs4; exact (Option.some.inj hs4).symm
            subst hs4'
            clear hu hs hcu hbk hiff hmr hu4 hs4
            go_upto_region 10 with (fail)
            refine wp_region_over wi.heap.size (by kernel_rfl) (by kernel_rfl) ?_; (repeat (first | go_big_quiet_step (fail) | quiet_step (fail))); refine wpQuiet_nil ?_; rintro W ⟨x, rfl⟩
            have hbT := hbO x
            have hoY := row_below hoi (over_below wi.heap.size wi x)
            generalize over wi.heap.size wi x = Y at hbT hoY ⊢
            clear q0 q3 hbO hoi hbi
            go_upto_region 11 with (fail)
            have q0 := fun W (hW : Below w2.heap.size w2 W) => (HC.out W hW).1
            have q1 := fun W (hW : Below w2.heap.size w2 W) => (HC.out W hW).2.1
            have q2 := fun W (hW : Below w2.heap.size w2 W) => (HC.out W hW).2.2
            have q4 := fun W (hW : Below w2.heap.size w2 W) => (hW.cell (p := a4.add m) (by rw [block_of_add]; exact hb4)).trans hcu4
            go_region_held3 (fun W => Below w2.heap.size w2 W) (first | exact hbT.drew | (with_reducible assumption) | exact below_new ‹Below w2.heap.size w2 _› (Nat.le_refl _) _) ((refine step_el rfl (by rfl) (.tmp 30) (.tmp 46) _ (by rfl) Tryz.underlying42 w2.heap.size u5 k ((l.take k).map El.dual) (by rfl) (by repeat (first | (with_reducible exact hoY) | (with_reducible refine row_drew ?_) | (with_reducible refine World.ownsRow.alloc ?_ _))) Y.heap.size ⟨dualKind el.kind, el.a, el.b⟩ (by rfl) (by repeat (first | (with_reducible refine Blk.drew ?_) | (with_reducible exact Blk.newAt (by first | rfl | simp)) | (with_reducible refine Blk.alloc ?_ _))) (by omega) (Below.size ‹Below w2.heap.size w2 _›) ?_; intro vN wN hoN hbN; have hS := Below.trans ‹Below w2.heap.size w2 _› hbN))
            all_goals
              have hbN2 : Below w2.heap.size w2 wN := by with_reducible assumption
              clear q0 q1 q2 q4
              (try go_wp2_with fail)
              go_roundw
              case rel => exact ⟨m + 1, by omega, by go_num, by have := HMR.out; rw [if_pos (by omega), if_pos (by omega)]; exact hoN, hbN2⟩
              case measure => simp [intOf]; omega
          · have t0 : (el.kind.toList == s.toList) = false := by rw [hbk]; exact decide_eq_false fun e => hmr (hiff.1 e)
            have hie : (r < m + 1) ↔ (r < m) := by omega
            have HIE := hide hie
            clear hu hs hcu hbk hiff hmr hie
            go_upto_region 10 with (fail)
            refine wp_region_over wi.heap.size (by kernel_rfl) (by kernel_rfl) ?_; (repeat (first | go_big_quiet_step (fail) | quiet_step (fail))); refine wpQuiet_nil ?_; rintro W ⟨x, rfl⟩
            have hbY := hbO x
            have hoY := row_below hoi (over_below wi.heap.size wi x)
            generalize over wi.heap.size wi x = Y at hbY hoY ⊢
            clear q0 q3 hbO
            go_wp2_with fail
            go_roundw
            case rel => exact ⟨m + 1, by omega, by go_num, by simp only [HIE.out]; exact hoY, hbY⟩
            case measure => simp [intOf]; omega
        · have hmr : r < m := by omega
          rw [if_pos hmr, if_pos hmr] at hoi
          have h4 : ¬ (m : Int) < 4 := by omega
          have HM := hide hmr
          clear hmr
          go_wp2_with fail
          go_roundw
          case rel => exact ⟨k + 1, by omega, by go_num, by rw [List.take_add_one, HX.out, List.map_append]; exact hoi, hbi⟩
          case measure => simp [intOf]; omega
    · obtain rfl : k = n := by omega
      rw [List.take_of_length_le (by rw [HL.out]; omega)] at ho
      go_wp2_with fail
      go_ret
      obtain ⟨A', c', rfl, hR⟩ := own_slice ho
      exact ⟨_, _, rfl, hR, below_next hbw hb⟩
end Go.Proofs.YtnndaipnfniciaaGreatDoor
