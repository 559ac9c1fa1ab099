/- Dual of the program. -/
import Derived.Test.YtnndaipnfniciaaGreatDoorBaseQ
import Derived.Test.YtnndaipnfniciaaGreatDoorBaseO
import Derived.Test.YtnndaipnfniciaaGreatDoorBaseC
namespace Go.Proofs.YtnndaipnfniciaaGreatDoor
open Go.RowKit Go.Shelf
set_option maxRecDepth 100000
theorem kDual_eq {k : ByteArray} (h : kKnown k = true) : kDual k = dualKind k := by
  unfold kKnown at h
  have h := of_decide_eq_true h
  unfold kDual dualKind
  rcases h with h | h | h | h <;> rw [h] <;> decide
/-- What the program's Dual makes of an element. -/
def El.dualK (x : El) : El := ⟨kDual x.kind, x.a, x.b⟩
theorem dualK_eq {x : El} (h : x.known = true) : x.dualK = x.dual := by
  unfold El.dualK El.dual
  rw [kDual_eq h]
set_option maxHeartbeats 2000000 in
theorem dual1_any (x' : El) (w : World) :
    Calls Tryz.prog 127 #[.agg #[.string x'.kind, .int .i64 x'.a, .int .i64 x'.b]] w fun e w' => e = .returned (.agg #[.string x'.dualK.kind, .int .i64 x'.dualK.a, .int .i64 x'.dualK.b]) ∧ Below w.heap.size w w' := by
  go_enter Tryz.func127, Tryz.ntmps127
  go_upto_region 1 with (fail)
  obtain ⟨w1, e1, hb1, hz1, k0, k1⟩ := box2 w #[.string x'.kind, .int .i64 x'.a, .int .i64 x'.b] #[.string { data := #[] }, .int .i64 0, .int .i64 0] 104 104
  rw [← e1]; clear e1
  have i0 : ∀ W : World, (Instr.field 138 (.agg #[.string (kDual x'.kind), .bool (kDiv x'.kind), kFn x'.kind]) 0).run Tryz.prog W = .ok (.string (kDual x'.kind)) W := fun _ => by kernel_rfl
  have hle : w.heap.size + 1 ≤ w1.heap.size := by omega
  refine wp_region_chain [false, true, true, false, false, true, true, true, true, false, false] (w.heap.size + 1) (af := ?af1) hle (by kernel_rfl) (by kernel_rfl) (by kernel_rfl) ?q1n ?q2n
  case q1n =>
    intro W0 hW0
    have k00 := k0.below hW0 (Nat.lt_succ_self _)
    have c0 := over_blk k00 k00.lt
    simp only [selT]
    (repeat (first | go_big_quiet_step (fail) | quiet_step (fail)))
    refine wpQuiet_nil ?_
    rfl
  intro W1 hW1
  simp only [selF]
  have kR1 := carryK k1 hW1
  have hq1 : Below (w.heap.size + 1) w1 W1 := hW1.mono hle
  have hz1 := Nat.le_trans hle hW1.size
  refine chainC_cons ?_
  go_wp2_with fail
  refine (kinds_g _).mono ?_
  rintro e W2 ⟨gK, rfl, hKM, hgK, hb2⟩
  have kR2 := carryK kR1 hb2
  have hq2 := below_step hq1 hb2 hz1
  have hz2 := Nat.le_trans hz1 hb2.size
  go_wp2_with fail
  refine Link.go rfl hq2 (fun W3 hb3 => ?_)
  have hL := (kmap_get (hKM.below hb3) x'.kind).2
  have kR3 := carryK kR2 hb3
  have hq3 := below_step hq2 hb3 hz2
  have hz3 := Nat.le_trans hz2 hb3.size
  refine chainC_cons ?_
  go_wp2_with fail
  refine Link.go rfl hq3 (fun W4 hb4 => ?_)
  have kR4 := carryK kR3 hb4
  have hq4 := below_step hq3 hb4 hz3
  have hz4 := Nat.le_trans hz3 hb4.size
  refine chainC_cons ?_
  go_wp2_with fail
  refine Link.go rfl hq4 (fun W5 hb5 => ?_)
  have kR5 := carryK kR4 hb5
  have hq5 := below_step hq4 hb5 hz4
  have hz5 := Nat.le_trans hz4 hb5.size
  refine chainC_cons ?_
  go_wp2_with fail
  refine Link.go rfl hq5 (fun W6 hb6 => ?_)
  have kR6 := carryK kR5 hb6
  have hq6 := below_step hq5 hb6 hz5
  have c6 := kR6.cell
  have f6 := kR6.frozen
  refine chainC_cons ?_
  clear hL
  go_wp2_with fail
  have h7 := below_set (i := 2) (below_set (i := 1) (below_set (i := 0) hq6 (Nat.le_refl (w.heap.size + 1)) (.string (kDual x'.kind))) (Nat.le_refl (w.heap.size + 1)) (.int .i64 x'.a)) (Nat.le_refl (w.heap.size + 1)) (.int .i64 x'.b)
  have k7 : Blk _ (w.heap.size + 1) 104 #[.string (kDual x'.kind), .int .i64 x'.a, .int .i64 x'.b] := ((kR6.set_ 0 (.string (kDual x'.kind))).set_ 1 (.int .i64 x'.a)).set_ 2 (.int .i64 x'.b)
  refine Link.go rfl h7 (fun W7 hb7 => ?_)
  have kX := carryK k7 hb7
  have hX := below_step (below_step hb1 h7 (Nat.le_succ _)) hb7 (by have := k7.lt; omega)
  clear c6 f6 k7 h7
  refine chainC_nil ?_
  have cX := kX.cell
  go_wp2_with fail
  refine bodyPost_ret (v := .agg #[.string x'.dualK.kind, .int .i64 x'.dualK.a, .int .i64 x'.dualK.b]) (by simp [results, Tryz.results127, go_sem, cX, El.dualK]) rfl ?_
  exact ⟨rfl, hX⟩
set_option maxHeartbeats 1000000 in
theorem mappedDual_any (A : Option Addr) (n c : Nat) (l : List El) (w : World) (h : Reads w w.heap.size 3 A n (els l)) (hn : n ≤ 100000) :
    Calls Tryz.prog 126 #[.slice A n c, .func (.func 127) #[] #[]] w fun r w' => ∃ A' c', r = .returned (.slice A' n c') ∧ Reads w' w'.heap.size 3 A' n (els (l.map El.dualK)) ∧ Below w.heap.size w w' := by
  have HL := hide (els_reads_len h)
  have hcf : ∀ a W, Sem.run Tryz.prog (callFunc 127 #[a]) W = .ok (.enter 127 #[a]) W := fun _ _ => by kernel_rfl
  go_enter Tryz.func126, Tryz.ntmps126
  go_wp2_with fail
  go_loopw [5, 10] (fun v i wr => ∃ k : Nat, k ≤ n ∧ i = .int .i64 k ∧ wr.ownsRow w.heap.size 104 3 v k (els ((l.take k).map El.dualK)) ∧ Below w.heap.size w wr) (fun _ i _ => n - (intOf i).toNat)
  case atStart => exact ⟨0, by omega, rfl, by simp [els, World.ownsRow_nil], Below.refl _ _⟩
  case round =>
    rename World => wo
    obtain ⟨k, hk, rfl, ho, hb⟩ := hrel
    by_cases hlt : k < n
    · obtain ⟨ad, s, rfl, _, hx, hc⟩ := els_hit (carry h hb) hlt (Nat.le_refl _)
      obtain ⟨q0, q1, q2⟩ := hc wo (Below.refl _ _)
      have HX := hide hx
      clear hx hc
      have A1 : k + 1 ≤ maxLen := by unfold maxLen; omega
      have A2 : (k + 1) * 32 ≤ 140737488355328 := by omega
      go_upto_region 5 with (fail)
      obtain ⟨w4, e4, hb4, hz4, k4⟩ := box1 wo #[.string s.kind, .int .i64 s.a, .int .i64 s.b] 104
      rw [← e4]; clear e4 q0 q1 q2
      have c4 := k4.cell
      have ho4 := row_below ho hb4
      have hbw4 := below_next hb hb4
      clear ho
      go_wp2_with fail
      refine (dual1_any s _).mono ?_
      rintro e w5 ⟨rfl, hb5⟩
      have ho5 := row_below ho4 hb5
      have hbw5 := below_next hbw4 hb5
      clear ho4 c4
      have hsz := hbw5.size
      go_wp2_with (at_builtin; refine wpList_push _ rfl (.tmp 14) (.tmp 18) _ rfl w.heap.size 104 _ 3 32 Tryz.underlying47 info_el rfl (by decide) _ k _ rfl (ho5.alloc _) w5.heap.size (elCells s.dualK) rfl rfl (cells_new _ _ _) (one_el _) A1 A2 (le_alloc hsz _) ?_; intro v1 w6 ho6 hb6)
      rw [← els_snoc] at ho6
      have hbw6 := (hbw5.alloc hsz _).trans hb6
      clear ho5
      have he : (l.take k).map El.dualK ++ [s.dualK] = (l.take (k + 1)).map El.dualK := by rw [List.take_add_one, HX.out]; simp
      rw [he] at ho6
      clear he
      go_roundw
      case rel => exact ⟨k + 1, by omega, by go_num, ho6, hbw6⟩
      case measure => simp [intOf]; omega
    · obtain rfl : k = n := by omega
      go_wp2_with fail
      go_ret
      rw [List.take_of_length_le (by rw [HL.out]; omega)] at ho
      obtain ⟨A', c', rfl, hr⟩ := own_slice ho
      exact ⟨A', c', rfl, hr, hb⟩
set_option maxHeartbeats 1000000 in
theorem Dual_ok (A : Option Addr) (n c : Nat) (l : List El) (w : World) (h : Reads w w.heap.size 3 A n (els l)) (h0 : ladErr l = 0) :
    Calls Tryz.prog 59 #[.slice A n c] w fun e w' => ∃ A' c', e = .returned (.tuple #[.slice A' n c', .int .i64 0]) ∧ Reads w' w'.heap.size 3 A' n (els (l.map El.dual)) ∧ Below w.heap.size w w' := by
  have hok := lad_ok h0
  have hn5 : n ≤ 5 := by rw [← els_reads_len h]; exact hok.len
  have hm : l.map El.dualK = l.map El.dual := List.map_congr_left fun x hx => dualK_eq (hok.all x hx).kn
  have H0 := hide h0
  have HM := hide hm
  clear h0 hm hok
  go_enter Tryz.func59, Tryz.ntmps59
  go_wp2_with fail
  refine (checkLadder_any A n c l _ h (by omega)).mono ?_
  rintro e w1 ⟨rfl, hb1⟩
  rw [H0.out]
  go_wp2_with fail
  refine (mappedDual_any A n c l _ (carry h hb1) (by omega)).mono ?_
  rintro e w2 ⟨A', c', rfl, hr, hb2⟩
  rw [HM.out] at hr
  go_wp2_with fail
  go_ret2
  exact ⟨A', c', rfl, hr, below_next hb1 hb2⟩
theorem Dual_bad (A : Option Addr) (n c : Nat) (l : List El) (w : World) (h : Reads w w.heap.size 3 A n (els l)) (h0 : ¬ ladErr l = 0) (hn : n ≤ 1000000) :
    Calls Tryz.prog 59 #[.slice A n c] w fun e w' => e = .returned (.tuple #[.slice none 0 0, .int .i64 (ladErr l)]) ∧ Below w.heap.size w w' := by
  have t0 : (ladErr l != 0) = true := by simpa using h0
  clear h0
  go_enter Tryz.func59, Tryz.ntmps59
  go_wp2_with fail
  refine (checkLadder_any A n c l _ h (by omega)).mono ?_
  rintro e w1 ⟨rfl, hb1⟩
  go_wp2_with fail
  go_ret2
  exact ⟨rfl, hb1⟩
end Go.Proofs.YtnndaipnfniciaaGreatDoor
