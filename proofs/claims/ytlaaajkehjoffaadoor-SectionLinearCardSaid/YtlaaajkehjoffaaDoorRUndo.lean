/- The reference's CheckUndo and Undo. -/
import Derived.Test.YtlaaajkehjoffaaDoorRDelay
import Derived.Test.YtlaaajkehjoffaaDoorUndoB
namespace Go.Proofs.YtlaaajkehjoffaaDoor
open Go.RowKit Go.Shelf
set_option maxRecDepth 100000

set_option maxHeartbeats 1000000 in
theorem rCheckUndo_any (s : Sec) (A : Option Addr) (m c : Nat) (xs : List Int) (w : World) (hm : m ≤ 1000000000000) (hR : Reads w w.heap.size 1 A m (ints xs)) :
    Calls Tryd.prog 43 #[.agg #[.int .i64 s.b0, .int .i64 s.b1, .int .i64 s.b2, .int .i64 s.a1, .int .i64 s.a2, .int .i64 s.sh], .slice A m c] w fun e w' => e = .returned (.int .i64 (undoErr s xs)) ∧ Below w.heap.size w w' := by
  have hc : (s.err = 0 ∧ s.keepB = true) ∨ (s.err = 0 ∧ s.keepB = false) ∨ (s.err != 0) = true := by
    rcases sec_two' s with h | h
    · cases hk : s.keepB
      · exact .inr (.inl ⟨h, rfl⟩)
      · exact .inl ⟨h, rfl⟩
    · exact .inr (.inr (by rw [h]; rfl))
  go_enter Tryd.func43, Tryd.ntmps43
  go_wp2_with fail
  obtain ⟨w1, e1, hb1, hz1, k0⟩ := box1 w #[.int .i64 s.b0, .int .i64 s.b1, .int .i64 s.b2, .int .i64 s.a1, .int .i64 s.a2, .int .i64 s.sh] 23
  rw [← e1]; clear e1
  refine (rCheckSection_any s _).mono ?_
  rintro e w2 ⟨rfl, hb2⟩
  have hb3 := below_step hb1 hb2 hb1.size
  have k1 := k0.below hb2 k0.lt
  have c1 := k1.cell
  have hr2 := (hR.below hb3).more hb3.size
  clear k0 hb1 hb2 hR
  rcases hc with ⟨h0, hk⟩ | ⟨h0, hk⟩ | h0
  · have hs := Sec.err_ok h0
    have t1 : (s.err != 0) = false := by rw [h0]; rfl
    have ht : undoErr s xs = sigErr xs := by unfold undoErr; rw [h0, hk]; by_cases h : sigErr xs = 0 <;> simp [fnz, h]
    have HT := hide ht; clear ht h0
    have HK := hide hk; clear hk
    go_wp2_with (first | (go_at_call 86; refine (rKeeps_any s _ hs).mono ?_; rintro e w3 ⟨rfl, hb4⟩; have hk2 := HK.out; have hr3 := (hr2.below hb4).more hb4.size) | (go_at_call 22; refine (rCheckSignal_any _ _ _ _ _ _ hr3 hm).mono ?_; rintro e w4 ⟨rfl, rfl⟩))
    go_ret
    exact ⟨by simp [HT.out], below_step hb3 hb4 hb3.size⟩
  · have hs := Sec.err_ok h0
    have t1 : (s.err != 0) = false := by rw [h0]; rfl
    have ht : undoErr s xs = 25 := by unfold undoErr; rw [h0, hk]; simp [fnz]
    have HT := hide ht; clear ht h0
    have HK := hide hk; clear hk
    go_wp2_with (go_at_call 86; refine (rKeeps_any s _ hs).mono ?_; rintro e w3 ⟨rfl, hb4⟩; have hk2 := HK.out)
    go_ret
    exact ⟨by simp [HT.out], below_step hb3 hb4 hb3.size⟩
  · have ht : undoErr s xs = s.err := by unfold undoErr; have : s.err ≠ 0 := by simpa using h0
                                         simp [fnz, this]
    have HT := hide ht; clear ht
    go_wp2
    go_ret
    exact ⟨by simp [HT.out], hb3⟩

set_option maxHeartbeats 4000000 in
theorem rUndo_any (s : Sec) (A : Option Addr) (m c : Nat) (xs : List Int) (w : World) (hs : s.Ok) (hsg : sigErr xs = 0) (hm : m ≤ 1000000000000) (hR : Reads w w.heap.size 1 A m (ints xs)) :
    Calls Tryd.prog 44 #[.agg #[.int .i64 s.b0, .int .i64 s.b1, .int .i64 s.b2, .int .i64 s.a1, .int .i64 s.a2, .int .i64 s.sh], .slice A m c] w (UndoPost s xs m w) := by
  have hx := (sigErr_ok hsg).2
  have HX := hide hx; clear hx
  have hl := reads_len hR
  have HL := hide hl; clear hl hsg
  go_enter Tryd.func44, Tryd.ntmps44
  go_wp2
  obtain ⟨w1, e1, hb1, hz1, k0⟩ := box1 w #[.int .i64 s.b0, .int .i64 s.b1, .int .i64 s.b2, .int .i64 s.a1, .int .i64 s.a2, .int .i64 s.sh] 23
  rw [← e1]; clear e1
  go_loopw [6, 7, 8, 9] (fun v v7 v8 i wr => ∃ k : Nat, k ≤ m ∧ i = .int .i64 k ∧ v7 = .int .i64 (s.un1 0 0 (xs.take k)) ∧ v8 = .int .i64 (s.un2 0 0 (xs.take k)) ∧ Below w.heap.size w wr ∧ w.heap.size + 1 ≤ wr.heap.size ∧ Blk wr w.heap.size 23 #[.int .i64 s.b0, .int .i64 s.b1, .int .i64 s.b2, .int .i64 s.a1, .int .i64 s.a2, .int .i64 s.sh] ∧ wr.ownsRow (w.heap.size + 1) 3 1 v k (ints (s.und 0 0 (xs.take k))) ∧ (s.und 0 0 (xs.take k)).all vB = true) (fun _ _ _ i _ => m - (intOf i).toNat)
  case atStart => exact ⟨0, by omega, rfl, rfl, rfl, hb1, hz1, k0, by simpa [ints, Sec.und] using World.ownsRow_nil w1 _ _ _, by simp [Sec.und]⟩
  case round =>
    obtain ⟨k, hk, rfl, rfl, rfl, hb, hsz, q0, ho, hal⟩ := hrel
    clear k0 hb1 hz1
    by_cases hlt : k < m
    · have hr := hR.below hb
      obtain ⟨ad, xi, rfl, hxk, hc⟩ := reads_hit hr hlt hb.size
      have hxb := HX.out xi (List.mem_of_getElem? hxk)
      have hub := un_bd s 0 0 (xs.take k) (by omega) (by omega) hal
      have HK := hide hxk; clear hxk
      have HA := hide hal; clear hal
      obtain ⟨p1, ep1⟩ : ∃ z, z = s.un1 0 0 (xs.take k) := ⟨_, rfl⟩
      obtain ⟨p2, ep2⟩ : ∃ z, z = s.un2 0 0 (xs.take k) := ⟨_, rfl⟩
      rw [← ep1, ← ep2] at hub ⊢
      have EP1 := hide ep1; clear ep1
      have EP2 := hide ep2; clear ep2
      have c0 := over_blk (B := wr.heap.size) q0 q0.lt
      have cx : ∀ W, (over wr.heap.size wr W).cell? (ad.add k) = some (.int .i64 xi) := fun W => hc _ (over_below wr.heap.size wr W)
      have m1 := @mul_bd s.b1 p1 (by have := hs.b1l; omega) (by have := hs.b1h; omega) (by omega) (by omega)
      have m2 := @mul_bd s.b2 p2 (by have := hs.b2l; omega) (by have := hs.b2h; omega) (by omega) (by omega)
      have hu := unit_bd hs
      have hq := ediv_bd (a := s.b1 * p1 + s.b2 * p2) (b := s.unit) (m := 4294967296) hu.1 (by omega) (by omega) (by omega)
      have A1 : k + 1 ≤ maxLen := by unfold maxLen; omega
      have A2 : (k + 1) * 8 ≤ 140737488355328 := by omega
      clear hr hc hR
      go_wp2
      refine wp_region_over wr.heap.size (by kernel_rfl) (by kernel_rfl) ?_; (repeat (first | go_big_quiet_step (first | (go_at_call 80; exact over_call (Nat.le_refl _) (rUnit_any s _ hs)) | (go_at_call 81; exact over_same (floor_any _ _ _ (by omega) (by omega) (by omega) (by omega)))) | quiet_step (first | (go_at_call 80; exact over_call (Nat.le_refl _) (rUnit_any s _ hs)) | (go_at_call 81; exact over_same (floor_any _ _ _ (by omega) (by omega) (by omega) (by omega)))))); refine wpQuiet_nil ?_; rintro W ⟨x, rfl⟩
      have hbY := over_below wr.heap.size wr x
      generalize over wr.heap.size wr x = Y at hbY ⊢
      have r0 := q0.below hbY q0.lt
      have ro := row_below ho hbY
      have rb := below_step hb hbY hb.size
      have rz := Nat.le_trans hsz hbY.size
      clear c0 cx q0 ho hb hsz hbY
      rcases vErr_two (s.ui p1 p2 xi) with hv | hv
      · have hv' : (vErr (xi - (s.b1 * p1 + s.b2 * p2) / s.unit) != 0) = false := by show (vErr (s.ui p1 p2 xi) != 0) = false; rw [hv]; rfl
        have HV := hide hv; clear hv
        go_wp2_with (first | (go_at_call 49; refine (checkInput_any _ _).mono ?_; rintro e W' ⟨rfl, rfl⟩) | (at_builtin; refine wpList_pushG _ rfl (.tmp 37) (.tmp 39) _ rfl (w.heap.size + 1) 3 (.int .i64 0) 1 8 Tryd.underlying26 info_int rfl (by decide) _ k _ rfl (ro.alloc _) Y.heap.size [.int .i64 (xi - (s.b1 * p1 + s.b2 * p2) / s.unit)] rfl rfl (cell_new1 _ _ _) (one_int _) A1 A2 (le_alloc rz _) ?_; intro v1 w9 ho1 hg1 hb9'; have bb0 := grown_blk (ro.alloc _) hg1 (r0.alloc _) (by decide)))
        go_roundw
        case rel =>
          refine ⟨k + 1, by omega, by go_num, ?_, ?_, ?_, ?_, bb0, ?_, ?_⟩
          · rw [un1_take_succ s 0 0 HK.out, ← EP1.out, ← EP2.out]; rfl
          · rw [un2_take_succ s 0 0 HK.out, ← EP1.out]
          · exact (rb.alloc rb.size _).trans (hb9'.mono (by omega))
          · have := hb9'.size; simp at this; omega
          · rw [und_take_succ s 0 0 HK.out, ints_snoc, ← EP1.out, ← EP2.out]; exact ho1
          · rw [und_take_succ s 0 0 HK.out, List.all_append, HA.out, ← EP1.out, ← EP2.out]
            simp only [List.all_cons, List.all_nil, Bool.and_true, Bool.true_and]
            exact vErr_zero HV.out
        case measure => simp [intOf]; omega
      · have hv' : (vErr (xi - (s.b1 * p1 + s.b2 * p2) / s.unit) != 0) = true := by show (vErr (s.ui p1 p2 xi) != 0) = true; rw [hv]; rfl
        have HV := hide hv; clear hv
        go_wp2_with (go_at_call 49; refine (checkInput_any _ _).mono ?_; rintro e W' ⟨rfl, rfl⟩)
        go_ret2
        refine .inr ⟨undB_false HK.out ?_, rfl, rb⟩
        rw [← EP1.out, ← EP2.out]; exact vErr_three HV.out
    · obtain rfl : k = m := by omega
      rw [List.take_of_length_le (by rw [HL.out]; omega)] at ho hal
      obtain ⟨A', c', rfl, _⟩ := own_slice ho
      go_wp2
      go_ret2
      exact .inl ⟨hal, ⟨_, rfl, ho.weaken (by omega)⟩, hb⟩
end Go.Proofs.YtlaaajkehjoffaaDoor
