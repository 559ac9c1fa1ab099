/- The contract of Undo: its loop. -/
import Derived.Test.YtpcmflfinlkeiaaGreatDoorUndo
import Derived.Test.YtpcmflfinlkeiaaGreatDoorBaseC
namespace Go.Proofs.YtpcmflfinlkeiaaGreatDoor
open Go.RowKit Go.Shelf
set_option maxRecDepth 100000

theorem un_bd (s : Sec) (a b : Int) (ys : List Int) (ha : -32767 ≤ a ∧ a ≤ 32767) (hb : -32767 ≤ b ∧ b ≤ 32767) (h : (s.und a b ys).all vB = true) : (-32767 ≤ s.un1 a b ys ∧ s.un1 a b ys ≤ 32767) ∧ (-32767 ≤ s.un2 a b ys ∧ s.un2 a b ys ≤ 32767) := by
  induction ys generalizing a b with
  | nil => exact ⟨ha, hb⟩
  | cons z l ih =>
    simp only [Sec.und, List.all_cons, Bool.and_eq_true] at h
    exact ih _ _ (inB_iff.1 h.1) ha h.2

/-- What Undo does behind its checks. -/
def UndoPost (s : Sec) (xs : List Int) (m : Nat) (w : World) (e : Ending) (w' : World) : Prop :=
  (s.undB xs = true ∧ (∃ v, e = .returned (.tuple #[v, .int .i64 0]) ∧ w'.ownsRow w.heap.size 3 1 v m (ints (s.und 0 0 xs))) ∧ Below w.heap.size w w') ∨
    (s.undB xs = false ∧ e = .returned (.tuple #[.slice none 0 0, .int .i64 3]) ∧ Below w.heap.size w w')

set_option maxHeartbeats 4000000 in
theorem Undo_ok (s : Sec) (A : Option Addr) (m c : Nat) (xs : List Int) (w : World) (hs0 : s.err = 0) (hkb : s.keepB = true) (hsg : sigErr xs = 0) (hm : m ≤ 1000000000000) (hR : Reads w w.heap.size 1 A m (ints xs)) :
    Calls Tryz.prog 24 #[.agg #[.int .i64 s.b0, .int .i64 s.b1, .int .i64 s.b2, .int .i64 s.a1, .int .i64 s.a2, .int .i64 s.sh], .slice A m c] w (UndoPost s xs m w) := by
  have hs := Sec.err_ok hs0
  have hx := (sigErr_ok hsg).2
  have HX := hide hx; clear hx
  have hl := reads_len hR
  have HL := hide hl; clear hl
  have ht : (s.err != 0) = false := by rw [hs0]; rfl
  have hne := neqK s _ hkb
  have ht2 : (fnz [0, sigErr xs] != 0) = false := by rw [hsg]; rfl
  simp only [Bool.not_true] at hne
  clear hs0 hkb hsg
  go_enter Tryz.func24, Tryz.ntmps24
  go_wp2_with fail
  obtain ⟨w1, e1, hb1, hz1, k0⟩ := box1 w #[.int .i64 s.b0, .int .i64 s.b1, .int .i64 s.b2, .int .i64 s.a1, .int .i64 s.a2, .int .i64 s.sh] 53
  rw [← e1]; clear e1
  refine (checkSection_any s _).mono ?_
  rintro e w2 ⟨rfl, hb2⟩
  have hb3 := below_step hb1 hb2 hb1.size
  have k0' := k0.below hb2 (by omega)
  have c0 := k0'.cell
  have l0 := k0'.lt
  clear k0 hb1
  go_wp2_with fail
  obtain ⟨w3, e3, hb4, hz4, k3⟩ := box1 w2 #[.int .i64 s.b0, .int .i64 s.b1, .int .i64 s.b2, .int .i64 s.a1, .int .i64 s.a2, .int .i64 s.sh] 53
  rw [← e3]; clear e3
  refine (unit_any s _ hs).mono ?_
  rintro e w4 ⟨rfl, hb5⟩
  have hb6 := below_step (below_step hb3 hb4 hb3.size) hb5 (Nat.le_trans hb3.size hb4.size)
  have k0w := (k0'.below hb4 k0'.lt).below hb5 (by omega)
  have k3w := k3.below hb5 (by omega)
  have c3 := k3w.cell
  have f3 := k3w.frozen
  clear c0 k0' k3
  go_wp2_with fail
  refine fin034 k3w (fun w5 hb7 k5 => ?_)
  clear c3 f3
  have hb8 : Below w.heap.size w w5 := below_step hb6 hb7 hb3.size
  have k0x := k0w.below hb7 l0
  have c0 : ∀ i W, Below w5.heap.size w5 W → W.cell? ⟨w.heap.size, i, none⟩ = (#[.int .i64 s.b0, .int .i64 s.b1, .int .i64 s.b2, .int .i64 s.a1, .int .i64 s.a2, .int .i64 s.sh] : Array Value)[i]? := fun i W h => (k0x.below h k0x.lt).cell i
  have c1 : ∀ i W, Below w5.heap.size w5 W → W.cell? ⟨w2.heap.size, i, none⟩ = (#[.int .i64 s.unit, .int .i64 s.b1, .int .i64 s.b2, .int .i64 0, .int .i64 0, .int .i64 s.sh] : Array Value)[i]? := fun i W h => (k5.below h k5.lt).cell i
  have r0 : ∀ W, Below w5.heap.size w5 W → Reads W W.heap.size 1 A m (ints xs) := fun W h => ((hR.below hb8).below (h.mono hb8.size)).more (Nat.le_trans hb8.size h.size)
  have R0 := hide r0; clear r0
  go_region_held3 (fun W => Below w5.heap.size w5 W) (first | exact (Below.refl _ _).drew | (with_reducible assumption) | exact below_new ‹Below w5.heap.size w5 _› (Nat.le_refl _) _ | (refine below_set (below_set (below_set (below_set (by assumption) (by omega) _) (by omega) _) (by omega) _) (by omega) _)) (first | (go_at_call 37; refine (numbers6 _ _ _ _ _ _ _).mono ?_; rintro e W' ⟨rfl, hbW⟩; have hS := below_step ‹Below w5.heap.size w5 _› hbW (Below.size ‹Below w5.heap.size w5 _›)) | (go_at_call 39; refine (when_any _ _ _).mono ?_; rintro e W' ⟨rfl, rfl⟩) | (go_at_call 59; refine (checkSignal_any _ _ _ _ _ (R0.out _ ‹Below w5.heap.size w5 _›) hm).mono ?_; rintro e W' ⟨rfl, hbW⟩; have hS := below_step ‹Below w5.heap.size w5 _› hbW (Below.size ‹Below w5.heap.size w5 _›)) | (go_at_call 38; (first | (with_reducible (refine (first_any _ _ _ _ _ _ (reads2 _ _ _ _) (by omega)).mono ?_)) | (with_reducible (refine (first_any _ _ _ _ _ _ (Reads.drew (reads2 _ _ _ _)) (by omega)).mono ?_))); rintro e W' ⟨rfl, rfl⟩))
  have hB : Below w5.heap.size w5 _ := ‹Below w5.heap.size w5 _›
  generalize World.alloc _ _ = w6 at hB ⊢
  have hb9 : Below w.heap.size w w6 := below_step hb8 hB hb8.size
  have k0y := k0x.below hB k0x.lt
  have hr6 := hR.below hb9
  have lt6 := k0y.lt
  clear c0 c1 k0x k5 hne R0 k0w k3w
  go_wp2
  obtain ⟨w7, e7, hb10, hz7, k7⟩ := box1 w6 #[.int .i64 0, .int .i64 0, .int .i64 0, .int .i64 0] 61
  rw [← e7]; clear e7
  have hbb := below_step hb9 hb10 hb9.size
  have g1 := hs.shl
  have g2 := hs.shh
  go_loopw [9, 41] (fun v i wr => ∃ (k : Nat) (y1 y2 : Int), k ≤ m ∧ i = .int .i64 k ∧ Below w.heap.size w wr ∧ w6.heap.size + 1 ≤ wr.heap.size ∧ Blk wr w.heap.size 53 #[.int .i64 s.b0, .int .i64 s.b1, .int .i64 s.b2, .int .i64 s.a1, .int .i64 s.a2, .int .i64 s.sh] ∧ Blk wr w6.heap.size 61 #[.int .i64 (s.un1 0 0 (xs.take k)), .int .i64 (s.un2 0 0 (xs.take k)), .int .i64 y1, .int .i64 y2] ∧ wr.ownsRow (w6.heap.size + 1) 3 1 v k (ints (s.und 0 0 (xs.take k))) ∧ (s.und 0 0 (xs.take k)).all vB = true) (fun _ i _ => m - (intOf i).toNat)
  case atStart => exact ⟨0, 0, 0, by omega, rfl, hbb, hz7, k0y.below hb10 k0y.lt, k7, by simpa [ints, Sec.und] using World.ownsRow_nil w7 _ _ _, by simp [Sec.und]⟩
  case round =>
    obtain ⟨k, y1, y2, hk, rfl, hb, hsz, q0, q1, ho, hal⟩ := hrel
    clear k0y k7 hb10 hr6
    by_cases hlt : k < m
    · have hr := hR.below hb
      obtain ⟨ad, xi, rfl, hxk, hc⟩ := reads_hit hr hlt hb.size
      have hxb := HX.out xi (List.mem_of_getElem? hxk)
      have hc0 := hc wr (Below.refl _ _)
      have hub := un_bd s 0 0 (xs.take k) (by omega) (by omega) hal
      have HK := hide hxk; clear hxk
      have HA := hide hal; clear hal
      obtain ⟨p1, ep1⟩ : ∃ z, z = s.un1 0 0 (xs.take k) := ⟨_, rfl⟩
      obtain ⟨p2, ep2⟩ : ∃ z, z = s.un2 0 0 (xs.take k) := ⟨_, rfl⟩
      rw [← ep1, ← ep2] at q1 hub
      have EP1 := hide ep1; clear ep1
      have EP2 := hide ep2; clear ep2
      have c0 := q0.cell
      have c1 := q1.cell
      have f1 := q1.frozen
      have m1 := @mul_bd s.b1 p1 (by have := hs.b1l; omega) (by have := hs.b1h; omega) (by omega) (by omega)
      have m2 := @mul_bd s.b2 p2 (by have := hs.b2l; omega) (by have := hs.b2h; omega) (by omega) (by omega)
      have hu := unit_bd hs
      have hq := ediv_bd (a := s.b1 * p1 + s.b2 * p2) (b := s.unit) (m := 4294967296) hu.1 (by omega) (by omega) (by omega)
      have hq' : -4294967296 ≤ (s.b1 * p1 + s.b2 * p2) / 2 ^ s.sh.toNat ∧ (s.b1 * p1 + s.b2 * p2) / 2 ^ s.sh.toNat ≤ 4294967296 := hq
      have A1 : k + 1 ≤ maxLen := by unfold maxLen; omega
      have A2 : (k + 1) * 8 ≤ 140737488355328 := by omega
      clear hr hc hq hR
      rcases vErr_two (s.ui p1 p2 xi) with hv | hv
      · have hv' : (vErr (xi - (s.b1 * p1 + s.b2 * p2) / 2 ^ s.sh.toNat) != 0) = false := by show (vErr (s.ui p1 p2 xi) != 0) = false; rw [hv]; rfl
        have HV := hide hv; clear hv
        go_upto_region 19 with (go_at_call 64; refine (checkValue_any _ _).mono ?_; rintro e W' ⟨rfl, rfl⟩)
        obtain ⟨w8, e8, k8, z8, o8, b8, _, _, rr8⟩ := set4 wr w6.heap.size 61 _ _ _ _ (.int .i64 (xi - (s.b1 * p1 + s.b2 * p2) / 2 ^ s.sh.toNat)) (.int .i64 p1) (.int .i64 xi) (.int .i64 y1) q1
        rw [← e8]; clear e8
        have n0 : w.heap.size ≠ w6.heap.size := by omega
        have ro := rr8 _ _ _ _ _ _ (by decide) ho
        have b0 := o8 _ _ _ n0 q0
        have hbw := hb.trans (b8 w.heap.size hb9.size)
        have hsz8 : w6.heap.size + 1 ≤ w8.heap.size := by omega
        clear z8 o8 b8 rr8 ho q0 q1 c0 c1 f1
        go_wp2_with (at_builtin; refine wpList_pushG _ rfl (.tmp 73) (.tmp 75) _ rfl (w6.heap.size + 1) 3 (.int .i64 0) 1 8 Tryz.underlying23 info_int rfl (by decide) _ k _ rfl (ro.alloc _) w8.heap.size [.int .i64 (xi - (s.b1 * p1 + s.b2 * p2) / 2 ^ s.sh.toNat)] rfl rfl (cell_new1 _ _ _) (one_int _) A1 A2 (le_alloc hsz8 _) ?_; intro v1 w9 ho1 hg1 hb9'; have bb0 := grown_blk (ro.alloc _) hg1 (b0.alloc _) (by decide); have bb1 := grown_blk (ro.alloc _) hg1 (k8.alloc _) (by decide))
        go_roundw
        case rel =>
          refine ⟨k + 1, xi, y1, by omega, by go_num, ?_, ?_, bb0, ?_, ?_, ?_⟩
          · exact (hbw.alloc hbw.size _).trans (hb9'.mono (by have := hb9.size; omega))
          · have := hb9'.size; simp at this; omega
          · rw [un1_take_succ s 0 0 HK.out, un2_take_succ s 0 0 HK.out, ← EP1.out, ← EP2.out]; exact bb1
          · rw [und_take_succ s 0 0 HK.out, ints_snoc, ← EP1.out, ← EP2.out]; exact ho1
          · rw [und_take_succ s 0 0 HK.out, List.all_append, HA.out, ← EP1.out, ← EP2.out]
            simp only [List.all_cons, List.all_nil, Bool.and_true, Bool.true_and]
            exact vErr_zero HV.out
        case measure => simp [intOf]; omega
      · have hv' : (vErr (xi - (s.b1 * p1 + s.b2 * p2) / 2 ^ s.sh.toNat) != 0) = true := by show (vErr (s.ui p1 p2 xi) != 0) = true; rw [hv]; rfl
        have HV := hide hv; clear hv
        go_wp2_with (go_at_call 64; refine (checkValue_any _ _).mono ?_; rintro e W' ⟨rfl, rfl⟩)
        go_ret2
        refine .inr ⟨undB_false HK.out ?_, ?_, hb⟩
        · rw [← EP1.out, ← EP2.out]; exact vErr_three HV.out
        · simp; exact HV.out
    · obtain rfl : k = m := by omega
      rw [List.take_of_length_le (by rw [HL.out]; omega)] at ho hal
      obtain ⟨A', c', rfl, _⟩ := own_slice ho
      go_wp2
      go_ret2
      exact .inl ⟨hal, ⟨_, rfl, ho.weaken (by omega)⟩, hb⟩
end Go.Proofs.YtpcmflfinlkeiaaGreatDoor
