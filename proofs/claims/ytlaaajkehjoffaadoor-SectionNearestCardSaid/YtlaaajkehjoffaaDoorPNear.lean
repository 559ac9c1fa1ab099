/- The program's Nearest. -/
import Derived.Test.YtlaaajkehjoffaaDoorRNear
namespace Go.Proofs.YtlaaajkehjoffaaDoor
open Go.RowKit Go.Shelf
set_option maxRecDepth 100000

def nearErr (l : List Sec) (s : Sec) : Int := fnz [secErr l, s.err]
set_option maxHeartbeats 1000000 in
theorem Nearest_bad (A : Option Addr) (n c : Nat) (l : List Sec) (s : Sec) (w : World) (hn : n ≤ 1000000000000) (h : Reads w w.heap.size 6 A n (secs l)) (he : (nearErr l s != 0) = true) :
    Calls Tryd.prog 59 #[.slice A n c, .agg #[.int .i64 s.b0, .int .i64 s.b1, .int .i64 s.b2, .int .i64 s.a1, .int .i64 s.a2, .int .i64 s.sh]] w fun e w' => e = .returned (.tuple #[.int .i64 0, .int .i64 (nearErr l s)]) ∧ Below w.heap.size w w' := by
  have ht : (fnz [secErr l, s.err] != 0) = true := he
  clear he
  go_enter Tryd.func59, Tryd.ntmps59
  go_wp2_with fail
  obtain ⟨w1, e1, hb1, hz1, k0⟩ := box1 w #[.int .i64 s.b0, .int .i64 s.b1, .int .i64 s.b2, .int .i64 s.a1, .int .i64 s.a2, .int .i64 s.sh] 32
  rw [← e1]; clear e1
  have c0 : ∀ i W, Below w1.heap.size w1 W → W.cell? ⟨w.heap.size, i, none⟩ = (#[.int .i64 s.b0, .int .i64 s.b1, .int .i64 s.b2, .int .i64 s.a1, .int .i64 s.a2, .int .i64 s.sh] : Array Value)[i]? := fun i W h => (k0.below h k0.lt).cell i
  have r1 := carry' h hb1
  have R0 := hide (fun W (h : Below w1.heap.size w1 W) => carry' r1 h)
  clear h
  go_region_held3 (fun W => Below w1.heap.size w1 W) (first | exact (Below.refl _ _).drew | (with_reducible assumption) | exact below_new ‹Below w1.heap.size w1 _› (Nat.le_refl _) _ | (refine below_set (below_set (below_set (below_set (by assumption) (by omega) _) (by omega) _) (by omega) _) (by omega) _)) (first | (go_at_call 89; refine (checkSections_any A n c l _ (R0.out _ ‹Below w1.heap.size w1 _›) (by omega)).mono ?_; rintro e W' ⟨rfl, hbW⟩; have hS := below_step ‹Below w1.heap.size w1 _› hbW (Below.size ‹Below w1.heap.size w1 _›)) | (go_at_call 51; refine (checkSection_any s _).mono ?_; rintro e W' ⟨rfl, hbW⟩; have hS := below_step ‹Below w1.heap.size w1 _› hbW (Below.size ‹Below w1.heap.size w1 _›)) | (go_at_call 64; (first | (with_reducible (refine (first_any _ _ _ _ _ _ (reads2 _ _ _ _) (by omega)).mono ?_)) | (with_reducible (refine (first_any _ _ _ _ _ _ (Reads.drew (reads2 _ _ _ _)) (by omega)).mono ?_))); rintro e W' ⟨rfl, rfl⟩))
  have hB : Below w1.heap.size w1 _ := ‹Below w1.heap.size w1 _›
  generalize World.alloc _ _ = w2 at hB ⊢
  have hb := below_step hb1 hB hb1.size
  have k2 := carryK' k0 hB
  have r2 := carry' r1 hB
  clear c0 R0 k0 r1 hB
  try clear hbW hS
  go_wp2
  go_ret2
  exact ⟨rfl, hb⟩
theorem dist_both (a b : Sec) (w : World) (ha : a.Ok) (hb' : b.Ok) (he : Hid (a.sh = b.sh)) : Calls Tryd.prog 90 #[.agg #[.int .i64 a.b0, .int .i64 a.b1, .int .i64 a.b2, .int .i64 a.a1, .int .i64 a.a2, .int .i64 a.sh], .agg #[.int .i64 b.b0, .int .i64 b.b1, .int .i64 b.b2, .int .i64 b.a1, .int .i64 b.a2, .int .i64 b.sh]] w fun e w' => e = .returned (.int .i64 (dist a b)) ∧ Below w.heap.size w w' := distance_any a b w ha hb' he.out
set_option maxHeartbeats 4000000 in
theorem Nearest_ok (A : Option Addr) (n c : Nat) (l : List Sec) (s : Sec) (w : World) (hn : n ≤ 1000000000000) (h : Reads w w.heap.size 6 A n (secs l)) (he : nearErr l s = 0) :
    Calls Tryd.prog 59 #[.slice A n c, .agg #[.int .i64 s.b0, .int .i64 s.b1, .int .i64 s.b2, .int .i64 s.a1, .int .i64 s.a2, .int .i64 s.sh]] w fun e w' => e = .returned (.tuple #[.int .i64 (nearV l s).1, .int .i64 (nearV l s).2]) ∧ Below w.heap.size w w' := by
  have ht : (fnz [secErr l, s.err] != 0) = false := by rw [show fnz [secErr l, s.err] = 0 from he]; rfl
  obtain ⟨h1, h2⟩ := fnz2_zero he
  have hs := Sec.err_ok h2
  have HS := hide (secErr_ok h1).2
  have HL := hide (secs_reads_len h)
  clear h1 h2 he
  go_enter Tryd.func59, Tryd.ntmps59
  go_wp2_with fail
  obtain ⟨w1, e1, hb1, hz1, k0⟩ := box1 w #[.int .i64 s.b0, .int .i64 s.b1, .int .i64 s.b2, .int .i64 s.a1, .int .i64 s.a2, .int .i64 s.sh] 32
  rw [← e1]; clear e1
  have c0 : ∀ i W, Below w1.heap.size w1 W → W.cell? ⟨w.heap.size, i, none⟩ = (#[.int .i64 s.b0, .int .i64 s.b1, .int .i64 s.b2, .int .i64 s.a1, .int .i64 s.a2, .int .i64 s.sh] : Array Value)[i]? := fun i W h => (k0.below h k0.lt).cell i
  have r1 := carry' h hb1
  have R0 := hide (fun W (h : Below w1.heap.size w1 W) => carry' r1 h)
  clear h
  go_region_held3 (fun W => Below w1.heap.size w1 W) (first | exact (Below.refl _ _).drew | (with_reducible assumption) | exact below_new ‹Below w1.heap.size w1 _› (Nat.le_refl _) _ | (refine below_set (below_set (below_set (below_set (by assumption) (by omega) _) (by omega) _) (by omega) _) (by omega) _)) (first | (go_at_call 89; refine (checkSections_any A n c l _ (R0.out _ ‹Below w1.heap.size w1 _›) (by omega)).mono ?_; rintro e W' ⟨rfl, hbW⟩; have hS := below_step ‹Below w1.heap.size w1 _› hbW (Below.size ‹Below w1.heap.size w1 _›)) | (go_at_call 51; refine (checkSection_any s _).mono ?_; rintro e W' ⟨rfl, hbW⟩; have hS := below_step ‹Below w1.heap.size w1 _› hbW (Below.size ‹Below w1.heap.size w1 _›)) | (go_at_call 64; (first | (with_reducible (refine (first_any _ _ _ _ _ _ (reads2 _ _ _ _) (by omega)).mono ?_)) | (with_reducible (refine (first_any _ _ _ _ _ _ (Reads.drew (reads2 _ _ _ _)) (by omega)).mono ?_))); rintro e W' ⟨rfl, rfl⟩))
  have hB : Below w1.heap.size w1 _ := ‹Below w1.heap.size w1 _›
  generalize World.alloc _ _ = w2 at hB ⊢
  have hb := below_step hb1 hB hb1.size
  have k2 := carryK' k0 hB
  have r2 := carry' r1 hB
  clear c0 R0 k0 r1 hB
  try clear hbW hS
  go_wp2_with fail
  go_loopw [7, 21] (fun v i wr => ∃ (k : Nat) (b : Int), k ≤ n ∧ i = .int .i64 k ∧ v = .int .i64 b ∧ Hid (b = nbest l s k) ∧ Below w2.heap.size w2 wr) (fun _ i _ => n - (intOf i).toNat)
  case atStart => exact ⟨0, -1, by omega, rfl, rfl, rfl, Below.refl _ _⟩
  case round =>
    obtain ⟨k, b, hk, rfl, rfl, HB, hbw⟩ := hrel
    have hbl : -1 ≤ b ∧ b < k := by rw [HB.out]; exact nbest_lo k
    by_cases hlt : k < n
    · have kw := carryK' k2 hbw
      obtain ⟨ad, x, rfl, q1, hx, hc⟩ := secs_hit (carry' r2 hbw) hlt (Nat.le_refl _)
      obtain ⟨d0, d1, d2, d3, d4, d5⟩ := hc wr (Below.refl _ _)
      have hxo := HS.out x (List.mem_of_getElem? hx)
      have HX := hide hx; clear hx hc
      go_wp2_with fail
      obtain ⟨w3, e3, hb3, hz3, kx⟩ := box1 wr #[.int .i64 x.b0, .int .i64 x.b1, .int .i64 x.b2, .int .i64 x.a1, .int .i64 x.a2, .int .i64 x.sh] 32
      rw [← e3]; clear e3 d0 d1 d2 d3 d4 d5
      have hbw3 := below_step hbw hb3 hbw.size
      have kw3 := carryK' kw hb3
      have cw := over_blk (B := w3.heap.size) kw3 kw3.lt
      have cx := over_blk (B := w3.heap.size) kx kx.lt
      clear kw
      by_cases hsh : x.sh = s.sh
      · have t1 : (x.sh == s.sh) = true := by simpa using hsh
        have HSH := hide hsh; clear hsh
        by_cases hneg : b < 0
        · have t2 : decide (b < 0) = true := by simpa using hneg
          refine wp_region_over w3.heap.size (by kernel_rfl) (by kernel_rfl) ?_; (repeat (first | go_big_quiet_step (fail) | quiet_step (fail))); refine wpQuiet_nil ?_; rintro W ⟨x, rfl⟩
          go_wp2
          go_roundw
          case rel => exact ⟨k + 1, k, by omega, by go_num, rfl, hide (nbest_hit HX.out ⟨HSH.out, .inl (by rw [← HB.out]; omega)⟩).symm, below_step hbw3 (over_below _ _ _) hbw3.size⟩
          case measure => simp [intOf]; omega
        · have t2 : decide (b < 0) = false := by simpa using hneg
          have hat := @nbest_at l s k
          rw [← HB.out] at hat
          obtain ⟨j, y, ej, hj, hy, hys⟩ : ∃ (j : Nat) (y : Sec), b = j ∧ j < k ∧ l[j]? = some y ∧ y.sh = s.sh := hat.resolve_left (by omega)
          subst ej
          clear hat
          have HYS := hide hys; clear hys
          have hjn : j < n := by omega
          obtain ⟨ad', y', e', q2, hy', g0, g1, g2, g3, g4, g5⟩ := secs_over (carry' r2 hbw3) hjn (Nat.le_refl _)
          cases e'
          have ey : y' = y := by rw [hy] at hy'; exact (Option.some.inj hy').symm
          subst ey
          have hyo := HS.out y' (List.mem_of_getElem? hy)
          have hbd : bestD l s (j : Int) = dist y' s := bestD_at hy
          rw [HB.out] at hbd
          have HD := hide hbd; clear hbd hy hy'
          by_cases hd : dist x s < dist y' s
          · have t3 : decide (dist x s < dist y' s) = true := by simpa using hd
            have HDD := hide hd; clear hd
            refine wp_region_over w3.heap.size (by kernel_rfl) (by kernel_rfl) ?_; (repeat (first | go_big_quiet_step ((go_at_call 90; exact over_call (Nat.le_refl _) (dist_both _ _ _ (by assumption) (by assumption) (by assumption)))) | quiet_step ((go_at_call 90; exact over_call (Nat.le_refl _) (dist_both _ _ _ (by assumption) (by assumption) (by assumption)))))); refine wpQuiet_nil ?_; rintro W ⟨x, rfl⟩
            go_wp2
            go_roundw
            case rel => exact ⟨k + 1, k, by omega, by go_num, rfl, hide (nbest_hit HX.out ⟨HSH.out, .inr (by rw [HD.out]; exact HDD.out)⟩).symm, below_step hbw3 (over_below _ _ _) hbw3.size⟩
            case measure => simp [intOf]; omega
          · have t3 : decide (dist x s < dist y' s) = false := by simpa using hd
            have HDD := hide hd; clear hd
            refine wp_region_over w3.heap.size (by kernel_rfl) (by kernel_rfl) ?_; (repeat (first | go_big_quiet_step ((go_at_call 90; exact over_call (Nat.le_refl _) (dist_both _ _ _ (by assumption) (by assumption) (by assumption)))) | quiet_step ((go_at_call 90; exact over_call (Nat.le_refl _) (dist_both _ _ _ (by assumption) (by assumption) (by assumption)))))); refine wpQuiet_nil ?_; rintro W ⟨x, rfl⟩
            go_wp2
            go_roundw
            case rel => exact ⟨k + 1, j, by omega, by go_num, rfl, hide (HB.out.trans (nbest_miss HX.out (fun q => q.2.elim (fun q => by rw [← HB.out] at q; omega) (fun q => by rw [HD.out] at q; have := HDD.out; omega))).symm), below_step hbw3 (over_below _ _ _) hbw3.size⟩
            case measure => simp [intOf]; omega
      · have t1 : (x.sh == s.sh) = false := by simpa using hsh
        have HSH := hide hsh; clear hsh
        refine wp_region_over w3.heap.size (by kernel_rfl) (by kernel_rfl) ?_; (repeat (first | go_big_quiet_step (fail) | quiet_step (fail))); refine wpQuiet_nil ?_; rintro W ⟨x, rfl⟩
        go_wp2
        go_roundw
        case rel => exact ⟨k + 1, b, by omega, by go_num, rfl, hide (HB.out.trans (nbest_miss HX.out (fun q => HSH.out q.1)).symm), below_step hbw3 (over_below _ _ _) hbw3.size⟩
        case measure => simp [intOf]; omega
    · have hkl : l.length = k := by have := HL.out; omega
      have HKL := hide hkl; clear hkl
      by_cases hneg : b < 0
      · have t2 : decide (b < 0) = true := by simpa using hneg
        go_wp2
        go_ret2
        exact ⟨by simp [nearV_neg (show nbest l s l.length < 0 by rw [HKL.out, ← HB.out]; omega)], below_step hb hbw hb.size⟩
      · have t2 : decide (b < 0) = false := by simpa using hneg
        go_wp2
        go_ret2
        exact ⟨by simp [nearV_pos (show ¬ nbest l s l.length < 0 by rw [HKL.out, ← HB.out]; omega)]; rw [HKL.out, ← HB.out], below_step hb hbw hb.size⟩
/-- Nearest as a whole. -/
def nearE (l : List Sec) (s : Sec) : Int × Int := if nearErr l s = 0 then nearV l s else (0, nearErr l s)
theorem Nearest_tot (A : Option Addr) (n c : Nat) (l : List Sec) (s : Sec) (w : World) (hn : n ≤ 1000000000000) (h : Reads w w.heap.size 6 A n (secs l)) :
    Calls Tryd.prog 59 #[.slice A n c, .agg #[.int .i64 s.b0, .int .i64 s.b1, .int .i64 s.b2, .int .i64 s.a1, .int .i64 s.a2, .int .i64 s.sh]] w fun e w' => e = .returned (.tuple #[.int .i64 (nearE l s).1, .int .i64 (nearE l s).2]) ∧ Below w.heap.size w w' := by
  by_cases h0 : nearErr l s = 0
  · have e : nearE l s = nearV l s := by unfold nearE; rw [if_pos h0]
    rw [e]; exact Nearest_ok A n c l s w hn h h0
  · have e : nearE l s = (0, nearErr l s) := by unfold nearE; rw [if_neg h0]
    rw [e]; exact Nearest_bad A n c l s w hn h (by simpa using h0)
theorem rNearest_tot (A : Option Addr) (n c : Nat) (l : List Sec) (s : Sec) (w : World) (hn : n ≤ 1000000000000) (h : Reads w w.heap.size 6 A n (secs l)) (h0 : nearErr l s = 0) :
    Calls Tryd.prog 61 #[.slice A n c, .agg #[.int .i64 s.b0, .int .i64 s.b1, .int .i64 s.b2, .int .i64 s.a1, .int .i64 s.a2, .int .i64 s.sh]] w fun e w' => e = .returned (.tuple #[.int .i64 (nearE l s).1, .int .i64 (nearE l s).2]) ∧ Below w.heap.size w w' := by
  have e : nearE l s = nearV l s := by unfold nearE; rw [if_pos h0]
  obtain ⟨h1, h2⟩ := fnz2_zero h0
  rw [e]; exact rNearest_any A n c l s w (Sec.err_ok h2) (secErr_ok h1).2 hn h
end Go.Proofs.YtlaaajkehjoffaaDoor
