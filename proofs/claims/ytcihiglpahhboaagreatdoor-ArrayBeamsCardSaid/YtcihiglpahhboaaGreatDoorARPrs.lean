/- Step, Path, Pressure of the reference. -/
import Derived.Test.YtcihiglpahhboaaGreatDoorAPrs
import Derived.Test.YtcihiglpahhboaaGreatDoorATurn
import Derived.Test.YtcihiglpahhboaaGreatDoorPlainA
namespace Go.Proofs.YtcihiglpahhboaaGreatDoor
open Go.RowKit Go.Shelf
set_option maxRecDepth 100000
theorem step_cell {W : World} {g h : Nat} {t : TypeId} {k : Nat} (hk : k < 8) (h1 : Blk W g t #[.int .i64 1, .int .i64 1, .int .i64 0, .int .i64 (-1), .int .i64 (-1), .int .i64 (-1), .int .i64 0, .int .i64 1]) (h2 : Blk W h t #[.int .i64 0, .int .i64 1, .int .i64 1, .int .i64 1, .int .i64 0, .int .i64 (-1), .int .i64 (-1), .int .i64 (-1)]) :
    W.cell? ⟨g, k, none⟩ = some (.int .i64 (stx k)) ∧ W.cell? ⟨h, k, none⟩ = some (.int .i64 (sty k)) := by
  rcases lt8 hk with rfl | rfl | rfl | rfl | rfl | rfl | rfl | rfl <;> exact ⟨h1.cell _, h2.cell _⟩
set_option maxHeartbeats 1000000 in
theorem rStep_any (k : Nat) (hk : k < 8) (w : World) :
    Calls Tryz.prog 59 #[.int .i64 (k : Int)] w fun e w' => e = .returned (.tuple #[.int .i64 (stx k), .int .i64 (sty k)]) ∧ Below w.heap.size w w' := by
  have hki : (k : Int) < 8 := by omega
  go_enter Tryz.func59, Tryz.ntmps59
  go_upto_region 3 with (fail)
  obtain ⟨w1, e1, hb1, hz1, k0, k1⟩ := box2 w #[.int .i64 1, .int .i64 1, .int .i64 0, .int .i64 (-1), .int .i64 (-1), .int .i64 (-1), .int .i64 0, .int .i64 1] #[.int .i64 0, .int .i64 1, .int .i64 1, .int .i64 1, .int .i64 0, .int .i64 (-1), .int .i64 (-1), .int .i64 (-1)] 64 64
  rw [← e1]; clear e1
  obtain ⟨o0, o1⟩ := step_cell hk k0 k1
  have r0 : ∀ x, (over w1.heap.size w1 x).cell? ⟨w.heap.size, k, none⟩ = some (.int .i64 (stx k)) := fun x => ((over_below _ _ _).cell (p := ⟨w.heap.size, k, none⟩) k0.lt).trans o0
  have r1 : ∀ x, (over w1.heap.size w1 x).cell? ⟨w.heap.size + 1, k, none⟩ = some (.int .i64 (sty k)) := fun x => ((over_below _ _ _).cell (p := ⟨w.heap.size + 1, k, none⟩) k1.lt).trans o1
  clear o0 o1
  refine wp_region_over w1.heap.size (by kernel_rfl) (by kernel_rfl) ?_; (repeat (first | go_big_quiet_step (fail) | quiet_step (fail))); refine wpQuiet_nil ?_; rintro W ⟨x, rfl⟩
  have hbY := over_below w1.heap.size w1 x
  generalize over w1.heap.size w1 x = Y at hbY ⊢
  clear r0 r1
  go_wp2_with fail
  go_ret2
  exact ⟨rfl, below_next hb1 hbY⟩
theorem rPath_any (s : Src) (k : Nat) (hk : k < 8) (hs : s.Ok) (w : World) :
    Calls Tryz.prog 60 #[.agg #[.int .i64 s.x, .int .i64 s.y, .int .i64 s.g, .int .i64 s.p], .int .i64 (k : Int)] w fun e w' => e = .returned (.int .i64 (pth s k)) ∧ Below w.heap.size w w' := by
  have hw := pth_wrap hs k
  clear hs
  go_enter Tryz.func60, Tryz.ntmps60
  go_upto_region 1 with (fail)
  obtain ⟨w1, e1, hb1, hz1, k0⟩ := box1 w #[.int .i64 s.x, .int .i64 s.y, .int .i64 s.g, .int .i64 s.p] 78
  rw [← e1]; clear e1
  go_wp2_with fail
  refine (rStep_any k hk _).mono ?_
  rintro e w2 ⟨rfl, hb2⟩
  have c0 := (carryK k0 hb2).cell
  go_wp2_with fail
  go_ret
  exact ⟨by rw [← hw]; rfl, below_next hb1 hb2⟩
set_option maxHeartbeats 4000000 in
theorem rPressure_any (A : Option Addr) (m c : Nat) (l : List Src) (d : Nat) (w : World) (hd : d < 8) (hok : LOk l) (hR : Reads w w.heap.size 4 A m (srcs l)) :
    Calls Tryz.prog 61 #[.slice A m c, .int .i64 (d : Int)] w fun e w' => e = .returned (.agg #[.int .i64 (prs l d).re, .int .i64 (prs l d).im]) ∧ Below w.heap.size w w' := by
  have HL := hide (srcs_reads_len hR)
  have HO := hide hok
  have hm16 : m ≤ 16 := by rw [← HL.out]; exact hok.len
  clear hok
  go_enter Tryz.func61, Tryz.ntmps61
  go_upto_region 2 with (fail)
  obtain ⟨w1, e1, hb1, hz1, k0, k1⟩ := box2 w #[.int .i64 0, .int .i64 0] #[.int .i64 0, .int .i64 0] 54 54
  rw [← e1]; clear e1
  go_wp2_with fail
  go_loopw [6] (fun i wr => ∃ k : Nat, k ≤ m ∧ i = .int .i64 k ∧ Blk wr w.heap.size 54 #[.int .i64 0, .int .i64 0] ∧ Blk wr (w.heap.size + 1) 54 #[.int .i64 (prs (l.take k) d).re, .int .i64 (prs (l.take k) d).im] ∧ Below w.heap.size w wr) (fun i _ => m - (intOf i).toNat)
  case atStart => exact ⟨0, by omega, rfl, k0, k1, hb1⟩
  case round =>
    rename World => wo
    clear k0 k1 hb1
    obtain ⟨k, hk, rfl, k0, k1, hb⟩ := hrel
    by_cases hlt : k < m
    · obtain ⟨ad, s, rfl, _, hx, hc⟩ := src_hit (carry hR hb) hlt (Nat.le_refl _)
      have hs := HO.out.all s (List.mem_of_getElem? hx)
      have hpx : ∀ y ∈ l.take (k + 1), y.Ok := fun y hy => HO.out.all y (List.mem_of_mem_take hy)
      have hn := prs_nrm hpx d
      have hlen : (l.take (k + 1)).length ≤ 16 := by rw [List.length_take]; omega
      have htk := src_take hx
      have hsn : prs (l.take (k + 1)) d = (prs (l.take k) d).add (snd s d) := by rw [htk, prs_snoc]
      have hpi := pth_in hs d
      have hwp : wrap64 (s.p + pth s d) = s.p + pth s d := by
        have := hs.p1; have := hs.p2
        unfold wrap64; omega
      have hturn : Hid (∀ W, Calls Tryz.prog 72 #[.agg #[.int .i64 s.g, .int .i64 0], .int .i64 (s.p + pth s d)] W fun e W' => e = .returned (.agg #[.int .i64 (snd s d).re, .int .i64 (snd s d).im]) ∧ Below W.heap.size W W') := fun W =>
        qTurn_any ⟨s.g, 0⟩ (s.p + pth s d) W (by unfold G.nrm; have := hs.g1; have := hs.g2; simp only; omega)
      obtain ⟨C, hC⟩ : ∃ C, prs (l.take k) d = C := ⟨_, rfl⟩
      obtain ⟨C', hC'⟩ : ∃ C', prs (l.take (k + 1)) d = C' := ⟨_, rfl⟩
      have HC' := hide hC'
      rw [hC, hC'] at hsn
      rw [hC'] at hn
      rw [hC] at k1
      have hplus : Hid (∀ W, Calls Tryz.prog 73 #[.agg #[.int .i64 C.re, .int .i64 C.im], .agg #[.int .i64 (snd s d).re, .int .i64 (snd s d).im]] W fun e W' => e = .returned (.agg #[.int .i64 C'.re, .int .i64 C'.im]) ∧ Below W.heap.size W W') := fun W => by
        have := rPlus_any C (snd s d) W
        rw [← hsn, G.w_in (by omega)] at this
        exact this
      have HS := hide hs
      have q0 : ∀ x, (over wo.heap.size wo x).cell? (ad.add (k * 4)) = some (.int .i64 s.x) := fun x => (hc _ (over_below _ _ _)).1
      have q1 : ∀ x, (over wo.heap.size wo x).cell? ⟨(ad.add (k * 4)).block, (ad.add (k * 4)).off + 1, none⟩ = some (.int .i64 s.y) := fun x => (hc _ (over_below _ _ _)).2.1
      have q2 : ∀ x, (over wo.heap.size wo x).cell? ⟨(ad.add (k * 4)).block, (ad.add (k * 4)).off + 2, none⟩ = some (.int .i64 s.g) := fun x => (hc _ (over_below _ _ _)).2.2.1
      have q3 : ∀ x, (over wo.heap.size wo x).cell? ⟨(ad.add (k * 4)).block, (ad.add (k * 4)).off + 3, none⟩ = some (.int .i64 s.p) := fun x => (hc _ (over_below _ _ _)).2.2.2
      have c1 := over_blk k1 k1.lt
      clear hx hs hpx hn hlen htk hsn hpi hC hC' hc
      go_upto_region 5 with (fail)
      refine wp_region_part 21 wo.heap.size (by kernel_rfl) (by kernel_rfl) ?_; simp only [List.take_succ_cons, List.take_zero, List.drop_succ_cons, List.drop_zero]; (repeat (first | go_big_quiet_step (first | (go_at_call 60; exact over_call (Nat.le_refl _) (rPath_any s d hd HS.out _)) | (go_at_call 72; exact over_call (Nat.le_refl _) (hturn.out _)) | (go_at_call 73; exact over_call (Nat.le_refl _) (hplus.out _))) | quiet_step (first | (go_at_call 60; exact over_call (Nat.le_refl _) (rPath_any s d hd HS.out _)) | (go_at_call 72; exact over_call (Nat.le_refl _) (hturn.out _)) | (go_at_call 73; exact over_call (Nat.le_refl _) (hplus.out _))))); refine wpQuiet_nil ?_; rintro W ⟨x, rfl⟩
      have hbY := over_below wo.heap.size wo x
      generalize over wo.heap.size wo x = Y at hbY ⊢
      clear q0 q1 q2 q3 c1 hwp
      have k0Y := carryK k0 hbY
      have k1Y := carryK k1 hbY
      have hbwY := below_next hb hbY
      clear k0 k1 hb hbY
      have cY := k1Y.cell
      have fY := k1Y.frozen
      have kX := blk2 (u0 := .int .i64 C'.re) (u1 := .int .i64 C'.im) k1Y
      have k0X := far2 (u0 := .int .i64 C'.re) (u1 := .int .i64 C'.im) (g := w.heap.size + 1) k0Y (by omega)
      have hX := below2 (u0 := .int .i64 C'.re) (u1 := .int .i64 C'.im) hbwY (Nat.le_succ w.heap.size)
      have KX := hide kX
      have K0 := hide k0X
      have HX := hide hX
      clear kX k0X hX k0Y k1Y hbwY
      go_wp2_with fail
      go_roundw
      case rel => exact ⟨k + 1, by omega, by go_num, K0.out, by rw [HC'.out]; exact KX.out, HX.out⟩
      case measure => simp [intOf]; omega
    · obtain rfl : k = m := by omega
      rw [List.take_of_length_le (by rw [HL.out]; omega)] at k1
      have c0 := k0.cell
      have f0 := k0.frozen
      have c1 := k1.cell
      have kX := blk2 (u0 := .int .i64 (prs l d).re) (u1 := .int .i64 (prs l d).im) k0
      have hX := below2 (u0 := .int .i64 (prs l d).re) (u1 := .int .i64 (prs l d).im) hb (Nat.le_refl w.heap.size)
      have KX := hide kX
      have HX := hide hX
      clear kX hX k1 hb
      go_wp2_with fail
      have cX := KX.out.cell
      generalize World.setCell _ _ _ = V at cX HX ⊢
      refine bodyPost_ret (v := .agg #[.int .i64 (prs l d).re, .int .i64 (prs l d).im]) (by simp [results, Tryz.results61, go_sem, cX]) rfl ?_
      exact ⟨rfl, HX.out⟩
end Go.Proofs.YtcihiglpahhboaaGreatDoor
