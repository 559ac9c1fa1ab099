/- Power of the program. Levels: ratio, level, Level of the program. Lists of quotients in memory; levels, Table of the program. The program's less. lowest and CheckRatio of the program; Lowest and CheckRatio of the reference. CheckRatio of the program and of the reference; CheckLevel. -/
import Derived.Test.YtnndaipnfniciaaGreatDoorBaseO
import Derived.Test.YtnndaipnfniciaaGreatDoorPlainA
import Derived.BigRegion
import Derived.Test.YtnndaipnfniciaaGreatDoorBaseQ
namespace Go.Proofs.YtnndaipnfniciaaGreatDoor
open Go.RowKit Go.Shelf
set_option maxRecDepth 100000
theorem nconj_in (a : G) (h : wr (-a.im) = a.conj.im) (w : World) :
    Calls Tryz.prog 86 #[.agg #[.int .i64 a.re, .int .i64 a.im]] w fun e w' => e = .returned (.agg #[.int .i64 a.conj.re, .int .i64 a.conj.im]) ∧ Below w.heap.size w w' := by
  have := conjugate_any a w
  rw [h] at this
  exact this
set_option maxHeartbeats 1000000 in
theorem Power1_any (p : Mat) (d : G) (w : World) (hp : p.In 2073071593) :
    Calls Tryz.prog 122 #[.agg #[.int .i64 p.a.re, .int .i64 p.a.im, .int .i64 p.b.re, .int .i64 p.b.im, .int .i64 p.c.re, .int .i64 p.c.im, .int .i64 p.d.re, .int .i64 p.d.im], .agg #[.int .i64 d.re, .int .i64 d.im]] w fun e w' => e = .returned (.tuple #[.int .i64 (pw p.a p.c), .int .i64 0]) ∧ Below w.heap.size w w' := by
  have h1 := hp.1
  have h2 := hp.2
  have hc : wr (-p.c.im) = p.c.conj.im := wr_in (by have := G.nrm_le (a := p.c) (n := 2073071593) (by omega); omega)
  have hw : (p.a.mul p.c.conj).w = p.a.mul p.c.conj := by
    refine G.w_in (Nat.le_trans (G.nrm_mul _ _) ?_)
    have e : p.c.conj.nrm = p.c.nrm := by simp [G.nrm, G.conj]
    rw [e]
    have := Nat.mul_le_mul (show p.a.nrm ≤ 2073071593 by omega) (show p.c.nrm ≤ 2073071593 by omega)
    omega
  have hre : (p.a.mul p.c.conj).w.re = pw p.a p.c := by rw [hw, pw_conj]
  have HRE := hide hre
  clear hre hw h1 h2 hp
  go_enter Tryz.func122, Tryz.ntmps122
  go_upto_region 1 with (fail)
  obtain ⟨w1, e1, hb1, hz1, k0, k1⟩ := box2 w #[.int .i64 p.a.re, .int .i64 p.a.im, .int .i64 p.b.re, .int .i64 p.b.im, .int .i64 p.c.re, .int .i64 p.c.im, .int .i64 p.d.re, .int .i64 p.d.im] #[.int .i64 d.re, .int .i64 d.im] 73 23
  rw [← e1]; clear e1
  have c0 := over_blk k0 k0.lt
  have i0 : ∀ W : World, (Instr.field 23 (.agg #[.int .i64 (p.a.mul p.c.conj).w.re, .int .i64 (p.a.mul p.c.conj).w.im]) 0).run Tryz.prog W = .ok (.int .i64 (p.a.mul p.c.conj).w.re) W := fun _ => by kernel_rfl
  refine wp_region_over w1.heap.size (by kernel_rfl) (by kernel_rfl) ?_; (repeat (first | go_big_quiet_step (first | (go_at_call 86; with_reducible exact over_call (Nat.le_refl _) (nconj_in p.c hc _)) | (go_at_call 85; with_reducible exact over_call (Nat.le_refl _) (times_any p.a p.c.conj _))) | quiet_step (first | (go_at_call 86; with_reducible exact over_call (Nat.le_refl _) (nconj_in p.c hc _)) | (go_at_call 85; with_reducible exact over_call (Nat.le_refl _) (times_any p.a p.c.conj _))))); refine wpQuiet_nil ?_; rintro W ⟨x, rfl⟩
  have hbY := over_below w1.heap.size w1 x
  generalize over w1.heap.size w1 x = Y at hbY ⊢
  rw [HRE.out]
  clear c0 i0
  go_wp2_with fail
  refine bodyPost_ret (v := .tuple #[.int .i64 (pw p.a p.c), .int .i64 0]) (by simp [results, Tryz.results122, go_sem]) rfl ?_
  exact ⟨rfl, below_next hb1 hbY⟩
set_option maxHeartbeats 1000000 in
theorem Power_ok (l : List El) (f : Int) (A : Option Addr) (m c : Nat) (w : World) (hC : Con w) (he : atErr l f = 0) (hm : m ≤ 1000000000000) (hR : Reads w w.heap.size 3 A m (els l)) :
    Calls Tryz.prog 51 #[.slice A m c, .int .i64 f] w fun e w' => e = .returned (.tuple #[.int .i64 (pw (chn f .id l).a (chn f .id l).c), .int .i64 0]) ∧ Below w.heap.size w w' := by
  obtain ⟨hl, hf1, hf8⟩ := at_zero he
  have t1 : (fnz [ladErr l, rng f 1 8] != 0) = false := by rw [show fnz [ladErr l, rng f 1 8] = 0 from he]; rfl
  have hin := chain_in hl hf1 hf8
  have hof : ∀ w, Con w → Reads w w.heap.size 3 A m (els l) → Calls Tryz.prog 121 #[.slice A m c, .int .i64 f, .func (.func 122) #[] #[]] w fun e w' => e = .returned (.tuple #[.int .i64 (pw (chn f .id l).a (chn f .id l).c), .int .i64 0]) ∧ Below w.heap.size w w' := by
    intro w hC hR
    clear he
    go_enter Tryz.func121, Tryz.ntmps121
    go_wp2_with fail
    refine (checkLadder_any A m c l _ hR hm).mono ?_
    rintro e w2 ⟨rfl, hb2⟩
    go_upto_region 2 with (first | (go_at_call 89; refine (checkW_any _ _).mono ?_; rintro e W' ⟨rfl, rfl⟩) | (go_at_call 82; (first | (with_reducible (refine (first_any _ _ _ _ _ _ (reads2 _ _ _ _) (by omega)).mono ?_)) | (with_reducible (refine (first_any _ _ _ _ _ _ (Reads.drew (reads2 _ _ _ _)) (by omega)).mono ?_))); rintro e W' ⟨rfl, rfl⟩))
    obtain ⟨w3, e3, hb3, hz3, k3⟩ := box1 w2 #[.int .i64 (ladErr l), .int .i64 (rng f 1 8)] 29
    rw [← e3]; clear e3
    have hbw3 := below_next hb2 hb3
    go_wp2_with fail
    refine (chain_any l f A m c _ (hC.carry hbw3) hl hf1 hf8 hm (carry hR hbw3)).mono ?_
    rintro e w4 ⟨rfl, hb4⟩
    have hbw4 := below_next hbw3 hb4
    go_wp2_with fail
    refine (Power1_any (chn f .id l) (dvs f .one l) _ hin).mono ?_
    rintro e w5 ⟨rfl, hb5⟩
    go_wp2_with fail
    refine bodyPost_ret (v := .tuple #[.int .i64 (pw (chn f .id l).a (chn f .id l).c), .int .i64 0]) (by simp [results, Tryz.results121, go_sem]) rfl ?_
    exact ⟨rfl, below_next hbw4 hb5⟩
  clear he t1 hin
  go_enter Tryz.func51, Tryz.ntmps51
  go_wp2_with fail
  refine (hof _ hC hR).mono ?_
  rintro e w2 ⟨rfl, hb2⟩
  go_wp2_with fail
  refine bodyPost_ret (v := .tuple #[.int .i64 (pw (chn f .id l).a (chn f .id l).c), .int .i64 0]) (by simp [results, Tryz.results51, go_sem]) rfl ?_
  exact ⟨rfl, hb2⟩
end Go.Proofs.YtnndaipnfniciaaGreatDoor

namespace Go.Proofs.YtnndaipnfniciaaGreatDoor
open Go.RowKit Go.Shelf
set_option maxRecDepth 100000
theorem gcd_step (x y : Nat) : Nat.gcd y (x % y) = Nat.gcd x y := by rw [Nat.gcd_comm x y, Nat.gcd_rec y x, Nat.gcd_comm (x % y) y]
theorem wdiv (n p : Nat) (h : n ≤ 9223372036854775807) : wrap64 ((n : Int) / (p : Int)) = ((n / p : Nat) : Int) := by
  have h2 := Nat.le_trans (Nat.div_le_self n p) h
  rw [show (n : Int) / (p : Int) = ((n / p : Nat) : Int) from rfl]
  generalize n / p = m at h2 ⊢
  unfold wrap64; omega
set_option maxHeartbeats 1000000 in
theorem ratio_any (n d : Nat) (w : World) (hd : 0 < d) (hn : n ≤ 9223372036854775807) (hdd : d ≤ 9223372036854775807) :
    Calls Tryz.prog 152 #[.int .i64 n, .int .i64 d] w fun e w' => e = .returned (.agg #[.int .i64 (low n d).n, .int .i64 (low n d).d]) ∧ Below w.heap.size w w' := by
  go_enter Tryz.func152, Tryz.ntmps152
  go_wp2_with fail
  obtain ⟨w1, e1, hb1, hz1, k0⟩ := box1 w #[.int .i64 0, .int .i64 0] 54
  rw [← e1]; clear e1
  go_loopw [5, 6] (fun a b wr => ∃ p q : Nat, a = .int .i64 p ∧ b = .int .i64 q ∧ Nat.gcd p q = Nat.gcd n d ∧ p ≤ 9223372036854775807 ∧ q ≤ 9223372036854775807 ∧ Blk wr w.heap.size 54 #[.int .i64 0, .int .i64 0] ∧ Below w.heap.size w wr) (fun _ b _ => (intOf b).toNat)
  case atStart => exact ⟨n, d, rfl, rfl, rfl, hn, hdd, k0, hb1⟩
  case round =>
    rename World => wo
    obtain ⟨p, q, rfl, rfl, hg, hp, hq, kR, hb⟩ := hrel
    clear k0 hb1
    have HG := hide hg
    clear hg
    by_cases hq0 : q = 0
    · subst hq0
      have hpg : p = Nat.gcd n d := by rw [← HG.out, Nat.gcd_zero_right]
      have hpp : 0 < p := by rw [hpg]; exact Nat.gcd_pos_of_pos_right _ hd
      have HP := hide hpg
      clear hpg
      have hpz : ((p : Int) == 0) = false := by simp; omega
      have hp1 : 0 < (p : Int) := by omega
      have t0 : (((0 : Nat) : Int) != 0) = false := rfl
      have e1 := wdiv n p hn
      have e2 := wdiv d p hdd
      go_upto_region 4 with (fail)
      refine wp_region_part 6 wo.heap.size (by kernel_rfl) (by kernel_rfl) ?_; simp only [List.take_succ_cons, List.take_zero, List.drop_succ_cons, List.drop_zero]; (repeat (first | go_big_quiet_step (fail) | quiet_step (fail))); refine wpQuiet_nil ?_; rintro W ⟨x, rfl⟩
      have hbY := over_below wo.heap.size wo x
      generalize over wo.heap.size wo x = Y at hbY ⊢
      have kY := carryK kR hbY
      have cR := kY.cell
      have fR := kY.frozen
      go_wp2_with fail
      have kX := blk2 (u0 := .int .i64 ((n : Int) / (p : Int))) (u1 := .int .i64 ((d : Int) / (p : Int))) kY
      have hX := below2 (u0 := .int .i64 ((n : Int) / (p : Int))) (u1 := .int .i64 ((d : Int) / (p : Int))) (below_next hb hbY) (Nat.le_refl w.heap.size)
      have cX := kX.cell
      clear cR fR
      rw [show low n d = ⟨(n : Int) / (p : Int), (d : Int) / (p : Int)⟩ by rw [HP.out]; rfl]
      refine bodyPost_ret (v := .agg #[.int .i64 ((n : Int) / (p : Int)), .int .i64 ((d : Int) / (p : Int))]) (by simp [results, Tryz.results152, go_sem, cX]) rfl ?_
      exact ⟨rfl, hX⟩
    · have t0 : ((q : Int) != 0) = true := by simp; omega
      have hq1 : 0 < (q : Int) := by omega
      have hlt := Nat.mod_lt p (Nat.pos_of_ne_zero hq0)
      have em : (p : Int) % (q : Int) = ((p % q : Nat) : Int) := rfl
      go_upto_region 3 with (fail)
      go_quiet (fail)
      go_wp2_with fail
      go_roundw
      case rel => exact ⟨q, p % q, rfl, by go_num, by rw [← HG.out]; exact gcd_step p q, hq, by omega, kR, below_drewN hb _⟩
      case measure => simp [intOf]; omega
theorem ratio_int (n d : Int) (w : World) (hn : 0 ≤ n ∧ n ≤ 9223372036854775807) (hd : 0 < d ∧ d ≤ 9223372036854775807) :
    Calls Tryz.prog 152 #[.int .i64 n, .int .i64 d] w fun e w' => e = .returned (.agg #[.int .i64 (low n.toNat d.toNat).n, .int .i64 (low n.toNat d.toNat).d]) ∧ Below w.heap.size w w' := by
  have := ratio_any n.toNat d.toNat w (by omega) (by omega) (by omega)
  rwa [Int.toNat_of_nonneg hn.1, Int.toNat_of_nonneg (Int.le_of_lt hd.1)] at this
theorem sqxy_any (x y S : Int) (w : World) (hS : x * x + y * y = S) (h : 0 ≤ S ∧ S ≤ 9223372036854775807) :
    Calls Tryz.prog 87 #[.agg #[.int .i64 x, .int .i64 y]] w fun e w' => e = .returned (.int .i64 S) ∧ Below w.heap.size w w' := by
  have := square_any ⟨x, y⟩ w
  rw [show wr (G.sq ⟨x, y⟩) = S from by rw [wr_in (by unfold G.sq; simp only; omega)]; unfold G.sq; simp only; omega] at this
  exact this
set_option maxHeartbeats 1000000 in
theorem level_pole (b c e : G) (x' y' : Int) (w : World) (hC : Con w) :
    Calls Tryz.prog 120 #[.agg #[.int .i64 0, .int .i64 0, .int .i64 b.re, .int .i64 b.im, .int .i64 c.re, .int .i64 c.im, .int .i64 e.re, .int .i64 e.im], .agg #[.int .i64 x', .int .i64 y']] w fun r w' => r = .returned (.tuple #[.agg #[.int .i64 0, .int .i64 0], .int .i64 17]) ∧ Below w.heap.size w w' := by
  go_enter Tryz.func120, Tryz.ntmps120
  go_upto_region 1 with (fail)
  obtain ⟨w1, e1, hb1, hz1, k0, k1, k2⟩ := box3 w #[.int .i64 0, .int .i64 0, .int .i64 b.re, .int .i64 b.im, .int .i64 c.re, .int .i64 c.im, .int .i64 e.re, .int .i64 e.im] #[.int .i64 x', .int .i64 y'] #[.int .i64 0, .int .i64 0] 73 23 54
  rw [← e1]; clear e1
  obtain ⟨_, n0, n1, _, _, _⟩ := hC.carry hb1
  have c0 := k0.cell
  have cR := k2.cell
  have fR := k2.frozen
  go_wp2_with fail
  have kX := blk2 (u0 := .int .i64 0) (u1 := .int .i64 0) k2
  have hX := below2 (u0 := .int .i64 0) (u1 := .int .i64 0) hb1 (Nat.le_add_right w.heap.size 2)
  have cX := kX.cell
  clear cR fR c0
  refine bodyPost_ret (v := .tuple #[.agg #[.int .i64 0, .int .i64 0], .int .i64 17]) (by simp [results, Tryz.results120, go_sem, cX]) rfl ?_
  exact ⟨rfl, hX⟩
set_option maxHeartbeats 2000000 in
theorem level_xy (x y : Int) (b c e : G) (x' y' S T : Int) (w : World) (hC : Con w) (hz : ¬ x = 0 ∨ ¬ y = 0) (hS : x * x + y * y = S) (hT : x' * x' + y' * y' = T) (hp : 0 < S) (ha : 0 ≤ S ∧ S ≤ 9223372036854775807) (hd : 0 ≤ T ∧ T ≤ 9223372036854775807) :
    Calls Tryz.prog 120 #[.agg #[.int .i64 x, .int .i64 y, .int .i64 b.re, .int .i64 b.im, .int .i64 c.re, .int .i64 c.im, .int .i64 e.re, .int .i64 e.im], .agg #[.int .i64 x', .int .i64 y']] w fun r w' => r = .returned (.tuple #[.agg #[.int .i64 (low T.toNat S.toNat).n, .int .i64 (low T.toNat S.toNat).d], .int .i64 0]) ∧ Below w.heap.size w w' := by
  by_cases hx : x = 0
  · subst hx
    have hy : ¬ y = 0 := hz.elim (fun h => absurd rfl h) id
    have HS := hide hS
    have HT := hide hT
    clear hz hS hT
    go_enter Tryz.func120, Tryz.ntmps120
    go_upto_region 1 with (fail)
    obtain ⟨w1, e1, hb1, hz1, k0, k1, k2⟩ := box3 w #[.int .i64 0, .int .i64 y, .int .i64 b.re, .int .i64 b.im, .int .i64 c.re, .int .i64 c.im, .int .i64 e.re, .int .i64 e.im] #[.int .i64 x', .int .i64 y'] #[.int .i64 0, .int .i64 0] 73 23 54
    rw [← e1]; clear e1
    obtain ⟨_, n0, n1, _, _, _⟩ := hC.carry hb1
    have c0 := k0.cell
    go_upto_region 3 with (fail)
    clear c0 n0 n1
    have c0 := over_blk k0 k0.lt
    have c1 := over_blk k1 k1.lt
    refine wp_region_part 5 w1.heap.size (by kernel_rfl) (by kernel_rfl) ?_; simp only [List.take_succ_cons, List.take_zero, List.drop_succ_cons, List.drop_zero]; (repeat (first | go_big_quiet_step ((go_at_call 87; first | with_reducible exact over_call (Nat.le_refl _) (sqxy_any x' y' T _ HT.out hd) | with_reducible exact over_call (Nat.le_refl _) (sqxy_any 0 y S _ HS.out ha))) | quiet_step ((go_at_call 87; first | with_reducible exact over_call (Nat.le_refl _) (sqxy_any x' y' T _ HT.out hd) | with_reducible exact over_call (Nat.le_refl _) (sqxy_any 0 y S _ HS.out ha))))); refine wpQuiet_nil ?_; rintro W ⟨x, rfl⟩
    have hbY := over_below w1.heap.size w1 x
    generalize over w1.heap.size w1 x = Y at hbY ⊢
    clear c0 c1
    go_wp2_with fail
    refine (ratio_int T S _ hd ⟨hp, ha.2⟩).mono ?_
    rintro e2 w2 ⟨rfl, hb2⟩
    have kR := carryK (carryK k2 hbY) hb2
    have hbz : Below w.heap.size w w2 := (by repeat (first | with_reducible assumption | exact Below.refl _ _ | refine below_next (by with_reducible assumption) ?_))
    have cR := kR.cell
    have fR := kR.frozen
    obtain ⟨r, hr⟩ : ∃ r, low T.toNat S.toNat = r := ⟨_, rfl⟩
    have HRR := hide hr
    rw [hr]
    clear hr
    go_wp2_with fail
    have kX := blk2 (u0 := .int .i64 r.n) (u1 := .int .i64 r.d) kR
    have hX := below2 (u0 := .int .i64 r.n) (u1 := .int .i64 r.d) hbz (Nat.le_add_right _ 2)
    have cX := kX.cell
    clear cR fR
    refine bodyPost_ret (v := .tuple #[.agg #[.int .i64 r.n, .int .i64 r.d], .int .i64 0]) (by simp [results, Tryz.results120, go_sem, cX]) rfl ?_
    exact ⟨by rw [HRR.out], hX⟩
  · have HS := hide hS
    have HT := hide hT
    clear hz hS hT
    go_enter Tryz.func120, Tryz.ntmps120
    go_upto_region 1 with (fail)
    obtain ⟨w1, e1, hb1, hz1, k0, k1, k2⟩ := box3 w #[.int .i64 x, .int .i64 y, .int .i64 b.re, .int .i64 b.im, .int .i64 c.re, .int .i64 c.im, .int .i64 e.re, .int .i64 e.im] #[.int .i64 x', .int .i64 y'] #[.int .i64 0, .int .i64 0] 73 23 54
    rw [← e1]; clear e1
    obtain ⟨_, n0, n1, _, _, _⟩ := hC.carry hb1
    have c0 := k0.cell
    go_upto_region 3 with (fail)
    clear c0 n0 n1
    have c0 := over_blk k0 k0.lt
    have c1 := over_blk k1 k1.lt
    refine wp_region_part 5 w1.heap.size (by kernel_rfl) (by kernel_rfl) ?_; simp only [List.take_succ_cons, List.take_zero, List.drop_succ_cons, List.drop_zero]; (repeat (first | go_big_quiet_step ((go_at_call 87; first | with_reducible exact over_call (Nat.le_refl _) (sqxy_any x' y' T _ HT.out hd) | with_reducible exact over_call (Nat.le_refl _) (sqxy_any x y S _ HS.out ha))) | quiet_step ((go_at_call 87; first | with_reducible exact over_call (Nat.le_refl _) (sqxy_any x' y' T _ HT.out hd) | with_reducible exact over_call (Nat.le_refl _) (sqxy_any x y S _ HS.out ha))))); refine wpQuiet_nil ?_; rintro W ⟨x, rfl⟩
    have hbY := over_below w1.heap.size w1 x
    generalize over w1.heap.size w1 x = Y at hbY ⊢
    clear c0 c1
    go_wp2_with fail
    refine (ratio_int T S _ hd ⟨hp, ha.2⟩).mono ?_
    rintro e2 w2 ⟨rfl, hb2⟩
    have kR := carryK (carryK k2 hbY) hb2
    have hbz : Below w.heap.size w w2 := (by repeat (first | with_reducible assumption | exact Below.refl _ _ | refine below_next (by with_reducible assumption) ?_))
    have cR := kR.cell
    have fR := kR.frozen
    obtain ⟨r, hr⟩ : ∃ r, low T.toNat S.toNat = r := ⟨_, rfl⟩
    have HRR := hide hr
    rw [hr]
    clear hr
    go_wp2_with fail
    have kX := blk2 (u0 := .int .i64 r.n) (u1 := .int .i64 r.d) kR
    have hX := below2 (u0 := .int .i64 r.n) (u1 := .int .i64 r.d) hbz (Nat.le_add_right _ 2)
    have cX := kX.cell
    clear cR fR
    refine bodyPost_ret (v := .tuple #[.agg #[.int .i64 r.n, .int .i64 r.d], .int .i64 0]) (by simp [results, Tryz.results120, go_sem, cX]) rfl ?_
    exact ⟨by rw [HRR.out], hX⟩
theorem level_ok (p : Mat) (d : G) (w : World) (hC : Con w) (hz : ¬ p.a = .zero) (h1 : p.a.sq ≤ 9223372036854775807) (h2 : d.sq ≤ 9223372036854775807) :
    Calls Tryz.prog 120 #[.agg #[.int .i64 p.a.re, .int .i64 p.a.im, .int .i64 p.b.re, .int .i64 p.b.im, .int .i64 p.c.re, .int .i64 p.c.im, .int .i64 p.d.re, .int .i64 p.d.im], .agg #[.int .i64 d.re, .int .i64 d.im]] w fun r w' => r = .returned (.tuple #[.agg #[.int .i64 (low d.sq.toNat p.a.sq.toNat).n, .int .i64 (low d.sq.toNat p.a.sq.toNat).d], .int .i64 0]) ∧ Below w.heap.size w w' :=
  level_xy p.a.re p.a.im p.b p.c p.d d.re d.im p.a.sq d.sq w hC (G.ne_zero hz) rfl rfl (G.sq_pos hz) ⟨G.sq_nn _, h1⟩ ⟨G.sq_nn _, h2⟩
theorem level_no (p : Mat) (d : G) (w : World) (hC : Con w) (hz : p.a = .zero) :
    Calls Tryz.prog 120 #[.agg #[.int .i64 p.a.re, .int .i64 p.a.im, .int .i64 p.b.re, .int .i64 p.b.im, .int .i64 p.c.re, .int .i64 p.c.im, .int .i64 p.d.re, .int .i64 p.d.im], .agg #[.int .i64 d.re, .int .i64 d.im]] w fun r w' => r = .returned (.tuple #[.agg #[.int .i64 0, .int .i64 0], .int .i64 17]) ∧ Below w.heap.size w w' := by
  obtain ⟨a, b, c, e⟩ := p
  have hz : a = .zero := hz
  subst hz
  exact level_pole b c e d.re d.im w hC
theorem lvl_ok (l : List El) (f : Int) (w : World) (hC : Con w) (hz : ¬ (chn f .id l).a = .zero) (h1 : (chn f .id l).a.sq ≤ 9223372036854775807) (h2 : (dvs f .one l).sq ≤ 9223372036854775807) :
    Calls Tryz.prog 120 #[.agg #[.int .i64 (chn f .id l).a.re, .int .i64 (chn f .id l).a.im, .int .i64 (chn f .id l).b.re, .int .i64 (chn f .id l).b.im, .int .i64 (chn f .id l).c.re, .int .i64 (chn f .id l).c.im, .int .i64 (chn f .id l).d.re, .int .i64 (chn f .id l).d.im], .agg #[.int .i64 (dvs f .one l).re, .int .i64 (dvs f .one l).im]] w fun r w' => r = .returned (.tuple #[.agg #[.int .i64 (lvR l f).n, .int .i64 (lvR l f).d], .int .i64 0]) ∧ Below w.heap.size w w' := level_ok _ _ w hC hz h1 h2
set_option maxHeartbeats 2000000 in
theorem ofLevel_ok (l : List El) (f : Int) (A : Option Addr) (m c : Nat) (w : World) (hC : Con w) (he : atErr l f = 0) (hm : m ≤ 1000000000000) (hR : Reads w w.heap.size 3 A m (els l)) (hz : ¬ (chn f .id l).a = .zero) :
    Calls Tryz.prog 119 #[.slice A m c, .int .i64 f, .func (.func 120) #[] #[]] w fun e w' => e = .returned (.tuple #[.agg #[.int .i64 (lvR l f).n, .int .i64 (lvR l f).d], .int .i64 0]) ∧ Below w.heap.size w w' := by
  obtain ⟨hl, hf1, hf8⟩ := at_zero he
  have hin := lv_in hl hf1 hf8
  have t1 : (fnz [ladErr l, rng f 1 8] != 0) = false := by rw [show fnz [ladErr l, rng f 1 8] = 0 from he]; rfl
  have HZ := hide hz
  have HIN := hide hin
  clear he hz hin
  go_enter Tryz.func119, Tryz.ntmps119
  go_wp2_with fail
  obtain ⟨w1, e1, hb1, hz1, k0⟩ := box1 w #[.int .i64 0, .int .i64 0] 54
  rw [← e1]; clear e1
  refine (checkLadder_any A m c l _ (carry hR hb1) hm).mono ?_
  rintro e w2 ⟨rfl, hb2⟩
  have hbw2 := below_next hb1 hb2
  have k2 := carryK k0 hb2
  go_upto_region 2 with (first | (go_at_call 89; refine (checkW_any _ _).mono ?_; rintro e W' ⟨rfl, rfl⟩) | (go_at_call 82; (first | (with_reducible (refine (first_any _ _ _ _ _ _ (reads2 _ _ _ _) (by omega)).mono ?_)) | (with_reducible (refine (first_any _ _ _ _ _ _ (Reads.drew (reads2 _ _ _ _)) (by omega)).mono ?_))); rintro e W' ⟨rfl, rfl⟩))
  obtain ⟨w3, e3, hb3, hz3, k3⟩ := box1 w2 #[.int .i64 (ladErr l), .int .i64 (rng f 1 8)] 29
  rw [← e3]; clear e3
  have hbw3 := below_next hbw2 hb3
  have k3' := carryK k2 hb3
  go_wp2_with fail
  refine (chain_any l f A m c _ (hC.carry hbw3) hl hf1 hf8 hm (carry hR hbw3)).mono ?_
  rintro e w4 ⟨rfl, hb4⟩
  have hbw4 := below_next hbw3 hb4
  have k4 := carryK k3' hb4
  go_wp2_with fail
  refine (lvl_ok l f _ (hC.carry hbw4) HZ.out (Int.le_trans HIN.out.2 (by decide)) (Int.le_trans HIN.out.1 (by decide))).mono ?_
  rintro e w5 ⟨rfl, hb5⟩
  have hbw5 := below_next hbw4 hb5
  have k5 := carryK k4 hb5
  have c5 := k5.cell
  have f5 := k5.frozen
  go_wp2_with fail
  have kX := blk2 (u0 := .int .i64 (lvR l f).n) (u1 := .int .i64 (lvR l f).d) k5
  have hX := below2 (u0 := .int .i64 (lvR l f).n) (u1 := .int .i64 (lvR l f).d) hbw5 (Nat.le_refl w.heap.size)
  have cX := kX.cell
  clear c5 f5
  refine bodyPost_ret (v := .tuple #[.agg #[.int .i64 (lvR l f).n, .int .i64 (lvR l f).d], .int .i64 0]) (by simp [results, Tryz.results119, go_sem, cX]) rfl ?_
  exact ⟨rfl, hX⟩
set_option maxHeartbeats 1000000 in
theorem Level_ok (l : List El) (f : Int) (A : Option Addr) (m c : Nat) (w : World) (hC : Con w) (he : atErr l f = 0) (hm : m ≤ 1000000000000) (hR : Reads w w.heap.size 3 A m (els l)) (hz : ¬ (chn f .id l).a = .zero) :
    Calls Tryz.prog 50 #[.slice A m c, .int .i64 f] w fun e w' => e = .returned (.tuple #[.agg #[.int .i64 (lvR l f).n, .int .i64 (lvR l f).d], .int .i64 0]) ∧ Below w.heap.size w w' := by
  go_enter Tryz.func50, Tryz.ntmps50
  go_wp2_with fail
  obtain ⟨w1, e1, hb1, hz1, k0⟩ := box1 w #[.int .i64 0, .int .i64 0] 54
  rw [← e1]; clear e1
  refine (ofLevel_ok l f A m c _ (hC.carry hb1) he hm (carry hR hb1) hz).mono ?_
  rintro e w2 ⟨rfl, hb2⟩
  have hbw2 := below_next hb1 hb2
  have k5 := carryK k0 hb2
  have HZ := hide hz
  clear hz
  have c5 := k5.cell
  have f5 := k5.frozen
  go_wp2_with fail
  have kX := blk2 (u0 := .int .i64 (lvR l f).n) (u1 := .int .i64 (lvR l f).d) k5
  have hX := below2 (u0 := .int .i64 (lvR l f).n) (u1 := .int .i64 (lvR l f).d) hbw2 (Nat.le_refl w.heap.size)
  have cX := kX.cell
  clear c5 f5
  refine bodyPost_ret (v := .tuple #[.agg #[.int .i64 (lvR l f).n, .int .i64 (lvR l f).d], .int .i64 0]) (by simp [results, Tryz.results50, go_sem, cX]) rfl ?_
  exact ⟨rfl, hX⟩
set_option maxHeartbeats 2000000 in
theorem ofLevel_no (l : List El) (f : Int) (A : Option Addr) (m c : Nat) (w : World) (hC : Con w) (he : atErr l f = 0) (hm : m ≤ 1000000000000) (hR : Reads w w.heap.size 3 A m (els l)) (hz : (chn f .id l).a = .zero) :
    Calls Tryz.prog 119 #[.slice A m c, .int .i64 f, .func (.func 120) #[] #[]] w fun e w' => e = .returned (.tuple #[.agg #[.int .i64 0, .int .i64 0], .int .i64 17]) ∧ Below w.heap.size w w' := by
  obtain ⟨hl, hf1, hf8⟩ := at_zero he
  have hin := lv_in hl hf1 hf8
  have t1 : (fnz [ladErr l, rng f 1 8] != 0) = false := by rw [show fnz [ladErr l, rng f 1 8] = 0 from he]; rfl
  have HZ := hide hz
  have HIN := hide hin
  clear he hz hin
  go_enter Tryz.func119, Tryz.ntmps119
  go_wp2_with fail
  obtain ⟨w1, e1, hb1, hz1, k0⟩ := box1 w #[.int .i64 0, .int .i64 0] 54
  rw [← e1]; clear e1
  refine (checkLadder_any A m c l _ (carry hR hb1) hm).mono ?_
  rintro e w2 ⟨rfl, hb2⟩
  have hbw2 := below_next hb1 hb2
  have k2 := carryK k0 hb2
  go_upto_region 2 with (first | (go_at_call 89; refine (checkW_any _ _).mono ?_; rintro e W' ⟨rfl, rfl⟩) | (go_at_call 82; (first | (with_reducible (refine (first_any _ _ _ _ _ _ (reads2 _ _ _ _) (by omega)).mono ?_)) | (with_reducible (refine (first_any _ _ _ _ _ _ (Reads.drew (reads2 _ _ _ _)) (by omega)).mono ?_))); rintro e W' ⟨rfl, rfl⟩))
  obtain ⟨w3, e3, hb3, hz3, k3⟩ := box1 w2 #[.int .i64 (ladErr l), .int .i64 (rng f 1 8)] 29
  rw [← e3]; clear e3
  have hbw3 := below_next hbw2 hb3
  have k3' := carryK k2 hb3
  go_wp2_with fail
  refine (chain_any l f A m c _ (hC.carry hbw3) hl hf1 hf8 hm (carry hR hbw3)).mono ?_
  rintro e w4 ⟨rfl, hb4⟩
  have hbw4 := below_next hbw3 hb4
  have k4 := carryK k3' hb4
  go_wp2_with fail
  refine (level_no (chn f .id l) (dvs f .one l) _ (hC.carry hbw4) HZ.out).mono ?_
  rintro e w5 ⟨rfl, hb5⟩
  have hbw5 := below_next hbw4 hb5
  have k5 := carryK k4 hb5
  have c5 := k5.cell
  have f5 := k5.frozen
  go_wp2_with fail
  have kX := blk2 (u0 := .int .i64 0) (u1 := .int .i64 0) k5
  have hX := below2 (u0 := .int .i64 0) (u1 := .int .i64 0) hbw5 (Nat.le_refl w.heap.size)
  have cX := kX.cell
  clear c5 f5
  refine bodyPost_ret (v := .tuple #[.agg #[.int .i64 0, .int .i64 0], .int .i64 17]) (by simp [results, Tryz.results119, go_sem, cX]) rfl ?_
  exact ⟨rfl, hX⟩
set_option maxHeartbeats 1000000 in
theorem Level_no (l : List El) (f : Int) (A : Option Addr) (m c : Nat) (w : World) (hC : Con w) (he : atErr l f = 0) (hm : m ≤ 1000000000000) (hR : Reads w w.heap.size 3 A m (els l)) (hz : (chn f .id l).a = .zero) :
    Calls Tryz.prog 50 #[.slice A m c, .int .i64 f] w fun e w' => e = .returned (.tuple #[.agg #[.int .i64 0, .int .i64 0], .int .i64 17]) ∧ Below w.heap.size w w' := by
  go_enter Tryz.func50, Tryz.ntmps50
  go_wp2_with fail
  obtain ⟨w1, e1, hb1, hz1, k0⟩ := box1 w #[.int .i64 0, .int .i64 0] 54
  rw [← e1]; clear e1
  refine (ofLevel_no l f A m c _ (hC.carry hb1) he hm (carry hR hb1) hz).mono ?_
  rintro e w2 ⟨rfl, hb2⟩
  have hbw2 := below_next hb1 hb2
  have k5 := carryK k0 hb2
  have HZ := hide hz
  clear hz
  have c5 := k5.cell
  have f5 := k5.frozen
  go_wp2_with fail
  have kX := blk2 (u0 := .int .i64 0) (u1 := .int .i64 0) k5
  have hX := below2 (u0 := .int .i64 0) (u1 := .int .i64 0) hbw2 (Nat.le_refl w.heap.size)
  have cX := kX.cell
  clear c5 f5
  refine bodyPost_ret (v := .tuple #[.agg #[.int .i64 0, .int .i64 0], .int .i64 17]) (by simp [results, Tryz.results50, go_sem, cX]) rfl ?_
  exact ⟨rfl, hX⟩
end Go.Proofs.YtnndaipnfniciaaGreatDoor

namespace Go.Proofs.YtnndaipnfniciaaGreatDoor
open Go.RowKit Go.Shelf
set_option maxRecDepth 100000
def rtCells (x : Rt) : List Value := [.int .i64 x.n, .int .i64 x.d]
def rts (l : List Rt) : List Value := l.flatMap rtCells
theorem rts_len (l : List Rt) : (rts l).length = l.length * 2 := by
  induction l with
  | nil => rfl
  | cons s l ih => simp only [rts, List.flatMap_cons, List.length_append, List.length_cons] at *; rw [ih]; simp [rtCells]; omega
theorem rts_snoc (l : List Rt) (s : Rt) : rts (l ++ [s]) = rts l ++ rtCells s := by simp [rts]
theorem rts_at {l : List Rt} {k j : Nat} {s : Rt} (h : l[k]? = some s) (hj : j < 2) : (rts l)[k * 2 + j]? = (rtCells s)[j]? := by
  induction l generalizing k with
  | nil => simp at h
  | cons a l ih =>
    show (rtCells a ++ rts l)[k * 2 + j]? = _
    cases k with
    | zero =>
      simp at h
      subst h
      rw [List.getElem?_append_left (by simp [rtCells]; omega)]
      congr 1; omega
    | succ k =>
      rw [List.getElem?_append_right (by simp [rtCells]; omega)]
      rw [← ih (k := k) (by simpa using h)]
      congr 1
      simp [rtCells]; omega
theorem one_rt (s : Rt) : ∀ u ∈ rtCells s, u.oneCell' = true := by intro u hu; simp [rtCells] at hu; rcases hu with rfl | rfl <;> rfl
theorem one_rts (l : List Rt) : ∀ u ∈ rts l, u.oneCell' = true := by
  intro u hu
  simp only [rts, List.mem_flatMap] at hu
  obtain ⟨x, _, hx⟩ := hu
  exact one_rt x u hx
theorem rts_reads_len {w : World} {B n : Nat} {A : Option Addr} {l : List Rt} (h : Reads w B 2 A n (rts l)) : l.length = n := by
  have := h.1
  rw [rts_len] at this
  omega
/-- A quotient of a list in memory. -/
theorem rts_hit {w : World} {B n k : Nat} {A : Option Addr} {l : List Rt} (h : Reads w B 2 A n (rts l)) (hk : k < n) (hB : B ≤ w.heap.size) :
    ∃ ad s, A = some ad ∧ ad.block < B ∧ l[k]? = some s ∧ ∀ W, Below w.heap.size w W → W.cell? (ad.add (k * 2)) = some (.int .i64 s.n) ∧ W.cell? ⟨(ad.add (k * 2)).block, (ad.add (k * 2)).off + 1, none⟩ = some (.int .i64 s.d) := by
  obtain ⟨ad, h1, h2, h3⟩ := h.2 (by omega)
  have hl := rts_reads_len h
  have hs : l[k]? = some (l[k]'(by omega)) := List.getElem?_eq_getElem (by omega)
  refine ⟨ad, _, h1, h2, hs, fun W hW => ?_⟩
  have go : ∀ j v, j < 2 → (rtCells (l[k]'(by omega)))[j]? = some v → W.cell? (ad.add (k * 2 + j)) = some v := fun j v hj hv => (hW.cell (p := ad.add (k * 2 + j)) (by rw [block_of_add]; omega)).trans (h3 _ _ ((rts_at hs hj).trans hv))
  have go' : ∀ j v, j < 2 → 1 ≤ j → (rtCells (l[k]'(by omega)))[j]? = some v → W.cell? ⟨(ad.add (k * 2)).block, (ad.add (k * 2)).off + j, none⟩ = some v := fun j v hj h1 hv => by rw [add_off _ _ h1, add_of_add]; exact go j v hj hv
  exact ⟨go 0 _ (by omega) rfl, go' 1 _ (by omega) (by omega) rfl⟩
theorem info_rt : (Tryz.prog.info? 54).map (fun i => (i.zero, i.size, i.bytes)) = some (some (.agg #[.int .i64 0, .int .i64 0]), 2, 16) := by kernel_rfl
/-- What levels returns. -/
def LvPost (l : List El) (a : Int) (n : Nat) (w : World) (e : Ending) (w' : World) : Prop :=
  Below w.heap.size w w' ∧ ((noPole l a n ∧ ∃ A c, e = .returned (.tuple #[.slice A n c, .int .i64 0]) ∧ Reads w' w'.heap.size 2 A n (rts (tab l a n))) ∨ (¬ noPole l a n ∧ e = .returned (.tuple #[.slice none 0 0, .int .i64 17])))
theorem tab_form (l : List El) (a b : Int) : tabErr l a b = fnz [ladErr l, rng a 1 8, rng b 1 8, if decide (b < a) = true then 11 else 0] := by unfold tabErr; simp
set_option maxHeartbeats 1000000 in
theorem levels_bad (l : List El) (a b : Int) (A : Option Addr) (m c : Nat) (w : World) (he : ¬ tabErr l a b = 0) (hm : m ≤ 1000000000000) (hR : Reads w w.heap.size 3 A m (els l)) :
    Calls Tryz.prog 103 #[.slice A m c, .int .i64 a, .int .i64 b] w fun e w' => e = .returned (.tuple #[.slice none 0 0, .int .i64 (tabErr l a b)]) ∧ Below w.heap.size w w' := by
  rw [tab_form] at he ⊢
  by_cases hlt : b < a
  · rw [decide_eq_true hlt] at he ⊢
    have t1 : (fnz [ladErr l, rng a 1 8, rng b 1 8, 11] != 0) = true := by simpa using he
    clear he
    go_enter Tryz.func103, Tryz.ntmps103
    go_wp2_with fail
    refine (checkLadder_any A m c l _ hR hm).mono ?_
    rintro e w2 ⟨rfl, hb2⟩
    go_upto_region 2 with (first | (go_at_call 89; refine (checkW_any _ _).mono ?_; rintro e W' ⟨rfl, rfl⟩) | (go_at_call 84; refine (when_any _ _ _).mono ?_; rintro e W' ⟨rfl, rfl⟩) | (go_at_call 82; (first | (with_reducible (refine (first_any _ _ _ _ _ _ (reads4 _ _ _ _ _ _) (by omega)).mono ?_)) | (with_reducible (refine (first_any _ _ _ _ _ _ (Reads.drew (reads4 _ _ _ _ _ _)) (by omega)).mono ?_))); rintro e W' ⟨rfl, rfl⟩))
    obtain ⟨w3, e3, hb3, hz3, k3⟩ := box1 w2 #[.int .i64 (ladErr l), .int .i64 (rng a 1 8), .int .i64 (rng b 1 8), .int .i64 11] 29
    rw [← e3]; clear e3 k3
    have hbw3 := below_next hb2 hb3
    go_wp2_with fail
    go_ret2
    exact ⟨rfl, hbw3⟩
  · rw [decide_eq_false hlt] at he ⊢
    have t1 : (fnz [ladErr l, rng a 1 8, rng b 1 8, 0] != 0) = true := by simpa using he
    clear he
    go_enter Tryz.func103, Tryz.ntmps103
    go_wp2_with fail
    refine (checkLadder_any A m c l _ hR hm).mono ?_
    rintro e w2 ⟨rfl, hb2⟩
    go_upto_region 2 with (first | (go_at_call 89; refine (checkW_any _ _).mono ?_; rintro e W' ⟨rfl, rfl⟩) | (go_at_call 84; refine (when_any _ _ _).mono ?_; rintro e W' ⟨rfl, rfl⟩) | (go_at_call 82; (first | (with_reducible (refine (first_any _ _ _ _ _ _ (reads4 _ _ _ _ _ _) (by omega)).mono ?_)) | (with_reducible (refine (first_any _ _ _ _ _ _ (Reads.drew (reads4 _ _ _ _ _ _)) (by omega)).mono ?_))); rintro e W' ⟨rfl, rfl⟩))
    obtain ⟨w3, e3, hb3, hz3, k3⟩ := box1 w2 #[.int .i64 (ladErr l), .int .i64 (rng a 1 8), .int .i64 (rng b 1 8), .int .i64 0] 29
    rw [← e3]; clear e3 k3
    have hbw3 := below_next hb2 hb3
    go_wp2_with fail
    go_ret2
    exact ⟨rfl, hbw3⟩
set_option maxHeartbeats 4000000 in
theorem levels_ok (l : List El) (a b : Int) (A : Option Addr) (m c n : Nat) (w : World) (hC : Con w) (he : tabErr l a b = 0) (hn : (n : Int) = b - a + 1) (hm : m ≤ 1000000000000) (hR : Reads w w.heap.size 3 A m (els l)) :
    Calls Tryz.prog 103 #[.slice A m c, .int .i64 a, .int .i64 b] w (LvPost l a n w) := by
  obtain ⟨hl, ha, hb, hab⟩ := tab_zero he
  rw [tab_form] at he
  have hd : decide (b < a) = false := decide_eq_false (by omega)
  rw [hd] at he
  have t1 : (fnz [ladErr l, rng a 1 8, rng b 1 8, 0] != 0) = false := by simpa using he
  have HN := hide hn
  have n1 : (n : Int) ≤ b - a + 1 := by omega
  have n2 : b - a + 1 ≤ (n : Int) := by omega
  have HL := hide hl
  have hba : ¬ b < a := by omega
  clear he hn hl hd
  go_enter Tryz.func103, Tryz.ntmps103
  go_wp2_with fail
  refine (checkLadder_any A m c l _ hR hm).mono ?_
  rintro e w2 ⟨rfl, hb2⟩
  go_upto_region 2 with (first | (go_at_call 89; refine (checkW_any _ _).mono ?_; rintro e W' ⟨rfl, rfl⟩) | (go_at_call 84; refine (when_any _ _ _).mono ?_; rintro e W' ⟨rfl, rfl⟩) | (go_at_call 82; (first | (with_reducible (refine (first_any _ _ _ _ _ _ (reads4 _ _ _ _ _ _) (by omega)).mono ?_)) | (with_reducible (refine (first_any _ _ _ _ _ _ (Reads.drew (reads4 _ _ _ _ _ _)) (by omega)).mono ?_))); rintro e W' ⟨rfl, rfl⟩))
  obtain ⟨w3, e3, hb3, hz3, k3⟩ := box1 w2 #[.int .i64 (ladErr l), .int .i64 (rng a 1 8), .int .i64 (rng b 1 8), .int .i64 0] 29
  rw [← e3]; clear e3 k3
  have hbw3 := below_next hb2 hb3
  go_wp2_with fail
  go_loopw [9, 32] (fun v i wr => ∃ k : Nat, k ≤ n ∧ i = .int .i64 k ∧ wr.ownsRow w.heap.size 54 2 v k (rts (tab l a k)) ∧ noPole l a k ∧ Below w.heap.size w wr) (fun _ i _ => n - (intOf i).toNat)
  case atStart => exact ⟨0, by omega, rfl, World.ownsRow_nil _ _ _ _, fun i hi => by omega, hbw3⟩
  case round =>
    rename World => wo
    obtain ⟨k, hk, rfl, ho, hp, hbo⟩ := hrel
    have HP := hide hp
    clear hp hbw3
    by_cases hlt : k < n
    · have g1 : (k : Int) < b - a + 1 := by omega
      have HAT := hide (show atErr l (a + k) = 0 by unfold atErr; rw [fnz_zero]; simp only [List.mem_cons, List.not_mem_nil, or_false, forall_eq_or_imp, forall_eq]; exact ⟨HL.out, rng_zero.2 (by omega)⟩)
      have A1 : k + 1 ≤ maxLen := by unfold maxLen; omega
      have A2 : (k + 1) * 16 ≤ 140737488355328 := by omega
      by_cases hz : (chn (a + k) .id l).a = .zero
      · have HZ := hide hz
        clear hz
        go_wp2_with fail
        refine (Level_no l (a + k) A m c _ (hC.carry hbo) HAT.out hm (carry hR hbo) HZ.out).mono ?_
        rintro e w4 ⟨rfl, hb4⟩
        have hbw4 := below_next hbo hb4
        go_upto_region 9 with (fail)
        obtain ⟨w5, e5, hb5, hz5, k5⟩ := box1 w4 #[.int .i64 0, .int .i64 0] 54
        rw [← e5]; clear e5
        have hbw5 := below_next hbw4 hb5
        go_wp2_with fail
        go_ret2
        exact ⟨hbw5, .inr ⟨fun h => h k hlt HZ.out, rfl⟩⟩
      · have HZ := hide hz
        clear hz
        go_wp2_with fail
        refine (Level_ok l (a + k) A m c _ (hC.carry hbo) HAT.out hm (carry hR hbo) HZ.out).mono ?_
        rintro e w4 ⟨rfl, hb4⟩
        have hbw4 := below_next hbo hb4
        have ho4 := row_below ho hb4
        go_upto_region 9 with (fail)
        obtain ⟨w5, e5, hb5, hz5, k5⟩ := box1 w4 #[.int .i64 (lvR l (a + k)).n, .int .i64 (lvR l (a + k)).d] 54
        rw [← e5]; clear e5
        have hbw5 := below_next hbw4 hb5
        have ho5 := row_below ho4 hb5
        have c5 := k5.cell
        have hsz := hbw5.size
        clear ho ho4
        go_wp2_with (at_builtin; refine wpList_push _ rfl (.tmp 46) (.tmp 48) _ rfl w.heap.size 54 _ 2 16 Tryz.underlying57 info_rt rfl (by decide) _ k _ rfl (ho5.alloc _) w5.heap.size (rtCells (lvR l (a + k))) rfl rfl (cells_new _ _ _) (one_rt _) A1 A2 (le_alloc hsz _) ?_; intro v1 w6 ho6 hb6)
        rw [← rts_snoc, ← tab_snoc] at ho6
        have hbw6 := (hbw5.alloc hsz _).trans hb6
        clear ho5
        go_roundw
        case rel =>
          refine ⟨k + 1, by omega, by go_num, ho6, fun i hi => ?_, hbw6⟩
          by_cases hik : i = k
          · rw [hik]; exact HZ.out
          · exact HP.out i (by omega)
        case measure => simp [intOf]; omega
    · obtain rfl : k = n := by omega
      have g1 : ¬ (k : Int) < b - a + 1 := by omega
      go_wp2_with fail
      go_ret2
      obtain ⟨A', c', rfl, hr⟩ := own_slice ho
      exact ⟨hbo, .inl ⟨HP.out, A', c', rfl, hr⟩⟩
theorem Table_bad (l : List El) (a b : Int) (A : Option Addr) (m c : Nat) (w : World) (he : ¬ tabErr l a b = 0) (hm : m ≤ 1000000000000) (hR : Reads w w.heap.size 3 A m (els l)) :
    Calls Tryz.prog 29 #[.slice A m c, .int .i64 a, .int .i64 b] w fun e w' => e = .returned (.tuple #[.slice none 0 0, .int .i64 (tabErr l a b)]) ∧ Below w.heap.size w w' := by
  go_enter Tryz.func29, Tryz.ntmps29
  go_wp2_with fail
  refine (levels_bad l a b A m c _ he hm hR).mono ?_
  rintro e w2 ⟨rfl, hb2⟩
  go_wp2_with fail
  go_ret2
  exact ⟨rfl, hb2⟩
theorem Table_ok (l : List El) (a b : Int) (A : Option Addr) (m c n : Nat) (w : World) (hC : Con w) (he : tabErr l a b = 0) (hn : (n : Int) = b - a + 1) (hm : m ≤ 1000000000000) (hR : Reads w w.heap.size 3 A m (els l)) :
    Calls Tryz.prog 29 #[.slice A m c, .int .i64 a, .int .i64 b] w (LvPost l a n w) := by
  have HE := hide he
  have HN := hide hn
  clear he hn
  go_enter Tryz.func29, Tryz.ntmps29
  go_wp2_with fail
  refine (levels_ok l a b A m c n _ hC HE.out HN.out hm hR).mono ?_
  rintro e w2 ⟨hb2, ⟨hp, A', c', rfl, hr⟩ | ⟨hp, rfl⟩⟩
  · have HP := hide hp
    clear hp
    go_wp2_with fail
    go_ret2
    exact ⟨hb2, .inl ⟨HP.out, A', c', rfl, hr⟩⟩
  · have HP := hide hp
    clear hp
    go_wp2_with fail
    go_ret2
    exact ⟨hb2, .inr ⟨HP.out, rfl⟩⟩
end Go.Proofs.YtnndaipnfniciaaGreatDoor

namespace Go.Proofs.YtnndaipnfniciaaGreatDoor
open Go.RowKit Go.Shelf
set_option maxRecDepth 100000
/-- What stays of two quotients that are less or not. -/
structure LessAt (wr : World) (g : Nat) (a b : Rt) : Prop where
  ka : Blk wr g 54 #[.int .i64 a.n, .int .i64 a.d]
  kb : Blk wr (g + 1) 54 #[.int .i64 b.n, .int .i64 b.d]
structure Rt.In (a : Rt) : Prop where
  pos : a.Pos
  n : a.n ≤ 9223372036854775807
  d : a.d ≤ 9223372036854775807
theorem turn_in {a : Rt} (h : a.In) (h3 : ¬ a.n % a.d = 0) : (Rt.mk a.d (a.n % a.d)).In := by
  have h1 := h.pos.d
  have l1 := Int.emod_lt_of_pos a.n (show 0 < a.d by omega)
  have l2 := h.d
  exact ⟨turn_pos h.pos h3, h.d, by simp only; omega⟩
theorem quo_in {a : Rt} (h : a.In) : 0 ≤ a.n / a.d ∧ a.n / a.d ≤ 9223372036854775807 := by
  have h1 := h.pos.d
  have h2 := h.pos.n
  have h3 := h.n
  exact ⟨Int.ediv_nonneg h2 (by omega), Int.le_trans (Int.ediv_le_self _ h2) h3⟩
theorem wq_in {a : Rt} (h : a.In) : wrap64 (a.n / a.d) = a.n / a.d := by
  have := quo_in h
  generalize a.n / a.d = q at this ⊢
  unfold wrap64; omega
set_option maxHeartbeats 4000000 in
theorem less_any (a b : Rt) (w : World) (ha : a.In) (hb : b.In) :
    Calls Tryz.prog 104 #[.agg #[.int .i64 a.n, .int .i64 a.d], .agg #[.int .i64 b.n, .int .i64 b.d]] w fun e w' => e = .returned (.bool (a.lt b)) ∧ Below w.heap.size w w' := by
  go_enter Tryz.func104, Tryz.ntmps104
  go_upto_region 1 with (fail)
  obtain ⟨w1, e1, hb1, hz1, k0, k1⟩ := box2 w #[.int .i64 a.n, .int .i64 a.d] #[.int .i64 b.n, .int .i64 b.d] 54 54
  rw [← e1]; clear e1
  go_loopg [] (a.d + b.d).toNat (fun g wr => ∃ p q : Rt, g = (p.d + q.d).toNat ∧ p.In ∧ q.In ∧ p.lt q = a.lt b ∧ LessAt wr w.heap.size p q ∧ Below w.heap.size w wr)
  case atStart => exact ⟨a, b, rfl, ha, hb, rfl, ⟨k0, k1⟩, hb1⟩
  case round =>
    rename World => wo
    obtain ⟨p, q, hg, hp, hq, hlt, hk, hbo⟩ := hrel
    clear k0 k1 hb1
    have kA := hk.ka
    have kB := hk.kb
    have HG := hide hg
    have HLT := hide hlt
    have bp := quo_in hp
    have bq := quo_in hq
    have wp := wq_in hp
    have wq := wq_in hq
    have dp := hp.pos.d
    have dq := hq.pos.d
    have np0 := hp.pos.n
    have nq0 := hq.pos.n
    have dp2 := hp.d
    have dq2 := hq.d
    have np2 := hp.n
    have nq2 := hq.n
    have c0 := kA.cell
    have c1 := kB.cell
    clear hg hlt hk
    have mp := Int.emod_nonneg p.n (show p.d ≠ 0 by omega)
    have mq := Int.emod_nonneg q.n (show q.d ≠ 0 by omega)
    have lp := Int.emod_lt_of_pos p.n (show 0 < p.d by omega)
    have lq := Int.emod_lt_of_pos q.n (show 0 < q.d by omega)
    by_cases hw : p.n / p.d = q.n / q.d
    · have t0 : (p.n / p.d != q.n / q.d) = false := by simpa using hw
      by_cases h1 : q.n % q.d = 0
      · have HL := hide (lt_same0 hp.pos hq.pos hw h1)
        have t1 : (q.n % q.d == 0) = true := by simpa using h1
        clear hw h1 mp mq lp lq
        go_upto_region 1 with (fail)
        go_quiet (fail)
        have hbD : Below wo.heap.size wo (wo.drewN nq) := below_drewN (Below.refl _ _) _
        generalize wo.drewN nq = wd at hbD ⊢
        have kA2 := carryK kA hbD
        have kB2 := carryK kB hbD
        clear c0 c1
        go_upto_region 2 with (fail)
        have c0 := kA2.cell
        have c1 := kB2.cell
        have f0 := kA2.frozen
        have f1 := kB2.frozen
        go_region
        have kA4 : Blk _ w.heap.size 54 #[.int .i64 (p.n % p.d), .int .i64 p.d] := ((kA2.set_ 0 (.int .i64 (p.n % p.d))).far (p := ⟨w.heap.size + 1, 0, none⟩) (by simp) (.int .i64 (q.n % q.d))).drew
        have kB4 : Blk _ (w.heap.size + 1) 54 #[.int .i64 (q.n % q.d), .int .i64 q.d] := ((kB2.far (p := ⟨w.heap.size, 0, none⟩) (by simp) (.int .i64 (p.n % p.d))).set_ 0 (.int .i64 (q.n % q.d))).drew
        have hb4 := (below_set (i := 0) (below_set (i := 0) (below_next hbo hbD) (Nat.le_refl w.heap.size) (.int .i64 (p.n % p.d))) (Nat.le_add_right w.heap.size 1) (.int .i64 (q.n % q.d))).drew
        clear c0 c1 f0 f1 kA kB kA2 kB2 hbD hbo
        generalize ((wd.setCell ⟨w.heap.size, 0, none⟩ (.int .i64 (p.n % p.d))).setCell ⟨w.heap.size + 1, 0, none⟩ (.int .i64 (q.n % q.d))).drew = Z at kA4 kB4 hb4 ⊢
        have c0 := kA4.cell
        have c1 := kB4.cell
        go_wp2_with fail
        go_ret
        exact ⟨by rw [← HLT.out, HL.out]; rfl, hb4⟩
      · have t1 : (q.n % q.d == 0) = false := by simpa using h1
        by_cases h2 : p.n % p.d = 0
        · have HL := hide (lt_same1 hp.pos hq.pos hw h2 h1)
          have t2 : (p.n % p.d == 0) = true := by simpa using h2
          clear hw h1 h2 mp mq lp lq
          go_upto_region 1 with (fail)
          go_quiet (fail)
          have hbD : Below wo.heap.size wo (wo.drewN nq) := below_drewN (Below.refl _ _) _
          generalize wo.drewN nq = wd at hbD ⊢
          have kA2 := carryK kA hbD
          have kB2 := carryK kB hbD
          clear c0 c1
          go_upto_region 2 with (fail)
          have c0 := kA2.cell
          have c1 := kB2.cell
          have f0 := kA2.frozen
          have f1 := kB2.frozen
          go_region
          have kA4 : Blk _ w.heap.size 54 #[.int .i64 (p.n % p.d), .int .i64 p.d] := ((kA2.set_ 0 (.int .i64 (p.n % p.d))).far (p := ⟨w.heap.size + 1, 0, none⟩) (by simp) (.int .i64 (q.n % q.d))).drew
          have kB4 : Blk _ (w.heap.size + 1) 54 #[.int .i64 (q.n % q.d), .int .i64 q.d] := ((kB2.far (p := ⟨w.heap.size, 0, none⟩) (by simp) (.int .i64 (p.n % p.d))).set_ 0 (.int .i64 (q.n % q.d))).drew
          have hb4 := (below_set (i := 0) (below_set (i := 0) (below_next hbo hbD) (Nat.le_refl w.heap.size) (.int .i64 (p.n % p.d))) (Nat.le_add_right w.heap.size 1) (.int .i64 (q.n % q.d))).drew
          clear c0 c1 f0 f1 kA kB kA2 kB2 hbD hbo
          generalize ((wd.setCell ⟨w.heap.size, 0, none⟩ (.int .i64 (p.n % p.d))).setCell ⟨w.heap.size + 1, 0, none⟩ (.int .i64 (q.n % q.d))).drew = Z at kA4 kB4 hb4 ⊢
          have c0 := kA4.cell
          have c1 := kB4.cell
          go_wp2_with fail
          go_ret
          exact ⟨by rw [← HLT.out, HL.out]; rfl, hb4⟩
        · have HL := hide (lt_same2 hw)
          have t2 : (p.n % p.d == 0) = false := by simpa using h2
          have i1 := turn_in hp h2
          have i2 := turn_in hq h1
          have I1 := hide i1
          have I2 := hide i2
          have LP := hide (And.intro mp lp)
          have LQ := hide (And.intro mq lq)
          clear hw h1 h2 i1 i2 mp mq lp lq
          go_upto_region 1 with (fail)
          go_quiet (fail)
          have hbD : Below wo.heap.size wo (wo.drewN nq) := below_drewN (Below.refl _ _) _
          generalize wo.drewN nq = wd at hbD ⊢
          have kA2 := carryK kA hbD
          have kB2 := carryK kB hbD
          clear c0 c1
          go_upto_region 2 with (fail)
          have c0 := kA2.cell
          have c1 := kB2.cell
          have f0 := kA2.frozen
          have f1 := kB2.frozen
          go_region
          have kA4 : Blk _ w.heap.size 54 #[.int .i64 (p.n % p.d), .int .i64 p.d] := ((kA2.set_ 0 (.int .i64 (p.n % p.d))).far (p := ⟨w.heap.size + 1, 0, none⟩) (by simp) (.int .i64 (q.n % q.d))).drew
          have kB4 : Blk _ (w.heap.size + 1) 54 #[.int .i64 (q.n % q.d), .int .i64 q.d] := ((kB2.far (p := ⟨w.heap.size, 0, none⟩) (by simp) (.int .i64 (p.n % p.d))).set_ 0 (.int .i64 (q.n % q.d))).drew
          have hb4 := (below_set (i := 0) (below_set (i := 0) (below_next hbo hbD) (Nat.le_refl w.heap.size) (.int .i64 (p.n % p.d))) (Nat.le_add_right w.heap.size 1) (.int .i64 (q.n % q.d))).drew
          clear c0 c1 f0 f1 kA kB kA2 kB2 hbD hbo
          generalize ((wd.setCell ⟨w.heap.size, 0, none⟩ (.int .i64 (p.n % p.d))).setCell ⟨w.heap.size + 1, 0, none⟩ (.int .i64 (q.n % q.d))).drew = Z at kA4 kB4 hb4 ⊢
          have c0 := kA4.cell
          have c1 := kB4.cell
          have f0 := kA4.frozen
          have f1 := kB4.frozen
          go_wp2_with fail
          have kA5 := far2 (u0 := .int .i64 p.d) (u1 := .int .i64 (p.n % p.d)) (blk2 (u0 := .int .i64 q.d) (u1 := .int .i64 (q.n % q.d)) kA4) (show w.heap.size ≠ w.heap.size + 1 by omega)
          have kB5 := blk2 (u0 := .int .i64 p.d) (u1 := .int .i64 (p.n % p.d)) (far2 (u0 := .int .i64 q.d) (u1 := .int .i64 (q.n % q.d)) kB4 (show w.heap.size + 1 ≠ w.heap.size by omega))
          have hb5 := below2 (u0 := .int .i64 p.d) (u1 := .int .i64 (p.n % p.d)) (below2 (u0 := .int .i64 q.d) (u1 := .int .i64 (q.n % q.d)) hb4 (Nat.le_refl w.heap.size)) (Nat.le_add_right w.heap.size 1)
          go_roundg (q.n % q.d + p.n % p.d).toNat
          case measure => have := HG.out; have := LP.out; have := LQ.out; omega
          case rel => exact ⟨⟨q.d, q.n % q.d⟩, ⟨p.d, p.n % p.d⟩, rfl, I2.out, I1.out, by rw [← HLT.out, HL.out], ⟨kA5, kB5⟩, hb5⟩
    · have HL := hide (lt_whole hp.pos hq.pos hw)
      have t0 : (p.n / p.d != q.n / q.d) = true := by simpa using hw
      clear hw mp mq lp lq
      go_upto_region 1 with (fail)
      go_quiet (fail)
      have hbD : Below wo.heap.size wo (wo.drewN nq) := below_drewN (Below.refl _ _) _
      generalize wo.drewN nq = wd at hbD ⊢
      have kA2 := carryK kA hbD
      have kB2 := carryK kB hbD
      clear c0 c1
      go_upto_region 2 with (fail)
      have c0 := kA2.cell
      have c1 := kB2.cell
      have f0 := kA2.frozen
      have f1 := kB2.frozen
      go_region
      have kA4 : Blk _ w.heap.size 54 #[.int .i64 (p.n % p.d), .int .i64 p.d] := ((kA2.set_ 0 (.int .i64 (p.n % p.d))).far (p := ⟨w.heap.size + 1, 0, none⟩) (by simp) (.int .i64 (q.n % q.d))).drew
      have kB4 : Blk _ (w.heap.size + 1) 54 #[.int .i64 (q.n % q.d), .int .i64 q.d] := ((kB2.far (p := ⟨w.heap.size, 0, none⟩) (by simp) (.int .i64 (p.n % p.d))).set_ 0 (.int .i64 (q.n % q.d))).drew
      have hb4 := (below_set (i := 0) (below_set (i := 0) (below_next hbo hbD) (Nat.le_refl w.heap.size) (.int .i64 (p.n % p.d))) (Nat.le_add_right w.heap.size 1) (.int .i64 (q.n % q.d))).drew
      clear c0 c1 f0 f1 kA kB kA2 kB2 hbD hbo
      generalize ((wd.setCell ⟨w.heap.size, 0, none⟩ (.int .i64 (p.n % p.d))).setCell ⟨w.heap.size + 1, 0, none⟩ (.int .i64 (q.n % q.d))).drew = Z at kA4 kB4 hb4 ⊢
      have c0 := kA4.cell
      have c1 := kB4.cell
      go_wp2_with fail
      go_ret
      exact ⟨by rw [← HLT.out, HL.out]; rfl, hb4⟩
end Go.Proofs.YtnndaipnfniciaaGreatDoor

namespace Go.Proofs.YtnndaipnfniciaaGreatDoor
open Go.RowKit Go.Shelf
set_option maxRecDepth 100000
/-- In lowest terms, of any sign. -/
def lowI (n d : Int) : Rt := ⟨n.tdiv (Nat.gcd n.natAbs d.natAbs : Nat), d / (Nat.gcd n.natAbs d.natAbs : Nat)⟩
/-- The error of a ratio. -/
def ratErr (x : Rt) : Int := if fnz [rng x.n (-999999999) 999999999, rng x.d 1 999999999] = 0 then (if lowI x.n x.d = x then 0 else 1) else fnz [rng x.n (-999999999) 999999999, rng x.d 1 999999999]
theorem wtdiv (N p : Nat) (h : N ≤ 9223372036854775807) : wrap64 (-((N : Int) / (p : Int))) = -((N : Int) / (p : Int)) := by
  have h2 := Nat.le_trans (Nat.div_le_self N p) h
  rw [show (N : Int) / (p : Int) = ((N / p : Nat) : Int) from rfl]
  generalize N / p = m at h2 ⊢
  unfold wrap64; omega
theorem lowI_pos (N D : Nat) : lowI (N : Int) (D : Int) = ⟨(N : Int) / (Nat.gcd N D : Nat), (D : Int) / (Nat.gcd N D : Nat)⟩ := rfl
theorem lowI_neg (N D : Nat) : lowI (-(N : Int)) (D : Int) = ⟨-((N : Int) / (Nat.gcd N D : Nat)), (D : Int) / (Nat.gcd N D : Nat)⟩ := by
  unfold lowI
  rw [Int.natAbs_neg, Int.neg_tdiv]; rfl
set_option maxHeartbeats 2000000 in
theorem lowest_any (n d : Int) (w : World) (hd : 0 < d ∧ d ≤ 9223372036854775807) (hn : -9223372036854775807 ≤ n ∧ n ≤ 9223372036854775807) :
    Calls Tryz.prog 150 #[.int .i64 n, .int .i64 d] w fun e w' => e = .returned (.agg #[.int .i64 (lowI n d).n, .int .i64 (lowI n d).d]) ∧ Below w.heap.size w w' := by
  obtain ⟨D, rfl⟩ : ∃ D : Nat, d = D := ⟨d.toNat, by omega⟩
  have b2 : D ≤ 9223372036854775807 := by omega
  have b3 : 0 < D := by omega
  have b4 : ¬ (D : Int) < 0 := by omega
  by_cases hs : 0 ≤ n
  · obtain ⟨N, rfl⟩ : ∃ N : Nat, n = N := ⟨n.toNat, by omega⟩
    have b1 : N ≤ 9223372036854775807 := by omega
    have s1 : ¬ (N : Int) < -(N : Int) := by omega
    go_enter Tryz.func150, Tryz.ntmps150
    go_wp2_with fail
    obtain ⟨w1, ew, hb1, hz1, k0⟩ := box1 w #[.int .i64 0, .int .i64 0] 54
    rw [← ew]; clear ew
    go_loopw [5, 6] (fun a b wr => ∃ p q : Nat, a = .int .i64 p ∧ b = .int .i64 q ∧ Nat.gcd p q = Nat.gcd N D ∧ p ≤ 9223372036854775807 ∧ q ≤ 9223372036854775807 ∧ Blk wr w.heap.size 54 #[.int .i64 0, .int .i64 0] ∧ Below w.heap.size w wr) (fun _ b _ => (intOf b).toNat)
    case atStart => exact ⟨N, D, rfl, rfl, rfl, b1, b2, k0, hb1⟩
    case round =>
      rename World => wo
      obtain ⟨p, q, rfl, rfl, hg, hp, hq, kR, hb⟩ := hrel
      clear k0 hb1
      have HG := hide hg
      clear hg
      by_cases hq0 : q = 0
      · subst hq0
        have hpg : p = Nat.gcd N D := by rw [← HG.out, Nat.gcd_zero_right]
        have hpp : 0 < p := by rw [hpg]; exact Nat.gcd_pos_of_pos_right _ b3
        have HP := hide hpg
        clear hpg
        have hpz : ((p : Int) == 0) = false := by simp; omega
        have hp1 : 0 < (p : Int) := by omega
        have t0 : (((0 : Nat) : Int) != 0) = false := rfl
        have e1 := wdiv N p b1
        have e2 := wdiv D p b2
        go_upto_region 4 with (fail)
        refine wp_region_part 6 wo.heap.size (by kernel_rfl) (by kernel_rfl) ?_; simp only [List.take_succ_cons, List.take_zero, List.drop_succ_cons, List.drop_zero]; (repeat (first | go_big_quiet_step (fail) | quiet_step (fail))); refine wpQuiet_nil ?_; rintro W ⟨x, rfl⟩
        have hbY := over_below wo.heap.size wo x
        generalize over wo.heap.size wo x = Y at hbY ⊢
        have kY := carryK kR hbY
        have cR := kY.cell
        have fR := kY.frozen
        go_wp2_with fail
        have kX := blk2 (u0 := .int .i64 ((N : Int) / (p : Int))) (u1 := .int .i64 ((D : Int) / (p : Int))) kY
        have hX := below2 (u0 := .int .i64 ((N : Int) / (p : Int))) (u1 := .int .i64 ((D : Int) / (p : Int))) (below_next hb hbY) (Nat.le_refl w.heap.size)
        have cX := kX.cell
        clear cR fR
        rw [show lowI ((N : Int)) D = ⟨(N : Int) / (p : Int), (D : Int) / (p : Int)⟩ by rw [HP.out]; exact lowI_pos N D]
        refine bodyPost_ret (v := .agg #[.int .i64 ((N : Int) / (p : Int)), .int .i64 ((D : Int) / (p : Int))]) (by simp [results, Tryz.results150, go_sem, cX]) rfl ?_
        exact ⟨rfl, hX⟩
      · have t0 : ((q : Int) != 0) = true := by simp; omega
        have hq1 : 0 < (q : Int) := by omega
        have hlt := Nat.mod_lt p (Nat.pos_of_ne_zero hq0)
        have em : (p : Int) % (q : Int) = ((p % q : Nat) : Int) := rfl
        go_upto_region 3 with (fail)
        go_quiet (fail)
        go_wp2_with fail
        go_roundw
        case rel => exact ⟨q, p % q, rfl, by go_num, by rw [← HG.out]; exact gcd_step p q, hq, by omega, kR, below_drewN hb _⟩
        case measure => simp [intOf]; omega
  · obtain ⟨N, rfl⟩ : ∃ N : Nat, n = -(N : Int) := ⟨n.natAbs, by omega⟩
    have b1 : N ≤ 9223372036854775807 := by omega
    have s1 : -(N : Int) < (N : Int) := by omega
    go_enter Tryz.func150, Tryz.ntmps150
    go_wp2_with fail
    obtain ⟨w1, ew, hb1, hz1, k0⟩ := box1 w #[.int .i64 0, .int .i64 0] 54
    rw [← ew]; clear ew
    go_loopw [5, 6] (fun a b wr => ∃ p q : Nat, a = .int .i64 p ∧ b = .int .i64 q ∧ Nat.gcd p q = Nat.gcd N D ∧ p ≤ 9223372036854775807 ∧ q ≤ 9223372036854775807 ∧ Blk wr w.heap.size 54 #[.int .i64 0, .int .i64 0] ∧ Below w.heap.size w wr) (fun _ b _ => (intOf b).toNat)
    case atStart => exact ⟨N, D, rfl, rfl, rfl, b1, b2, k0, hb1⟩
    case round =>
      rename World => wo
      obtain ⟨p, q, rfl, rfl, hg, hp, hq, kR, hb⟩ := hrel
      clear k0 hb1
      have HG := hide hg
      clear hg
      by_cases hq0 : q = 0
      · subst hq0
        have hpg : p = Nat.gcd N D := by rw [← HG.out, Nat.gcd_zero_right]
        have hpp : 0 < p := by rw [hpg]; exact Nat.gcd_pos_of_pos_right _ b3
        have HP := hide hpg
        clear hpg
        have hpz : ((p : Int) == 0) = false := by simp; omega
        have hp1 : 0 < (p : Int) := by omega
        have t0 : (((0 : Nat) : Int) != 0) = false := rfl
        have e1 := wtdiv N p b1
        have e2 := wdiv D p b2
        go_upto_region 4 with (fail)
        refine wp_region_part 6 wo.heap.size (by kernel_rfl) (by kernel_rfl) ?_; simp only [List.take_succ_cons, List.take_zero, List.drop_succ_cons, List.drop_zero]; (repeat (first | go_big_quiet_step (fail) | quiet_step (fail))); refine wpQuiet_nil ?_; rintro W ⟨x, rfl⟩
        have hbY := over_below wo.heap.size wo x
        generalize over wo.heap.size wo x = Y at hbY ⊢
        have kY := carryK kR hbY
        have cR := kY.cell
        have fR := kY.frozen
        go_wp2_with fail
        have kX := blk2 (u0 := .int .i64 (-((N : Int) / (p : Int)))) (u1 := .int .i64 ((D : Int) / (p : Int))) kY
        have hX := below2 (u0 := .int .i64 (-((N : Int) / (p : Int)))) (u1 := .int .i64 ((D : Int) / (p : Int))) (below_next hb hbY) (Nat.le_refl w.heap.size)
        have cX := kX.cell
        clear cR fR
        rw [show lowI (-(N : Int)) D = ⟨-((N : Int) / (p : Int)), (D : Int) / (p : Int)⟩ by rw [HP.out]; exact lowI_neg N D]
        refine bodyPost_ret (v := .agg #[.int .i64 (-((N : Int) / (p : Int))), .int .i64 ((D : Int) / (p : Int))]) (by simp [results, Tryz.results150, go_sem, cX]) rfl ?_
        exact ⟨rfl, hX⟩
      · have t0 : ((q : Int) != 0) = true := by simp; omega
        have hq1 : 0 < (q : Int) := by omega
        have hlt := Nat.mod_lt p (Nat.pos_of_ne_zero hq0)
        have em : (p : Int) % (q : Int) = ((p % q : Nat) : Int) := rfl
        go_upto_region 3 with (fail)
        go_quiet (fail)
        go_wp2_with fail
        go_roundw
        case rel => exact ⟨q, p % q, rfl, by go_num, by rw [← HG.out]; exact gcd_step p q, hq, by omega, kR, below_drewN hb _⟩
        case measure => simp [intOf]; omega
set_option maxHeartbeats 2000000 in
theorem rLowest_any (n d : Int) (w : World) (hd : 0 < d ∧ d ≤ 9223372036854775807) (hn : -9223372036854775807 ≤ n ∧ n ≤ 9223372036854775807) :
    Calls Tryz.prog 75 #[.int .i64 n, .int .i64 d] w fun e w' => e = .returned (.agg #[.int .i64 (lowI n d).n, .int .i64 (lowI n d).d]) ∧ Below w.heap.size w w' := by
  obtain ⟨D, rfl⟩ : ∃ D : Nat, d = D := ⟨d.toNat, by omega⟩
  have b2 : D ≤ 9223372036854775807 := by omega
  have b3 : 0 < D := by omega
  have b4 : ¬ (D : Int) < 0 := by omega
  by_cases hs : 0 ≤ n
  · obtain ⟨N, rfl⟩ : ∃ N : Nat, n = N := ⟨n.toNat, by omega⟩
    have b1 : N ≤ 9223372036854775807 := by omega
    have s1 : ¬ (N : Int) < -(N : Int) := by omega
    go_enter Tryz.func75, Tryz.ntmps75
    go_wp2_with fail
    obtain ⟨w1, ew, hb1, hz1, k0⟩ := box1 w #[.int .i64 0, .int .i64 0] 54
    rw [← ew]; clear ew
    go_loopw [5, 6] (fun a b wr => ∃ p q : Nat, a = .int .i64 p ∧ b = .int .i64 q ∧ Nat.gcd p q = Nat.gcd N D ∧ p ≤ 9223372036854775807 ∧ q ≤ 9223372036854775807 ∧ Blk wr w.heap.size 54 #[.int .i64 0, .int .i64 0] ∧ Below w.heap.size w wr) (fun _ b _ => (intOf b).toNat)
    case atStart => exact ⟨N, D, rfl, rfl, rfl, b1, b2, k0, hb1⟩
    case round =>
      rename World => wo
      obtain ⟨p, q, rfl, rfl, hg, hp, hq, kR, hb⟩ := hrel
      clear k0 hb1
      have HG := hide hg
      clear hg
      by_cases hq0 : q = 0
      · subst hq0
        have hpg : p = Nat.gcd N D := by rw [← HG.out, Nat.gcd_zero_right]
        have hpp : 0 < p := by rw [hpg]; exact Nat.gcd_pos_of_pos_right _ b3
        have HP := hide hpg
        clear hpg
        have hpz : ((p : Int) == 0) = false := by simp; omega
        have hp1 : 0 < (p : Int) := by omega
        have t0 : (((0 : Nat) : Int) != 0) = false := rfl
        have e1 := wdiv N p b1
        have e2 := wdiv D p b2
        go_upto_region 6 with (fail)
        refine wp_region_part 6 wo.heap.size (by kernel_rfl) (by kernel_rfl) ?_; simp only [List.take_succ_cons, List.take_zero, List.drop_succ_cons, List.drop_zero]; (repeat (first | go_big_quiet_step (fail) | quiet_step (fail))); refine wpQuiet_nil ?_; rintro W ⟨x, rfl⟩
        have hbY := over_below wo.heap.size wo x
        generalize over wo.heap.size wo x = Y at hbY ⊢
        have kY := carryK kR hbY
        have cR := kY.cell
        have fR := kY.frozen
        go_wp2_with fail
        have kX := blk2 (u0 := .int .i64 ((N : Int) / (p : Int))) (u1 := .int .i64 ((D : Int) / (p : Int))) kY
        have hX := below2 (u0 := .int .i64 ((N : Int) / (p : Int))) (u1 := .int .i64 ((D : Int) / (p : Int))) (below_next hb hbY) (Nat.le_refl w.heap.size)
        have cX := kX.cell
        clear cR fR
        rw [show lowI ((N : Int)) D = ⟨(N : Int) / (p : Int), (D : Int) / (p : Int)⟩ by rw [HP.out]; exact lowI_pos N D]
        refine bodyPost_ret (v := .agg #[.int .i64 ((N : Int) / (p : Int)), .int .i64 ((D : Int) / (p : Int))]) (by simp [results, Tryz.results75, go_sem, cX]) rfl ?_
        exact ⟨rfl, hX⟩
      · have t0 : ((q : Int) != 0) = true := by simp; omega
        have hq1 : 0 < (q : Int) := by omega
        have hlt := Nat.mod_lt p (Nat.pos_of_ne_zero hq0)
        have em : (p : Int) % (q : Int) = ((p % q : Nat) : Int) := rfl
        go_upto_region 5 with (fail)
        go_quiet (fail)
        go_wp2_with fail
        go_roundw
        case rel => exact ⟨q, p % q, rfl, by go_num, by rw [← HG.out]; exact gcd_step p q, hq, by omega, kR, below_drewN hb _⟩
        case measure => simp [intOf]; omega
  · obtain ⟨N, rfl⟩ : ∃ N : Nat, n = -(N : Int) := ⟨n.natAbs, by omega⟩
    have b1 : N ≤ 9223372036854775807 := by omega
    have s1 : -(N : Int) < (N : Int) := by omega
    go_enter Tryz.func75, Tryz.ntmps75
    go_wp2_with fail
    obtain ⟨w1, ew, hb1, hz1, k0⟩ := box1 w #[.int .i64 0, .int .i64 0] 54
    rw [← ew]; clear ew
    go_loopw [5, 6] (fun a b wr => ∃ p q : Nat, a = .int .i64 p ∧ b = .int .i64 q ∧ Nat.gcd p q = Nat.gcd N D ∧ p ≤ 9223372036854775807 ∧ q ≤ 9223372036854775807 ∧ Blk wr w.heap.size 54 #[.int .i64 0, .int .i64 0] ∧ Below w.heap.size w wr) (fun _ b _ => (intOf b).toNat)
    case atStart => exact ⟨N, D, rfl, rfl, rfl, b1, b2, k0, hb1⟩
    case round =>
      rename World => wo
      obtain ⟨p, q, rfl, rfl, hg, hp, hq, kR, hb⟩ := hrel
      clear k0 hb1
      have HG := hide hg
      clear hg
      by_cases hq0 : q = 0
      · subst hq0
        have hpg : p = Nat.gcd N D := by rw [← HG.out, Nat.gcd_zero_right]
        have hpp : 0 < p := by rw [hpg]; exact Nat.gcd_pos_of_pos_right _ b3
        have HP := hide hpg
        clear hpg
        have hpz : ((p : Int) == 0) = false := by simp; omega
        have hp1 : 0 < (p : Int) := by omega
        have t0 : (((0 : Nat) : Int) != 0) = false := rfl
        have e1 := wtdiv N p b1
        have e2 := wdiv D p b2
        go_upto_region 6 with (fail)
        refine wp_region_part 6 wo.heap.size (by kernel_rfl) (by kernel_rfl) ?_; simp only [List.take_succ_cons, List.take_zero, List.drop_succ_cons, List.drop_zero]; (repeat (first | go_big_quiet_step (fail) | quiet_step (fail))); refine wpQuiet_nil ?_; rintro W ⟨x, rfl⟩
        have hbY := over_below wo.heap.size wo x
        generalize over wo.heap.size wo x = Y at hbY ⊢
        have kY := carryK kR hbY
        have cR := kY.cell
        have fR := kY.frozen
        go_wp2_with fail
        have kX := blk2 (u0 := .int .i64 (-((N : Int) / (p : Int)))) (u1 := .int .i64 ((D : Int) / (p : Int))) kY
        have hX := below2 (u0 := .int .i64 (-((N : Int) / (p : Int)))) (u1 := .int .i64 ((D : Int) / (p : Int))) (below_next hb hbY) (Nat.le_refl w.heap.size)
        have cX := kX.cell
        clear cR fR
        rw [show lowI (-(N : Int)) D = ⟨-((N : Int) / (p : Int)), (D : Int) / (p : Int)⟩ by rw [HP.out]; exact lowI_neg N D]
        refine bodyPost_ret (v := .agg #[.int .i64 (-((N : Int) / (p : Int))), .int .i64 ((D : Int) / (p : Int))]) (by simp [results, Tryz.results75, go_sem, cX]) rfl ?_
        exact ⟨rfl, hX⟩
      · have t0 : ((q : Int) != 0) = true := by simp; omega
        have hq1 : 0 < (q : Int) := by omega
        have hlt := Nat.mod_lt p (Nat.pos_of_ne_zero hq0)
        have em : (p : Int) % (q : Int) = ((p % q : Nat) : Int) := rfl
        go_upto_region 5 with (fail)
        go_quiet (fail)
        go_wp2_with fail
        go_roundw
        case rel => exact ⟨q, p % q, rfl, by go_num, by rw [← HG.out]; exact gcd_step p q, hq, by omega, kR, below_drewN hb _⟩
        case measure => simp [intOf]; omega
end Go.Proofs.YtnndaipnfniciaaGreatDoor

namespace Go.Proofs.YtnndaipnfniciaaGreatDoor
open Go.RowKit Go.Shelf
set_option maxRecDepth 100000
theorem eqRt (a b : Rt) (w : World) : (binOp .neq 54 (.agg #[.int .i64 a.n, .int .i64 a.d]) (.agg #[.int .i64 b.n, .int .i64 b.d])).run Tryz.prog w = .ok (.bool (!decide (a = b))) w := by
  have hd : decide (a = b) = (decide (a.n = b.n) && decide (a.d = b.d)) := by
    rw [Bool.eq_iff_iff]; simp only [decide_eq_true_eq, Bool.and_eq_true]
    exact ⟨fun h => by rw [h]; exact ⟨rfl, rfl⟩, fun h => by cases a; cases b; simp_all⟩
  have hh : (Op.equalIn 10000 54 (.agg #[.int .i64 a.n, .int .i64 a.d]) (.agg #[.int .i64 b.n, .int .i64 b.d])).run Tryz.prog w = .ok (decide (a = b)) w := by
    rw [hd, show (10000 : Nat) = 9999 + 1 from rfl, run_equalIn_struct w 9999 54 _ _ (by kernel_rfl) (by kernel_rfl)]
    by_cases h1 : a.n = b.n <;> by_cases h2 : a.d = b.d <;> simp [Program.fieldsOf, Tryz.underlying54, Op.eqFields, go_sem, run_equalIn_int _ _ _ _ _ _ _ Tryz.underlying3, h1, h2]
  simp only [binOp, Op.equal, Op.maxDepth]
  simp [hh, go_sem]
theorem rat_zero {x : Rt} (h : fnz [rng x.n (-999999999) 999999999, rng x.d 1 999999999] = 0) : (0 < x.d ∧ x.d ≤ 9223372036854775807) ∧ (-9223372036854775807 ≤ x.n ∧ x.n ≤ 9223372036854775807) := by
  rw [fnz_zero] at h
  simp only [List.mem_cons, List.not_mem_nil, or_false, forall_eq_or_imp, forall_eq] at h
  have h1 := rng_zero.1 h.1
  have h2 := rng_zero.1 h.2
  omega
theorem lFirst_any (A : Option Addr) (n c B : Nat) (xs : List Int) (w : World) (h : Reads w B 1 A n (ints xs)) (hn : n ≤ 1000000000000) :
    Calls Tryz.prog 147 #[.slice A n c] w fun r w' => r = .returned (.int .i64 (fnz xs)) ∧ w = w' := by
  have hl := reads_len h
  have HL := hide hl; clear hl
  go_enter Tryz.func147, Tryz.ntmps147
  go_wp2
  go_loop [7] (fun i => ∃ k : Nat, k ≤ n ∧ i = .int .i64 k ∧ zeros xs k) (fun i => n - (intOf i).toNat)
  case atStart => exact ⟨0, by omega, rfl, by intro y hy; simp at hy⟩
  case round =>
    obtain ⟨k, hk, rfl, hz⟩ := hrel
    by_cases hlt : k < n
    · obtain ⟨ad, x, rfl, _, hx, hc⟩ := reads_at h hlt
      have HX := hide hx; clear hx
      go_wp2
      · go_ret
        exact ⟨by simp; exact (fnz_hit HX.out hz ‹_›).symm, rfl⟩
      · go_round
        case rel => exact ⟨k + 1, by omega, by go_num, zeros_succ hz HX.out ‹_›⟩
        case measure => simp [intOf]; omega
    · go_wp2
      go_ret
      exact ⟨by simp; exact (zeros_end hz (by rw [HL.out]; omega)).symm, rfl⟩
set_option maxHeartbeats 2000000 in
theorem CheckRatio_any (x' : Rt) (w : World) :
    Calls Tryz.prog 105 #[.agg #[.int .i64 x'.n, .int .i64 x'.d]] w fun e w' => e = .returned (.int .i64 (ratErr x')) ∧ Below w.heap.size w w' := by
  go_enter Tryz.func105, Tryz.ntmps105
  go_upto_region 1 with (fail)
  obtain ⟨w1, e1, hb1, hz1, k0⟩ := box1 w #[.int .i64 x'.n, .int .i64 x'.d] 54
  rw [← e1]; clear e1
  have c0 := over_blk k0 k0.lt
  refine wp_region_part 6 w1.heap.size (by kernel_rfl) (by kernel_rfl) ?_; simp only [List.take_succ_cons, List.take_zero, List.drop_succ_cons, List.drop_zero]; (repeat (first | go_big_quiet_step ((go_at_call 148; exact over_same (within_si _ _ _ _))) | quiet_step ((go_at_call 148; exact over_same (within_si _ _ _ _))))); refine wpQuiet_nil ?_; rintro W ⟨x, rfl⟩
  have hbY := over_below w1.heap.size w1 x
  generalize over w1.heap.size w1 x = Y at hbY ⊢
  go_upto_region 2 with ((go_at_call 147; (first | (with_reducible (refine (lFirst_any _ _ _ _ _ _ (reads2 _ _ _ _) (by omega)).mono ?_)) | (with_reducible (refine (lFirst_any _ _ _ _ _ _ (Reads.drew (reads2 _ _ _ _)) (by omega)).mono ?_))); rintro e W' ⟨rfl, rfl⟩))
  obtain ⟨w3, e3, hb3, hz3, k3⟩ := box1 Y #[.int .i64 (rng x'.n (-999999999) 999999999), .int .i64 (rng x'.d 1 999999999)] 29
  rw [← e3]; clear e3 k3
  have hbw3 := below_next (below_next hb1 hbY) hb3
  have k3 := carryK (carryK k0 hbY) hb3
  clear c0
  by_cases h0 : fnz [rng x'.n (-999999999) 999999999, rng x'.d 1 999999999] = 0
  · have t0 : (fnz [rng x'.n (-999999999) 999999999, rng x'.d 1 999999999] != 0) = false := by rw [h0]; rfl
    have hin := rat_zero h0
    have hr : ratErr x' = if lowI x'.n x'.d = x' then 0 else 1 := by unfold ratErr; rw [if_pos h0]
    have HIN := hide hin
    have hq := eqRt (lowI x'.n x'.d) x'
    have c0 := over_blk k3 k3.lt
    clear h0 hin
    by_cases hl : lowI x'.n x'.d = x'
    · rw [if_pos hl] at hr
      rw [decide_eq_true hl] at hq
      have HR := hide hr
      clear hl hr
      go_upto_region 4 with (fail)
      refine wp_region_over w3.heap.size (by kernel_rfl) (by kernel_rfl) ?_; (repeat (first | go_big_quiet_step (first | (go_at_call 150; with_reducible exact over_call (Nat.le_refl _) (lowest_any x'.n x'.d _ HIN.out.1 HIN.out.2))| (go_at_call 149; with_reducible exact over_same (when_si _ _ _))) | quiet_step (first | (go_at_call 150; with_reducible exact over_call (Nat.le_refl _) (lowest_any x'.n x'.d _ HIN.out.1 HIN.out.2))| (go_at_call 149; with_reducible exact over_same (when_si _ _ _))))); refine wpQuiet_nil ?_; rintro W ⟨x, rfl⟩
      have hbZ := over_below w3.heap.size w3 x
      generalize over w3.heap.size w3 x = Z at hbZ ⊢
      go_wp2_with fail
      go_ret
      exact ⟨by rw [HR.out]; rfl, below_next hbw3 hbZ⟩
    · rw [if_neg hl] at hr
      rw [decide_eq_false hl] at hq
      have HR := hide hr
      clear hl hr
      go_upto_region 4 with (fail)
      refine wp_region_over w3.heap.size (by kernel_rfl) (by kernel_rfl) ?_; (repeat (first | go_big_quiet_step (first | (go_at_call 150; with_reducible exact over_call (Nat.le_refl _) (lowest_any x'.n x'.d _ HIN.out.1 HIN.out.2))| (go_at_call 149; with_reducible exact over_same (when_si _ _ _))) | quiet_step (first | (go_at_call 150; with_reducible exact over_call (Nat.le_refl _) (lowest_any x'.n x'.d _ HIN.out.1 HIN.out.2))| (go_at_call 149; with_reducible exact over_same (when_si _ _ _))))); refine wpQuiet_nil ?_; rintro W ⟨x, rfl⟩
      have hbZ := over_below w3.heap.size w3 x
      generalize over w3.heap.size w3 x = Z at hbZ ⊢
      go_wp2_with fail
      go_ret
      exact ⟨by rw [HR.out]; rfl, below_next hbw3 hbZ⟩
  · have t0 : (fnz [rng x'.n (-999999999) 999999999, rng x'.d 1 999999999] != 0) = true := by simpa using h0
    have hr : ratErr x' = fnz [rng x'.n (-999999999) 999999999, rng x'.d 1 999999999] := by unfold ratErr; rw [if_neg h0]
    have HR := hide hr
    clear h0 hr
    go_wp2_with fail
    go_ret
    exact ⟨by rw [HR.out]; rfl, hbw3⟩
set_option maxHeartbeats 2000000 in
theorem rCheckRatio_any (x' : Rt) (w : World) :
    Calls Tryz.prog 106 #[.agg #[.int .i64 x'.n, .int .i64 x'.d]] w fun e w' => e = .returned (.int .i64 (ratErr x')) ∧ Below w.heap.size w w' := by
  go_enter Tryz.func106, Tryz.ntmps106
  go_upto_region 1 with (fail)
  obtain ⟨w1, e1, hb1, hz1, k0⟩ := box1 w #[.int .i64 x'.n, .int .i64 x'.d] 54
  rw [← e1]; clear e1
  have c0 := over_blk k0 k0.lt
  refine wp_region_part 6 w1.heap.size (by kernel_rfl) (by kernel_rfl) ?_; simp only [List.take_succ_cons, List.take_zero, List.drop_succ_cons, List.drop_zero]; (repeat (first | go_big_quiet_step ((go_at_call 93; exact over_same (checkRange_any _ _ _ _))) | quiet_step ((go_at_call 93; exact over_same (checkRange_any _ _ _ _))))); refine wpQuiet_nil ?_; rintro W ⟨x, rfl⟩
  have hbY := over_below w1.heap.size w1 x
  generalize over w1.heap.size w1 x = Y at hbY ⊢
  go_upto_region 2 with ((go_at_call 18; (first | (with_reducible (refine (rFirst_any _ _ _ _ _ _ (reads2 _ _ _ _) (by omega)).mono ?_)) | (with_reducible (refine (rFirst_any _ _ _ _ _ _ (Reads.drew (reads2 _ _ _ _)) (by omega)).mono ?_))); rintro e W' ⟨rfl, rfl⟩))
  obtain ⟨w3, e3, hb3, hz3, k3⟩ := box1 Y #[.int .i64 (rng x'.n (-999999999) 999999999), .int .i64 (rng x'.d 1 999999999)] 3
  rw [← e3]; clear e3 k3
  have hbw3 := below_next (below_next hb1 hbY) hb3
  have k3 := carryK (carryK k0 hbY) hb3
  clear c0
  by_cases h0 : fnz [rng x'.n (-999999999) 999999999, rng x'.d 1 999999999] = 0
  · have t0 : (fnz [rng x'.n (-999999999) 999999999, rng x'.d 1 999999999] != 0) = false := by rw [h0]; rfl
    have hin := rat_zero h0
    have hr : ratErr x' = if lowI x'.n x'.d = x' then 0 else 1 := by unfold ratErr; rw [if_pos h0]
    have HIN := hide hin
    have hq := eqRt (lowI x'.n x'.d) x'
    have c0 := over_blk k3 k3.lt
    clear h0 hin
    by_cases hl : lowI x'.n x'.d = x'
    · rw [if_pos hl] at hr
      rw [decide_eq_true hl] at hq
      have HR := hide hr
      clear hl hr
      go_upto_region 4 with (fail)
      refine wp_region_over w3.heap.size (by kernel_rfl) (by kernel_rfl) ?_; (repeat (first | go_big_quiet_step (first | (go_at_call 75; with_reducible exact over_call (Nat.le_refl _) (rLowest_any x'.n x'.d _ HIN.out.1 HIN.out.2))) | quiet_step (first | (go_at_call 75; with_reducible exact over_call (Nat.le_refl _) (rLowest_any x'.n x'.d _ HIN.out.1 HIN.out.2))))); refine wpQuiet_nil ?_; rintro W ⟨x, rfl⟩
      have hbZ := over_below w3.heap.size w3 x
      generalize over w3.heap.size w3 x = Z at hbZ ⊢
      go_wp2_with fail
      go_ret
      exact ⟨by rw [HR.out]; rfl, below_next hbw3 hbZ⟩
    · rw [if_neg hl] at hr
      rw [decide_eq_false hl] at hq
      have HR := hide hr
      clear hl hr
      go_upto_region 4 with (fail)
      refine wp_region_over w3.heap.size (by kernel_rfl) (by kernel_rfl) ?_; (repeat (first | go_big_quiet_step (first | (go_at_call 75; with_reducible exact over_call (Nat.le_refl _) (rLowest_any x'.n x'.d _ HIN.out.1 HIN.out.2))) | quiet_step (first | (go_at_call 75; with_reducible exact over_call (Nat.le_refl _) (rLowest_any x'.n x'.d _ HIN.out.1 HIN.out.2))))); refine wpQuiet_nil ?_; rintro W ⟨x, rfl⟩
      have hbZ := over_below w3.heap.size w3 x
      generalize over w3.heap.size w3 x = Z at hbZ ⊢
      go_wp2_with fail
      go_ret
      exact ⟨by rw [HR.out]; rfl, below_next hbw3 hbZ⟩
  · have t0 : (fnz [rng x'.n (-999999999) 999999999, rng x'.d 1 999999999] != 0) = true := by simpa using h0
    have hr : ratErr x' = fnz [rng x'.n (-999999999) 999999999, rng x'.d 1 999999999] := by unfold ratErr; rw [if_neg h0]
    have HR := hide hr
    clear h0 hr
    go_wp2_with fail
    go_ret
    exact ⟨by rw [HR.out]; rfl, hbw3⟩
end Go.Proofs.YtnndaipnfniciaaGreatDoor
