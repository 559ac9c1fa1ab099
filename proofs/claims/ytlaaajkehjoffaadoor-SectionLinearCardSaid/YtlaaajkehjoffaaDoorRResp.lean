/- The reference's Response, and equality of pairs and ratios. -/
import Derived.Test.YtlaaajkehjoffaaDoorResp
import Derived.Test.YtlaaajkehjoffaaDoorCplx
import Derived.Test.YtlaaajkehjoffaaDoorSmallR
import Derived.Test.YtlaaajkehjoffaaDoorDelay
import Derived.Deep.DeepCutAuto
namespace Go.Proofs.YtlaaajkehjoffaaDoor
open Go.RowKit Go.Shelf
set_option maxRecDepth 100000

theorem eqlRatio (a b c d : Int) (w : World) : (binOp .eql 63 (.agg #[.int .i64 a, .int .i64 b]) (.agg #[.int .i64 c, .int .i64 d])).run Tryd.prog w = .ok (.bool (a == c && b == d)) w := by
  have hh : (Op.equalIn 10000 63 (.agg #[.int .i64 a, .int .i64 b]) (.agg #[.int .i64 c, .int .i64 d])).run Tryd.prog w = .ok (a == c && b == d) w := by
    rw [show (10000 : Nat) = 9999 + 1 from rfl, run_equalIn_struct w 9999 63 _ _ (by kernel_rfl) (by kernel_rfl)]
    simp [Program.fieldsOf, Tryd.underlying63, Op.eqFields, go_sem, run_equalIn_int _ _ _ _ _ _ _ Tryd.underlying3]
    by_cases h1 : a = c <;> by_cases h2 : b = d <;> simp [h1, h2, go_sem]
  simp only [binOp, Op.equal, Op.maxDepth]
  simp [hh, go_sem]
theorem pq_bd (q : Nat) : (-1 ≤ pRe q ∧ pRe q ≤ 1) ∧ (-1 ≤ pIm q ∧ pIm q ≤ 1) := by
  unfold pRe pIm
  have : q % 4 = 0 ∨ q % 4 = 1 ∨ q % 4 = 2 ∨ q % 4 = 3 := by omega
  rcases this with h | h | h | h <;> simp [h]
theorem mulp_bd {y p : Int} (h : -32768 ≤ y ∧ y ≤ 32768) (hp : -1 ≤ p ∧ p ≤ 1) : -32768 ≤ y * p ∧ y * p ≤ 32768 := by
  have : p = -1 ∨ p = 0 ∨ p = 1 := by omega
  rcases this with rfl | rfl | rfl <;> omega
theorem at_bd (q : Nat) {x y z : Int} (h1 : -32768 ≤ x ∧ x ≤ 32768) (h2 : -32768 ≤ y ∧ y ≤ 32768) (h3 : -32768 ≤ z ∧ z ≤ 32768) :
    (-1000000000 ≤ atRe q x y z ∧ atRe q x y z ≤ 1000000000) ∧ (-1000000000 ≤ atIm q x y z ∧ atIm q x y z ≤ 1000000000) := by
  unfold atRe atIm
  have a1 := mulp_bd h2 (pq_bd q).1
  have a2 := mulp_bd h3 (pq_bd (2 * q)).1
  have a3 := mulp_bd h2 (pq_bd q).2
  have a4 := mulp_bd h3 (pq_bd (2 * q)).2
  omega
theorem sq_zero (a b : Int) : (a * a + b * b == 0) = decide (a = 0 ∧ b = 0) := by
  have h1 := sq_nn a
  have h2 := sq_nn b
  by_cases ha : a = 0
  · by_cases hb : b = 0
    · simp [ha, hb]
    · have : b * b ≠ 0 := by simp [hb]
      simp [ha, hb]
  · have : a * a ≠ 0 := by simp [ha]
    simp [ha]; omega

theorem carryB {w w' : World} {g : Nat} {t : TypeId} {cs : Array Value} (h : Blk w g t cs) (hb : Below w.heap.size w w') : Blk w' g t cs := h.below hb h.lt

/-- What the last region of Response keeps. -/
def RspK (w : World) (g : Nat) (s : Sec) (dr di : Int) (W : World) : Prop := Below w.heap.size w W ∧ Blk W w.heap.size 23 #[.int .i64 s.b0, .int .i64 s.b1, .int .i64 s.b2, .int .i64 s.a1, .int .i64 s.a2, .int .i64 s.sh] ∧ Blk W g 57 #[.int .i64 dr, .int .i64 di]
set_option maxHeartbeats 4000000 in
theorem rResponse_any (s : Sec) (q : Int) (w : World) (hs : s.Ok) (hq : 0 ≤ q ∧ q ≤ 3) :
    Calls Tryd.prog 39 #[.agg #[.int .i64 s.b0, .int .i64 s.b1, .int .i64 s.b2, .int .i64 s.a1, .int .i64 s.a2, .int .i64 s.sh], .int .i64 q] w fun e w' => e = .returned (.tuple (if s.dRe q.toNat = 0 ∧ s.dIm q.toNat = 0 then #[.agg #[.int .i64 0, .int .i64 0, .int .i64 0, .int .i64 0], .int .i64 17] else #[.agg #[.int .i64 (s.nRe q.toNat), .int .i64 (s.nIm q.toNat), .int .i64 (s.dRe q.toNat), .int .i64 (s.dIm q.toNat)], .int .i64 0])) ∧ Below w.heap.size w w' := by
  have hu := unit_bd hs
  have v0 : -32768 ≤ s.b0 ∧ s.b0 ≤ 32768 := by have := hs.b0l; have := hs.b0h; omega
  have v1 : -32768 ≤ s.b1 ∧ s.b1 ≤ 32768 := by have := hs.b1l; have := hs.b1h; omega
  have v2 : -32768 ≤ s.b2 ∧ s.b2 ≤ 32768 := by have := hs.b2l; have := hs.b2h; omega
  have v3 : -32768 ≤ s.a1 ∧ s.a1 ≤ 32768 := by have := hs.a1l; have := hs.a1h; omega
  have v4 : -32768 ≤ s.a2 ∧ s.a2 ≤ 32768 := by have := hs.a2l; have := hs.a2h; omega
  have vu : -32768 ≤ s.unit ∧ s.unit ≤ 32768 := by omega
  have bd := at_bd q.toNat vu v3 v4
  have hz := sq_zero (s.dRe q.toNat) (s.dIm q.toNat)
  unfold Sec.dRe Sec.dIm Sec.nRe Sec.nIm at *
  obtain ⟨dr, edr⟩ : ∃ d, d = atRe q.toNat s.unit s.a1 s.a2 := ⟨_, rfl⟩
  obtain ⟨di, edi⟩ : ∃ d, d = atIm q.toNat s.unit s.a1 s.a2 := ⟨_, rfl⟩
  have hden := rAt_any q hq s.unit s.a1 s.a2
  rw [← edr, ← edi] at hden bd hz ⊢
  obtain ⟨V, hV⟩ : ∃ V, V = Value.tuple (if dr = 0 ∧ di = 0 then #[.agg #[.int .i64 0, .int .i64 0, .int .i64 0, .int .i64 0], .int .i64 17] else #[.agg #[.int .i64 (atRe q.toNat s.b0 s.b1 s.b2), .int .i64 (atIm q.toNat s.b0 s.b1 s.b2), .int .i64 dr, .int .i64 di], .int .i64 0]) := ⟨_, rfl⟩
  rw [← hV]
  have HV := hide hV; clear hV
  have HD := hide hden
  have HZ := hide hz
  clear hden hz hu edr edi
  go_enter Tryd.func39, Tryd.ntmps39
  go_wp2_with fail
  obtain ⟨w1, e1, hb1, hz1, k0, k1⟩ := box2 w #[.int .i64 s.b0, .int .i64 s.b1, .int .i64 s.b2, .int .i64 s.a1, .int .i64 s.a2, .int .i64 s.sh] #[.int .i64 0, .int .i64 0, .int .i64 0, .int .i64 0] 23 67
  rw [← e1]; clear e1
  have c0 : ∀ i W, Below w1.heap.size w1 W → W.cell? ⟨w.heap.size, i, none⟩ = (#[.int .i64 s.b0, .int .i64 s.b1, .int .i64 s.b2, .int .i64 s.a1, .int .i64 s.a2, .int .i64 s.sh] : Array Value)[i]? := fun i W h => (k0.below h k0.lt).cell i
  go_upto_region 1 with (fail)
  go_cut [6] (fun s6 wx => ∃ g : Nat, s6 = .pointer (some ⟨g, 0, none⟩) ∧ Below w1.heap.size w1 wx ∧ w1.heap.size ≤ g ∧ Blk wx g 57 #[.int .i64 dr, .int .i64 di])
  case first =>
    have hA1 := alloc_cel
    have hA2 := alloc_fro
    go_region_held3 (fun W => Below w1.heap.size w1 W) (first | exact (Below.refl _ _).drew | (with_reducible assumption) | exact below_new ‹Below w1.heap.size w1 _› (Nat.le_refl _) _ | (refine below_set (below_set (by assumption) (by omega) _) (by omega) _)) (first | (go_at_call 80; refine (rUnit_any s _ hs).mono ?_; rintro e Wu ⟨rfl, hbWu⟩; have hSu := below_step ‹Below w1.heap.size w1 _› hbWu (Below.size ‹Below w1.heap.size w1 _›); have hFu := below_fro hbWu; have hCu := below_cel hbWu; have hLu := below_lt hbWu; have hTu := below_le hbWu; have hKu := below_blk hbWu; have hzu := Below.size hSu; have hyu := Below.size hbWu; (try simp only [World.size_alloc, World.size_drew] at hyu); (try have hqu := Nat.lt_of_succ_le hyu)) | (go_at_call 82; refine (HD.out _ vu v3 v4).mono ?_; rintro e Wv ⟨rfl, hbWv⟩; have hSv := below_step ‹Below w1.heap.size w1 _› hbWv (Below.size ‹Below w1.heap.size w1 _›); have hFv := below_fro hbWv; have hCv := below_cel hbWv; have hLv := below_lt hbWv; have hTv := below_le hbWv; have hKv := below_blk hbWv; have hzv := Below.size hSv; have hyv := Below.size hbWv; (try simp only [World.size_alloc] at hyv); (try have hqv := Nat.lt_of_succ_le hyv); (try have hqw := Nat.lt_of_lt_of_le hqu hyv)))
    all_goals (first
      | (with_reducible refine fin1 (v := w1) (t := 57) (by with_reducible assumption) (fun X hX kX => ?_))
      | (with_reducible refine fin2 (B := w1.heap.size) (v := w1) (c0 := .int .i64 0) (c1 := .int .i64 0) 57 (by with_reducible assumption) (by omega) (by (repeat (first | exact Blk.newAt (by simp) | refine Blk.alloc ?_ _ | refine Blk.drew ?_ | refine (by with_reducible assumption : ∀ g t cs, Blk _ g t cs → Blk _ g t cs) _ _ _ ?_))) (fun X hX kX => ?_)))
    all_goals (go_wp2_with fail; go_meet; exact ⟨_, rfl, hX, by omega, kX⟩)
  case rest =>
    obtain ⟨g, rfl, hX, hg, kX⟩ := hcut
    rename World => X
    have kR := k1.below hX k1.lt
    have kS := k0.below hX k0.lt
    have bX := below_step hb1 hX hb1.size
    clear c0 hX HD
    have cX := kX.cell
    go_wp2_with fail
    refine (square_any dr di _ bd.1 bd.2).mono ?_
    rintro e Y ⟨rfl, hbY⟩
    have nX := carryB kX hbY
    have nR := carryB kR hbY
    have nS := carryB kS hbY
    have bY := below_step bX hbY bX.size
    clear cX kX kR kS bX hbY
    have fR := nR.frozen
    have cR := nR.cell
    have lR := nR.lt
    by_cases hd : dr = 0 ∧ di = 0
    · have t1 : (dr * dr + di * di == 0) = true := by rw [HZ.out]; simp [hd]
      have HDD := hide hd; clear hd
      go_wp2
      refine fin4 (B := w.heap.size) (v := w) 67 bY (by omega) nR (fun Z hZ kZ => ?_)
      have cZ := kZ.cell
      refine bodyPost_ret (v := .tuple #[.agg #[.int .i64 0, .int .i64 0, .int .i64 0, .int .i64 0], .int .i64 17]) (by simp [results, Tryd.results39, go_sem, cZ]) rfl ?_
      exact ⟨by rw [HV.out, if_pos HDD.out], hZ⟩
    · have t1 : (dr * dr + di * di == 0) = false := by rw [HZ.out]; simp [hd]
      have HDD := hide hd; clear hd
      clear cR fR
      have cR := nR.cell
      have fR := nR.frozen
      have hKp : ∀ W, RspK w g s dr di W ↔ (Below w.heap.size w W ∧ Blk W w.heap.size 23 #[.int .i64 s.b0, .int .i64 s.b1, .int .i64 s.b2, .int .i64 s.a1, .int .i64 s.a2, .int .i64 s.sh] ∧ Blk W g 57 #[.int .i64 dr, .int .i64 di]) := fun _ => Iff.rfl
      have c0 : ∀ i W, RspK w g s dr di W → W.cell? ⟨w.heap.size, i, none⟩ = (#[.int .i64 s.b0, .int .i64 s.b1, .int .i64 s.b2, .int .i64 s.a1, .int .i64 s.a2, .int .i64 s.sh] : Array Value)[i]? := fun i W h => ((hKp W).1 h).2.1.cell i
      have c1 : ∀ i W, RspK w g s dr di W → W.cell? ⟨g, i, none⟩ = (#[.int .i64 dr, .int .i64 di] : Array Value)[i]? := fun i W h => ((hKp W).1 h).2.2.cell i
      have hk0 : RspK w g s dr di Y.drew := (hKp _).2 ⟨bY.drew, nS, nX⟩
      have hk00 : RspK w g s dr di Y := (hKp _).2 ⟨bY, nS, nX⟩
      have hkw : ∀ W W', RspK w g s dr di W → Below W.heap.size W W' → RspK w g s dr di W' := fun W W' h hb => (hKp _).2 ⟨below_step ((hKp W).1 h).1 hb ((hKp W).1 h).1.size, carryB ((hKp W).1 h).2.1 hb, carryB ((hKp W).1 h).2.2 hb⟩
      have hk4 : ∀ W u0 u1 u2 u3, RspK w g s dr di W → RspK w g s dr di ((((W.setCell ⟨w.heap.size + 1, 0, none⟩ u0).setCell ⟨w.heap.size + 1, 1, none⟩ u1).setCell ⟨w.heap.size + 1, 2, none⟩ u2).setCell ⟨w.heap.size + 1, 3, none⟩ u3) := fun W u0 u1 u2 u3 h => (hKp _).2 (by
        obtain ⟨h1, h2, h3⟩ := (hKp W).1 h
        have n1 : w.heap.size ≠ w.heap.size + 1 := by omega
        have n2 : g ≠ w.heap.size + 1 := by omega
        refine ⟨below_set (below_set (below_set (below_set h1 (by omega) _) (by omega) _) (by omega) _) (by omega) _, ?_, ?_⟩
        · exact (((h2.far (p := ⟨w.heap.size + 1, 0, none⟩) n1 u0).far (p := ⟨w.heap.size + 1, 1, none⟩) n1 u1).far (p := ⟨w.heap.size + 1, 2, none⟩) n1 u2).far (p := ⟨w.heap.size + 1, 3, none⟩) n1 u3
        · exact (((h3.far (p := ⟨w.heap.size + 1, 0, none⟩) n2 u0).far (p := ⟨w.heap.size + 1, 1, none⟩) n2 u1).far (p := ⟨w.heap.size + 1, 2, none⟩) n2 u2).far (p := ⟨w.heap.size + 1, 3, none⟩) n2 u3)
      have HKP := hide hKp
      have HKW := hide hkw
      have HK4 := hide hk4
      clear hKp hkw hk4
      go_wp2
      go_region_held3 (fun W => RspK w g s dr di W) (first | exact hk0 | (with_reducible assumption) | exact HK4.out _ _ _ _ _ ‹RspK w g s dr di _›) (first | (go_at_call 82; refine (rAt_any q hq _ _ _ _ v0 v1 v2).mono ?_; rintro e W5 ⟨rfl, hbW⟩; have oR := (Blk.drew nR).below hbW (Blk.drew nR).lt; have hKS := HKW.out _ _ hk0 hbW; have cR5 := oR.cell; have fR5 := oR.frozen; have hS := below_step bY.drew hbW bY.drew.size))
      all_goals (
        refine fin4 (B := w.heap.size) (v := w) 67 hS (by omega) oR (fun Z hZ kZ => ?_)
        have cZ := kZ.cell
        go_wp2
        refine bodyPost_ret (v := .tuple #[.agg #[.int .i64 (atRe q.toNat s.b0 s.b1 s.b2), .int .i64 (atIm q.toNat s.b0 s.b1 s.b2), .int .i64 dr, .int .i64 di], .int .i64 0]) (by simp [results, Tryd.results39, go_sem, cZ]) rfl ?_
        exact ⟨by rw [HV.out, if_neg HDD.out], hZ⟩)
end Go.Proofs.YtlaaajkehjoffaaDoor
