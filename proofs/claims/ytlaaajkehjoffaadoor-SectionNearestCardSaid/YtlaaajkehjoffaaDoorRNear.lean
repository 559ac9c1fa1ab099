/- Nearest of the reference; the plain words of Nearest. -/
import Derived.Test.YtlaaajkehjoffaaDoorNear
namespace Go.Proofs.YtlaaajkehjoffaaDoor
open Go.RowKit Go.Shelf
set_option maxRecDepth 100000

/-! ### Nearest -/
/-- The nearest section among the first k, or -1. -/
def bestD (l : List Sec) (s : Sec) (j : Int) : Int := match l[j.toNat]? with | some y => dist y s | none => 0
def nbest (l : List Sec) (s : Sec) : Nat → Int
  | 0 => -1
  | k + 1 => match l[k]? with
    | none => nbest l s k
    | some x => if x.sh = s.sh ∧ (nbest l s k < 0 ∨ dist x s < bestD l s (nbest l s k)) then (k : Int) else nbest l s k
theorem nbest_at {l : List Sec} {s : Sec} (k : Nat) : nbest l s k = -1 ∨ ∃ j y, nbest l s k = ((j : Nat) : Int) ∧ j < k ∧ l[j]? = some y ∧ y.sh = s.sh := by
  induction k with
  | zero => left; rfl
  | succ k ih =>
    simp only [nbest]
    cases hx : l[k]? with
    | none =>
      rcases ih with h | ⟨j, y, h1, h2, h3, h4⟩
      · left; exact h
      · right; exact ⟨j, y, h1, by omega, h3, h4⟩
    | some x =>
      by_cases h : x.sh = s.sh ∧ (nbest l s k < 0 ∨ dist x s < bestD l s (nbest l s k))
      · right
        simp only [h, and_self, if_true]
        exact ⟨k, x, rfl, by omega, hx, h.1⟩
      · simp only [if_neg h]
        rcases ih with h | ⟨j, y, h1, h2, h3, h4⟩
        · left; exact h
        · right; exact ⟨j, y, h1, by omega, h3, h4⟩
theorem nbest_lo {l : List Sec} {s : Sec} (k : Nat) : -1 ≤ nbest l s k ∧ nbest l s k < k := by
  rcases @nbest_at l s k with h | ⟨j, y, h, hj, _⟩ <;> omega
theorem nbest_hit {l : List Sec} {s x : Sec} {k : Nat} (hx : l[k]? = some x) (h : x.sh = s.sh ∧ (nbest l s k < 0 ∨ dist x s < bestD l s (nbest l s k))) : nbest l s (k + 1) = k := by
  simp only [nbest, hx]; rw [if_pos h]
theorem nbest_miss {l : List Sec} {s x : Sec} {k : Nat} (hx : l[k]? = some x) (h : ¬ (x.sh = s.sh ∧ (nbest l s k < 0 ∨ dist x s < bestD l s (nbest l s k)))) : nbest l s (k + 1) = nbest l s k := by
  simp only [nbest, hx]; rw [if_neg h]
theorem bestD_at {l : List Sec} {s y : Sec} {j : Nat} (h : l[j]? = some y) : bestD l s (j : Int) = dist y s := by
  unfold bestD; rw [show ((j : Int)).toNat = j from by omega, h]
/-- What Nearest gives. -/
def nearV (l : List Sec) (s : Sec) : Int × Int := if nbest l s l.length < 0 then (0, 7) else (nbest l s l.length, 0)
theorem nearV_neg {l : List Sec} {s : Sec} (h : nbest l s l.length < 0) : nearV l s = (0, 7) := by unfold nearV; rw [if_pos h]
theorem nearV_pos {l : List Sec} {s : Sec} (h : ¬ nbest l s l.length < 0) : nearV l s = (nbest l s l.length, 0) := by unfold nearV; rw [if_neg h]

/-- A section of a list in memory, in worlds that lie over a given one. -/
theorem secs_over {w : World} {B n k : Nat} {A : Option Addr} {l : List Sec} (h : Reads w B 6 A n (secs l)) (hk : k < n) (hB : B ≤ w.heap.size) :
    ∃ ad s, A = some ad ∧ ad.block < B ∧ l[k]? = some s ∧ (∀ x, (over w.heap.size w x).cell? (ad.add (k * 6)) = some (.int .i64 s.b0)) ∧ (∀ x, (over w.heap.size w x).cell? ⟨(ad.add (k * 6)).block, (ad.add (k * 6)).off + 1, none⟩ = some (.int .i64 s.b1)) ∧ (∀ x, (over w.heap.size w x).cell? ⟨(ad.add (k * 6)).block, (ad.add (k * 6)).off + 2, none⟩ = some (.int .i64 s.b2)) ∧ (∀ x, (over w.heap.size w x).cell? ⟨(ad.add (k * 6)).block, (ad.add (k * 6)).off + 3, none⟩ = some (.int .i64 s.a1)) ∧ (∀ x, (over w.heap.size w x).cell? ⟨(ad.add (k * 6)).block, (ad.add (k * 6)).off + 4, none⟩ = some (.int .i64 s.a2)) ∧ (∀ x, (over w.heap.size w x).cell? ⟨(ad.add (k * 6)).block, (ad.add (k * 6)).off + 5, none⟩ = some (.int .i64 s.sh)) := by
  obtain ⟨ad, s, h1, h2, h3, h4⟩ := secs_hit h hk hB
  exact ⟨ad, s, h1, h2, h3, fun x => (h4 _ (over_below _ _ x)).1, fun x => (h4 _ (over_below _ _ x)).2.1, fun x => (h4 _ (over_below _ _ x)).2.2.1, fun x => (h4 _ (over_below _ _ x)).2.2.2.1, fun x => (h4 _ (over_below _ _ x)).2.2.2.2.1, fun x => (h4 _ (over_below _ _ x)).2.2.2.2.2⟩

/-- One contract for both calls of a loop. -/
theorem rDist_both (a b : Sec) (w : World) (ha : a.Ok) (hb' : b.Ok) : Calls Tryd.prog 91 #[.agg #[.int .i64 a.b0, .int .i64 a.b1, .int .i64 a.b2, .int .i64 a.a1, .int .i64 a.a2, .int .i64 a.sh], .agg #[.int .i64 b.b0, .int .i64 b.b1, .int .i64 b.b2, .int .i64 b.a1, .int .i64 b.a2, .int .i64 b.sh]] w fun e w' => e = .returned (.int .i64 (dist a b)) ∧ Below w.heap.size w w' := rDistance_any a b w ha hb'

set_option maxHeartbeats 4000000 in
theorem rNearest_any (A : Option Addr) (n c : Nat) (l : List Sec) (s : Sec) (w : World) (hs : s.Ok) (hl' : ∀ y ∈ l, y.Ok) (hn : n ≤ 1000000000000) (h : Reads w w.heap.size 6 A n (secs l)) :
    Calls Tryd.prog 61 #[.slice A n c, .agg #[.int .i64 s.b0, .int .i64 s.b1, .int .i64 s.b2, .int .i64 s.a1, .int .i64 s.a2, .int .i64 s.sh]] w fun e w' => e = .returned (.tuple #[.int .i64 (nearV l s).1, .int .i64 (nearV l s).2]) ∧ Below w.heap.size w w' := by
  have HL := hide (secs_reads_len h)
  have HS := hide hl'
  clear hl'
  go_enter Tryd.func61, Tryd.ntmps61
  go_wp2_with fail
  obtain ⟨w1, e1, hb1, hz1, k0⟩ := box1 w #[.int .i64 s.b0, .int .i64 s.b1, .int .i64 s.b2, .int .i64 s.a1, .int .i64 s.a2, .int .i64 s.sh] 23
  rw [← e1]; clear e1
  have h1 := carry' h hb1
  clear h
  go_loopw [6, 7] (fun v i wr => ∃ (k : Nat) (b : Int), k ≤ n ∧ i = .int .i64 k ∧ v = .int .i64 b ∧ Hid (b = nbest l s k) ∧ Below w1.heap.size w1 wr) (fun _ i _ => n - (intOf i).toNat)
  case atStart => exact ⟨0, -1, by omega, rfl, rfl, rfl, Below.refl _ _⟩
  case round =>
    obtain ⟨k, b, hk, rfl, rfl, HB, hbw⟩ := hrel
    have hbl : -1 ≤ b ∧ b < k := by rw [HB.out]; exact nbest_lo k
    by_cases hlt : k < n
    · have kw := carryK' k0 hbw
      have cw := over_blk (B := wr.heap.size) kw kw.lt
      obtain ⟨ad, x, rfl, q1, hx, d0, d1, d2, d3, d4, d5⟩ := secs_over (carry' h1 hbw) hlt (Nat.le_refl _)
      have hxo := HS.out x (List.mem_of_getElem? hx)
      have HX := hide hx; clear hx kw
      by_cases hsh : x.sh = s.sh
      · have t1 : (x.sh == s.sh) = true := by simpa using hsh
        have HSH := hide hsh; clear hsh
        by_cases hneg : b < 0
        · have t2 : decide (b < 0) = true := by simpa using hneg
          go_wp2
          refine wp_region_over wr.heap.size (by kernel_rfl) (by kernel_rfl) ?_; (repeat (first | go_big_quiet_step (fail) | quiet_step (fail))); refine wpQuiet_nil ?_; rintro W ⟨x, rfl⟩
          go_wp2
          go_roundw
          case rel => exact ⟨k + 1, k, by omega, by go_num, rfl, hide (nbest_hit HX.out ⟨HSH.out, .inl (by rw [← HB.out]; omega)⟩).symm, below_step hbw (over_below _ _ _) hbw.size⟩
          case measure => simp [intOf]; omega
        · have t2 : decide (b < 0) = false := by simpa using hneg
          obtain ⟨j, rfl⟩ : ∃ j : Nat, b = j := ⟨b.toNat, by omega⟩
          have hj : j < n := by omega
          obtain ⟨ad', y, e', q2, hy, g0, g1, g2, g3, g4, g5⟩ := secs_over (carry' h1 hbw) hj (Nat.le_refl _)
          cases e'
          have hyo := HS.out y (List.mem_of_getElem? hy)
          have hbd : bestD l s (j : Int) = dist y s := bestD_at hy
          rw [HB.out] at hbd
          have HD := hide hbd; clear hbd hy
          by_cases hd : dist x s < dist y s
          · have t3 : decide (dist x s < dist y s) = true := by simpa using hd
            have HDD := hide hd; clear hd
            go_wp2
            refine wp_region_over wr.heap.size (by kernel_rfl) (by kernel_rfl) ?_; (repeat (first | go_big_quiet_step ((go_at_call 91; exact over_call (Nat.le_refl _) (rDist_both _ _ _ (by assumption) (by assumption)))) | quiet_step ((go_at_call 91; exact over_call (Nat.le_refl _) (rDist_both _ _ _ (by assumption) (by assumption)))))); refine wpQuiet_nil ?_; rintro W ⟨x, rfl⟩
            go_wp2
            go_roundw
            case rel => exact ⟨k + 1, k, by omega, by go_num, rfl, hide (nbest_hit HX.out ⟨HSH.out, .inr (by rw [HD.out]; exact HDD.out)⟩).symm, below_step hbw (over_below _ _ _) hbw.size⟩
            case measure => simp [intOf]; omega
          · have t3 : decide (dist x s < dist y s) = false := by simpa using hd
            have HDD := hide hd; clear hd
            go_wp2
            refine wp_region_over wr.heap.size (by kernel_rfl) (by kernel_rfl) ?_; (repeat (first | go_big_quiet_step ((go_at_call 91; exact over_call (Nat.le_refl _) (rDist_both _ _ _ (by assumption) (by assumption)))) | quiet_step ((go_at_call 91; exact over_call (Nat.le_refl _) (rDist_both _ _ _ (by assumption) (by assumption)))))); refine wpQuiet_nil ?_; rintro W ⟨x, rfl⟩
            go_wp2
            go_roundw
            case rel => exact ⟨k + 1, j, by omega, by go_num, rfl, hide (HB.out.trans (nbest_miss HX.out (fun q => q.2.elim (fun q => by rw [← HB.out] at q; omega) (fun q => by rw [HD.out] at q; have := HDD.out; omega))).symm), below_step hbw (over_below _ _ _) hbw.size⟩
            case measure => simp [intOf]; omega
      · have t1 : (x.sh == s.sh) = false := by simpa using hsh
        have HSH := hide hsh; clear hsh
        go_wp2
        refine wp_region_over wr.heap.size (by kernel_rfl) (by kernel_rfl) ?_; (repeat (first | go_big_quiet_step (fail) | quiet_step (fail))); refine wpQuiet_nil ?_; rintro W ⟨x, rfl⟩
        go_wp2
        go_roundw
        case rel => exact ⟨k + 1, b, by omega, by go_num, rfl, hide (HB.out.trans (nbest_miss HX.out (fun q => HSH.out q.1)).symm), below_step hbw (over_below _ _ _) hbw.size⟩
        case measure => simp [intOf]; omega
    · have hkl : l.length = k := by have := HL.out; omega
      have HKL := hide hkl; clear hkl
      by_cases hneg : b < 0
      · have t2 : decide (b < 0) = true := by simpa using hneg
        go_wp2
        go_ret2
        exact ⟨by simp [nearV_neg (show nbest l s l.length < 0 by rw [HKL.out, ← HB.out]; omega)], below_step hb1 hbw hb1.size⟩
      · have t2 : decide (b < 0) = false := by simpa using hneg
        go_wp2
        go_ret2
        exact ⟨by simp [nearV_pos (show ¬ nbest l s l.length < 0 by rw [HKL.out, ← HB.out]; omega)]; rw [HKL.out, ← HB.out], below_step hb1 hbw hb1.size⟩
end Go.Proofs.YtlaaajkehjoffaaDoor
