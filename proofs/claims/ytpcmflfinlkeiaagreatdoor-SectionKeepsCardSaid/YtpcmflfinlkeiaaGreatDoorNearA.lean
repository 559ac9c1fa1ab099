/- The reference's Impulse and Cascade. The contract of Cascade. Nearest and distance, of the program and of the reference. Nearest of the reference; the plain words of Nearest. The program's Nearest. -/
import Derived.Test.YtpcmflfinlkeiaaGreatDoorSecs
import Derived.Test.YtpcmflfinlkeiaaGreatDoorBaseC
import Derived.Test.YtpcmflfinlkeiaaGreatDoorImpulse
import Derived.Laws.CopyOwn
import Derived.Deep.DeepCutAuto
namespace Go.Proofs.YtpcmflfinlkeiaaGreatDoor
open Go.RowKit Go.Shelf
set_option maxRecDepth 100000

/-- A signal through sections, one behind another. -/
def casc (l : List Sec) (xs : List Int) : List Int := l.foldl (fun out s => s.outs St.zero out) xs
theorem casc_succ {l : List Sec} {k : Nat} {s : Sec} (h : l[k]? = some s) (xs : List Int) : casc (l.take (k + 1)) xs = s.outs St.zero (casc (l.take k) xs) := by
  unfold casc
  rw [List.take_add_one, h, List.foldl_append]; rfl
theorem casc_len (l : List Sec) : ∀ xs, (casc l xs).length = xs.length := by
  induction l with
  | nil => intro xs; rfl
  | cons a t ih => intro xs; show (casc t _).length = _; rw [ih, outs_len]
theorem casc_bd (l : List Sec) : ∀ {xs : List Int}, (∀ x ∈ xs, -32767 ≤ x ∧ x ≤ 32767) → ∀ x ∈ casc l xs, -32767 ≤ x ∧ x ≤ 32767 := by
  induction l with
  | nil => intro xs h; exact h
  | cons a t ih => intro xs _; exact ih outs_bd

end Go.Proofs.YtpcmflfinlkeiaaGreatDoor

namespace Go.Proofs.YtpcmflfinlkeiaaGreatDoor
open Go.RowKit Go.Shelf
set_option maxRecDepth 100000

def cascErr (l : List Sec) (xs : List Int) : Int := fnz [secErr l, sigErr xs]
theorem carry' {w w' : World} {size n : Nat} {A : Option Addr} {xs : List Value} (h : Reads w w.heap.size size A n xs) (hb : Below w.heap.size w w') : Reads w' w'.heap.size size A n xs := (h.below hb).more hb.size
theorem madeN (m : Nat) : madeCells #[.int .i64 0] m = (ints (List.replicate m 0)).toArray := made_eq m
theorem splice_all (m : Nat) {xs : List Int} (h : xs.length = m) : splice (ints (List.replicate m 0)) 0 (ints xs) = ints xs := by
  unfold splice
  simp [ints, h]

end Go.Proofs.YtpcmflfinlkeiaaGreatDoor

namespace Go.Proofs.YtpcmflfinlkeiaaGreatDoor
open Go.RowKit Go.Shelf
set_option maxRecDepth 100000

/-- The numbers of a section by their places. -/
def nth6 (s : Sec) : Nat → Int
  | 0 => s.b0
  | 1 => s.b1
  | 2 => s.b2
  | 3 => s.a1
  | 4 => s.a2
  | _ => s.sh
/-- The distance in the first k numbers. -/
def distN (a b : Sec) : Nat → Int
  | 0 => 0
  | k + 1 => distN a b k + ab (nth6 a k - nth6 b k)
theorem nth6_bd {s : Sec} (h : s.Ok) (k : Nat) : -32767 ≤ nth6 s k ∧ nth6 s k ≤ 32767 := by
  have := h.b0l; have := h.b0h; have := h.b1l; have := h.b1h; have := h.b2l; have := h.b2h; have := h.a1l; have := h.a1h; have := h.a2l; have := h.a2h; have := h.shl; have := h.shh
  rcases k with _ | _ | _ | _ | _ | k <;> simp only [nth6] <;> omega
theorem dif_bd {a b : Sec} (ha : a.Ok) (hb : b.Ok) (k : Nat) : (-65534 ≤ nth6 a k - nth6 b k ∧ nth6 a k - nth6 b k ≤ 65534) ∧ 0 ≤ ab (nth6 a k - nth6 b k) ∧ ab (nth6 a k - nth6 b k) ≤ 65534 := by
  have := nth6_bd ha k
  have := nth6_bd hb k
  refine ⟨by omega, ab_bd (by omega) (by omega)⟩
theorem distN_bd {a b : Sec} (ha : a.Ok) (hb : b.Ok) (k : Nat) : 0 ≤ distN a b k ∧ distN a b k ≤ 65534 * (k : Int) := by
  induction k with
  | zero => simp [distN]
  | succ k ih => have := (dif_bd ha hb k).2; simp only [distN]; omega
def dist (a b : Sec) : Int := distN a b 5
theorem dist6 {a b : Sec} (h : a.sh = b.sh) : distN a b 6 = dist a b := by
  show distN a b 5 + ab (nth6 a 5 - nth6 b 5) = _
  have : nth6 a 5 - nth6 b 5 = 0 := by show a.sh - b.sh = 0; omega
  rw [this]
  show distN a b 5 + 0 = _
  rw [Int.add_zero]; rfl

set_option maxHeartbeats 1000000 in
theorem distance_any (a b : Sec) (w : World) (ha : a.Ok) (hb' : b.Ok) (he : a.sh = b.sh) :
    Calls Tryz.prog 57 #[.agg #[.int .i64 a.b0, .int .i64 a.b1, .int .i64 a.b2, .int .i64 a.a1, .int .i64 a.a2, .int .i64 a.sh], .agg #[.int .i64 b.b0, .int .i64 b.b1, .int .i64 b.b2, .int .i64 b.a1, .int .i64 b.a2, .int .i64 b.sh]] w fun e w' => e = .returned (.int .i64 (dist a b)) ∧ Below w.heap.size w w' := by
  have HE := hide he; clear he
  go_enter Tryz.func57, Tryz.ntmps57
  go_wp2_with fail
  obtain ⟨w1, e1, hb1, hz1, k0, k1⟩ := box2 w #[.int .i64 a.b0, .int .i64 a.b1, .int .i64 a.b2, .int .i64 a.a1, .int .i64 a.a2, .int .i64 a.sh] #[.int .i64 b.b0, .int .i64 b.b1, .int .i64 b.b2, .int .i64 b.a1, .int .i64 b.a2, .int .i64 b.sh] 53 53
  rw [← e1]; clear e1
  refine (numbers_any b _).mono ?_
  rintro e w2 ⟨rfl, hb2⟩
  have hb3 := below_step hb1 hb2 hb1.size
  have c0 := (k0.below hb2 k0.lt).cell
  have l0 := (k0.below hb2 k0.lt).lt
  have k0' := k0.below hb2 k0.lt
  clear k0 k1 hb1 hb2
  go_wp2_with fail
  obtain ⟨w3, e3, hb4, hz3, k2⟩ := box1 w2 #[.int .i64 b.b0, .int .i64 b.b1, .int .i64 b.b2, .int .i64 b.a1, .int .i64 b.a2, .int .i64 b.sh] 79
  rw [← e3]; clear e3
  refine (numbers_any a _).mono ?_
  rintro e w4 ⟨rfl, hb5⟩
  have hb6 := below_step (below_step hb3 hb4 hb3.size) hb5 (Nat.le_trans hb3.size hb4.size)
  have c2 := (k2.below hb5 k2.lt).cell
  clear c0 l0 k0' k2 hb3 hb4 hb5
  go_wp2_with fail
  go_loop [5, 13] (fun v i => ∃ k : Nat, k ≤ 6 ∧ i = .int .i64 k ∧ v = .int .i64 (distN a b k)) (fun _ i => 6 - (intOf i).toNat)
  case atStart => exact ⟨0, by omega, rfl, rfl⟩
  case round =>
    obtain ⟨k, hk, rfl, rfl⟩ := hrel
    have hk6 : k = 0 ∨ k = 1 ∨ k = 2 ∨ k = 3 ∨ k = 4 ∨ k = 5 ∨ k = 6 := by omega
    rcases hk6 with rfl | rfl | rfl | rfl | rfl | rfl | rfl
    · have q1 := dif_bd ha hb' 0
      have q2 := distN_bd ha hb' 0
      simp only [nth6] at q1
      have i0 : ∀ w, (Instr.index 79 (.agg #[.int .i64 a.b0, .int .i64 a.b1, .int .i64 a.b2, .int .i64 a.a1, .int .i64 a.a2, .int .i64 a.sh]) (.int .i64 0)).run Tryz.prog w = .ok (.int .i64 a.b0) w := fun _ => by kernel_rfl
      go_wp2_with (go_at_call 70; refine (abs_any _ _ (by omega) (by omega)).mono ?_; rintro e w' ⟨rfl, rfl⟩)
      go_round
      case rel => exact ⟨0 + 1, by omega, rfl, rfl⟩
      case measure => simp [intOf]
    · have q1 := dif_bd ha hb' 1
      have q2 := distN_bd ha hb' 1
      simp only [nth6] at q1
      have i0 : ∀ w, (Instr.index 79 (.agg #[.int .i64 a.b0, .int .i64 a.b1, .int .i64 a.b2, .int .i64 a.a1, .int .i64 a.a2, .int .i64 a.sh]) (.int .i64 1)).run Tryz.prog w = .ok (.int .i64 a.b1) w := fun _ => by kernel_rfl
      go_wp2_with (go_at_call 70; refine (abs_any _ _ (by omega) (by omega)).mono ?_; rintro e w' ⟨rfl, rfl⟩)
      go_round
      case rel => exact ⟨1 + 1, by omega, rfl, rfl⟩
      case measure => simp [intOf]
    · have q1 := dif_bd ha hb' 2
      have q2 := distN_bd ha hb' 2
      simp only [nth6] at q1
      have i0 : ∀ w, (Instr.index 79 (.agg #[.int .i64 a.b0, .int .i64 a.b1, .int .i64 a.b2, .int .i64 a.a1, .int .i64 a.a2, .int .i64 a.sh]) (.int .i64 2)).run Tryz.prog w = .ok (.int .i64 a.b2) w := fun _ => by kernel_rfl
      go_wp2_with (go_at_call 70; refine (abs_any _ _ (by omega) (by omega)).mono ?_; rintro e w' ⟨rfl, rfl⟩)
      go_round
      case rel => exact ⟨2 + 1, by omega, rfl, rfl⟩
      case measure => simp [intOf]
    · have q1 := dif_bd ha hb' 3
      have q2 := distN_bd ha hb' 3
      simp only [nth6] at q1
      have i0 : ∀ w, (Instr.index 79 (.agg #[.int .i64 a.b0, .int .i64 a.b1, .int .i64 a.b2, .int .i64 a.a1, .int .i64 a.a2, .int .i64 a.sh]) (.int .i64 3)).run Tryz.prog w = .ok (.int .i64 a.a1) w := fun _ => by kernel_rfl
      go_wp2_with (go_at_call 70; refine (abs_any _ _ (by omega) (by omega)).mono ?_; rintro e w' ⟨rfl, rfl⟩)
      go_round
      case rel => exact ⟨3 + 1, by omega, rfl, rfl⟩
      case measure => simp [intOf]
    · have q1 := dif_bd ha hb' 4
      have q2 := distN_bd ha hb' 4
      simp only [nth6] at q1
      have i0 : ∀ w, (Instr.index 79 (.agg #[.int .i64 a.b0, .int .i64 a.b1, .int .i64 a.b2, .int .i64 a.a1, .int .i64 a.a2, .int .i64 a.sh]) (.int .i64 4)).run Tryz.prog w = .ok (.int .i64 a.a2) w := fun _ => by kernel_rfl
      go_wp2_with (go_at_call 70; refine (abs_any _ _ (by omega) (by omega)).mono ?_; rintro e w' ⟨rfl, rfl⟩)
      go_round
      case rel => exact ⟨4 + 1, by omega, rfl, rfl⟩
      case measure => simp [intOf]
    · have q1 := dif_bd ha hb' 5
      have q2 := distN_bd ha hb' 5
      simp only [nth6] at q1
      have i0 : ∀ w, (Instr.index 79 (.agg #[.int .i64 a.b0, .int .i64 a.b1, .int .i64 a.b2, .int .i64 a.a1, .int .i64 a.a2, .int .i64 a.sh]) (.int .i64 5)).run Tryz.prog w = .ok (.int .i64 a.sh) w := fun _ => by kernel_rfl
      go_wp2_with (go_at_call 70; refine (abs_any _ _ (by omega) (by omega)).mono ?_; rintro e w' ⟨rfl, rfl⟩)
      go_round
      case rel => exact ⟨5 + 1, by omega, rfl, rfl⟩
      case measure => simp [intOf]
    · go_wp2
      go_ret
      exact ⟨by simp [dist6 HE.out], hb6⟩

theorem carryK' {w w' : World} {g : Nat} {t : TypeId} {cs : Array Value} (h : Blk w g t cs) (hb : Below w.heap.size w w') : Blk w' g t cs := h.below hb h.lt
theorem nth_cell (s : Sec) {k : Nat} (hk : k < 5) : (#[.int .i64 s.b0, .int .i64 s.b1, .int .i64 s.b2, .int .i64 s.a1, .int .i64 s.a2, .int .i64 s.sh] : Array Value)[k]? = some (.int .i64 (nth6 s k)) := by
  rcases k with _ | _ | _ | _ | _ | k
  · rfl
  · rfl
  · rfl
  · rfl
  · rfl
  · omega
end Go.Proofs.YtpcmflfinlkeiaaGreatDoor

namespace Go.Proofs.YtpcmflfinlkeiaaGreatDoor
open Go.RowKit Go.Shelf
set_option maxRecDepth 100000

/-! ### Nearest -/
/-- The nearest section among the first k, or -1. -/
def bestD (l : List Sec) (s : Sec) (j : Int) : Int := match l[j.toNat]? with | some y => dist y s | none => 0
def nbest (l : List Sec) (s : Sec) : Nat → Int
  | 0 => -1
  | k + 1 => match l[k]? with
    | none => nbest l s k
    | some x => if x.sh = s.sh ∧ (nbest l s k < 0 ∨ dist x s < bestD l s (nbest l s k)) then (k : Int) else nbest l s k
theorem nbest_at {l : List Sec} {s : Sec} (k : Nat) : nbest l s k = -1 ∨ ∃ j y, nbest l s k = ((j : Nat) : Int) ∧ j < k ∧ l[j]? = some y ∧ y.sh = s.sh := by
  induction k with
  | zero => left; rfl
  | succ k ih =>
    simp only [nbest]
    cases hx : l[k]? with
    | none =>
      rcases ih with h | ⟨j, y, h1, h2, h3, h4⟩
      · left; exact h
      · right; exact ⟨j, y, h1, by omega, h3, h4⟩
    | some x =>
      by_cases h : x.sh = s.sh ∧ (nbest l s k < 0 ∨ dist x s < bestD l s (nbest l s k))
      · right
        simp only [h, and_self, if_true]
        exact ⟨k, x, rfl, by omega, hx, h.1⟩
      · simp only [if_neg h]
        rcases ih with h | ⟨j, y, h1, h2, h3, h4⟩
        · left; exact h
        · right; exact ⟨j, y, h1, by omega, h3, h4⟩
theorem nbest_lo {l : List Sec} {s : Sec} (k : Nat) : -1 ≤ nbest l s k ∧ nbest l s k < k := by
  rcases @nbest_at l s k with h | ⟨j, y, h, hj, _⟩ <;> omega
theorem nbest_hit {l : List Sec} {s x : Sec} {k : Nat} (hx : l[k]? = some x) (h : x.sh = s.sh ∧ (nbest l s k < 0 ∨ dist x s < bestD l s (nbest l s k))) : nbest l s (k + 1) = k := by
  simp only [nbest, hx]; rw [if_pos h]
theorem nbest_miss {l : List Sec} {s x : Sec} {k : Nat} (hx : l[k]? = some x) (h : ¬ (x.sh = s.sh ∧ (nbest l s k < 0 ∨ dist x s < bestD l s (nbest l s k)))) : nbest l s (k + 1) = nbest l s k := by
  simp only [nbest, hx]; rw [if_neg h]
theorem bestD_at {l : List Sec} {s y : Sec} {j : Nat} (h : l[j]? = some y) : bestD l s (j : Int) = dist y s := by
  unfold bestD; rw [show ((j : Int)).toNat = j from by omega, h]
/-- What Nearest gives. -/
def nearV (l : List Sec) (s : Sec) : Int × Int := if nbest l s l.length < 0 then (0, 7) else (nbest l s l.length, 0)
theorem nearV_neg {l : List Sec} {s : Sec} (h : nbest l s l.length < 0) : nearV l s = (0, 7) := by unfold nearV; rw [if_pos h]
theorem nearV_pos {l : List Sec} {s : Sec} (h : ¬ nbest l s l.length < 0) : nearV l s = (nbest l s l.length, 0) := by unfold nearV; rw [if_neg h]

/-- A section of a list in memory, in worlds that lie over a given one. -/
theorem secs_over {w : World} {B n k : Nat} {A : Option Addr} {l : List Sec} (h : Reads w B 6 A n (secs l)) (hk : k < n) (hB : B ≤ w.heap.size) :
    ∃ ad s, A = some ad ∧ ad.block < B ∧ l[k]? = some s ∧ (∀ x, (over w.heap.size w x).cell? (ad.add (k * 6)) = some (.int .i64 s.b0)) ∧ (∀ x, (over w.heap.size w x).cell? ⟨(ad.add (k * 6)).block, (ad.add (k * 6)).off + 1, none⟩ = some (.int .i64 s.b1)) ∧ (∀ x, (over w.heap.size w x).cell? ⟨(ad.add (k * 6)).block, (ad.add (k * 6)).off + 2, none⟩ = some (.int .i64 s.b2)) ∧ (∀ x, (over w.heap.size w x).cell? ⟨(ad.add (k * 6)).block, (ad.add (k * 6)).off + 3, none⟩ = some (.int .i64 s.a1)) ∧ (∀ x, (over w.heap.size w x).cell? ⟨(ad.add (k * 6)).block, (ad.add (k * 6)).off + 4, none⟩ = some (.int .i64 s.a2)) ∧ (∀ x, (over w.heap.size w x).cell? ⟨(ad.add (k * 6)).block, (ad.add (k * 6)).off + 5, none⟩ = some (.int .i64 s.sh)) := by
  obtain ⟨ad, s, h1, h2, h3, h4⟩ := secs_hit h hk hB
  exact ⟨ad, s, h1, h2, h3, fun x => (h4 _ (over_below _ _ x)).1, fun x => (h4 _ (over_below _ _ x)).2.1, fun x => (h4 _ (over_below _ _ x)).2.2.1, fun x => (h4 _ (over_below _ _ x)).2.2.2.1, fun x => (h4 _ (over_below _ _ x)).2.2.2.2.1, fun x => (h4 _ (over_below _ _ x)).2.2.2.2.2⟩

end Go.Proofs.YtpcmflfinlkeiaaGreatDoor

namespace Go.Proofs.YtpcmflfinlkeiaaGreatDoor
open Go.RowKit Go.Shelf
set_option maxRecDepth 100000

def nearErr (l : List Sec) (s : Sec) : Int := fnz [secErr l, s.err]
set_option maxHeartbeats 1000000 in
theorem Nearest_bad (A : Option Addr) (n c : Nat) (l : List Sec) (s : Sec) (w : World) (hn : n ≤ 1000000000000) (h : Reads w w.heap.size 6 A n (secs l)) (he : (nearErr l s != 0) = true) :
    Calls Tryz.prog 21 #[.slice A n c, .agg #[.int .i64 s.b0, .int .i64 s.b1, .int .i64 s.b2, .int .i64 s.a1, .int .i64 s.a2, .int .i64 s.sh]] w fun e w' => e = .returned (.tuple #[.int .i64 0, .int .i64 (nearErr l s)]) ∧ Below w.heap.size w w' := by
  have ht : (fnz [secErr l, s.err] != 0) = true := he
  clear he
  go_enter Tryz.func21, Tryz.ntmps21
  go_wp2_with fail
  obtain ⟨w1, e1, hb1, hz1, k0⟩ := box1 w #[.int .i64 s.b0, .int .i64 s.b1, .int .i64 s.b2, .int .i64 s.a1, .int .i64 s.a2, .int .i64 s.sh] 53
  rw [← e1]; clear e1
  have c0 : ∀ i W, Below w1.heap.size w1 W → W.cell? ⟨w.heap.size, i, none⟩ = (#[.int .i64 s.b0, .int .i64 s.b1, .int .i64 s.b2, .int .i64 s.a1, .int .i64 s.a2, .int .i64 s.sh] : Array Value)[i]? := fun i W h => (k0.below h k0.lt).cell i
  have r1 := carry' h hb1
  have R0 := hide (fun W (h : Below w1.heap.size w1 W) => carry' r1 h)
  clear h
  go_region_held3 (fun W => Below w1.heap.size w1 W) (first | exact (Below.refl _ _).drew | (with_reducible assumption) | exact below_new ‹Below w1.heap.size w1 _› (Nat.le_refl _) _ | (refine below_set (below_set (below_set (below_set (by assumption) (by omega) _) (by omega) _) (by omega) _) (by omega) _)) (first | (go_at_call 33; refine (checkSections_any A n c l _ (R0.out _ ‹Below w1.heap.size w1 _›) (by omega)).mono ?_; rintro e W' ⟨rfl, hbW⟩; have hS := below_step ‹Below w1.heap.size w1 _› hbW (Below.size ‹Below w1.heap.size w1 _›)) | (go_at_call 56; refine (checkSection_any s _).mono ?_; rintro e W' ⟨rfl, hbW⟩; have hS := below_step ‹Below w1.heap.size w1 _› hbW (Below.size ‹Below w1.heap.size w1 _›)) | (go_at_call 38; (first | (with_reducible (refine (first_any _ _ _ _ _ _ (reads2 _ _ _ _) (by omega)).mono ?_)) | (with_reducible (refine (first_any _ _ _ _ _ _ (Reads.drew (reads2 _ _ _ _)) (by omega)).mono ?_))); rintro e W' ⟨rfl, rfl⟩))
  have hB : Below w1.heap.size w1 _ := ‹Below w1.heap.size w1 _›
  generalize World.alloc _ _ = w2 at hB ⊢
  have hb := below_step hb1 hB hb1.size
  have k2 := carryK' k0 hB
  have r2 := carry' r1 hB
  clear c0 R0 k0 r1 hB
  try clear hbW hS
  go_wp2
  go_ret2
  exact ⟨rfl, hb⟩
theorem dist_both (a b : Sec) (w : World) (ha : a.Ok) (hb' : b.Ok) (he : Hid (a.sh = b.sh)) : Calls Tryz.prog 57 #[.agg #[.int .i64 a.b0, .int .i64 a.b1, .int .i64 a.b2, .int .i64 a.a1, .int .i64 a.a2, .int .i64 a.sh], .agg #[.int .i64 b.b0, .int .i64 b.b1, .int .i64 b.b2, .int .i64 b.a1, .int .i64 b.a2, .int .i64 b.sh]] w fun e w' => e = .returned (.int .i64 (dist a b)) ∧ Below w.heap.size w w' := distance_any a b w ha hb' he.out
set_option maxHeartbeats 4000000 in
theorem Nearest_ok (A : Option Addr) (n c : Nat) (l : List Sec) (s : Sec) (w : World) (hn : n ≤ 1000000000000) (h : Reads w w.heap.size 6 A n (secs l)) (he : nearErr l s = 0) :
    Calls Tryz.prog 21 #[.slice A n c, .agg #[.int .i64 s.b0, .int .i64 s.b1, .int .i64 s.b2, .int .i64 s.a1, .int .i64 s.a2, .int .i64 s.sh]] w fun e w' => e = .returned (.tuple #[.int .i64 (nearV l s).1, .int .i64 (nearV l s).2]) ∧ Below w.heap.size w w' := by
  have ht : (fnz [secErr l, s.err] != 0) = false := by rw [show fnz [secErr l, s.err] = 0 from he]; rfl
  obtain ⟨h1, h2⟩ := fnz2_zero he
  have hs := Sec.err_ok h2
  have HS := hide (secErr_ok h1).2
  have HL := hide (secs_reads_len h)
  clear h1 h2 he
  go_enter Tryz.func21, Tryz.ntmps21
  go_wp2_with fail
  obtain ⟨w1, e1, hb1, hz1, k0⟩ := box1 w #[.int .i64 s.b0, .int .i64 s.b1, .int .i64 s.b2, .int .i64 s.a1, .int .i64 s.a2, .int .i64 s.sh] 53
  rw [← e1]; clear e1
  have c0 : ∀ i W, Below w1.heap.size w1 W → W.cell? ⟨w.heap.size, i, none⟩ = (#[.int .i64 s.b0, .int .i64 s.b1, .int .i64 s.b2, .int .i64 s.a1, .int .i64 s.a2, .int .i64 s.sh] : Array Value)[i]? := fun i W h => (k0.below h k0.lt).cell i
  have r1 := carry' h hb1
  have R0 := hide (fun W (h : Below w1.heap.size w1 W) => carry' r1 h)
  clear h
  go_region_held3 (fun W => Below w1.heap.size w1 W) (first | exact (Below.refl _ _).drew | (with_reducible assumption) | exact below_new ‹Below w1.heap.size w1 _› (Nat.le_refl _) _ | (refine below_set (below_set (below_set (below_set (by assumption) (by omega) _) (by omega) _) (by omega) _) (by omega) _)) (first | (go_at_call 33; refine (checkSections_any A n c l _ (R0.out _ ‹Below w1.heap.size w1 _›) (by omega)).mono ?_; rintro e W' ⟨rfl, hbW⟩; have hS := below_step ‹Below w1.heap.size w1 _› hbW (Below.size ‹Below w1.heap.size w1 _›)) | (go_at_call 56; refine (checkSection_any s _).mono ?_; rintro e W' ⟨rfl, hbW⟩; have hS := below_step ‹Below w1.heap.size w1 _› hbW (Below.size ‹Below w1.heap.size w1 _›)) | (go_at_call 38; (first | (with_reducible (refine (first_any _ _ _ _ _ _ (reads2 _ _ _ _) (by omega)).mono ?_)) | (with_reducible (refine (first_any _ _ _ _ _ _ (Reads.drew (reads2 _ _ _ _)) (by omega)).mono ?_))); rintro e W' ⟨rfl, rfl⟩))
  have hB : Below w1.heap.size w1 _ := ‹Below w1.heap.size w1 _›
  generalize World.alloc _ _ = w2 at hB ⊢
  have hb := below_step hb1 hB hb1.size
  have k2 := carryK' k0 hB
  have r2 := carry' r1 hB
  clear c0 R0 k0 r1 hB
  try clear hbW hS
  go_wp2_with fail
  go_loopw [7, 21] (fun v i wr => ∃ (k : Nat) (b : Int), k ≤ n ∧ i = .int .i64 k ∧ v = .int .i64 b ∧ Hid (b = nbest l s k) ∧ Below w2.heap.size w2 wr) (fun _ i _ => n - (intOf i).toNat)
  case atStart => exact ⟨0, -1, by omega, rfl, rfl, rfl, Below.refl _ _⟩
  case round =>
    obtain ⟨k, b, hk, rfl, rfl, HB, hbw⟩ := hrel
    have hbl : -1 ≤ b ∧ b < k := by rw [HB.out]; exact nbest_lo k
    by_cases hlt : k < n
    · have kw := carryK' k2 hbw
      obtain ⟨ad, x, rfl, q1, hx, hc⟩ := secs_hit (carry' r2 hbw) hlt (Nat.le_refl _)
      obtain ⟨d0, d1, d2, d3, d4, d5⟩ := hc wr (Below.refl _ _)
      have hxo := HS.out x (List.mem_of_getElem? hx)
      have HX := hide hx; clear hx hc
      go_wp2_with fail
      obtain ⟨w3, e3, hb3, hz3, kx⟩ := box1 wr #[.int .i64 x.b0, .int .i64 x.b1, .int .i64 x.b2, .int .i64 x.a1, .int .i64 x.a2, .int .i64 x.sh] 53
      rw [← e3]; clear e3 d0 d1 d2 d3 d4 d5
      have hbw3 := below_step hbw hb3 hbw.size
      have kw3 := carryK' kw hb3
      have cw := over_blk (B := w3.heap.size) kw3 kw3.lt
      have cx := over_blk (B := w3.heap.size) kx kx.lt
      clear kw
      by_cases hsh : x.sh = s.sh
      · have t1 : (x.sh == s.sh) = true := by simpa using hsh
        have HSH := hide hsh; clear hsh
        by_cases hneg : b < 0
        · have t2 : decide (b < 0) = true := by simpa using hneg
          refine wp_region_over w3.heap.size (by kernel_rfl) (by kernel_rfl) ?_; (repeat (first | go_big_quiet_step (fail) | quiet_step (fail))); refine wpQuiet_nil ?_; rintro W ⟨x, rfl⟩
          go_wp2
          go_roundw
          case rel => exact ⟨k + 1, k, by omega, by go_num, rfl, hide (nbest_hit HX.out ⟨HSH.out, .inl (by rw [← HB.out]; omega)⟩).symm, below_step hbw3 (over_below _ _ _) hbw3.size⟩
          case measure => simp [intOf]; omega
        · have t2 : decide (b < 0) = false := by simpa using hneg
          have hat := @nbest_at l s k
          rw [← HB.out] at hat
          obtain ⟨j, y, ej, hj, hy, hys⟩ : ∃ (j : Nat) (y : Sec), b = j ∧ j < k ∧ l[j]? = some y ∧ y.sh = s.sh := hat.resolve_left (by omega)
          subst ej
          clear hat
          have HYS := hide hys; clear hys
          have hjn : j < n := by omega
          obtain ⟨ad', y', e', q2, hy', g0, g1, g2, g3, g4, g5⟩ := secs_over (carry' r2 hbw3) hjn (Nat.le_refl _)
          cases e'
          have ey : y' = y := by rw [hy] at hy'; exact (Option.some.inj hy').symm
          subst ey
          have hyo := HS.out y' (List.mem_of_getElem? hy)
          have hbd : bestD l s (j : Int) = dist y' s := bestD_at hy
          rw [HB.out] at hbd
          have HD := hide hbd; clear hbd hy hy'
          by_cases hd : dist x s < dist y' s
          · have t3 : decide (dist x s < dist y' s) = true := by simpa using hd
            have HDD := hide hd; clear hd
            refine wp_region_over w3.heap.size (by kernel_rfl) (by kernel_rfl) ?_; (repeat (first | go_big_quiet_step ((go_at_call 57; exact over_call (Nat.le_refl _) (dist_both _ _ _ (by assumption) (by assumption) (by assumption)))) | quiet_step ((go_at_call 57; exact over_call (Nat.le_refl _) (dist_both _ _ _ (by assumption) (by assumption) (by assumption)))))); refine wpQuiet_nil ?_; rintro W ⟨x, rfl⟩
            go_wp2
            go_roundw
            case rel => exact ⟨k + 1, k, by omega, by go_num, rfl, hide (nbest_hit HX.out ⟨HSH.out, .inr (by rw [HD.out]; exact HDD.out)⟩).symm, below_step hbw3 (over_below _ _ _) hbw3.size⟩
            case measure => simp [intOf]; omega
          · have t3 : decide (dist x s < dist y' s) = false := by simpa using hd
            have HDD := hide hd; clear hd
            refine wp_region_over w3.heap.size (by kernel_rfl) (by kernel_rfl) ?_; (repeat (first | go_big_quiet_step ((go_at_call 57; exact over_call (Nat.le_refl _) (dist_both _ _ _ (by assumption) (by assumption) (by assumption)))) | quiet_step ((go_at_call 57; exact over_call (Nat.le_refl _) (dist_both _ _ _ (by assumption) (by assumption) (by assumption)))))); refine wpQuiet_nil ?_; rintro W ⟨x, rfl⟩
            go_wp2
            go_roundw
            case rel => exact ⟨k + 1, j, by omega, by go_num, rfl, hide (HB.out.trans (nbest_miss HX.out (fun q => q.2.elim (fun q => by rw [← HB.out] at q; omega) (fun q => by rw [HD.out] at q; have := HDD.out; omega))).symm), below_step hbw3 (over_below _ _ _) hbw3.size⟩
            case measure => simp [intOf]; omega
      · have t1 : (x.sh == s.sh) = false := by simpa using hsh
        have HSH := hide hsh; clear hsh
        refine wp_region_over w3.heap.size (by kernel_rfl) (by kernel_rfl) ?_; (repeat (first | go_big_quiet_step (fail) | quiet_step (fail))); refine wpQuiet_nil ?_; rintro W ⟨x, rfl⟩
        go_wp2
        go_roundw
        case rel => exact ⟨k + 1, b, by omega, by go_num, rfl, hide (HB.out.trans (nbest_miss HX.out (fun q => HSH.out q.1)).symm), below_step hbw3 (over_below _ _ _) hbw3.size⟩
        case measure => simp [intOf]; omega
    · have hkl : l.length = k := by have := HL.out; omega
      have HKL := hide hkl; clear hkl
      by_cases hneg : b < 0
      · have t2 : decide (b < 0) = true := by simpa using hneg
        go_wp2
        go_ret2
        exact ⟨by simp [nearV_neg (show nbest l s l.length < 0 by rw [HKL.out, ← HB.out]; omega)], below_step hb hbw hb.size⟩
      · have t2 : decide (b < 0) = false := by simpa using hneg
        go_wp2
        go_ret2
        exact ⟨by simp [nearV_pos (show ¬ nbest l s l.length < 0 by rw [HKL.out, ← HB.out]; omega)]; rw [HKL.out, ← HB.out], below_step hb hbw hb.size⟩
/-- Nearest as a whole. -/
def nearE (l : List Sec) (s : Sec) : Int × Int := if nearErr l s = 0 then nearV l s else (0, nearErr l s)
theorem Nearest_tot (A : Option Addr) (n c : Nat) (l : List Sec) (s : Sec) (w : World) (hn : n ≤ 1000000000000) (h : Reads w w.heap.size 6 A n (secs l)) :
    Calls Tryz.prog 21 #[.slice A n c, .agg #[.int .i64 s.b0, .int .i64 s.b1, .int .i64 s.b2, .int .i64 s.a1, .int .i64 s.a2, .int .i64 s.sh]] w fun e w' => e = .returned (.tuple #[.int .i64 (nearE l s).1, .int .i64 (nearE l s).2]) ∧ Below w.heap.size w w' := by
  by_cases h0 : nearErr l s = 0
  · have e : nearE l s = nearV l s := by unfold nearE; rw [if_pos h0]
    rw [e]; exact Nearest_ok A n c l s w hn h h0
  · have e : nearE l s = (0, nearErr l s) := by unfold nearE; rw [if_neg h0]
    rw [e]; exact Nearest_bad A n c l s w hn h (by simpa using h0)
end Go.Proofs.YtpcmflfinlkeiaaGreatDoor
