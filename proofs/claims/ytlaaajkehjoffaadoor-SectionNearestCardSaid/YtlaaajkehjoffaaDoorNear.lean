/- Nearest and distance, of the program and of the reference. -/
import Derived.Test.YtlaaajkehjoffaaDoorCascS
import Derived.Deep.DeepCutAuto
namespace Go.Proofs.YtlaaajkehjoffaaDoor
open Go.RowKit Go.Shelf
set_option maxRecDepth 100000

/-- The numbers of a section by their places. -/
def nth6 (s : Sec) : Nat → Int
  | 0 => s.b0
  | 1 => s.b1
  | 2 => s.b2
  | 3 => s.a1
  | 4 => s.a2
  | _ => s.sh
/-- The distance in the first k numbers. -/
def distN (a b : Sec) : Nat → Int
  | 0 => 0
  | k + 1 => distN a b k + ab (nth6 a k - nth6 b k)
theorem nth6_bd {s : Sec} (h : s.Ok) (k : Nat) : -32767 ≤ nth6 s k ∧ nth6 s k ≤ 32767 := by
  have := h.b0l; have := h.b0h; have := h.b1l; have := h.b1h; have := h.b2l; have := h.b2h; have := h.a1l; have := h.a1h; have := h.a2l; have := h.a2h; have := h.shl; have := h.shh
  rcases k with _ | _ | _ | _ | _ | k <;> simp only [nth6] <;> omega
theorem dif_bd {a b : Sec} (ha : a.Ok) (hb : b.Ok) (k : Nat) : (-65534 ≤ nth6 a k - nth6 b k ∧ nth6 a k - nth6 b k ≤ 65534) ∧ 0 ≤ ab (nth6 a k - nth6 b k) ∧ ab (nth6 a k - nth6 b k) ≤ 65534 := by
  have := nth6_bd ha k
  have := nth6_bd hb k
  refine ⟨by omega, ab_bd (by omega) (by omega)⟩
theorem distN_bd {a b : Sec} (ha : a.Ok) (hb : b.Ok) (k : Nat) : 0 ≤ distN a b k ∧ distN a b k ≤ 65534 * (k : Int) := by
  induction k with
  | zero => simp [distN]
  | succ k ih => have := (dif_bd ha hb k).2; simp only [distN]; omega
def dist (a b : Sec) : Int := distN a b 5
theorem dist6 {a b : Sec} (h : a.sh = b.sh) : distN a b 6 = dist a b := by
  show distN a b 5 + ab (nth6 a 5 - nth6 b 5) = _
  have : nth6 a 5 - nth6 b 5 = 0 := by show a.sh - b.sh = 0; omega
  rw [this]
  show distN a b 5 + 0 = _
  rw [Int.add_zero]; rfl

set_option maxHeartbeats 1000000 in
theorem distance_any (a b : Sec) (w : World) (ha : a.Ok) (hb' : b.Ok) (he : a.sh = b.sh) :
    Calls Tryd.prog 90 #[.agg #[.int .i64 a.b0, .int .i64 a.b1, .int .i64 a.b2, .int .i64 a.a1, .int .i64 a.a2, .int .i64 a.sh], .agg #[.int .i64 b.b0, .int .i64 b.b1, .int .i64 b.b2, .int .i64 b.a1, .int .i64 b.a2, .int .i64 b.sh]] w fun e w' => e = .returned (.int .i64 (dist a b)) ∧ Below w.heap.size w w' := by
  have HE := hide he; clear he
  go_enter Tryd.func90, Tryd.ntmps90
  go_wp2_with fail
  obtain ⟨w1, e1, hb1, hz1, k0, k1⟩ := box2 w #[.int .i64 a.b0, .int .i64 a.b1, .int .i64 a.b2, .int .i64 a.a1, .int .i64 a.a2, .int .i64 a.sh] #[.int .i64 b.b0, .int .i64 b.b1, .int .i64 b.b2, .int .i64 b.a1, .int .i64 b.a2, .int .i64 b.sh] 32 32
  rw [← e1]; clear e1
  refine (numbers_any b _).mono ?_
  rintro e w2 ⟨rfl, hb2⟩
  have hb3 := below_step hb1 hb2 hb1.size
  have c0 := (k0.below hb2 k0.lt).cell
  have l0 := (k0.below hb2 k0.lt).lt
  have k0' := k0.below hb2 k0.lt
  clear k0 k1 hb1 hb2
  go_wp2_with fail
  obtain ⟨w3, e3, hb4, hz3, k2⟩ := box1 w2 #[.int .i64 b.b0, .int .i64 b.b1, .int .i64 b.b2, .int .i64 b.a1, .int .i64 b.a2, .int .i64 b.sh] 129
  rw [← e3]; clear e3
  refine (numbers_any a _).mono ?_
  rintro e w4 ⟨rfl, hb5⟩
  have hb6 := below_step (below_step hb3 hb4 hb3.size) hb5 (Nat.le_trans hb3.size hb4.size)
  have c2 := (k2.below hb5 k2.lt).cell
  clear c0 l0 k0' k2 hb3 hb4 hb5
  go_wp2_with fail
  go_loop [5, 13] (fun v i => ∃ k : Nat, k ≤ 6 ∧ i = .int .i64 k ∧ v = .int .i64 (distN a b k)) (fun _ i => 6 - (intOf i).toNat)
  case atStart => exact ⟨0, by omega, rfl, rfl⟩
  case round =>
    obtain ⟨k, hk, rfl, rfl⟩ := hrel
    have hk6 : k = 0 ∨ k = 1 ∨ k = 2 ∨ k = 3 ∨ k = 4 ∨ k = 5 ∨ k = 6 := by omega
    rcases hk6 with rfl | rfl | rfl | rfl | rfl | rfl | rfl
    · have q1 := dif_bd ha hb' 0
      have q2 := distN_bd ha hb' 0
      simp only [nth6] at q1
      have i0 : ∀ w, (Instr.index 129 (.agg #[.int .i64 a.b0, .int .i64 a.b1, .int .i64 a.b2, .int .i64 a.a1, .int .i64 a.a2, .int .i64 a.sh]) (.int .i64 0)).run Tryd.prog w = .ok (.int .i64 a.b0) w := fun _ => by kernel_rfl
      go_wp2_with (go_at_call 75; refine (abs_any _ _ (by omega) (by omega)).mono ?_; rintro e w' ⟨rfl, rfl⟩)
      go_round
      case rel => exact ⟨0 + 1, by omega, rfl, rfl⟩
      case measure => simp [intOf]
    · have q1 := dif_bd ha hb' 1
      have q2 := distN_bd ha hb' 1
      simp only [nth6] at q1
      have i0 : ∀ w, (Instr.index 129 (.agg #[.int .i64 a.b0, .int .i64 a.b1, .int .i64 a.b2, .int .i64 a.a1, .int .i64 a.a2, .int .i64 a.sh]) (.int .i64 1)).run Tryd.prog w = .ok (.int .i64 a.b1) w := fun _ => by kernel_rfl
      go_wp2_with (go_at_call 75; refine (abs_any _ _ (by omega) (by omega)).mono ?_; rintro e w' ⟨rfl, rfl⟩)
      go_round
      case rel => exact ⟨1 + 1, by omega, rfl, rfl⟩
      case measure => simp [intOf]
    · have q1 := dif_bd ha hb' 2
      have q2 := distN_bd ha hb' 2
      simp only [nth6] at q1
      have i0 : ∀ w, (Instr.index 129 (.agg #[.int .i64 a.b0, .int .i64 a.b1, .int .i64 a.b2, .int .i64 a.a1, .int .i64 a.a2, .int .i64 a.sh]) (.int .i64 2)).run Tryd.prog w = .ok (.int .i64 a.b2) w := fun _ => by kernel_rfl
      go_wp2_with (go_at_call 75; refine (abs_any _ _ (by omega) (by omega)).mono ?_; rintro e w' ⟨rfl, rfl⟩)
      go_round
      case rel => exact ⟨2 + 1, by omega, rfl, rfl⟩
      case measure => simp [intOf]
    · have q1 := dif_bd ha hb' 3
      have q2 := distN_bd ha hb' 3
      simp only [nth6] at q1
      have i0 : ∀ w, (Instr.index 129 (.agg #[.int .i64 a.b0, .int .i64 a.b1, .int .i64 a.b2, .int .i64 a.a1, .int .i64 a.a2, .int .i64 a.sh]) (.int .i64 3)).run Tryd.prog w = .ok (.int .i64 a.a1) w := fun _ => by kernel_rfl
      go_wp2_with (go_at_call 75; refine (abs_any _ _ (by omega) (by omega)).mono ?_; rintro e w' ⟨rfl, rfl⟩)
      go_round
      case rel => exact ⟨3 + 1, by omega, rfl, rfl⟩
      case measure => simp [intOf]
    · have q1 := dif_bd ha hb' 4
      have q2 := distN_bd ha hb' 4
      simp only [nth6] at q1
      have i0 : ∀ w, (Instr.index 129 (.agg #[.int .i64 a.b0, .int .i64 a.b1, .int .i64 a.b2, .int .i64 a.a1, .int .i64 a.a2, .int .i64 a.sh]) (.int .i64 4)).run Tryd.prog w = .ok (.int .i64 a.a2) w := fun _ => by kernel_rfl
      go_wp2_with (go_at_call 75; refine (abs_any _ _ (by omega) (by omega)).mono ?_; rintro e w' ⟨rfl, rfl⟩)
      go_round
      case rel => exact ⟨4 + 1, by omega, rfl, rfl⟩
      case measure => simp [intOf]
    · have q1 := dif_bd ha hb' 5
      have q2 := distN_bd ha hb' 5
      simp only [nth6] at q1
      have i0 : ∀ w, (Instr.index 129 (.agg #[.int .i64 a.b0, .int .i64 a.b1, .int .i64 a.b2, .int .i64 a.a1, .int .i64 a.a2, .int .i64 a.sh]) (.int .i64 5)).run Tryd.prog w = .ok (.int .i64 a.sh) w := fun _ => by kernel_rfl
      go_wp2_with (go_at_call 75; refine (abs_any _ _ (by omega) (by omega)).mono ?_; rintro e w' ⟨rfl, rfl⟩)
      go_round
      case rel => exact ⟨5 + 1, by omega, rfl, rfl⟩
      case measure => simp [intOf]
    · go_wp2
      go_ret
      exact ⟨by simp [dist6 HE.out], hb6⟩

theorem carryK' {w w' : World} {g : Nat} {t : TypeId} {cs : Array Value} (h : Blk w g t cs) (hb : Below w.heap.size w w') : Blk w' g t cs := h.below hb h.lt
theorem nth_cell (s : Sec) {k : Nat} (hk : k < 5) : (#[.int .i64 s.b0, .int .i64 s.b1, .int .i64 s.b2, .int .i64 s.a1, .int .i64 s.a2, .int .i64 s.sh] : Array Value)[k]? = some (.int .i64 (nth6 s k)) := by
  rcases k with _ | _ | _ | _ | _ | k
  · rfl
  · rfl
  · rfl
  · rfl
  · rfl
  · omega
set_option maxHeartbeats 2000000 in
theorem rDistance_any (a b : Sec) (w : World) (ha : a.Ok) (hb' : b.Ok) :
    Calls Tryd.prog 91 #[.agg #[.int .i64 a.b0, .int .i64 a.b1, .int .i64 a.b2, .int .i64 a.a1, .int .i64 a.a2, .int .i64 a.sh], .agg #[.int .i64 b.b0, .int .i64 b.b1, .int .i64 b.b2, .int .i64 b.a1, .int .i64 b.a2, .int .i64 b.sh]] w fun e w' => e = .returned (.int .i64 (dist a b)) ∧ Below w.heap.size w w' := by
  go_enter Tryd.func91, Tryd.ntmps91
  go_wp2_with fail
  obtain ⟨w1, e1, hb1, hz1, k0, k1⟩ := box2 w #[.int .i64 a.b0, .int .i64 a.b1, .int .i64 a.b2, .int .i64 a.a1, .int .i64 a.a2, .int .i64 a.sh] #[.int .i64 b.b0, .int .i64 b.b1, .int .i64 b.b2, .int .i64 b.a1, .int .i64 b.a2, .int .i64 b.sh] 23 23
  rw [← e1]; clear e1
  have c0 : ∀ i W, Below w1.heap.size w1 W → W.cell? ⟨w.heap.size, i, none⟩ = (#[.int .i64 a.b0, .int .i64 a.b1, .int .i64 a.b2, .int .i64 a.a1, .int .i64 a.a2, .int .i64 a.sh] : Array Value)[i]? := fun i W h => (k0.below h k0.lt).cell i
  have c1 : ∀ i W, Below w1.heap.size w1 W → W.cell? ⟨w.heap.size + 1, i, none⟩ = (#[.int .i64 b.b0, .int .i64 b.b1, .int .i64 b.b2, .int .i64 b.a1, .int .i64 b.a2, .int .i64 b.sh] : Array Value)[i]? := fun i W h => (k1.below h k1.lt).cell i
  go_cut [5, 6] (fun s5 s6 wx => ∃ gA gB : Nat, s5 = .slice (some ⟨gA, 0, none⟩) 6 6 ∧ s6 = .slice (some ⟨gB, 0, none⟩) 6 6 ∧ Blk wx gA 3 #[.int .i64 a.b0, .int .i64 a.b1, .int .i64 a.b2, .int .i64 a.a1, .int .i64 a.a2, .int .i64 a.sh] ∧ Blk wx gB 3 #[.int .i64 b.b0, .int .i64 b.b1, .int .i64 b.b2, .int .i64 b.a1, .int .i64 b.a2, .int .i64 b.sh] ∧ Below w1.heap.size w1 wx)
  case first =>
    go_region_held3 (fun W => Below w1.heap.size w1 W) (first | exact (Below.refl _ _).drew | (with_reducible assumption) | exact below_new ‹Below w1.heap.size w1 _› (Nat.le_refl _) _ | (refine below_set (below_set (below_set (below_set (by assumption) (by omega) _) (by omega) _) (by omega) _) (by omega) _)) ((go_at_call 70; refine (rNumbers_any _ _).mono ?_; rintro e WA ⟨gN, rfl, hgN, kM, hbA⟩; have hSA := below_step ‹Below w1.heap.size w1 _› hbA (Below.size ‹Below w1.heap.size w1 _›); (try have kO := carryK' kN hbA); have kN := kM))
    all_goals (go_wp2_with fail; go_meet; exact ⟨_, _, rfl, rfl, by with_reducible assumption, by with_reducible assumption, by with_reducible assumption⟩)
  case rest =>
    obtain ⟨gA, gB, rfl, rfl, kA, kB, hX⟩ := hcut
    rename World => X
    have hb2 := below_step hb1 hX hb1.size
    clear c0 c1 k0 k1 hb1 hX
    go_wp2_with fail
    go_loopw [7, 8] (fun v i wr => ∃ k : Nat, k ≤ 5 ∧ i = .int .i64 k ∧ v = .int .i64 (distN a b k) ∧ Below X.heap.size X wr) (fun _ i _ => 5 - (intOf i).toNat)
    case atStart => exact ⟨0, by omega, rfl, rfl, Below.refl _ _⟩
    case round =>
      obtain ⟨k, hk, rfl, rfl, hbw⟩ := hrel
      by_cases hlt : k < 5
      · have q1 := dif_bd ha hb' k
        have q2 := distN_bd ha hb' k
        have mA := carryK' kA hbw
        have mB := carryK' kB hbw
        have e1 : ∀ W, (over wr.heap.size wr W).cell? ⟨gA, k, none⟩ = some (.int .i64 (nth6 a k)) := fun W => (over_blk (B := wr.heap.size) mA mA.lt k W).trans (nth_cell a hlt)
        have e2 : ∀ W, (over wr.heap.size wr W).cell? ⟨gB, k, none⟩ = some (.int .i64 (nth6 b k)) := fun W => (over_blk (B := wr.heap.size) mB mB.lt k W).trans (nth_cell b hlt)
        have hlt' : ((k : Int) < 5) := by omega
        clear mA mB
        go_wp2
        refine wp_region_over wr.heap.size (by kernel_rfl) (by kernel_rfl) ?_; (repeat (first | go_big_quiet_step ((go_at_call 72; exact over_same (rabs_any _ _ (by omega) (by omega)))) | quiet_step ((go_at_call 72; exact over_same (rabs_any _ _ (by omega) (by omega)))))); refine wpQuiet_nil ?_; rintro W ⟨x, rfl⟩
        go_wp2
        go_roundw
        case rel => exact ⟨k + 1, by omega, by go_num, rfl, below_step hbw (over_below _ _ _) hbw.size⟩
        case measure => simp [intOf]; omega
      · obtain rfl : k = 5 := by omega
        go_wp2
        go_ret
        exact ⟨rfl, below_step hb2 hbw hb2.size⟩
end Go.Proofs.YtlaaajkehjoffaaDoor
