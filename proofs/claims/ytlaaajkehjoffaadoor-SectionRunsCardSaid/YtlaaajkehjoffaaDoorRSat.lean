/- The reference's Saturations. -/
import Derived.Test.YtlaaajkehjoffaaDoorRFrom
namespace Go.Proofs.YtlaaajkehjoffaaDoor
open Go.RowKit Go.Shelf
set_option maxRecDepth 100000

/-- How many outputs were limited. -/
def Sec.sats (s : Sec) : St → List Int → Int
  | _, [] => 0
  | y, x :: xs => (if s.out y x = s.raw y x then 0 else 1) + s.sats (s.next y x) xs
theorem sats_snoc (s : Sec) (y : St) (xs : List Int) (x : Int) : s.sats y (xs ++ [x]) = s.sats y xs + (if s.out (s.after y xs) x = s.raw (s.after y xs) x then 0 else 1) := by
  induction xs generalizing y with
  | nil => simp only [List.nil_append, Sec.sats, Sec.after]; omega
  | cons a l ih => simp only [List.cons_append, Sec.sats, Sec.after, ih]; omega
theorem sats_bd (s : Sec) (y : St) (xs : List Int) : 0 ≤ s.sats y xs ∧ s.sats y xs ≤ xs.length := by
  induction xs generalizing y with
  | nil => simp [Sec.sats]
  | cons a l ih =>
    have := ih (s.next y a)
    simp only [Sec.sats, List.length_cons]
    split <;> omega
theorem sats_take_succ (s : Sec) (y : St) {xs : List Int} {k : Nat} {x : Int} (h : xs[k]? = some x) : s.sats y (xs.take (k + 1)) = s.sats y (xs.take k) + (if s.out (s.after y (xs.take k)) x = s.raw (s.after y (xs.take k)) x then 0 else 1) := by
  rw [List.take_add_one, h]; exact sats_snoc _ _ _ _

set_option maxHeartbeats 2000000 in
theorem rSaturations_any (s : Sec) (A : Option Addr) (m c : Nat) (xs : List Int) (w : World) (hs : s.Ok) (hx : ∀ x ∈ xs, -32767 ≤ x ∧ x ≤ 32767) (hm : m ≤ 1000000000000) (hR : Reads w w.heap.size 1 A m (ints xs)) :
    Calls Tryd.prog 25 #[.agg #[.int .i64 s.b0, .int .i64 s.b1, .int .i64 s.b2, .int .i64 s.a1, .int .i64 s.a2, .int .i64 s.sh], .slice A m c] w fun e w' => e = .returned (.int .i64 (s.sats St.zero xs)) ∧ Below w.heap.size w w' := by
  have hl := reads_len hR
  have HL := hide hl; clear hl
  have HX := hide hx; clear hx
  go_enter Tryd.func25, Tryd.ntmps25
  go_wp2
  obtain ⟨w1, e1, hb1, hz1, k0, k1⟩ := box2 w #[.int .i64 s.b0, .int .i64 s.b1, .int .i64 s.b2, .int .i64 s.a1, .int .i64 s.a2, .int .i64 s.sh] #[.int .i64 0, .int .i64 0, .int .i64 0, .int .i64 0] 23 25
  rw [← e1]; clear e1
  go_loopw [6, 7] (fun v i wr => ∃ k : Nat, k ≤ m ∧ i = .int .i64 k ∧ v = .int .i64 (s.sats St.zero (xs.take k)) ∧ Below w.heap.size w wr ∧ w.heap.size + 2 ≤ wr.heap.size ∧ Blk wr w.heap.size 23 #[.int .i64 s.b0, .int .i64 s.b1, .int .i64 s.b2, .int .i64 s.a1, .int .i64 s.a2, .int .i64 s.sh] ∧ Blk wr (w.heap.size + 1) 25 #[.int .i64 (s.after St.zero (xs.take k)).x1, .int .i64 (s.after St.zero (xs.take k)).x2, .int .i64 (s.after St.zero (xs.take k)).y1, .int .i64 (s.after St.zero (xs.take k)).y2]) (fun _ i _ => m - (intOf i).toNat)
  case atStart => exact ⟨0, by omega, rfl, rfl, hb1, hz1, k0, k1⟩
  case round =>
    obtain ⟨k, hk, rfl, rfl, hb, hsz, q0, q1⟩ := hrel
    clear k0 k1 hb1 hz1
    have hsb := sats_bd s St.zero (xs.take k)
    have hsl := List.length_take_le k xs
    by_cases hlt : k < m
    · have hr := hR.below hb
      obtain ⟨ad, xi, rfl, hxk, hc⟩ := reads_hit hr hlt hb.size
      have hxb := HX.out xi (List.mem_of_getElem? hxk)
      have hza := after_ok (s := s) zero_ok (xs := xs.take k) (fun a ha => HX.out a (List.mem_of_mem_take ha))
      have HK := hide hxk; clear hxk
      obtain ⟨z, ez⟩ : ∃ z, z = s.after St.zero (xs.take k) := ⟨_, rfl⟩
      rw [← ez] at q1 hza
      have EZ := hide ez; clear ez
      have c0 : ∀ i W, Below wr.heap.size wr W → W.cell? ⟨w.heap.size, i, none⟩ = (#[.int .i64 s.b0, .int .i64 s.b1, .int .i64 s.b2, .int .i64 s.a1, .int .i64 s.a2, .int .i64 s.sh] : Array Value)[i]? := fun i W h => (q0.below h q0.lt).cell i
      have c1 : ∀ i W, Below wr.heap.size wr W → W.cell? ⟨w.heap.size + 1, i, none⟩ = (#[.int .i64 z.x1, .int .i64 z.x2, .int .i64 z.y1, .int .i64 z.y2] : Array Value)[i]? := fun i W h => (q1.below h q1.lt).cell i
      have hA1 := alloc_cel
      have hA2 := alloc_fro
      clear hr
      go_wp2
      go_region_held3 (fun W => Below wr.heap.size wr W) (first | exact (Below.refl _ _).drew | (with_reducible assumption) | exact below_new ‹Below wr.heap.size wr _› (Nat.le_refl _) _ | (refine below_set (below_set (below_set (below_set (by assumption) (by omega) _) (by omega) _) (by omega) _) (by omega) _)) (first | (go_at_call 50; refine (rstep_any s z xi _ hs hza hxb.1 hxb.2).mono ?_; rintro e W' ⟨rfl, hbW⟩; have hS := below_step ‹Below wr.heap.size wr _› hbW (Below.size ‹Below wr.heap.size wr _›); have hF := below_fro hbW; have hC := below_cel hbW; have hL := below_lt hbW; have hT := below_le hbW; have hK := below_blk hbW; have hz := Below.size hS; have hz1' := Below.size hbW; (try simp only [World.size_alloc, World.size_drew] at hz1'); (try have hq3 := Nat.lt_of_lt_of_le hq3 hz1'); (try have hq3 := Nat.lt_of_lt_of_le hq3 (Nat.le_of_succ_le hz1')); (try have hq3 := Nat.lt_of_lt_of_le hq1 hz1'); (try have hq3 := Nat.lt_of_lt_of_le hq1 (Nat.le_of_succ_le hz1')); (try have hq7 := Nat.lt_of_succ_lt hq3); (try have hq8 := Nat.le_of_lt hq7); (try have hq4 := Nat.le_of_lt hq3); (try have hq1 := Nat.lt_of_succ_le hz1'); (try have hq2 := Nat.lt_of_succ_lt hq1); (try have hq5 := Nat.le_of_lt hq1); (try have hq6 := Nat.le_of_lt hq2)))
      all_goals (first
        | (with_reducible refine fin1 (v := wr) (t := 25) (by with_reducible assumption) (fun X hX kX => ?_))
        | (with_reducible refine fin4 (B := wr.heap.size) (v := wr) (c0 := .int .i64 0) (c1 := .int .i64 0) (c2 := .int .i64 0) (c3 := .int .i64 0) 25 (by with_reducible assumption) (by omega) (by (repeat (first | exact Blk.newAt (by simp) | refine Blk.alloc ?_ _ | refine Blk.drew ?_ | refine (by with_reducible assumption : ∀ g t cs, Blk _ g t cs → Blk _ g t cs) _ _ _ ?_))) (fun X hX kX => ?_)))
      all_goals (
        have p0 := over_blk (B := X.heap.size) (q0.below hX q0.lt) (by have := q0.lt; have := hX.size; omega)
        have p1 := over_blk (B := X.heap.size) (q1.below hX q1.lt) (by have := q1.lt; have := hX.size; omega)
        have px : ∀ W, (over X.heap.size X W).cell? (ad.add k) = some (.int .i64 xi) := fun W => hc _ (hX.trans ((over_below X.heap.size X W).mono hX.size))
        clear c0 c1 hc hA1 hA2
        go_wp2
        refine wp_region_over X.heap.size (by kernel_rfl) (by kernel_rfl) ?_; (repeat (first | go_big_quiet_step ((go_at_call 71; exact over_call (Nat.le_refl _) (rraw_any s z xi _ hs hza hxb.1 hxb.2))) | quiet_step ((go_at_call 71; exact over_call (Nat.le_refl _) (rraw_any s z xi _ hs hza hxb.1 hxb.2))))); refine wpQuiet_nil ?_; rintro W ⟨x, rfl⟩
        have hbY := over_below X.heap.size X x
        generalize over X.heap.size X x = Y at hbY ⊢
        have r0 := (q0.below hX q0.lt).below hbY (by have := q0.lt; have := hX.size; omega)
        have r1 := (q1.below hX q1.lt).below hbY (by have := q1.lt; have := hX.size; omega)
        have rX := kX.below hbY kX.lt
        have d1 := r1.cell
        have f1 := r1.frozen
        have dX := rX.cell
        have bY : Below w.heap.size w Y := below_step (below_step hb hX hb.size) hbY (Nat.le_trans hb.size hX.size)
        have sY : w.heap.size + 2 ≤ Y.heap.size := Nat.le_trans hsz (Nat.le_trans hX.size hbY.size)
        clear p0 p1 px q0 q1 kX rX
        go_wp2
        all_goals (
          obtain ⟨w7, e7, k7, z7, o7, b7, _, _, rr7⟩ := set4 Y (w.heap.size + 1) 25 _ _ _ _ (.int .i64 (s.next z xi).x1) (.int .i64 (s.next z xi).x2) (.int .i64 (s.next z xi).y1) (.int .i64 (s.next z xi).y2) r1
          rw [← e7]; clear e7
          have n0 : w.heap.size ≠ w.heap.size + 1 := by omega
          go_roundw
          case rel =>
            refine ⟨k + 1, by omega, by go_num, ?_, bY.trans (b7 _ (by omega)), by omega, o7 _ _ _ n0 r0, ?_⟩
            · rw [sats_take_succ s _ HK.out, ← EZ.out]
              first
                | (rw [if_neg (by simpa using ‹(s.out z xi != s.raw z xi) = true›)])
                | (rw [if_pos (by simpa using ‹(s.out z xi != s.raw z xi) = false›)]; simp)
            · rw [after_take_succ s _ HK.out, ← EZ.out]; exact k7
          case measure => simp [intOf]; omega))
    · obtain rfl : k = m := by omega
      rw [List.take_of_length_le (by rw [HL.out]; omega)]
      go_wp2
      go_ret
      exact ⟨rfl, hb⟩
end Go.Proofs.YtlaaajkehjoffaaDoor
