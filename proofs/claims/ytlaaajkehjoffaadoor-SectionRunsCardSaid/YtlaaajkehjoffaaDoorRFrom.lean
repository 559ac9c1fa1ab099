/- The reference's From and Run. -/
import Derived.Test.YtlaaajkehjoffaaDoorSame
import Derived.Test.YtlaaajkehjoffaaDoorRun
namespace Go.Proofs.YtlaaajkehjoffaaDoor
open Go.RowKit Go.Shelf
set_option maxRecDepth 100000

theorem reads_hit {w : World} {B n k : Nat} {A : Option Addr} {xs : List Int} (h : Reads w B 1 A n (ints xs)) (hk : k < n) (hB : B ≤ w.heap.size) :
    ∃ ad x, A = some ad ∧ xs[k]? = some x ∧ ∀ W, Below w.heap.size w W → W.cell? (ad.add k) = some (.int .i64 x) := by
  obtain ⟨ad, x, h1, h2, h3, h4⟩ := reads_at h hk
  exact ⟨ad, x, h1, h3, fun W hW => (hW.cell (p := ad.add k) (by rw [block_of_add]; omega)).trans h4⟩
theorem outs_take_succ (s : Sec) (y : St) {xs : List Int} {k : Nat} {x : Int} (h : xs[k]? = some x) : ints (s.outs y (xs.take (k + 1))) = ints (s.outs y (xs.take k)) ++ [.int .i64 (s.out (s.after y (xs.take k)) x)] := by
  rw [List.take_add_one, h]
  show ints (s.outs y (xs.take k ++ [x])) = _
  rw [outs_snoc, ints_snoc]

set_option maxHeartbeats 2000000 in
theorem rFrom_any (s : Sec) (y : St) (A : Option Addr) (m c : Nat) (xs : List Int) (w : World) (hs : s.Ok) (hy : y.Ok) (hx : ∀ x ∈ xs, -32767 ≤ x ∧ x ≤ 32767) (hm : m ≤ 1000000000000) (hR : Reads w w.heap.size 1 A m (ints xs)) :
    Calls Tryd.prog 26 #[.agg #[.int .i64 s.b0, .int .i64 s.b1, .int .i64 s.b2, .int .i64 s.a1, .int .i64 s.a2, .int .i64 s.sh], .agg #[.int .i64 y.x1, .int .i64 y.x2, .int .i64 y.y1, .int .i64 y.y2], .slice A m c] w fun e w' => ∃ v, e = .returned (.tuple #[v, .agg #[.int .i64 (s.after y xs).x1, .int .i64 (s.after y xs).x2, .int .i64 (s.after y xs).y1, .int .i64 (s.after y xs).y2]]) ∧ w'.ownsRow w.heap.size 3 1 v m (ints (s.outs y xs)) ∧ Below w.heap.size w w' := by
  have hl := reads_len hR
  have HL := hide hl; clear hl
  have HX := hide hx; clear hx
  go_enter Tryd.func26, Tryd.ntmps26
  go_wp2
  obtain ⟨w1, e1, hb1, hz1, k0, k1, k2⟩ := box3 w #[.int .i64 s.b0, .int .i64 s.b1, .int .i64 s.b2, .int .i64 s.a1, .int .i64 s.a2, .int .i64 s.sh] #[.int .i64 y.x1, .int .i64 y.x2, .int .i64 y.y1, .int .i64 y.y2] #[.int .i64 0, .int .i64 0, .int .i64 0, .int .i64 0] 23 25 25
  rw [← e1]; clear e1
  go_loopw [8, 9] (fun v i wr => ∃ k : Nat, k ≤ m ∧ i = .int .i64 k ∧ Below w.heap.size w wr ∧ w.heap.size + 3 ≤ wr.heap.size ∧ Blk wr w.heap.size 23 #[.int .i64 s.b0, .int .i64 s.b1, .int .i64 s.b2, .int .i64 s.a1, .int .i64 s.a2, .int .i64 s.sh] ∧ Blk wr (w.heap.size + 1) 25 #[.int .i64 (s.after y (xs.take k)).x1, .int .i64 (s.after y (xs.take k)).x2, .int .i64 (s.after y (xs.take k)).y1, .int .i64 (s.after y (xs.take k)).y2] ∧ Blk wr (w.heap.size + 2) 25 #[.int .i64 0, .int .i64 0, .int .i64 0, .int .i64 0] ∧ wr.ownsRow (w.heap.size + 3) 3 1 v k (ints (s.outs y (xs.take k)))) (fun _ i _ => m - (intOf i).toNat)
  case atStart => exact ⟨0, by omega, rfl, hb1, hz1, k0, k1, k2, by simpa [ints, Sec.outs, Sec.trace] using World.ownsRow_nil w1 _ _ _⟩
  case round =>
    obtain ⟨k, hk, rfl, hb, hsz, q0, q1, q2, ho⟩ := hrel
    clear k0 k1 k2 hb1 hz1
    by_cases hlt : k < m
    · have hr := hR.below hb
      obtain ⟨ad, x, rfl, hxk, hc⟩ := reads_hit hr hlt hb.size
      have hxb := HX.out x (List.mem_of_getElem? hxk)
      have hza := after_ok (s := s) hy (xs := xs.take k) (fun a ha => HX.out a (List.mem_of_mem_take ha))
      have HK := hide hxk; clear hxk
      obtain ⟨z, ez⟩ : ∃ z, z = s.after y (xs.take k) := ⟨_, rfl⟩
      rw [← ez] at q1 hza
      have EZ := hide ez; clear ez
      have c0 : ∀ i W, Below wr.heap.size wr W → W.cell? ⟨w.heap.size, i, none⟩ = (#[.int .i64 s.b0, .int .i64 s.b1, .int .i64 s.b2, .int .i64 s.a1, .int .i64 s.a2, .int .i64 s.sh] : Array Value)[i]? := fun i W h => (q0.below h q0.lt).cell i
      have c1 : ∀ i W, Below wr.heap.size wr W → W.cell? ⟨w.heap.size + 1, i, none⟩ = (#[.int .i64 z.x1, .int .i64 z.x2, .int .i64 z.y1, .int .i64 z.y2] : Array Value)[i]? := fun i W h => (q1.below h q1.lt).cell i
      have hA1 := alloc_cel
      have hA2 := alloc_fro
      have A1 : k + 1 ≤ maxLen := by unfold maxLen; omega
      have A2 : (k + 1) * 8 ≤ 140737488355328 := by omega
      clear hr
      go_wp2
      go_region_held3 (fun W => Below wr.heap.size wr W) (first | exact (Below.refl _ _).drew | (with_reducible assumption) | exact below_new ‹Below wr.heap.size wr _› (Nat.le_refl _) _ | (refine below_set (below_set (below_set (below_set (by assumption) (by omega) _) (by omega) _) (by omega) _) (by omega) _)) (first | (go_at_call 50; refine (rstep_any s z x _ hs hza hxb.1 hxb.2).mono ?_; rintro e W' ⟨rfl, hbW⟩; have hS := below_step ‹Below wr.heap.size wr _› hbW (Below.size ‹Below wr.heap.size wr _›); have hF := below_fro hbW; have hC := below_cel hbW; have hL := below_lt hbW; have hT := below_le hbW; have hK := below_blk hbW; have hz := Below.size hS; have hz1' := Below.size hbW; (try simp only [World.size_alloc, World.size_drew] at hz1'); (try have hq3 := Nat.lt_of_lt_of_le hq3 hz1'); (try have hq3 := Nat.lt_of_lt_of_le hq3 (Nat.le_of_succ_le hz1')); (try have hq3 := Nat.lt_of_lt_of_le hq1 hz1'); (try have hq3 := Nat.lt_of_lt_of_le hq1 (Nat.le_of_succ_le hz1')); (try have hq7 := Nat.lt_of_succ_lt hq3); (try have hq8 := Nat.le_of_lt hq7); (try have hq4 := Nat.le_of_lt hq3); (try have hq1 := Nat.lt_of_succ_le hz1'); (try have hq2 := Nat.lt_of_succ_lt hq1); (try have hq5 := Nat.le_of_lt hq1); (try have hq6 := Nat.le_of_lt hq2)))
      all_goals (first
        | (with_reducible refine fin1 (v := wr) (t := 25) (by with_reducible assumption) (fun X hX kX => ?_))
        | (with_reducible refine fin4 (B := wr.heap.size) (v := wr) (c0 := .int .i64 0) (c1 := .int .i64 0) (c2 := .int .i64 0) (c3 := .int .i64 0) 25 (by with_reducible assumption) (by omega) (by (repeat (first | exact Blk.newAt (by simp) | refine Blk.alloc ?_ _ | refine Blk.drew ?_ | refine (by with_reducible assumption : ∀ g t cs, Blk _ g t cs → Blk _ g t cs) _ _ _ ?_))) (fun X hX kX => ?_)))
      all_goals (
        have p0 := q0.below hX q0.lt
        have p1 := q1.below hX q1.lt
        have p2 := q2.below hX q2.lt
        have po := row_below ho hX
        have pb := below_step hb hX hb.size
        have pz := Nat.le_trans hsz hX.size
        clear c0 c1 hc hA1 hA2 hX q0 q1 q2 ho hb hsz
        go_wp2_with (at_builtin; refine wpList_pushG _ rfl (.tmp 28) (.tmp 30) _ rfl (w.heap.size + 3) 3 (.int .i64 0) 1 8 Tryd.underlying26 info_int rfl (by decide) _ k _ rfl (po.alloc _) X.heap.size [.int .i64 (s.out z x)] rfl rfl (cell_new1 _ _ _) (one_int _) A1 A2 (le_alloc pz _) ?_; intro v1 w5 ho1 hg1 hb5; have b1 := grown_blk (po.alloc _) hg1 (p1.alloc _) (by decide); have b0 := grown_blk (po.alloc _) hg1 (p0.alloc _) (by decide); have b2 := grown_blk (po.alloc _) hg1 (p2.alloc _) (by decide); have bX := grown_blk (po.alloc _) hg1 (kX.alloc _) (by decide); have cX := bX.cell; have c1 := b1.cell; have f1 := b1.frozen)
        obtain ⟨w7, e7, k7, z7, o7, b7, _, _, rr7⟩ := set4 w5 (w.heap.size + 1) 25 _ _ _ _ (.int .i64 (s.next z x).x1) (.int .i64 (s.next z x).x2) (.int .i64 (s.next z x).y1) (.int .i64 (s.next z x).y2) b1
        rw [← e7]; clear e7
        have n0 : w.heap.size ≠ w.heap.size + 1 := by omega
        have n2 : w.heap.size + 2 ≠ w.heap.size + 1 := by omega
        go_roundw
        case rel =>
          refine ⟨k + 1, by omega, by go_num, ?_, ?_, o7 _ _ _ n0 b0, ?_, o7 _ _ _ n2 b2, ?_⟩
          · exact ((pb.alloc pb.size _).trans (hb5.mono (by omega))).trans (b7 _ (by omega))
          · have := hb5.size; simp at this; omega
          · rw [after_take_succ s y HK.out, ← EZ.out]; exact k7
          · rw [outs_take_succ s y HK.out, ← EZ.out]; exact rr7 _ _ _ _ _ _ (by decide) ho1
        case measure => simp [intOf]; omega)
    · obtain rfl : k = m := by omega
      rw [List.take_of_length_le (by rw [HL.out]; omega)] at q1 ho
      have c1 := q1.cell
      have c2 := q2.cell
      have f2 := q2.frozen
      go_wp2
      go_region
      obtain ⟨w7, e7, k7, z7, o7, b7, _, _, rr7⟩ := set4 wr (w.heap.size + 2) 25 _ _ _ _ (.int .i64 (s.after y xs).x1) (.int .i64 (s.after y xs).x2) (.int .i64 (s.after y xs).y1) (.int .i64 (s.after y xs).y2) q2
      rw [← e7]; clear e7
      have c7 := k7.cell
      go_wp2
      obtain ⟨A', c', rfl, _⟩ := own_slice ho
      refine bodyPost_ret (v := .tuple #[.slice A' k c', .agg #[.int .i64 (s.after y xs).x1, .int .i64 (s.after y xs).x2, .int .i64 (s.after y xs).y1, .int .i64 (s.after y xs).y2]]) (by simp [results, Tryd.results26, go_sem, c7]) rfl ?_
      exact ⟨_, rfl, (rr7 _ _ _ _ _ _ (by decide) ho).weaken (by omega), (hb.trans (b7 _ (by omega))).drew⟩

theorem rRun_any (s : Sec) (A : Option Addr) (m c : Nat) (xs : List Int) (w : World) (hs : s.Ok) (hx : ∀ x ∈ xs, -32767 ≤ x ∧ x ≤ 32767) (hm : m ≤ 1000000000000) (hR : Reads w w.heap.size 1 A m (ints xs)) :
    Calls Tryd.prog 24 #[.agg #[.int .i64 s.b0, .int .i64 s.b1, .int .i64 s.b2, .int .i64 s.a1, .int .i64 s.a2, .int .i64 s.sh], .slice A m c] w fun e w' => ∃ v, e = .returned v ∧ w'.ownsRow w.heap.size 3 1 v m (ints (s.outs St.zero xs)) ∧ Below w.heap.size w w' := by
  have HX := hide hx; clear hx
  go_enter Tryd.func24, Tryd.ntmps24
  go_wp2_with fail
  obtain ⟨w1, e1, hb1, hz1, k0⟩ := box1 w #[.int .i64 s.b0, .int .i64 s.b1, .int .i64 s.b2, .int .i64 s.a1, .int .i64 s.a2, .int .i64 s.sh] 23
  rw [← e1]; clear e1
  refine (rFrom_any s St.zero A m c xs _ hs zero_ok HX.out hm ((hR.below hb1).more hb1.size)).mono ?_
  rintro e w2 ⟨v, rfl, ho, hb2⟩
  clear hR
  go_wp2
  go_ret
  exact ⟨v, rfl, row_below (ho.weaken hb1.size) ((Below.refl _ _).alloc (Nat.le_refl _) _), (by repeat (first | exact below_step hb1 hb2 hb1.size | exact Below.refl _ _ | refine Below.drew ?_ | refine below_drewN ?_ _ | refine below_set ?_ (by omega) _ | refine below_new ?_ (by omega) _))⟩
end Go.Proofs.YtlaaajkehjoffaaDoor
