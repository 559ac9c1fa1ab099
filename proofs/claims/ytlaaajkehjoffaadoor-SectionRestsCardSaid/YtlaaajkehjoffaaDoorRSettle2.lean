/- The reference's Settle. -/
import Derived.Test.YtlaaajkehjoffaaDoorRSettle
import Derived.Deep.LoopGhost
namespace Go.Proofs.YtlaaajkehjoffaaDoor
open Go.RowKit Go.Shelf
set_option maxRecDepth 100000

theorem st_new (w : World) (x : St) (t : TypeId) : ∀ j u, (stCells x)[j]? = some u → (w.alloc (.cells #[.int .i64 x.x1, .int .i64 x.x2, .int .i64 x.y1, .int .i64 x.y2] t)).cell? ⟨w.heap.size, j, none⟩ = some u := cells_new w (stCells x) t
theorem add_off4 (a : Addr) (j : Nat) (hj : 1 ≤ j) : (⟨a.block, a.off + j, none⟩ : Addr) = a.add j := by unfold Addr.add; rw [if_neg (by omega)]
theorem orb_hit {w : World} {B n k : Nat} {A : Option Addr} {s : Sec} {x : St} (h : Reads w B 4 A n (orbCells s x n)) (hk : k < n) (hB : B ≤ w.heap.size) :
    ∃ ad, A = some ad ∧ ∀ W, Below w.heap.size w W → W.cell? (ad.add (k * 4)) = some (.int .i64 (s.orb x k).x1) ∧ W.cell? ⟨(ad.add (k * 4)).block, (ad.add (k * 4)).off + 1, none⟩ = some (.int .i64 (s.orb x k).x2) ∧ W.cell? ⟨(ad.add (k * 4)).block, (ad.add (k * 4)).off + 2, none⟩ = some (.int .i64 (s.orb x k).y1) ∧ W.cell? ⟨(ad.add (k * 4)).block, (ad.add (k * 4)).off + 3, none⟩ = some (.int .i64 (s.orb x k).y2) := by
  obtain ⟨ad, h1, h2, h3⟩ := h.2 (by omega)
  refine ⟨ad, h1, fun W hW => ?_⟩
  have go : ∀ j v, j < 4 → (stCells (s.orb x k))[j]? = some v → W.cell? (ad.add (k * 4 + j)) = some v := fun j v hj hv => (hW.cell (p := ad.add (k * 4 + j)) (by rw [block_of_add]; omega)).trans (h3 _ _ ((by have := orbCells_at s x hk hj; rw [Nat.mul_comm 4 k] at this; exact this : (orbCells s x n)[k * 4 + j]? = _).trans hv))
  have go' : ∀ j v, j < 4 → 1 ≤ j → (stCells (s.orb x k))[j]? = some v → W.cell? ⟨(ad.add (k * 4)).block, (ad.add (k * 4)).off + j, none⟩ = some v := fun j v hj h1 hv => by rw [add_off4 _ _ h1, add_of_add]; exact go j v hj hv
  exact ⟨go 0 _ (by omega) rfl, go' 1 _ (by omega) (by omega) rfl, go' 2 _ (by omega) (by omega) rfl, go' 3 _ (by omega) (by omega) rfl⟩

theorem eqlSt (a b : St) (w : World) : (binOp .eql 25 (.agg #[.int .i64 a.x1, .int .i64 a.x2, .int .i64 a.y1, .int .i64 a.y2]) (.agg #[.int .i64 b.x1, .int .i64 b.x2, .int .i64 b.y1, .int .i64 b.y2])).run Tryd.prog w = .ok (.bool (a.eqB b)) w := by
  have hh : (Op.equalIn 10000 25 (.agg #[.int .i64 a.x1, .int .i64 a.x2, .int .i64 a.y1, .int .i64 a.y2]) (.agg #[.int .i64 b.x1, .int .i64 b.x2, .int .i64 b.y1, .int .i64 b.y2])).run Tryd.prog w = .ok (a.eqB b) w := by
    rw [show (10000 : Nat) = 9999 + 1 from rfl, run_equalIn_struct w 9999 25 _ _ (by kernel_rfl) (by kernel_rfl)]
    simp [Program.fieldsOf, Tryd.underlying25, Op.eqFields, go_sem, St.eqB, run_equalIn_int _ _ _ _ _ _ _ Tryd.underlying3]
    by_cases h1 : a.x1 = b.x1 <;> by_cases h2 : a.x2 = b.x2 <;> by_cases h3 : a.y1 = b.y1 <;> by_cases h4 : a.y2 = b.y2 <;> simp [h1, h2, h3, h4, go_sem]
  simp only [binOp, Op.equal, Op.maxDepth]
  simp [hh, go_sem]

/-- No state ahead of place j is the state n. -/
def missTo (s : Sec) (x : St) (n j : Nat) : Prop := ∀ i, i < j → (s.orb x i).eqB (s.orb x n) = false

set_option maxHeartbeats 4000000 in
theorem rSettle_any (s : Sec) (x : St) (w : World) (hs : s.Ok) (hx : x.Ok) :
    Calls Tryd.prog 30 #[.agg #[.int .i64 s.b0, .int .i64 s.b1, .int .i64 s.b2, .int .i64 s.a1, .int .i64 s.a2, .int .i64 s.sh], .agg #[.int .i64 x.x1, .int .i64 x.x2, .int .i64 x.y1, .int .i64 x.y2]] w fun e w' => e = .returned (setRes (s.settle x)) ∧ Below w.heap.size w w' := by
  go_enter Tryd.func30, Tryd.ntmps30
  go_wp2
  obtain ⟨w1, e1, hb1, hz1, k0, k1, k2⟩ := box3 w #[.int .i64 s.b0, .int .i64 s.b1, .int .i64 s.b2, .int .i64 s.a1, .int .i64 s.a2, .int .i64 s.sh] #[.int .i64 x.x1, .int .i64 x.x2, .int .i64 x.y1, .int .i64 x.y2] #[.int .i64 x.x1, .int .i64 x.x2, .int .i64 x.y1, .int .i64 x.y2] 23 25 25
  have hr0 : w1.ownsRow (w.heap.size + 2) 25 4 (.slice (some ⟨w.heap.size + 1 + 1, 0, none⟩) 1 1) 1 (orbCells s x 1) := by
    refine ⟨by rw [orbCells_len], .inr ⟨w.heap.size + 2, 1, #[.int .i64 x.x1, .int .i64 x.x2, .int .i64 x.y1, .int .i64 x.y2], rfl, Nat.le_refl _, k2, Nat.le_refl _, by unfold maxLen; omega, by simp, ?_⟩⟩
    simp [orbCells, stCells, Sec.orb, List.range_succ]
  rw [← e1]; clear e1
  go_loopg [7] 4096 (fun g v wr => ∃ p : Nat, p ≤ 4096 ∧ g = 4096 - p ∧ Below w.heap.size w wr ∧ wr.ownsRow (w.heap.size + 2) 25 4 v (p + 1) (orbCells s x (p + 1)) ∧ Blk wr w.heap.size 23 #[.int .i64 s.b0, .int .i64 s.b1, .int .i64 s.b2, .int .i64 s.a1, .int .i64 s.a2, .int .i64 s.sh] ∧ s.settle x = s.cyc x (4096 - p) (p + 1) ∧ w.heap.size + 3 ≤ wr.heap.size)
  case atStart => exact ⟨0, by omega, rfl, hb1, hr0, k0, rfl, hz1⟩
  case round =>
    obtain ⟨p, hp, hg, hb, ho, q0, hst, hsz⟩ := hrel
    have HST := hide hst; clear hst
    have HG := hide hg; clear hg
    clear hr0 k0 k1 k2 hb1 hz1
    obtain ⟨A, c, rfl, hr⟩ := own_slice ho
    by_cases hlt : p < 4096
    · have hz := orb_ok (s := s) hx p
      obtain ⟨ad, rfl, hc⟩ := orb_hit hr (by omega : p < p + 1) (Nat.le_refl _)
      obtain ⟨z, ez⟩ : ∃ z, z = s.orb x p := ⟨_, rfl⟩
      have en : s.orb x (p + 1) = s.next z 0 := by rw [ez]; rfl
      rw [← ez] at hc hz
      have EN := hide en; clear en ez
      have d0 : ∀ W, Below wr.heap.size wr W → W.cell? (ad.add (p * 4)) = some (.int .i64 z.x1) := fun W h => (hc W h).1
      have d1 : ∀ W, Below wr.heap.size wr W → W.cell? ⟨(ad.add (p * 4)).block, (ad.add (p * 4)).off + 1, none⟩ = some (.int .i64 z.x2) := fun W h => (hc W h).2.1
      have d2 : ∀ W, Below wr.heap.size wr W → W.cell? ⟨(ad.add (p * 4)).block, (ad.add (p * 4)).off + 2, none⟩ = some (.int .i64 z.y1) := fun W h => (hc W h).2.2.1
      have d3 : ∀ W, Below wr.heap.size wr W → W.cell? ⟨(ad.add (p * 4)).block, (ad.add (p * 4)).off + 3, none⟩ = some (.int .i64 z.y2) := fun W h => (hc W h).2.2.2
      have c0 : ∀ i W, Below wr.heap.size wr W → W.cell? ⟨w.heap.size, i, none⟩ = (#[.int .i64 s.b0, .int .i64 s.b1, .int .i64 s.b2, .int .i64 s.a1, .int .i64 s.a2, .int .i64 s.sh] : Array Value)[i]? := fun i W h => (q0.below h q0.lt).cell i
      have hA1 := alloc_cel
      have hA2 := alloc_fro
      have A1 : p + 1 + 1 ≤ maxLen := by unfold maxLen; omega
      have A2 : (p + 1 + 1) * 32 ≤ 140737488355328 := by omega
      have v1 : IntKind.i64.wrap (p : Int) = (p : Int) := IntWalk.i64_in _ (by omega)
      have v2 : (0 : Int) ≤ (p : Int) := by omega
      have v3 : (p : Int) ≤ ((p + 1 : Nat) : Int) := by omega
      have v4 : (p : Int) < ((p + 1 : Nat) : Int) := by omega
      have v5 : (p : Int) < (p : Int) + 1 := by omega
      clear hc hr
      go_wp2
      go_region_held3 (fun W => Below wr.heap.size wr W) (first | exact (Below.refl _ _).drew | (with_reducible assumption) | exact below_new ‹Below wr.heap.size wr _› (Nat.le_refl _) _ | (refine below_set (below_set (below_set (below_set (by assumption) (by omega) _) (by omega) _) (by omega) _) (by omega) _)) (first | (go_at_call 50; refine (rstep_any s z 0 _ hs hz (by omega) (by omega)).mono ?_; rintro e W' ⟨rfl, hbW⟩; have hS := below_step ‹Below wr.heap.size wr _› hbW (Below.size ‹Below wr.heap.size wr _›); have hF := below_fro hbW; have hC := below_cel hbW; have hL := below_lt hbW; have hT := below_le hbW; have hK := below_blk hbW; have hz := Below.size hS; have hz1' := Below.size hbW; (try simp only [World.size_alloc, World.size_drew] at hz1'); (try have hq3 := Nat.lt_of_lt_of_le hq3 hz1'); (try have hq3 := Nat.lt_of_lt_of_le hq3 (Nat.le_of_succ_le hz1')); (try have hq3 := Nat.lt_of_lt_of_le hq1 hz1'); (try have hq3 := Nat.lt_of_lt_of_le hq1 (Nat.le_of_succ_le hz1')); (try have hq7 := Nat.lt_of_succ_lt hq3); (try have hq8 := Nat.le_of_lt hq7); (try have hq4 := Nat.le_of_lt hq3); (try have hq1 := Nat.lt_of_succ_le hz1'); (try have hq2 := Nat.lt_of_succ_lt hq1); (try have hq5 := Nat.le_of_lt hq1); (try have hq6 := Nat.le_of_lt hq2)))
      all_goals (first
        | (with_reducible refine fin1 (v := wr) (t := 25) (by with_reducible assumption) (fun X hX kX => ?_))
        | (with_reducible refine fin4 (B := wr.heap.size) (v := wr) (c0 := .int .i64 0) (c1 := .int .i64 0) (c2 := .int .i64 0) (c3 := .int .i64 0) 25 (by with_reducible assumption) (by omega) (by (repeat (first | exact Blk.newAt (by simp) | refine Blk.alloc ?_ _ | refine Blk.drew ?_ | refine (by with_reducible assumption : ∀ g t cs, Blk _ g t cs → Blk _ g t cs) _ _ _ ?_))) (fun X hX kX => ?_)))
      all_goals (
        have m0 := q0.below hX q0.lt
        have mo := row_below ho hX
        have mb := below_step hb hX hb.size
        have msz := Nat.le_trans hsz hX.size
        clear d0 d1 d2 d3 c0 hA1 hA2 v1 v2 v3 v4 v5 hX q0 ho hb hsz
        go_wp2
        go_loopw [10] (fun i wi => ∃ j : Nat, j ≤ p + 1 ∧ i = .int .i64 j ∧ missTo s x (p + 1) j ∧ Below X.heap.size X wi) (fun i _ => p + 1 - (intOf i).toNat)
        case atStart => exact ⟨0, by omega, rfl, by intro i hi; omega, Below.refl _ _⟩
        case round =>
          obtain ⟨j, hj, rfl, hmiss, hbi⟩ := hrel
          have HM := hide hmiss; clear hmiss
          have n0 := m0.below hbi m0.lt
          have nX := kX.below hbi kX.lt
          have no := row_below mo hbi
          have nb := below_step mb hbi mb.size
          have nsz := Nat.le_trans msz hbi.size
          by_cases hjl : j < p + 1
          · obtain ⟨ad', ead, hcj⟩ := orb_hit (Reads.of_own no) hjl (Nat.le_refl _)
            obtain rfl := Option.some.inj ead
            obtain ⟨y, ey⟩ : ∃ y, y = s.orb x j := ⟨_, rfl⟩
            rw [← ey] at hcj
            have EY := hide ey; clear ey ead
            have e0 : ∀ W, (over wr.heap.size wr W).cell? (ad.add (j * 4)) = some (.int .i64 y.x1) := fun W => (hcj _ (over_below wr.heap.size wr W)).1
            have e1 : ∀ W, (over wr.heap.size wr W).cell? ⟨(ad.add (j * 4)).block, (ad.add (j * 4)).off + 1, none⟩ = some (.int .i64 y.x2) := fun W => (hcj _ (over_below wr.heap.size wr W)).2.1
            have e2 : ∀ W, (over wr.heap.size wr W).cell? ⟨(ad.add (j * 4)).block, (ad.add (j * 4)).off + 2, none⟩ = some (.int .i64 y.y1) := fun W => (hcj _ (over_below wr.heap.size wr W)).2.2.1
            have e3 : ∀ W, (over wr.heap.size wr W).cell? ⟨(ad.add (j * 4)).block, (ad.add (j * 4)).off + 3, none⟩ = some (.int .i64 y.y2) := fun W => (hcj _ (over_below wr.heap.size wr W)).2.2.2
            have aX := over_blk (B := wr.heap.size) nX nX.lt
            have hq := eqlSt y (s.next z 0)
            rcases hE : y.eqB (s.next z 0) with _ | _
            · rw [hE] at hq
              have HE := hide hE; clear hE
              clear hcj nX n0 no mo m0
              go_wp2
              refine wp_region_over wr.heap.size (by kernel_rfl) (by kernel_rfl) ?_; (repeat (first | go_big_quiet_step (fail) | quiet_step (fail))); refine wpQuiet_nil ?_; rintro W ⟨x, rfl⟩
              rename_i wo _
              go_wp2
              go_roundw
              case rel =>
                refine ⟨j + 1, by omega, by go_num, ?_, below_step hbi (over_below _ _ _) hbi.size⟩
                intro i hi
                by_cases e : i = j
                · rw [e, EN.out, ← EY.out]; exact HE.out
                · exact HM.out i (by omega)
              case measure => simp [intOf]; omega
            · rw [hE] at hq
              have HE := hide hE; clear hE
              have hh : s.hit x (p + 1) = some j := hit_some hjl HM.out (by rw [EN.out, ← EY.out]; exact HE.out)
              have HH := hide hh; clear hh
              clear hcj nX n0 no mo m0
              go_wp2
              refine wp_region_over wr.heap.size (by kernel_rfl) (by kernel_rfl) ?_; (repeat (first | go_big_quiet_step (fail) | quiet_step (fail))); refine wpQuiet_nil ?_; rintro W ⟨x, rfl⟩
              go_wp2
              go_ret3
              refine ⟨?_, below_step nb (over_below _ _ _) nb.size⟩
              rw [HST.out, show 4096 - p = (4095 - p) + 1 from by omega, cyc_hit HH.out]
              simp [setRes]; omega
          · obtain rfl : j = p + 1 := by omega
            have cX := nX.cell
            have nsz2 : w.heap.size + 2 ≤ wr.heap.size := by omega
            clear mo m0
            go_wp2_with (at_builtin; refine wpList_push _ rfl (.tmp 44) (.tmp 46) _ rfl (w.heap.size + 2) 25 _ 4 32 Tryd.underlying125 info_rst rfl (by decide) _ (p + 1) _ rfl (no.alloc _) wr.heap.size (stCells (s.next z 0)) rfl rfl (st_new _ _ _) (one_st _) A1 A2 (le_alloc nsz2 _) ?_; intro v1 w7 ho1 hb1)
            have hh : s.hit x (p + 1) = none := hit_none HM.out
            go_roundg (4096 - (p + 1))
            case measure => have := HG.out; omega
            case rel =>
              refine ⟨p + 1, by omega, rfl, ?_, ?_, (n0.alloc _).below hb1 (by omega), ?_, ?_⟩
              · exact (nb.alloc nb.size _).trans (hb1.mono (by omega))
              · rw [orbCells_succ s x (p + 1), EN.out]; exact ho1
              · rw [HST.out, show 4096 - p = (4096 - (p + 1)) + 1 from by omega, cyc_miss hh]
              · have := hb1.size; simp at this; omega)
    · go_wp2
      go_ret3
      exact ⟨by rw [HST.out, show 4096 - p = 0 from by omega]; rfl, hb⟩
end Go.Proofs.YtlaaajkehjoffaaDoor
