/- The law SectionRuns. -/
import Derived.Test.YtlaaajkehjoffaaDoorLawUndo
namespace Go.Proofs.YtlaaajkehjoffaaDoor
open Go.RowKit Go.Shelf
set_option maxRecDepth 100000

theorem runOut_len (s : Sec) (xs : List Int) : (s.runOut xs).length ≤ xs.length := by
  unfold Sec.runOut; split
  · rw [outs_len]; omega
  · simp
theorem fromOut_len (s : Sec) (y : St) (xs : List Int) : (s.fromOut y xs).length ≤ xs.length := by
  unfold Sec.fromOut; split
  · rw [outs_len]; omega
  · simp
theorem one_first (s : Sec) (xs : List Int) (A : Option Addr) (c B : Nat) (w : World) (h : Reads w B 1 A 2 (ints [s.err, sigErr xs])) (hn : 2 ≤ 1000) :
    Calls Tryd.prog 20 #[.slice A 2 c] w fun e w' => e = .returned (.int .i64 (runErr s xs)) ∧ w = w' := rFirst_any A 2 c B _ w h (by omega)
theorem two_first {B : Nat} (s : Sec) (y : St) (xs : List Int) (A : Option Addr) (c : Nat) (w : World) (h : Reads w B 1 A 3 (ints [s.err, y.err, sigErr xs])) (hn : 3 ≤ 1000) :
    Calls Tryd.prog 20 #[.slice A 3 c] w fun e w' => e = .returned (.int .i64 (fromErr s y xs)) ∧ w = w' := rFirst_any A 3 c B _ w h (by omega)
theorem rRun_own (s : Sec) (A : Option Addr) (m c : Nat) (xs : List Int) (w : World) (h0 : runErr s xs = 0) (hm : m ≤ 1000000000000) (hR : Reads w w.heap.size 1 A m (ints xs)) :
    Calls Tryd.prog 24 #[.agg #[.int .i64 s.b0, .int .i64 s.b1, .int .i64 s.b2, .int .i64 s.a1, .int .i64 s.a2, .int .i64 s.sh], .slice A m c] w fun e w' => ∃ v, e = .returned v ∧ w'.ownsRow w.heap.size 3 1 v (s.runOut xs).length (ints (s.runOut xs)) ∧ Below w.heap.size w w' := by
  obtain ⟨h1, h2⟩ := fnz2_zero h0
  rw [show s.runOut xs = s.outs St.zero xs by unfold Sec.runOut; rw [if_pos h0], show (s.outs St.zero xs).length = m by rw [outs_len]; exact reads_len hR]
  exact rRun_any s A m c xs w (Sec.err_ok h1) (sigErr_ok h2).2 hm hR
theorem from_run {s : Sec} {y : St} {xs : List Int} (h : runErr s xs ≠ 0) : fromErr s y xs ≠ 0 := by
  intro h0
  obtain ⟨h1, _, h3⟩ := fnz3_zero h0
  exact h (by unfold runErr; rw [h1, h3]; rfl)
theorem rSat_tot (s : Sec) (A : Option Addr) (m c : Nat) (xs : List Int) (w : World) (h0 : runErr s xs = 0) (hm : m ≤ 1000000000000) (hR : Reads w w.heap.size 1 A m (ints xs)) :
    Calls Tryd.prog 25 #[.agg #[.int .i64 s.b0, .int .i64 s.b1, .int .i64 s.b2, .int .i64 s.a1, .int .i64 s.a2, .int .i64 s.sh], .slice A m c] w fun e w' => e = .returned (.int .i64 (s.satN xs)) ∧ Below w.heap.size w w' := by
  obtain ⟨h1, h2⟩ := fnz2_zero h0
  rw [show s.satN xs = s.sats St.zero xs by unfold Sec.satN; rw [if_pos (show satErr s xs = 0 from h0)]]
  exact rSaturations_any s A m c xs w (Sec.err_ok h1) (sigErr_ok h2).2 hm hR
theorem From_own (s : Sec) (y : St) (A : Option Addr) (m c : Nat) (xs : List Int) (w : World) (hm : m ≤ 1000000000000) (hR : Reads w w.heap.size 1 A m (ints xs)) :
    Calls Tryd.prog 18 #[.agg #[.int .i64 s.b0, .int .i64 s.b1, .int .i64 s.b2, .int .i64 s.a1, .int .i64 s.a2, .int .i64 s.sh], .agg #[.int .i64 y.x1, .int .i64 y.x2, .int .i64 y.y1, .int .i64 y.y2], .slice A m c] w fun e w' => ∃ v, e = .returned (.tuple #[v, .agg #[.int .i64 (s.fromSt y xs).x1, .int .i64 (s.fromSt y xs).x2, .int .i64 (s.fromSt y xs).y1, .int .i64 (s.fromSt y xs).y2], .int .i64 (fromErr s y xs)]) ∧ w'.ownsRow w.heap.size 3 1 v (s.fromOut y xs).length (ints (s.fromOut y xs)) ∧ Below w.heap.size w w' := by
  by_cases h0 : fromErr s y xs = 0
  · rw [show s.fromOut y xs = s.outs y xs by unfold Sec.fromOut; rw [if_pos h0], show s.fromSt y xs = s.after y xs by unfold Sec.fromSt; rw [if_pos h0], h0, show (s.outs y xs).length = m by rw [outs_len]; exact reads_len hR]
    exact From_ok s y A m c xs w h0 hm hR
  · rw [show s.fromOut y xs = [] by unfold Sec.fromOut; rw [if_neg h0], show s.fromSt y xs = ⟨0, 0, 0, 0⟩ by unfold Sec.fromSt; rw [if_neg h0]]
    exact (From_bad s y A m c xs w (by simpa using h0) hm hR).mono fun _ _ h => ⟨.slice none 0 0, h.1, World.ownsRow_nil .., h.2⟩
theorem rFrom_own (s : Sec) (y : St) (A : Option Addr) (m c : Nat) (xs : List Int) (w : World) (h0 : fromErr s y xs = 0) (hm : m ≤ 1000000000000) (hR : Reads w w.heap.size 1 A m (ints xs)) :
    Calls Tryd.prog 26 #[.agg #[.int .i64 s.b0, .int .i64 s.b1, .int .i64 s.b2, .int .i64 s.a1, .int .i64 s.a2, .int .i64 s.sh], .agg #[.int .i64 y.x1, .int .i64 y.x2, .int .i64 y.y1, .int .i64 y.y2], .slice A m c] w fun e w' => ∃ v, e = .returned (.tuple #[v, .agg #[.int .i64 (s.fromSt y xs).x1, .int .i64 (s.fromSt y xs).x2, .int .i64 (s.fromSt y xs).y1, .int .i64 (s.fromSt y xs).y2]]) ∧ w'.ownsRow w.heap.size 3 1 v (s.fromOut y xs).length (ints (s.fromOut y xs)) ∧ Below w.heap.size w w' := by
  obtain ⟨h1, h2, h3⟩ := fnz3_zero h0
  rw [show s.fromOut y xs = s.outs y xs by unfold Sec.fromOut; rw [if_pos h0], show s.fromSt y xs = s.after y xs by unfold Sec.fromSt; rw [if_pos h0], show (s.outs y xs).length = m by rw [outs_len]; exact reads_len hR]
  exact rFrom_any s y A m c xs w (Sec.err_ok h1) (St.err_ok h2) (sigErr_ok h3).2 hm hR
theorem fin1R {Q : World → Prop} {v W : World} {cs : Array Value} {t : TypeId} {base : Nat} {e : TypeId} {vv : Value} {k : Nat} {zs : List Value} (hB : Below v.heap.size v W) (ho : W.ownsRow base e 1 vv k zs) (h : ∀ X, Below v.heap.size v X → Blk X W.heap.size t cs → X.ownsRow base e 1 vv k zs → Q X) : Q (W.alloc (.cells cs t)) := h _ (below_new hB (Nat.le_refl _) _) (Blk.new _ _ _) (ho.alloc _)
theorem fin4R {Q : World → Prop} {B : Nat} {v W : World} {g : Nat} {c0 c1 c2 c3 u0 u1 u2 u3 : Value} (t : TypeId) {base : Nat} {e : TypeId} {vv : Value} {k : Nat} {zs : List Value} (hB : Below B v W) (hg : B ≤ g) (hk : Blk W g t #[c0, c1, c2, c3]) (ho : W.ownsRow base e 1 vv k zs) (hne : e ≠ t) (h : ∀ X, Below B v X → Blk X g t #[u0, u1, u2, u3] → X.ownsRow base e 1 vv k zs → Q X) :
    Q ((((W.setCell ⟨g, 0, none⟩ u0).setCell ⟨g, 1, none⟩ u1).setCell ⟨g, 2, none⟩ u2).setCell ⟨g, 3, none⟩ u3) := by
  obtain ⟨w1, e1, k1, _, _, b1, _, _, o1⟩ := set4 W g t c0 c1 c2 c3 u0 u1 u2 u3 hk
  rw [← e1]
  exact h _ (hB.trans (b1 B hg)) k1 (o1 _ _ _ _ _ _ hne ho)
theorem Sat_tot' (s : Sec) (A : Option Addr) (m c : Nat) (xs : List Int) (w : World) (hm : m ≤ 1000000000000) (hR : Reads w w.heap.size 1 A m (ints xs)) :
    Calls Tryd.prog 19 #[.agg #[.int .i64 s.b0, .int .i64 s.b1, .int .i64 s.b2, .int .i64 s.a1, .int .i64 s.a2, .int .i64 s.sh], .slice A m c] w fun e w' => e = .returned (.tuple #[.int .i64 (s.satN xs), .int .i64 (runErr s xs)]) ∧ Below w.heap.size w w' := Sat_tot s A m c xs w hm hR
theorem st_refl (z : St) : z.eqB z = true := by unfold St.eqB; simp

set_option maxHeartbeats 4000000 in
theorem lawRuns_00 (s : Sec) (y : St) (A : Option Addr) (m c : Nat) (xs : List Int) (w : World) (hV : Vars w) (hf : m ≤ 40 ∨ m = 4097) (hR : Reads w w.heap.size 1 A m (ints xs)) :
    Calls Tryd.prog 3 #[.agg #[.int .i64 s.b0, .int .i64 s.b1, .int .i64 s.b2, .int .i64 s.a1, .int .i64 s.a2, .int .i64 s.sh], .agg #[.int .i64 y.x1, .int .i64 y.x2, .int .i64 y.y1, .int .i64 y.y2], .slice A m c] w fun e w' => e = .returned (.bool true) ∧ Below w.heap.size w w' := by
  have hl := reads_len hR
  have len1 : (s.runOut xs).length ≤ 1000000000000 := by have := runOut_len s xs; omega
  have len2 : (s.fromOut y xs).length ≤ 1000000000000 := by have := fromOut_len s y xs; omega
  have hq := eqlSt (s.fromSt y xs) (s.fromSt y xs)
  rw [st_refl] at hq
  clear hl
  go_enter Tryd.func3, Tryd.ntmps3
  go_wp2_with fail
  obtain ⟨w1, e1, hb1, hz1, k0, k1⟩ := box2 w #[.int .i64 s.b0, .int .i64 s.b1, .int .i64 s.b2, .int .i64 s.a1, .int .i64 s.a2, .int .i64 s.sh] #[.int .i64 y.x1, .int .i64 y.x2, .int .i64 y.y1, .int .i64 y.y2] 23 25
  rw [← e1]; clear e1
  refine (few_t A m c _ hf).mono ?_
  rintro e w' ⟨rfl, rfl⟩
  have c0 : ∀ i W, Below w1.heap.size w1 W → W.cell? ⟨w.heap.size, i, none⟩ = (#[.int .i64 s.b0, .int .i64 s.b1, .int .i64 s.b2, .int .i64 s.a1, .int .i64 s.a2, .int .i64 s.sh] : Array Value)[i]? := fun i W h => (k0.below h k0.lt).cell i
  have rR := (hR.below hb1).more hb1.size
  have R0 := hide (fun W (h : Below w1.heap.size w1 W) => carry rR h)
  go_wp2
  go_region_held3 (fun W => Below w1.heap.size w1 W) (first | exact (Below.refl _ _).drew | (with_reducible assumption) | exact below_new ‹Below w1.heap.size w1 _› (Nat.le_refl _) _ | (refine below_set (below_set (below_set (below_set (by assumption) (by omega) _) (by omega) _) (by omega) _) (by omega) _)) (first | (go_at_call 17; refine (ints_any A m c xs _ (R0.out _ ‹Below w1.heap.size w1 _›) (by omega)).mono ?_; rintro e W' ⟨vI, rfl, hoI, hbW⟩; obtain ⟨AI, cI, rfl, hRI⟩ := own_slice hoI; have hS := below_step ‹Below w1.heap.size w1 _› hbW (Below.size ‹Below w1.heap.size w1 _›); have HRI := hide hRI; clear hRI hoI) | (go_at_call 16; refine (Run_tot s _ m _ xs _ (by omega) HRI.out).mono ?_; rintro e w3 ⟨A1, c1, rfl, r1, hbW⟩; have hS := below_step ‹Below w1.heap.size w1 _› hbW (Below.size ‹Below w1.heap.size w1 _›)))
  have hB : Below w1.heap.size w1 w3 := ‹Below w1.heap.size w1 w3›
  have hb3 := below_step hb1 hB hb1.size
  have m0 := carryK k0 hB
  have m1 := carryK k1 hB
  have rR3 := carry rR hB
  clear c0 k0 k1 rR R0 hR hbW HRI hB hb1
  try clear hS
  have c0 : ∀ i W, Below w3.heap.size w3 W → W.cell? ⟨w.heap.size, i, none⟩ = (#[.int .i64 s.b0, .int .i64 s.b1, .int .i64 s.b2, .int .i64 s.a1, .int .i64 s.a2, .int .i64 s.sh] : Array Value)[i]? := fun i W h => (m0.below h m0.lt).cell i
  have c1' : ∀ i W, Below w3.heap.size w3 W → W.cell? ⟨w.heap.size + 1, i, none⟩ = (#[.int .i64 y.x1, .int .i64 y.x2, .int .i64 y.y1, .int .i64 y.y2] : Array Value)[i]? := fun i W h => (m1.below h m1.lt).cell i
  have R0 := hide (fun W (h : Below w3.heap.size w3 W) => carry rR3 h)
  have R1 := hide r1; clear r1
  have hA1 := alloc_cel
  have hA2 := alloc_fro
  go_wp2
  go_region_held3 (fun W => Below w3.heap.size w3 W) (first | exact (Below.refl _ _).drew | (with_reducible assumption) | exact below_new ‹Below w3.heap.size w3 _› (Nat.le_refl _) _ | (refine below_set (below_set (below_set (below_set (by assumption) (by omega) _) (by omega) _) (by omega) _) (by omega) _)) (first | (go_at_call 17; refine (ints_any A m c xs _ (R0.out _ ‹Below w3.heap.size w3 _›) (by omega)).mono ?_; rintro e W' ⟨vI, rfl, hoI, hbW⟩; obtain ⟨AI, cI, rfl, hRI⟩ := own_slice hoI; have hS := below_step ‹Below w3.heap.size w3 _› hbW (Below.size ‹Below w3.heap.size w3 _›); have HRI := hide hRI; clear hRI hoI; have hF := below_fro hbW; have hC := below_cel hbW; have hL := below_lt hbW; have hT := below_le hbW; have hK := below_blk hbW; have hz := Below.size hS; have hz1' := Below.size hbW; (try simp only [World.size_alloc, World.size_drew] at hz1'); (try have hq1 := Nat.lt_of_succ_le hz1')) | (go_at_call 18; refine (From_own s y _ m _ xs _ (by omega) (by first | exact HRI.out | exact (HRI.out.alloc (Nat.le_refl _) _).more (by simp))).mono ?_; rintro e w5 ⟨vF, rfl, oF, hbW⟩; have hS := below_step ‹Below w3.heap.size w3 _› hbW (Below.size ‹Below w3.heap.size w3 _›); have OF := hide oF; clear oF; have hF2 := below_fro hbW; have hC2 := below_cel hbW; have hL2 := below_lt hbW; have hT2 := below_le hbW; have hK2 := below_blk hbW; have hzf := Below.size hS; have hz2' := Below.size hbW; (try simp only [World.size_alloc, World.size_drew] at hz2'); (try have hq2 := Nat.lt_of_succ_le hz2'); (try have hq3 := Nat.lt_of_lt_of_le hq1 hz2')))
  all_goals (first
    | (with_reducible refine fin1R (v := w3) (t := 34) (by with_reducible assumption) OF.out (fun X hX kX oX => ?_))
    | (with_reducible refine fin4R (B := w3.heap.size) (v := w3) (c0 := .int .i64 0) (c1 := .int .i64 0) (c2 := .int .i64 0) (c3 := .int .i64 0) 34 (by with_reducible assumption) (by omega) (by (repeat (first | exact Blk.newAt (by simp) | refine Blk.alloc ?_ _ | refine Blk.drew ?_ | refine (by with_reducible assumption : ∀ g t cs, Blk _ g t cs → Blk _ g t cs) _ _ _ ?_))) OF.out (by decide) (fun X hX kX oX => ?_)))
  all_goals (
    obtain ⟨A2, c2, rfl, r2⟩ := own_slice oX
    have hb5 := below_step hb3 hX hb3.size
    have p0 := carryK m0 hX
    have p1 := carryK m1 hX
    have rR5 := carry rR3 hX
    have r1 := carry R1.out hX
    clear c0 c1' m0 m1 rR3 R0 R1 HRI OF hA1 hA2 hb3 hX oX
    have c0 : ∀ i W, Below X.heap.size X W → W.cell? ⟨w.heap.size, i, none⟩ = (#[.int .i64 s.b0, .int .i64 s.b1, .int .i64 s.b2, .int .i64 s.a1, .int .i64 s.a2, .int .i64 s.sh] : Array Value)[i]? := fun i W h => (p0.below h p0.lt).cell i
    have R0 := hide (fun W (h : Below X.heap.size X W) => carry rR5 h)
    have R1 := hide r1; clear r1
    have R2 := hide r2; clear r2
    go_wp2
    go_region_held3 (fun W => Below X.heap.size X W) (first | exact (Below.refl _ _).drew | (with_reducible assumption) | exact below_new ‹Below X.heap.size X _› (Nat.le_refl _) _ | (refine below_set (below_set (below_set (below_set (by assumption) (by omega) _) (by omega) _) (by omega) _) (by omega) _)) (first | (go_at_call 17; refine (ints_any A m c xs _ (R0.out _ ‹Below X.heap.size X _›) (by omega)).mono ?_; rintro e W' ⟨vI, rfl, hoI, hbW⟩; obtain ⟨AI, cI, rfl, hRI⟩ := own_slice hoI; have hS := below_step ‹Below X.heap.size X _› hbW (Below.size ‹Below X.heap.size X _›); have HRI := hide hRI; clear hRI hoI) | (go_at_call 19; refine (Sat_tot' s _ m _ xs _ (by omega) HRI.out).mono ?_; rintro e w7 ⟨rfl, hbW⟩; have hS := below_step ‹Below X.heap.size X _› hbW (Below.size ‹Below X.heap.size X _›)))
    have hB : Below X.heap.size X w7 := ‹Below X.heap.size X w7›
    have hb7 := below_step hb5 hB hb5.size
    have m0 := carryK p0 hB
    have m1 := carryK p1 hB
    have mX := carryK kX hB
    have rR7 := carry rR5 hB
    have r1 := carry R1.out hB
    have r2 := carry R2.out hB
    clear c0 p0 p1 kX rR5 R0 R1 R2 HRI hB hb5
    have c0 := m0.cell
    go_wp2_with fail
    refine (rCheckSection_any s _).mono ?_
    rintro e w8 ⟨rfl, hb8⟩
    have hb9 := below_step hb7 hb8 hb7.size
    have p0 := carryK m0 hb8
    have p1 := carryK m1 hb8
    have pX := carryK mX hb8
    have rR8 := carry rR7 hb8
    have r1' := carry r1 hb8
    have r2' := carry r2 hb8
    clear c0 m0 m1 mX rR7 r1 r2 hb7 hb8
    go_wp2_with fail
    refine (rCheckSignal_any _ _ _ _ _ _ rR8 (by omega)).mono ?_
    rintro e w' ⟨rfl, rfl⟩
    go_wp2_with fail
    refine (one_first s xs _ _ _ _ (reads2 _ _ _ _) (by omega)).mono ?_
    rintro e w' ⟨rfl, rfl⟩
    obtain ⟨w9, e9, hb10, hz9, _⟩ := box1 w8 #[.int .i64 s.err, .int .i64 (sigErr xs)] 3
    rw [← e9]; clear e9
    have hb11 := below_step hb9 hb10 hb9.size
    have m0 := carryK p0 hb10
    have m1 := carryK p1 hb10
    have mX := carryK pX hb10
    have rR9 := carry rR8 hb10
    have r1 := carry r1' hb10
    have r2 := carry r2' hb10
    clear p0 p1 pX rR8 r1' r2' hb9 hb10
    have c0 : ∀ i W, Below w9.heap.size w9 W → W.cell? ⟨w.heap.size, i, none⟩ = (#[.int .i64 s.b0, .int .i64 s.b1, .int .i64 s.b2, .int .i64 s.a1, .int .i64 s.a2, .int .i64 s.sh] : Array Value)[i]? := fun i W h => (m0.below h m0.lt).cell i
    have c1' : ∀ i W, Below w9.heap.size w9 W → W.cell? ⟨w.heap.size + 1, i, none⟩ = (#[.int .i64 y.x1, .int .i64 y.x2, .int .i64 y.y1, .int .i64 y.y2] : Array Value)[i]? := fun i W h => (m1.below h m1.lt).cell i
    have R0 := hide (fun W (h : Below w9.heap.size w9 W) => carry rR9 h)
    have R1 := hide r1; clear r1
    have R2 := hide r2; clear r2
    go_wp2
    go_region_held3 (fun W => Below w9.heap.size w9 W) (first | exact (Below.refl _ _).drew | (with_reducible assumption) | exact below_new ‹Below w9.heap.size w9 _› (Nat.le_refl _) _ | (refine below_set (below_set (below_set (below_set (by assumption) (by omega) _) (by omega) _) (by omega) _) (by omega) _)) (first | (go_at_call 21; refine (rCheckSection_any s _).mono ?_; rintro e W' ⟨rfl, hbW⟩; have hS := below_step ‹Below w9.heap.size w9 _› hbW (Below.size ‹Below w9.heap.size w9 _›)) | (go_at_call 23; refine (rCheckState_any y _).mono ?_; rintro e W' ⟨rfl, hbW⟩; have hS := below_step ‹Below w9.heap.size w9 _› hbW (Below.size ‹Below w9.heap.size w9 _›)) | (go_at_call 22; refine (rCheckSignal_any _ _ _ _ _ _ (R0.out _ ‹Below w9.heap.size w9 _›) (by omega)).mono ?_; rintro e W' ⟨rfl, rfl⟩) | (go_at_call 20; (first | (with_reducible (refine (two_first _ _ _ _ _ _ (reads3 _ _ _ _ _) (by omega)).mono ?_)) | (with_reducible (refine (two_first _ _ _ _ _ _ (Reads.drew (reads3 _ _ _ _ _)) (by omega)).mono ?_))); rintro e W' ⟨rfl, rfl⟩))
    have hB : Below w9.heap.size w9 _ := ‹Below w9.heap.size w9 _›
    generalize World.alloc _ _ = v at hB ⊢
    have hb := below_step hb11 hB hb11.size
    have k0 := carryK m0 hB
    have k1 := carryK m1 hB
    have kX := carryK mX hB
    have rR := carry rR9 hB
    have r1 := carry R1.out hB
    have r2 := carry R2.out hB
    clear c0 c1' m0 m1 mX rR9 R0 R1 R2 hB hb11
    clear hF hC hL hT hK hz hbW
    by_cases h1 : runErr s xs = 0
    · have t1 : (runErr s xs == 0) = true := by rw [h1]; rfl
      have H1 := hide h1; clear h1
      go_wp2_with fail
      obtain ⟨v1, e1, hb1, hz1, kZ⟩ := box1 v #[.int .i64 0, .int .i64 0, .int .i64 0, .int .i64 0] 25
      rw [← e1]; clear e1
      have hb2 := below_step hb hb1 hb.size
      have m0 := carryK k0 hb1
      have m1 := carryK k1 hb1
      have mX := carryK kX hb1
      have rR1 := carry rR hb1
      clear k0 k1
      have c0 : ∀ i W, Below v1.heap.size v1 W → W.cell? ⟨w.heap.size, i, none⟩ = (#[.int .i64 s.b0, .int .i64 s.b1, .int .i64 s.b2, .int .i64 s.a1, .int .i64 s.a2, .int .i64 s.sh] : Array Value)[i]? := fun i W h => (m0.below h m0.lt).cell i
      have R0 := hide (fun W (h : Below v1.heap.size v1 W) => carry rR1 h)
      have R1 := hide r1; clear r1
      have R2 := hide r2; clear r2
      go_region_held3 (fun W => Below v1.heap.size v1 W) (first | exact (Below.refl _ _).drew | (with_reducible assumption) | exact below_new ‹Below v1.heap.size v1 _› (Nat.le_refl _) _ | (refine below_set (below_set (below_set (below_set (by assumption) (by omega) _) (by omega) _) (by omega) _) (by omega) _)) (first | (go_at_call 24; refine (rRun_own s A m c xs _ H1.out (by omega) (R0.out _ ‹Below v1.heap.size v1 _›)).mono ?_; rintro e wr ⟨v3, rfl, o3, hbW⟩; have hS := below_step ‹Below v1.heap.size v1 _› hbW (Below.size ‹Below v1.heap.size v1 _›); have O3 := hide o3; clear o3) | (go_at_call 25; refine (rSat_tot s A m c xs _ H1.out (by omega) (R0.out _ ‹Below v1.heap.size v1 _›)).mono ?_; rintro e wq ⟨rfl, hbQ⟩; have hS := below_step ‹Below v1.heap.size v1 _› hbQ (Below.size ‹Below v1.heap.size v1 _›)))
      have hB : Below v1.heap.size v1 wq := ‹Below v1.heap.size v1 wq›
      have o3 := row_below O3.out hbQ
      have hb3 := below_step hb2 hB hb2.size
      have n0 := carryK m0 hB
      have n1 := carryK m1 hB
      have nX := carryK mX hB
      have nZ := carryK kZ hB
      have rRq := carry rR1 hB
      have hbv := below_step hb1 hB hb1.size
      clear c0 m0 m1 mX kZ rR1 R0 O3 hbW hbQ hB hb2 hb1
      by_cases h2 : fromErr s y xs = 0
      · have t2 : (fromErr s y xs == 0) = true := by rw [h2]; rfl
        have H2 := hide h2; clear h2
        have c0 := n0.cell
        have c1' := n1.cell
        go_wp2_with fail
        refine (rFrom_own s y A m c xs _ H2.out (by omega) rRq).mono ?_
        rintro e u ⟨v4, rfl, o4, hbu⟩
        have o3' := row_below o3 hbu
        have hb4 := below_step hb3 hbu hb3.size
        have m2 := carryK nX hbu
        have m3 := carryK nZ hbu
        have hbv' := below_step hbv hbu hbv.size
        clear c0 c1' n0 n1 nX nZ rRq o3 hb3 hbu hbv
        have f3 := m3.frozen
        have c3' := m3.cell
        have l3 := m3.lt
        go_upto_region 15 with (fail)
        obtain ⟨u2, e2, k2, z2, o2, b2, _, _, oo⟩ := set4 u v.heap.size 25 _ _ _ _ (.int .i64 (s.fromSt y xs).x1) (.int .i64 (s.fromSt y xs).x2) (.int .i64 (s.fromSt y xs).y1) (.int .i64 (s.fromSt y xs).y2) m3
        have n2 := o2 _ _ _ (Nat.ne_of_lt kX.lt) m2
        have o3 := oo _ _ _ _ _ _ (by decide) o3'
        have o4' := oo _ _ _ _ _ _ (by decide) o4
        have hbw := hbv'.trans (b2 _ (Nat.le_refl _))
        have hb5 := below_step hb hbw hb.size
        rw [← e2]; clear e2
        obtain ⟨A3, c3, rfl, r3⟩ := own_slice o3
        obtain ⟨A4, c4, rfl, r4⟩ := own_slice o4'
        have r1 := carry R1.out hbw
        have r2 := carry R2.out hbw
        clear f3 c3' l3 m2 m3 o2 b2 oo o3 o3' o4 o4' hbv' hb4 R1 R2 hbw z2
        go_wp2_with fail
        refine (c_same A1 _ c1 _ A3 c3 _ r1 r3 len1).mono ?_
        rintro e u3 ⟨rfl, hb6⟩
        have hb7 := below_step hb5 hb6 hb5.size
        have p2 := carryK n2 hb6
        have p3 := carryK k2 hb6
        have r2' := carry r2 hb6
        have r4' := carry r4 hb6
        clear n2 k2 r1 r2 r3 r4 hb5 hb6
        go_wp2_with fail
        refine (c_same A2 _ c2 _ A4 c4 _ r2' r4' len2).mono ?_
        rintro e u4 ⟨rfl, hb8⟩
        have hb9 := below_step hb7 hb8 hb7.size
        have q2 := carryK p2 hb8
        have q3 := carryK p3 hb8
        clear p2 p3 r2' r4' hb7 hb8
        have cX := q2.cell
        have cZ := q3.cell
        go_wp2_with fail
        refine (awake_v _ (hV.carry hb9)).mono ?_
        rintro e u5 ⟨rfl, hb10⟩
        go_wp2
        go_ret
        exact ⟨rfl, below_step hb9 hb10 hb9.size⟩
      · have t2 : (fromErr s y xs == 0) = false := by simpa using h2
        have H2 := hide h2; clear h2
        have hb2 := hb3
        have R1' := carry R1.out hbv
        have R2' := hide (carry R2.out hbv)
        obtain ⟨A3, c3, rfl, r3⟩ := own_slice o3
        have mX := nX
        have mZ := nZ
        clear n0 n1 nX nZ hb3 rRq R2 o3 hbv kX rR hb
        have R2 := R2'
        have hn : s.fromOut y xs = [] := by unfold Sec.fromOut; rw [if_neg H2.out]
        have hz0 : s.fromSt y xs = ⟨0, 0, 0, 0⟩ := by unfold Sec.fromSt; rw [if_neg H2.out]
        have hq0 : ∀ W, (binOp .eql 25 (.agg #[.int .i64 (s.fromSt y xs).x1, .int .i64 (s.fromSt y xs).x2, .int .i64 (s.fromSt y xs).y1, .int .i64 (s.fromSt y xs).y2]) (.agg #[.int .i64 0, .int .i64 0, .int .i64 0, .int .i64 0])).run Tryd.prog W = .ok (.bool true) W := by
          intro W
          have e1 := eqlSt (s.fromSt y xs) ⟨0, 0, 0, 0⟩ W
          rw [show (s.fromSt y xs).eqB ⟨0, 0, 0, 0⟩ = true by rw [hz0]; rfl] at e1
          exact e1
        have HN := hide hn; clear hn hz0
        go_wp2_with fail
        refine (c_same A1 _ c1 _ A3 c3 _ R1' r3 len1).mono ?_
        rintro e u3 ⟨rfl, hb3⟩
        have hb4 := below_step hb2 hb3 hb2.size
        have n2 := carryK mX hb3
        have n3 := carryK mZ hb3
        have r2' := carry R2.out hb3
        clear mX mZ R1 R2 hb2 hb3
        go_wp2_with fail
        refine (c_same0 A2 c2 _ _ r2' HN.out _).mono ?_
        rintro e u4 ⟨rfl, hb5⟩
        have hb6 := below_step hb4 hb5 hb4.size
        have q2 := carryK n2 hb5
        have q3 := carryK n3 hb5
        clear n2 n3 r2' hb4 hb5
        have cX := q2.cell
        have cZ := q3.cell
        go_wp2_with fail
        refine (awake_v _ (hV.carry hb6)).mono ?_
        rintro e u5 ⟨rfl, hb7⟩
        go_wp2
        go_ret
        exact ⟨rfl, below_step hb6 hb7 hb6.size⟩
    · have t1 : (runErr s xs == 0) = false := by simpa using h1
      have h2 : fromErr s y xs ≠ 0 := from_run h1
      have t2 : (fromErr s y xs == 0) = false := by simpa using h2
      have t3 : (s.satN xs == 0) = true := by unfold Sec.satN; rw [if_neg (show ¬ satErr s xs = 0 from h1)]; rfl
      have hr0 : s.runOut xs = [] := by unfold Sec.runOut; rw [if_neg h1]
      have H2 := hide h2; clear h2
      have HR0 := hide hr0; clear hr0 h1
      have R1 := hide r1; clear r1
      have R2 := hide r2; clear r2
      clear k0 k1 rR
      go_upto_region 15 with (fail)
      obtain ⟨v1, e1, hb1, hz1, mZ⟩ := box1 v #[.int .i64 0, .int .i64 0, .int .i64 0, .int .i64 0] 25
      rw [← e1]; clear e1
      have hb2 := below_step hb hb1 hb.size
      have mX := carryK kX hb1
      have R1' := carry R1.out hb1
      have R2' := hide (carry R2.out hb1)
      clear R2 kX hb1 hb
      have R2 := R2'
      · skip
        have hn : s.fromOut y xs = [] := by unfold Sec.fromOut; rw [if_neg H2.out]
        have hz0 : s.fromSt y xs = ⟨0, 0, 0, 0⟩ := by unfold Sec.fromSt; rw [if_neg H2.out]
        have hq0 : ∀ W, (binOp .eql 25 (.agg #[.int .i64 (s.fromSt y xs).x1, .int .i64 (s.fromSt y xs).x2, .int .i64 (s.fromSt y xs).y1, .int .i64 (s.fromSt y xs).y2]) (.agg #[.int .i64 0, .int .i64 0, .int .i64 0, .int .i64 0])).run Tryd.prog W = .ok (.bool true) W := by
          intro W
          have e1 := eqlSt (s.fromSt y xs) ⟨0, 0, 0, 0⟩ W
          rw [show (s.fromSt y xs).eqB ⟨0, 0, 0, 0⟩ = true by rw [hz0]; rfl] at e1
          exact e1
        have HN := hide hn; clear hn hz0
        go_wp2_with fail
        refine (c_same0 A1 c1 _ _ R1' HR0.out _).mono ?_
        rintro e u3 ⟨rfl, hb3⟩
        have hb4 := below_step hb2 hb3 hb2.size
        have n2 := carryK mX hb3
        have n3 := carryK mZ hb3
        have r2' := carry R2.out hb3
        clear mX mZ R1 R2 hb2 hb3
        go_wp2_with fail
        refine (c_same0 A2 c2 _ _ r2' HN.out _).mono ?_
        rintro e u4 ⟨rfl, hb5⟩
        have hb6 := below_step hb4 hb5 hb4.size
        have q2 := carryK n2 hb5
        have q3 := carryK n3 hb5
        clear n2 n3 r2' hb4 hb5
        have cX := q2.cell
        have cZ := q3.cell
        go_wp2_with fail
        refine (awake_v _ (hV.carry hb6)).mono ?_
        rintro e u5 ⟨rfl, hb7⟩
        go_wp2
        go_ret
        exact ⟨rfl, below_step hb6 hb7 hb6.size⟩
    )
theorem lawRuns_any (s : Sec) (y : St) (A : Option Addr) (m c : Nat) (xs : List Int) (w : World) (hV : Vars w) (hm : m ≤ maxLen) (hR : Reads w w.heap.size 1 A m (ints xs)) :
    Calls Tryd.prog 3 #[.agg #[.int .i64 s.b0, .int .i64 s.b1, .int .i64 s.b2, .int .i64 s.a1, .int .i64 s.a2, .int .i64 s.sh], .agg #[.int .i64 y.x1, .int .i64 y.x2, .int .i64 y.y1, .int .i64 y.y2], .slice A m c] w fun e w' => e = .returned (.bool true) ∧ Below w.heap.size w w' := by
  unfold maxLen at hm
  by_cases hf : m ≤ 40 ∨ m = 4097
  · exact lawRuns_00 s y A m c xs w hV hf hR
  · have h1 : 40 < m := by omega
    have h2 : m ≠ 4097 := by omega
    clear hf hR
    go_enter Tryd.func3, Tryd.ntmps3
    go_wp2_with fail
    obtain ⟨w1, e1, hb1, hz1, k0, k1⟩ := box2 w #[.int .i64 s.b0, .int .i64 s.b1, .int .i64 s.b2, .int .i64 s.a1, .int .i64 s.a2, .int .i64 s.sh] #[.int .i64 y.x1, .int .i64 y.x2, .int .i64 y.y1, .int .i64 y.y2] 23 25
    rw [← e1]; clear e1
    refine (few_f A m c _ (by omega) h1 h2).mono ?_
    rintro e w' ⟨rfl, rfl⟩
    go_wp2_with fail
    refine (awake_v _ (hV.carry hb1)).mono ?_
    rintro e w6 ⟨rfl, hb9⟩
    go_wp2
    go_ret
    exact ⟨rfl, below_step hb1 hb9 hb1.size⟩
end Go.Proofs.YtlaaajkehjoffaaDoor
