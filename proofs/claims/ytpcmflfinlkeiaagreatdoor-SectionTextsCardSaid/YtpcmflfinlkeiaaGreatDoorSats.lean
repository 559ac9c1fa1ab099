/- The contract of Saturations. -/
import Derived.Test.YtpcmflfinlkeiaaGreatDoorBaseC
import Derived.Test.YtpcmflfinlkeiaaGreatDoorBaseB
namespace Go.Proofs.YtpcmflfinlkeiaaGreatDoor
open Go.RowKit Go.Shelf
set_option maxRecDepth 100000
attribute [local go_sem] Oper.semAt_some

theorem Kept.of_below {T : List TypeId} {n0 n1 : Nat} {W W' : World} (hb : Below W.heap.size W W') (hn : n0 ≤ W.heap.size) : Kept T n0 n1 W W' :=
  ⟨hb.mono hn, ⟨hb.size, fun k _o h _ => (hb.block k (Array.getElem?_eq_some_iff.1 h).1).trans h⟩, fun k _o _ h _ => (hb.block k (Array.getElem?_eq_some_iff.1 h).1).trans h⟩

/-- The invariant of the loop in Saturations: D is where its own cells begin. -/
def SatI (s : Sec) (A : Option Addr) (m c : Nat) (xs : List Int) (D : Nat) (w : World) (pre : List (Int × St)) (W : World) : Prop :=
  (∃ k, k ≤ xs.length ∧ pre.length = k ∧ Blk W D 3 #[.int .i64 (s.sats St.zero (xs.take k))] ∧ Blk W (D + 1) 61 #[.int .i64 (s.after St.zero (xs.take k)).x1, .int .i64 (s.after St.zero (xs.take k)).x2, .int .i64 (s.after St.zero (xs.take k)).y1, .int .i64 (s.after St.zero (xs.take k)).y2] ∧ Blk W (D + 2) 3 #[.int .i64 (k : Int)]) ∧
    Blk W w.heap.size 53 #[.int .i64 s.b0, .int .i64 s.b1, .int .i64 s.b2, .int .i64 s.a1, .int .i64 s.a2, .int .i64 s.sh] ∧ Blk W (w.heap.size + 1) 23 #[.slice A m c] ∧ Below w.heap.size w W

theorem satI_hush {s : Sec} {A : Option Addr} {m c : Nat} {xs : List Int} {D : Nat} {w : World} {nC : Nat} (hC : w.heap.size ≤ nC) (hD : w.heap.size + 2 ≤ D) {T : List TypeId} (p : List (Int × St)) (X Y : World) (h : SatI s A m c xs D w p X) (hh : Hush T (D + 3) nC X Y) : SatI s A m c xs D w p Y := by
  obtain ⟨⟨k, h0, h1, h2, h3, h4⟩, h5, h6, h7⟩ := h
  exact ⟨⟨k, h0, h1, hh.blk h2 (fun h => by omega), hh.blk h3 (fun h => by omega), hh.blk h4 (fun h => by omega)⟩, hh.blk h5 (fun h => by omega), hh.blk h6 (fun h => by omega), hh.below h7 (by omega) hC (Nat.le_refl _)⟩

theorem satB {s : Sec} {A : Option Addr} {m c D : Nat} {w W Y : World} {z nx : St} {q' k' : Int} (k1 : Int) (hD : w.heap.size + 2 ≤ D) (g2 : Blk Y D 3 #[.int .i64 q']) (g3 : Blk Y (D + 1) 61 #[.int .i64 z.x1, .int .i64 z.x2, .int .i64 z.y1, .int .i64 z.y2]) (g4 : Blk Y (D + 2) 3 #[.int .i64 k'])
    (g5 : Blk Y w.heap.size 53 #[.int .i64 s.b0, .int .i64 s.b1, .int .i64 s.b2, .int .i64 s.a1, .int .i64 s.a2, .int .i64 s.sh]) (g6 : Blk Y (w.heap.size + 1) 23 #[.slice A m c]) (b7 : Below w.heap.size w Y) (kY : Kept ownT w.heap.size (D + 3) W Y) :
    ∀ F, F = ((((Y.setCell ⟨D + 1, 0, none⟩ (.int .i64 nx.x1)).setCell ⟨D + 1, 1, none⟩ (.int .i64 nx.x2)).setCell ⟨D + 1, 2, none⟩ (.int .i64 nx.y1)).setCell ⟨D + 1, 3, none⟩ (.int .i64 nx.y2)).setCell ⟨D + 2, 0, none⟩ (.int .i64 k1) →
    Kept ownT w.heap.size (D + 3) W F ∧ (Blk F D 3 #[.int .i64 q'] ∧ Blk F (D + 1) 61 #[.int .i64 nx.x1, .int .i64 nx.x2, .int .i64 nx.y1, .int .i64 nx.y2] ∧ Blk F (D + 2) 3 #[.int .i64 k1]) ∧ Blk F w.heap.size 53 #[.int .i64 s.b0, .int .i64 s.b1, .int .i64 s.b2, .int .i64 s.a1, .int .i64 s.a2, .int .i64 s.sh] ∧ Blk F (w.heap.size + 1) 23 #[.slice A m c] ∧ Below w.heap.size w F := by
  rintro F rfl
  obtain ⟨w5, e5, k5, z5, o5, bb5, hh5, kk5, rr5⟩ := set4 Y (D + 1) 61 _ _ _ _ (.int .i64 nx.x1) (.int .i64 nx.x2) (.int .i64 nx.y1) (.int .i64 nx.y2) g3
  rw [← e5]
  have u2 := o5 _ _ _ (by omega) g2
  have u4 := o5 _ _ _ (by omega) g4
  have u5 := o5 _ _ _ (by omega) g5
  have u6 := o5 _ _ _ (by omega) g6
  have y5 := kY.trans (kk5 ownT w.heap.size (D + 3) (by omega) (fun h => by omega))
  have n1 : D ≠ D + 2 := by omega
  have n2 : D + 1 ≠ D + 2 := by omega
  have n3 : w.heap.size ≠ D + 2 := by omega
  have n4 : w.heap.size + 1 ≠ D + 2 := by omega
  refine ⟨y5.trans (Kept.set (i := 0) u4 (by omega) (fun _ => rfl) _), ⟨u2.far (p := ⟨D + 2, 0, none⟩) n1 _, k5.far (p := ⟨D + 2, 0, none⟩) n2 _, by simpa using u4.set_ 0 (.int .i64 k1)⟩, u5.far (p := ⟨D + 2, 0, none⟩) n3 _, u6.far (p := ⟨D + 2, 0, none⟩) n4 _, ?_⟩
  exact below_set (b7.trans (bb5 _ (by omega))) (by omega) _

def satErr (s : Sec) (xs : List Int) : Int := fnz [s.err, sigErr xs]

set_option maxHeartbeats 1000000 in
theorem Saturations_bad_in (n : Nat) (s : Sec) (A : Option Addr) (m c : Nat) (xs : List Int) (w : World) (he : (satErr s xs != 0) = true) (hm : m ≤ 1000000000000) (hR : Reads w w.heap.size 1 A m (ints xs)) :
    CallsIn Fence.wide n Tryz.prog 23 #[.agg #[.int .i64 s.b0, .int .i64 s.b1, .int .i64 s.b2, .int .i64 s.a1, .int .i64 s.a2, .int .i64 s.sh], .slice A m c] w fun e w' => e = .returned (.tuple #[.int .i64 0, .int .i64 (satErr s xs)]) ∧ Below w.heap.size w w' := by
  have HE := hide he; clear he
  refine callsIn_of_wp_marks Tryz.func23 rfl trivial ?_ rfl
  simp only [Tryz.ntmps23, List.size_toArray, List.length_cons, List.length_nil, Nat.reduceAdd, Nat.reduceSub, Array.replicate_succ, Array.replicate_zero, List.push_toArray, List.append_toArray, List.nil_append, List.cons_append]
  gi_wp2
  obtain ⟨w1, e1, hb1, hz1, k0, k1⟩ := box2 w #[.int .i64 s.b0, .int .i64 s.b1, .int .i64 s.b2, .int .i64 s.a1, .int .i64 s.a2, .int .i64 s.sh] #[.slice A m c] 53 23
  rw [← e1]; clear e1
  have c0 : ∀ i W, Below w1.heap.size w1 W → W.cell? ⟨w.heap.size, i, none⟩ = (#[.int .i64 s.b0, .int .i64 s.b1, .int .i64 s.b2, .int .i64 s.a1, .int .i64 s.a2, .int .i64 s.sh] : Array Value)[i]? := fun i W h => (k0.below h (by omega)).cell i
  have c1 : ∀ i W, Below w1.heap.size w1 W → W.cell? ⟨w.heap.size + 1, i, none⟩ = (#[.slice A m c] : Array Value)[i]? := fun i W h => (k1.below h (by omega)).cell i
  have r0 : ∀ W, Below w1.heap.size w1 W → Reads W W.heap.size 1 A m (ints xs) := fun W h => ((hR.below hb1).below (h.mono hb1.size)).more (Nat.le_trans hb1.size h.size)
  have R0 := hide r0; clear r0
  refine wpIn_wide.2 ?_
  go_region_held3 (fun W => Below w1.heap.size w1 W) (first | exact (Below.refl _ _).drew | (with_reducible assumption) | exact below_new ‹Below w1.heap.size w1 _› (Nat.le_refl _) _ | (refine below_set (below_set (below_set (below_set (by assumption) (by omega) _) (by omega) _) (by omega) _) (by omega) _)) (first | (go_at_call 56; refine (checkSection_any s _).mono ?_; rintro e W' ⟨rfl, hbW⟩; have hS := below_step ‹Below w1.heap.size w1 _› hbW (Below.size ‹Below w1.heap.size w1 _›)) | (go_at_call 59; refine (checkSignal_any _ _ _ _ _ (R0.out _ ‹Below w1.heap.size w1 _›) hm).mono ?_; rintro e W' ⟨rfl, hbW⟩; have hS := below_step ‹Below w1.heap.size w1 _› hbW (Below.size ‹Below w1.heap.size w1 _›)) | (go_at_call 38; (first | (with_reducible (refine (first_any _ _ _ _ _ _ (reads2 _ _ _ _) (by omega)).mono ?_)) | (with_reducible (refine (first_any _ _ _ _ _ _ (Reads.drew (reads2 _ _ _ _)) (by omega)).mono ?_))); rintro e W' ⟨rfl, rfl⟩))
  have hB : Below w1.heap.size w1 _ := ‹Below w1.heap.size w1 _›
  generalize World.alloc _ _ = w4 at hB ⊢
  have t1 : (fnz [s.err, sigErr xs] != 0) = true := HE.out
  clear c0 c1 k0 k1 R0 hR
  gi_wp2
  exact ⟨.tuple #[.int .i64 0, .int .i64 (satErr s xs)], by simp [results, Tryz.results23, go_sem, satErr], rfl, below_step hb1 hB hb1.size⟩

theorem Saturations_bad (s : Sec) (A : Option Addr) (m c : Nat) (xs : List Int) (w : World) (he : (satErr s xs != 0) = true) (hm : m ≤ 1000000000000) (hR : Reads w w.heap.size 1 A m (ints xs)) :
    Calls Tryz.prog 23 #[.agg #[.int .i64 s.b0, .int .i64 s.b1, .int .i64 s.b2, .int .i64 s.a1, .int .i64 s.a2, .int .i64 s.sh], .slice A m c] w fun e w' => e = .returned (.tuple #[.int .i64 0, .int .i64 (satErr s xs)]) ∧ Below w.heap.size w w' :=
  callsIn_wide.1 (Saturations_bad_in 3 s A m c xs w he hm hR)

set_option maxHeartbeats 4000000 in
theorem Saturations_ok_in (n : Nat) (hn : 3 ≤ n) (s : Sec) (A : Option Addr) (m c : Nat) (xs : List Int) (w : World) (he : satErr s xs = 0) (hm : m ≤ 1000000000000) (hR : Reads w w.heap.size 1 A m (ints xs)) :
    CallsIn Fence.wide n Tryz.prog 23 #[.agg #[.int .i64 s.b0, .int .i64 s.b1, .int .i64 s.b2, .int .i64 s.a1, .int .i64 s.a2, .int .i64 s.sh], .slice A m c] w fun e w' => e = .returned (.tuple #[.int .i64 (s.sats St.zero xs), .int .i64 0]) ∧ Below w.heap.size w w' := by
  obtain ⟨a1, a2⟩ := fnz2_zero he
  have hs := Sec.err_ok a1
  have hx := (sigErr_ok a2).2
  have HX := hide hx; clear hx
  clear a1 a2
  have hl := reads_len hR
  have HL := hide hl; clear hl
  have HE := hide he; clear he
  refine callsIn_of_wp_marks Tryz.func23 rfl trivial ?_ rfl
  simp only [Tryz.ntmps23, List.size_toArray, List.length_cons, List.length_nil, Nat.reduceAdd, Nat.reduceSub, Array.replicate_succ, Array.replicate_zero, List.push_toArray, List.append_toArray, List.nil_append, List.cons_append]
  gi_wp2
  obtain ⟨w1, e1, hb1, hz1, k0, k1⟩ := box2 w #[.int .i64 s.b0, .int .i64 s.b1, .int .i64 s.b2, .int .i64 s.a1, .int .i64 s.a2, .int .i64 s.sh] #[.slice A m c] 53 23
  rw [← e1]; clear e1
  have c0 : ∀ i W, Below w1.heap.size w1 W → W.cell? ⟨w.heap.size, i, none⟩ = (#[.int .i64 s.b0, .int .i64 s.b1, .int .i64 s.b2, .int .i64 s.a1, .int .i64 s.a2, .int .i64 s.sh] : Array Value)[i]? := fun i W h => (k0.below h (by omega)).cell i
  have c1 : ∀ i W, Below w1.heap.size w1 W → W.cell? ⟨w.heap.size + 1, i, none⟩ = (#[.slice A m c] : Array Value)[i]? := fun i W h => (k1.below h (by omega)).cell i
  have r0 : ∀ W, Below w1.heap.size w1 W → Reads W W.heap.size 1 A m (ints xs) := fun W h => ((hR.below hb1).below (h.mono hb1.size)).more (Nat.le_trans hb1.size h.size)
  have R0 := hide r0; clear r0
  refine wpIn_wide.2 ?_
  go_region_held3 (fun W => Below w1.heap.size w1 W) (first | exact (Below.refl _ _).drew | (with_reducible assumption) | exact below_new ‹Below w1.heap.size w1 _› (Nat.le_refl _) _ | (refine below_set (below_set (below_set (below_set (by assumption) (by omega) _) (by omega) _) (by omega) _) (by omega) _)) (first | (go_at_call 56; refine (checkSection_any s _).mono ?_; rintro e W' ⟨rfl, hbW⟩; have hS := below_step ‹Below w1.heap.size w1 _› hbW (Below.size ‹Below w1.heap.size w1 _›)) | (go_at_call 59; refine (checkSignal_any _ _ _ _ _ (R0.out _ ‹Below w1.heap.size w1 _›) hm).mono ?_; rintro e W' ⟨rfl, hbW⟩; have hS := below_step ‹Below w1.heap.size w1 _› hbW (Below.size ‹Below w1.heap.size w1 _›)) | (go_at_call 38; (first | (with_reducible (refine (first_any _ _ _ _ _ _ (reads2 _ _ _ _) (by omega)).mono ?_)) | (with_reducible (refine (first_any _ _ _ _ _ _ (Reads.drew (reads2 _ _ _ _)) (by omega)).mono ?_))); rintro e W' ⟨rfl, rfl⟩))
  have hB : Below w1.heap.size w1 _ := ‹Below w1.heap.size w1 _›
  generalize World.alloc _ _ = w4 at hB ⊢
  have t1 : (fnz [s.err, sigErr xs] != 0) = false := by rw [show fnz [s.err, sigErr xs] = 0 from HE.out]; rfl
  have hb4 : Below w.heap.size w w4 := below_step hb1 hB hb1.size
  have k0' := k0.below hB k0.lt
  have k1' := k1.below hB k1.lt
  have lt1 := k1'.lt
  clear c0 c1 k0 k1 R0
  obtain ⟨w5, e5, hb5, hz5, q0, q1, q2⟩ := box3 w4 #[.int .i64 0] #[.int .i64 0, .int .i64 0, .int .i64 0, .int .i64 0] #[.int .i64 0] 3 61 3
  have k0w := k0'.below hb5 k0'.lt
  have k1w := k1'.below hb5 k1'.lt
  have c0w := k0w.cell
  have c1w := k1w.cell
  have hs5 : w5.heap.size = w4.heap.size + 3 := by rw [e5]; simp
  have HS5 := hide hs5; clear hs5
  gi_upto_region 7 with (fail)
  rw [← e5]; clear e5
  gi_wp2_with fail
  refine ⟨trivial, fun _ => by omega, ?_⟩
  refine (outputs_in (n - 1) s St.zero A m c _).mono ?_
  rintro e w6 ⟨rfl, hb6, hz6, p0, p1, p2⟩
  have hb54 : Below w.heap.size w w5 := below_step hb4 hb5 hb4.size
  have hbb : Below w.heap.size w w6 := below_step hb54 hb6 hb54.size
  have hD : w.heap.size + 2 ≤ w4.heap.size := by omega
  have hI0 : SatI s A m c xs w4.heap.size w [] w6 := ⟨⟨0, by omega, rfl, q0.below hb6 (by omega), q1.below hb6 (by omega), q2.below hb6 (by omega)⟩, k0w.below hb6 (by omega), k1w.below hb6 (by omega), hbb⟩
  clear c0w c1w
  gi_wp2
  refine wpIn_rangeAll (by omega) (gf := 87) (lb := #[.pointer (some ⟨w5.heap.size + 1, 0, none⟩), .pointer (some ⟨w5.heap.size + 2, 0, none⟩), .pointer (some ⟨w5.heap.size, 0, none⟩)]) rfl (enters_of Tryz.func87 (by kernel_rfl) rfl)
    (outputs_all (n - 1) (by omega) _ _ _ w.heap.size (w4.heap.size + 3) s St.zero A m c xs hs zero_ok HX.out hm w6 p1 p2 p0 (by omega) (hR.below hbb) hbb.size (by omega)) hbb.size (fun _ => rfl)
    (SatI s A m c xs w4.heap.size w) (fun p X Y h hh => satI_hush hbb.size hD p X Y h hh) hI0
    (fun pre p b W => SatI s A m c xs w4.heap.size w pre W ∧ ∃ Bn, w4.heap.size + 3 ≤ Bn ∧ Blk W Bn 61 #[.int .i64 p.2.x1, .int .i64 p.2.x2, .int .i64 p.2.y1, .int .i64 p.2.y2] ∧ b = { tmps := #[.agg #[.int .i64 s.b0, .int .i64 s.b1, .int .i64 s.b2, .int .i64 s.a1, .int .i64 s.a2, .int .i64 s.sh], .slice A m c, .pointer (some ⟨w.heap.size, 0, none⟩), .pointer (some ⟨w.heap.size + 1, 0, none⟩), .int .i64 0, .int .i64 0, .int .i64 (fnz [s.err, sigErr xs]), .pointer (some ⟨w4.heap.size, 0, none⟩), .pointer (some ⟨w4.heap.size + 1, 0, none⟩), .pointer (some ⟨w4.heap.size + 1 + 1, 0, none⟩), undef, .pointer (some ⟨Bn, 0, none⟩), undef, .agg #[.int .i64 s.b0, .int .i64 s.b1, .int .i64 s.b2, .int .i64 s.a1, .int .i64 s.a2, .int .i64 s.sh], .int .i64 s.err, .slice A m c, .int .i64 (sigErr xs), .slice (some ⟨W'.heap.size, 0, none⟩) 2 2, .int .i64 (fnz [s.err, sigErr xs]), .int .i64 (fnz [s.err, sigErr xs]), .bool false, undef, .agg #[.int .i64 s.b0, .int .i64 s.b1, .int .i64 s.b2, .int .i64 s.a1, .int .i64 s.a2, .int .i64 s.sh], .agg #[.int .i64 0, .int .i64 0, .int .i64 0, .int .i64 0], .slice A m c, .func (.func 87) #[] #[.pointer (some ⟨w5.heap.size + 1, 0, none⟩), .pointer (some ⟨w5.heap.size + 2, 0, none⟩), .pointer (some ⟨w5.heap.size, 0, none⟩)], .int .i64 p.1, .agg #[.int .i64 p.2.x1, .int .i64 p.2.x2, .int .i64 p.2.y1, .int .i64 p.2.y2], undef, undef, undef, undef, undef, undef, undef, undef, undef, undef, undef, undef, undef, undef, undef, undef, undef], defers := [] })
    (fun pre p b X Y h hh => ⟨satI_hush hbb.size hD _ _ _ h.1 hh, by obtain ⟨_, Bn, h1, h2, h3⟩ := h; exact ⟨Bn, h1, hh.blk h2 (fun _ => rfl), h3⟩⟩)
    ?assign ?body ?done
  case assign =>
    intro l pre p W hW hI hnx
    have hIs := hI
    obtain ⟨_, _, _, h7⟩ := hI
    gi_wp2
    exact ⟨Kept.alloc W h7.size _, satI_hush (nC := w.heap.size) (Nat.le_refl _) hD (T := []) _ _ _ hIs (hush_alloc (Hush.refl _ _ _ _) _), W.heap.size, by omega, Blk.new _ _ _, rfl⟩
  case body =>
    rintro l pre p b W hW ⟨⟨⟨k, hk0, hk1, h2, h3, h4⟩, h5, h6, h7⟩, Bn, hBn, kB, rfl⟩ ⟨k', xi, hxk, hpre, hp⟩
    have hkl : k' < xs.length := (List.getElem?_eq_some_iff.1 hxk).1
    have hkk : k = k' := by
      rw [hpre, trace_len, List.length_take] at hk1; omega
    subst hkk
    subst hp
    have hlm : k < m := by rw [← HL.out]; exact hkl
    obtain ⟨ad, xj, rfl, hxj, hc⟩ := reads_hit (hR.below h7) hlm h7.size
    obtain rfl : xi = xj := by rw [hxk] at hxj; exact Option.some.inj hxj
    have hxb := HX.out xi (List.mem_of_getElem? hxk)
    have hza := after_ok (s := s) zero_ok (xs := xs.take k) (fun a ha => HX.out a (List.mem_of_mem_take ha))
    have hsb := sats_bd s St.zero (xs.take k)
    have hsl := List.length_take_le k xs
    have HK := hide hxk; clear hxk hxj
    have HP := hide hpre; clear hpre
    have HP1 := hide hk1; clear hk1
    obtain ⟨z, ez⟩ : ∃ z, z = s.after St.zero (xs.take k) := ⟨_, rfl⟩
    dsimp only at kB ⊢
    rw [← ez] at h3 hza kB ⊢
    have EZ := hide ez; clear ez
    obtain ⟨q, eq⟩ : ∃ q, q = s.sats St.zero (xs.take k) := ⟨_, rfl⟩
    rw [← eq] at h2 hsb
    have hq1 : 0 ≤ q := hsb.1
    have hq2 : q ≤ 1000000000000 := by omega
    clear hsb
    have EQ := hide eq; clear eq
    have a0 := over_blk (B := W.heap.size) h5 h5.lt
    have a1 := over_blk (B := W.heap.size) h3 h3.lt
    have a2 := over_blk (B := W.heap.size) h6 h6.lt
    have a3 := over_blk (B := W.heap.size) h4 h4.lt
    have ax : ∀ X, (over W.heap.size W X).cell? (ad.add k) = some (.int .i64 xi) := fun X => hc _ (over_below W.heap.size W X)
    have hkl' : k + 1 ≤ xs.length := hkl
    clear hc hR hI0 hkl hsl
    gi_wp2
    refine wpIn_region_over l W.heap.size (by kernel_rfl) (by kernel_rfl) (by kernel_rfl) ?_; (repeat (refine wpQuietIn_step (by first | (go_simp; done) | (exact fun _ _ _ _ => trivial)) (fun K hK => ?_); go_simp; first | (refine hK _ ?_; clear hK K) | (apply Exists.intro; refine ⟨fun _ => ⟨fun h => absurd h (by decide), ?_⟩, hK _ ?_⟩; (gi_at_call 61; exact callsIn_wide.2 (over_call (Nat.le_refl _) (raw_any s z xi _ hs hza hxb.1 hxb.2))); clear hK K))); refine wpQuietIn_nil ?_; rintro Wx ⟨x, rfl⟩
    skip
    have hbY := over_below W.heap.size W x
    generalize over W.heap.size W x = Y at hbY ⊢
    have g2 := h2.below hbY h2.lt
    have g3 := h3.below hbY h3.lt
    have g4 := h4.below hbY h4.lt
    have g5 := h5.below hbY h5.lt
    have g6 := h6.below hbY h6.lt
    have gB := kB.below hbY kB.lt
    have b7 : Below w.heap.size w Y := below_step h7 hbY h7.size
    have kY := Kept.of_below (T := ownT) (n0 := w.heap.size) (n1 := w4.heap.size + 3) hbY h7.size
    have c2 := g2.cell
    have c3 := g3.cell
    have c4 := g4.cell
    have cB := gB.cell
    have f2 := g2.frozen
    have f3 := g3.frozen
    have f4 := g4.frozen
    have l2 := g2.lt
    have l3 := g3.lt
    have l4 := g4.lt
    clear h2 h3 h4 h5 h6 kB a0 a1 a2 a3 ax
    rcases Bool.eq_false_or_eq_true (lim (s.raw z xi) != s.raw z xi) with tv | tv
    · gi_wp2_with (refine ⟨trivial, fun h => absurd h (by decide), ?_⟩; gi_at_call 62; refine (CallsIn.inRound l (callsIn_wide.2 (limited_any _ _))).mono ?_; rintro e w2 ⟨rfl, rfl⟩)
      have n1 : w4.heap.size + 1 ≠ w4.heap.size := by omega
      have n2 : w4.heap.size + 2 ≠ w4.heap.size := by omega
      have n3 : w.heap.size ≠ w4.heap.size := by omega
      have n4 : w.heap.size + 1 ≠ w4.heap.size := by omega
      obtain ⟨e1, ⟨e2, e3, e4⟩, e5, e6, e7⟩ := satB (s := s) (A := some ad) (m := m) (c := c) (W := W) (nx := s.next z xi) ((k : Int) + 1) hD (by simpa using g2.set_ 0 (.int .i64 (q + 1))) (g3.far (p := ⟨w4.heap.size, 0, none⟩) n1 (.int .i64 (q + 1))) (g4.far (p := ⟨w4.heap.size, 0, none⟩) n2 (.int .i64 (q + 1))) (g5.far (p := ⟨w4.heap.size, 0, none⟩) n3 (.int .i64 (q + 1))) (g6.far (p := ⟨w4.heap.size, 0, none⟩) n4 (.int .i64 (q + 1))) (below_set b7 (by omega) _) (kY.trans (Kept.set (i := 0) g2 (by omega) (fun _ => rfl) _)) _ rfl
      show Kept ownT w.heap.size (w4.heap.size + 3) W _ ∧ SatI s (some ad) m c xs w4.heap.size w _ _
      refine ⟨e1, ⟨k + 1, hkl', by rw [List.length_append, HP1.out]; rfl, ?_, ?_, ?_⟩, e5, e6, e7⟩
      · rw [sats_take_succ s _ HK.out, ← EZ.out, ← EQ.out, if_neg (by intro h; rw [show lim (s.raw z xi) = s.raw z xi from h] at tv; simp at tv)]; exact e2
      · rw [after_take_succ s _ HK.out, ← EZ.out]; exact e3
      · rw [show ((k + 1 : Nat) : Int) = (k : Int) + 1 from by omega]; exact e4
    · gi_wp2_with (refine ⟨trivial, fun h => absurd h (by decide), ?_⟩; gi_at_call 62; refine (CallsIn.inRound l (callsIn_wide.2 (limited_any _ _))).mono ?_; rintro e w2 ⟨rfl, rfl⟩)
      obtain ⟨e1, ⟨e2, e3, e4⟩, e5, e6, e7⟩ := satB (s := s) (A := some ad) (m := m) (c := c) (W := W) (nx := s.next z xi) ((k : Int) + 1) hD g2 g3 g4 g5 g6 b7 kY _ rfl
      show Kept ownT w.heap.size (w4.heap.size + 3) W _ ∧ SatI s (some ad) m c xs w4.heap.size w _ _
      refine ⟨e1, ⟨k + 1, hkl', by rw [List.length_append, HP1.out]; rfl, ?_, ?_, ?_⟩, e5, e6, e7⟩
      · have hlr : s.out z xi = s.raw z xi := (by simpa using tv : lim (s.raw z xi) = s.raw z xi)
        rw [sats_take_succ s _ HK.out, ← EZ.out, ← EQ.out, if_pos hlr, Int.add_zero]; exact e2
      · rw [after_take_succ s _ HK.out, ← EZ.out]; exact e3
      · rw [show ((k + 1 : Nat) : Int) = (k : Int) + 1 from by omega]; exact e4
  case done =>
    rintro D ys W hD' rfl ⟨⟨k, hk0, hk1, h2, h3, h4⟩, h5, h6, h7⟩ hK
    have c2 := h2.cell
    have hke : k = xs.length := by rw [trace_len] at hk1; exact hk1.symm
    subst hke
    rw [List.take_length] at c2
    gi_wp2
    refine ⟨by simp, .inl ⟨_, _, rfl, run_takeDeferred (w := W) hK, ?_⟩⟩
    refine ⟨.tuple #[.int .i64 (s.sats St.zero xs), .int .i64 0], by simp [results, Tryz.results23, go_sem], rfl, ?_⟩
    exact h7.trans (belowK_b (w := w) (Nat.le_refl _) W D _ _ (by have := hbb.size; omega) hK rfl rfl)

theorem Saturations_ok (s : Sec) (A : Option Addr) (m c : Nat) (xs : List Int) (w : World) (he : satErr s xs = 0) (hm : m ≤ 1000000000000) (hR : Reads w w.heap.size 1 A m (ints xs)) :
    Calls Tryz.prog 23 #[.agg #[.int .i64 s.b0, .int .i64 s.b1, .int .i64 s.b2, .int .i64 s.a1, .int .i64 s.a2, .int .i64 s.sh], .slice A m c] w fun e w' => e = .returned (.tuple #[.int .i64 (s.sats St.zero xs), .int .i64 0]) ∧ Below w.heap.size w w' :=
  callsIn_wide.1 (Saturations_ok_in 3 (Nat.le_refl _) s A m c xs w he hm hR)
end Go.Proofs.YtpcmflfinlkeiaaGreatDoor
