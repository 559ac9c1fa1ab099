/- The law SectionRests. -/
import Derived.Test.YtlaaajkehjoffaaDoorBehind
import Derived.Test.YtlaaajkehjoffaaDoorLawSettles
import Derived.Deep.DeepCutAuto
namespace Go.Proofs.YtlaaajkehjoffaaDoor
open Go.RowKit Go.Shelf
set_option maxRecDepth 100000

/-- A row of the call's own as a slice, with its room. -/
theorem own_room {w : World} {base size n : Nat} {e : TypeId} {v : Value} {xs : List Value} (h : w.ownsRow base e size v n xs) : ∃ A c, v = .slice A n c ∧ n ≤ c ∧ c ≤ maxLen ∧ Reads w w.heap.size size A n xs := by
  rcases h.2 with ⟨rfl, rfl⟩ | ⟨g, cap, cur, rfl, _, _, h1, h2, _⟩
  · exact ⟨none, 0, rfl, Nat.le_refl _, Nat.zero_le _, Reads.of_own h⟩
  · exact ⟨_, cap, rfl, h1, h2, Reads.of_own h⟩
theorem reads_made (w : World) (N g : Nat) (t : TypeId) (hg : g = w.heap.size) : Reads (w.alloc (.cells (madeCells #[.int .i64 0] N) t)) (w.alloc (.cells (madeCells #[.int .i64 0] N) t)).heap.size 1 (some ⟨g, 0, none⟩) N (ints (List.replicate N 0)) := by
  subst hg
  rw [made_eq]
  exact blkR (xs := List.replicate N 0) (Blk.new w t _) (by simp)
theorem From_z (s : Sec) (y : St) (A : Option Addr) (m c : Nat) (xs : List Int) (w : World) (hs : s.Ok) (hy : y.Ok) (hx : sigErr xs = 0) (hm : m ≤ 1000000000000) (hR : Reads w w.heap.size 1 A m (ints xs)) :
    Calls Tryd.prog 18 #[.agg #[.int .i64 s.b0, .int .i64 s.b1, .int .i64 s.b2, .int .i64 s.a1, .int .i64 s.a2, .int .i64 s.sh], .agg #[.int .i64 y.x1, .int .i64 y.x2, .int .i64 y.y1, .int .i64 y.y2], .slice A m c] w fun e w' => ∃ v, e = .returned (.tuple #[v, .agg #[.int .i64 (s.after y xs).x1, .int .i64 (s.after y xs).x2, .int .i64 (s.after y xs).y1, .int .i64 (s.after y xs).y2], .int .i64 0]) ∧ w'.ownsRow w.heap.size 3 1 v m (ints (s.outs y xs)) ∧ Below w.heap.size w w' :=
  From_ok s y A m c xs w (by unfold fromErr; rw [Sec.err_of hs, St.err_of hy, hx]; rfl) hm hR
theorem fin1S {Q : World → Prop} {v W : World} {cs : Array Value} {t : TypeId} {base : Nat} {e : TypeId} {vv : Value} {k : Nat} {zs : List Value} (hB : Below v.heap.size v W) (ho : W.ownsRow base e 1 vv k zs) (h : ∀ X, Below v.heap.size v X → X.ownsRow base e 1 vv k zs → Q X) : Q (W.alloc (.cells cs t)) := h _ (below_new hB (Nat.le_refl _) _) (ho.alloc _)
theorem fin4S {Q : World → Prop} {B : Nat} {v W : World} {g : Nat} {c0 c1 c2 c3 u0 u1 u2 u3 : Value} (t : TypeId) {base : Nat} {e : TypeId} {vv : Value} {k : Nat} {zs : List Value} (hB : Below B v W) (hg : B ≤ g) (hk : Blk W g t #[c0, c1, c2, c3]) (ho : W.ownsRow base e 1 vv k zs) (hne : e ≠ t) (h : ∀ X, Below B v X → X.ownsRow base e 1 vv k zs → Q X) :
    Q ((((W.setCell ⟨g, 0, none⟩ u0).setCell ⟨g, 1, none⟩ u1).setCell ⟨g, 2, none⟩ u2).setCell ⟨g, 3, none⟩ u3) := by
  obtain ⟨w1, e1, k1, _, _, b1, _, _, o1⟩ := set4 W g t c0 c1 c2 c3 u0 u1 u2 u3 hk
  rw [← e1]
  exact h _ (hB.trans (b1 B hg)) (o1 _ _ _ _ _ _ hne ho)
theorem zeros_sig {N : Nat} (h : N ≤ 4096) : sigErr (List.replicate N 0) = 0 := sigErr_of (by simpa using h) (fun x hx => by have := List.eq_of_mem_replicate hx; omega)
theorem Settle_some (s : Sec) (y : St) (n p : Nat) (w : World) (hs : s.Ok) (hy : y.Ok) (h : Hid (s.settle y = some (n, p))) :
    Calls Tryd.prog 29 #[.agg #[.int .i64 s.b0, .int .i64 s.b1, .int .i64 s.b2, .int .i64 s.a1, .int .i64 s.a2, .int .i64 s.sh], .agg #[.int .i64 y.x1, .int .i64 y.x2, .int .i64 y.y1, .int .i64 y.y2]] w fun e w' => e = .returned (.tuple #[.int .i64 (n : Int), .int .i64 (p : Int), .int .i64 0]) ∧ Below w.heap.size w w' := by
  refine (Settle_ok s y w (by unfold setErr; rw [Sec.err_of hs, St.err_of hy]; rfl)).mono fun _ _ h' => ?_
  rw [h.out] at h'
  exact h'
theorem Settle_none (s : Sec) (y : St) (w : World) (hs : s.Ok) (hy : y.Ok) (h : Hid (s.settle y = none)) :
    Calls Tryd.prog 29 #[.agg #[.int .i64 s.b0, .int .i64 s.b1, .int .i64 s.b2, .int .i64 s.a1, .int .i64 s.a2, .int .i64 s.sh], .agg #[.int .i64 y.x1, .int .i64 y.x2, .int .i64 y.y1, .int .i64 y.y2]] w fun e w' => e = .returned (.tuple #[.int .i64 0, .int .i64 0, .int .i64 23]) ∧ Below w.heap.size w w' := by
  refine (Settle_ok s y w (by unfold setErr; rw [Sec.err_of hs, St.err_of hy]; rfl)).mono fun _ _ h' => ?_
  rw [h.out] at h'
  exact h'

theorem lawRests_bad1 (s : Sec) (y : St) (w : World) (hV : Vars w) (hs : (s.err != 0) = true) :
    Calls Tryd.prog 8 #[.agg #[.int .i64 s.b0, .int .i64 s.b1, .int .i64 s.b2, .int .i64 s.a1, .int .i64 s.a2, .int .i64 s.sh], .agg #[.int .i64 y.x1, .int .i64 y.x2, .int .i64 y.y1, .int .i64 y.y2]] w fun e w' => e = .returned (.bool true) ∧ Below w.heap.size w w' := by
  go_enter Tryd.func8, Tryd.ntmps8
  go_wp2_with fail
  obtain ⟨w1, e1, hb1, hz1, k0, k1⟩ := box2 w #[.int .i64 s.b0, .int .i64 s.b1, .int .i64 s.b2, .int .i64 s.a1, .int .i64 s.a2, .int .i64 s.sh] #[.int .i64 y.x1, .int .i64 y.x2, .int .i64 y.y1, .int .i64 y.y2] 23 25
  rw [← e1]; clear e1
  refine (small_ex s y _).mono ?_
  rintro e w2 ⟨b, rfl, hb2⟩
  cases b
  · go_wp2_with fail
    refine (awake_v _ (hV.carry (by repeat (first | with_reducible assumption | exact Below.refl _ _ | refine below_next (by with_reducible assumption) ?_)))).mono ?_
    rintro e wz ⟨rfl, hbz⟩
    go_wp2
    go_ret
    exact ⟨rfl, (by repeat (first | with_reducible assumption | exact Below.refl _ _ | refine below_next (by with_reducible assumption) ?_))⟩
  have cS := (carryK (w' := w2) k0 (by repeat (first | with_reducible assumption | exact Below.refl _ _ | refine below_next (by with_reducible assumption) ?_))).cell
  go_wp2_with fail
  refine (rCheckSection_any s _).mono ?_
  rintro e w3 ⟨rfl, hb3⟩
  clear cS
  go_wp2_with fail
  refine (awake_v _ (hV.carry (by repeat (first | with_reducible assumption | exact Below.refl _ _ | refine below_next (by with_reducible assumption) ?_)))).mono ?_
  rintro e wz ⟨rfl, hbz⟩
  go_wp2
  go_ret
  exact ⟨rfl, (by repeat (first | with_reducible assumption | exact Below.refl _ _ | refine below_next (by with_reducible assumption) ?_))⟩
theorem lawRests_bad2 (s : Sec) (y : St) (w : World) (hV : Vars w) (hs : (s.err != 0) = false) (hy : (y.err != 0) = true) :
    Calls Tryd.prog 8 #[.agg #[.int .i64 s.b0, .int .i64 s.b1, .int .i64 s.b2, .int .i64 s.a1, .int .i64 s.a2, .int .i64 s.sh], .agg #[.int .i64 y.x1, .int .i64 y.x2, .int .i64 y.y1, .int .i64 y.y2]] w fun e w' => e = .returned (.bool true) ∧ Below w.heap.size w w' := by
  go_enter Tryd.func8, Tryd.ntmps8
  go_wp2_with fail
  obtain ⟨w1, e1, hb1, hz1, k0, k1⟩ := box2 w #[.int .i64 s.b0, .int .i64 s.b1, .int .i64 s.b2, .int .i64 s.a1, .int .i64 s.a2, .int .i64 s.sh] #[.int .i64 y.x1, .int .i64 y.x2, .int .i64 y.y1, .int .i64 y.y2] 23 25
  rw [← e1]; clear e1
  refine (small_ex s y _).mono ?_
  rintro e w2 ⟨b, rfl, hb2⟩
  cases b
  · go_wp2_with fail
    refine (awake_v _ (hV.carry (by repeat (first | with_reducible assumption | exact Below.refl _ _ | refine below_next (by with_reducible assumption) ?_)))).mono ?_
    rintro e wz ⟨rfl, hbz⟩
    go_wp2
    go_ret
    exact ⟨rfl, (by repeat (first | with_reducible assumption | exact Below.refl _ _ | refine below_next (by with_reducible assumption) ?_))⟩
  have cS := (carryK (w' := w2) k0 (by repeat (first | with_reducible assumption | exact Below.refl _ _ | refine below_next (by with_reducible assumption) ?_))).cell
  go_wp2_with fail
  refine (rCheckSection_any s _).mono ?_
  rintro e w3 ⟨rfl, hb3⟩
  clear cS
  have cY := (carryK (w' := w3) k1 (by repeat (first | with_reducible assumption | exact Below.refl _ _ | refine below_next (by with_reducible assumption) ?_))).cell
  go_wp2_with fail
  refine (rCheckState_any y _).mono ?_
  rintro e w4 ⟨rfl, hb4⟩
  clear cY
  go_wp2_with fail
  refine (awake_v _ (hV.carry (by repeat (first | with_reducible assumption | exact Below.refl _ _ | refine below_next (by with_reducible assumption) ?_)))).mono ?_
  rintro e wz ⟨rfl, hbz⟩
  go_wp2
  go_ret
  exact ⟨rfl, (by repeat (first | with_reducible assumption | exact Below.refl _ _ | refine below_next (by with_reducible assumption) ?_))⟩
set_option maxHeartbeats 1000000 in
theorem lawRests_none (s : Sec) (y : St) (w : World) (hV : Vars w) (hs : s.Ok) (hy : y.Ok) (h : s.settle y = none) :
    Calls Tryd.prog 8 #[.agg #[.int .i64 s.b0, .int .i64 s.b1, .int .i64 s.b2, .int .i64 s.a1, .int .i64 s.a2, .int .i64 s.sh], .agg #[.int .i64 y.x1, .int .i64 y.x2, .int .i64 y.y1, .int .i64 y.y2]] w fun e w' => e = .returned (.bool true) ∧ Below w.heap.size w w' := by
  have hl := never_lives h
  have t1 : (s.err != 0) = false := by rw [Sec.err_of hs]; rfl
  have t2 : (y.err != 0) = false := by rw [St.err_of hy]; rfl
  have HN := hide h; clear h
  have HL := hide hl; clear hl
  go_enter Tryd.func8, Tryd.ntmps8
  go_wp2_with fail
  obtain ⟨w1, e1, hb1, hz1, k0, k1⟩ := box2 w #[.int .i64 s.b0, .int .i64 s.b1, .int .i64 s.b2, .int .i64 s.a1, .int .i64 s.a2, .int .i64 s.sh] #[.int .i64 y.x1, .int .i64 y.x2, .int .i64 y.y1, .int .i64 y.y2] 23 25
  rw [← e1]; clear e1
  refine (small_ex s y _).mono ?_
  rintro e w2 ⟨b, rfl, hb2⟩
  cases b
  · go_wp2_with fail
    refine (awake_v _ (hV.carry (by repeat (first | with_reducible assumption | exact Below.refl _ _ | refine below_next (by with_reducible assumption) ?_)))).mono ?_
    rintro e wz ⟨rfl, hbz⟩
    go_wp2
    go_ret
    exact ⟨rfl, (by repeat (first | with_reducible assumption | exact Below.refl _ _ | refine below_next (by with_reducible assumption) ?_))⟩
  have cS := (carryK (w' := w2) k0 (by repeat (first | with_reducible assumption | exact Below.refl _ _ | refine below_next (by with_reducible assumption) ?_))).cell
  go_wp2_with fail
  refine (rCheckSection_any s _).mono ?_
  rintro e w3 ⟨rfl, hb3⟩
  clear cS
  have cY := (carryK (w' := w3) k1 (by repeat (first | with_reducible assumption | exact Below.refl _ _ | refine below_next (by with_reducible assumption) ?_))).cell
  go_wp2_with fail
  refine (rCheckState_any y _).mono ?_
  rintro e w4 ⟨rfl, hb4⟩
  clear cY
  have cS := (carryK (w' := w4) k0 (by repeat (first | with_reducible assumption | exact Below.refl _ _ | refine below_next (by with_reducible assumption) ?_))).cell
  have cY := (carryK (w' := w4) k1 (by repeat (first | with_reducible assumption | exact Below.refl _ _ | refine below_next (by with_reducible assumption) ?_))).cell
  go_wp2_with fail
  refine (Settle_none s y _ hs hy HN).mono ?_
  rintro e w5 ⟨rfl, hb5⟩
  clear cS cY
  have cS := (carryK (w' := w5) k0 (by repeat (first | with_reducible assumption | exact Below.refl _ _ | refine below_next (by with_reducible assumption) ?_))).cell
  by_cases h1 : s.a1 = 0
  · have q1 : (s.a1 != 0) = false := by rw [h1]; rfl
    have q2 : (s.a2 != 0) = true := by simpa using fun h2 => HL.out ⟨h1, h2⟩
    clear h1
    go_wp2_with fail
    refine (awake_v _ (hV.carry (by repeat (first | with_reducible assumption | exact Below.refl _ _ | refine below_next (by with_reducible assumption) ?_)))).mono ?_
    rintro e wz ⟨rfl, hbz⟩
    go_wp2
    go_ret
    exact ⟨rfl, (by repeat (first | with_reducible assumption | exact Below.refl _ _ | refine below_next (by with_reducible assumption) ?_))⟩
  · have q1 : (s.a1 != 0) = true := by simpa using h1
    clear h1
    go_wp2_with fail
    refine (awake_v _ (hV.carry (by repeat (first | with_reducible assumption | exact Below.refl _ _ | refine below_next (by with_reducible assumption) ?_)))).mono ?_
    rintro e wz ⟨rfl, hbz⟩
    go_wp2
    go_ret
    exact ⟨rfl, (by repeat (first | with_reducible assumption | exact Below.refl _ _ | refine below_next (by with_reducible assumption) ?_))⟩

theorem neqSt (a b : St) (w : World) : (binOp .neq 25 (.agg #[.int .i64 a.x1, .int .i64 a.x2, .int .i64 a.y1, .int .i64 a.y2]) (.agg #[.int .i64 b.x1, .int .i64 b.x2, .int .i64 b.y1, .int .i64 b.y2])).run Tryd.prog w = .ok (.bool (!(a.eqB b))) w := by
  have hh : (Op.equalIn 10000 25 (.agg #[.int .i64 a.x1, .int .i64 a.x2, .int .i64 a.y1, .int .i64 a.y2]) (.agg #[.int .i64 b.x1, .int .i64 b.x2, .int .i64 b.y1, .int .i64 b.y2])).run Tryd.prog w = .ok (a.eqB b) w := by
    rw [show (10000 : Nat) = 9999 + 1 from rfl, run_equalIn_struct w 9999 25 _ _ (by kernel_rfl) (by kernel_rfl)]
    simp [Program.fieldsOf, Tryd.underlying25, Op.eqFields, go_sem, St.eqB, run_equalIn_int _ _ _ _ _ _ _ Tryd.underlying3]
    by_cases h1 : a.x1 = b.x1 <;> by_cases h2 : a.x2 = b.x2 <;> by_cases h3 : a.y1 = b.y1 <;> by_cases h4 : a.y2 = b.y2 <;> simp [h1, h2, h3, h4, go_sem]
  simp only [binOp, Op.equal, Op.maxDepth]
  simp [hh, go_sem]
theorem neqSt_same {a b : St} (h : a = b) (w : World) : (binOp .neq 25 (.agg #[.int .i64 a.x1, .int .i64 a.x2, .int .i64 a.y1, .int .i64 a.y2]) (.agg #[.int .i64 b.x1, .int .i64 b.x2, .int .i64 b.y1, .int .i64 b.y2])).run Tryd.prog w = .ok (.bool false) w := by
  have := neqSt a b w
  rwa [St.eqB_iff.2 h] at this
theorem eqlSt_not {a b : St} (h : a ≠ b) (w : World) : (binOp .eql 25 (.agg #[.int .i64 a.x1, .int .i64 a.x2, .int .i64 a.y1, .int .i64 a.y2]) (.agg #[.int .i64 b.x1, .int .i64 b.x2, .int .i64 b.y1, .int .i64 b.y2])).run Tryd.prog w = .ok (.bool false) w := by
  have := eqlSt a b w
  have e : a.eqB b = false := by
    cases hh : a.eqB b
    · rfl
    · exact absurd (St.eqB_iff.1 hh) h
  rwa [e] at this

set_option maxHeartbeats 8000000 in
theorem lawRests_some (s : Sec) (y : St) (n p : Nat) (w : World) (hV : Vars w) (hs : s.Ok) (hy : y.Ok) (h : s.settle y = some (n, p)) :
    Calls Tryd.prog 8 #[.agg #[.int .i64 s.b0, .int .i64 s.b1, .int .i64 s.b2, .int .i64 s.a1, .int .i64 s.a2, .int .i64 s.sh], .agg #[.int .i64 y.x1, .int .i64 y.x2, .int .i64 y.y1, .int .i64 y.y2]] w fun e w' => e = .returned (.bool true) ∧ Below w.heap.size w w' := by
  have hrest := settle_rest h
  have hp1 := hrest.pos
  have hle := hrest.le
  have t1 : (s.err != 0) = false := by rw [Sec.err_of hs]; rfl
  have t2 : (y.err != 0) = false := by rw [St.err_of hy]; rfl
  have HN := hide h; clear h
  have HR := hide hrest; clear hrest
  obtain ⟨N, hN⟩ : ∃ N, N = n + p := ⟨_, rfl⟩
  have hN1 : N ≤ 4096 := by omega
  have hnN : n < N := by omega
  have hmin : min (N : Int) 4096 = (N : Int) := by omega
  have hwr : IntKind.i64.wrap ((n : Int) + (p : Int)) = (N : Int) := by rw [IntWalk.i64_in _ (by omega)]; omega
  have HWR := hide hwr
  clear hwr
  have hmk := run_make_row' (P := Tryd.prog) 26 3 (.int .i64 0) 8 Tryd.underlying26 info_int rfl .i64 .i64 N (by omega) (by omega)
  have HMIN := hide hmin
  have HMK := hide hmk
  have HNE := hide hN
  clear hN hmin hmk
  go_enter Tryd.func8, Tryd.ntmps8
  go_wp2_with fail
  obtain ⟨w1, e1, hb1, hz1, k0, k1⟩ := box2 w #[.int .i64 s.b0, .int .i64 s.b1, .int .i64 s.b2, .int .i64 s.a1, .int .i64 s.a2, .int .i64 s.sh] #[.int .i64 y.x1, .int .i64 y.x2, .int .i64 y.y1, .int .i64 y.y2] 23 25
  rw [← e1]; clear e1
  refine (small_ex s y _).mono ?_
  rintro e w2 ⟨b, rfl, hb2⟩
  cases b
  · go_wp2_with fail
    refine (awake_v _ (hV.carry (by repeat (first | with_reducible assumption | exact Below.refl _ _ | refine below_next (by with_reducible assumption) ?_)))).mono ?_
    rintro e wz ⟨rfl, hbz⟩
    go_wp2
    go_ret
    exact ⟨rfl, (by repeat (first | with_reducible assumption | exact Below.refl _ _ | refine below_next (by with_reducible assumption) ?_))⟩
  have cS := (carryK (w' := w2) k0 (by repeat (first | with_reducible assumption | exact Below.refl _ _ | refine below_next (by with_reducible assumption) ?_))).cell
  go_wp2_with fail
  refine (rCheckSection_any s _).mono ?_
  rintro e w3 ⟨rfl, hb3⟩
  clear cS
  have cY := (carryK (w' := w3) k1 (by repeat (first | with_reducible assumption | exact Below.refl _ _ | refine below_next (by with_reducible assumption) ?_))).cell
  go_wp2_with fail
  refine (rCheckState_any y _).mono ?_
  rintro e w4 ⟨rfl, hb4⟩
  clear cY
  have cS := (carryK (w' := w4) k0 (by repeat (first | with_reducible assumption | exact Below.refl _ _ | refine below_next (by with_reducible assumption) ?_))).cell
  have cY := (carryK (w' := w4) k1 (by repeat (first | with_reducible assumption | exact Below.refl _ _ | refine below_next (by with_reducible assumption) ?_))).cell
  go_wp2_with fail
  refine (Settle_some s y n p _ hs hy HN).mono ?_
  rintro e w5 ⟨rfl, hb5⟩
  clear cS cY
  go_upto_region 8 with (fail)
  go_cut [8, 9, 10] (fun s8 s9 s10 wx => ∃ (A : Option Addr) (c : Nat), s8 = .slice A N c ∧ N ≤ c ∧ c ≤ maxLen ∧ s10 = .int .i64 0 ∧ Reads wx wx.heap.size 1 A N (ints (s.outs y (List.replicate N 0))) ∧ Below w5.heap.size w5 wx)
  case first =>
    have hmin := HMIN.out
    have hwr := HWR.out
    have hn0 : (0 : Int) ≤ (N : Int) := by omega
    have hmk := HMK.out
    have c0 : ∀ i W, Below w5.heap.size w5 W → W.cell? ⟨w.heap.size, i, none⟩ = (#[.int .i64 s.b0, .int .i64 s.b1, .int .i64 s.b2, .int .i64 s.a1, .int .i64 s.a2, .int .i64 s.sh] : Array Value)[i]? := fun i W h => (carryK (carryK k0 (by repeat (first | with_reducible assumption | exact Below.refl _ _ | refine below_next (by with_reducible assumption) ?_))) h).cell i
    have c1 : ∀ i W, Below w5.heap.size w5 W → W.cell? ⟨w.heap.size + 1, i, none⟩ = (#[.int .i64 y.x1, .int .i64 y.x2, .int .i64 y.y1, .int .i64 y.y2] : Array Value)[i]? := fun i W h => (carryK (carryK k1 (by repeat (first | with_reducible assumption | exact Below.refl _ _ | refine below_next (by with_reducible assumption) ?_))) h).cell i
    have hA1 := alloc_cel
    have hA2 := alloc_fro
    go_region_held3 (fun W => Below w5.heap.size w5 W) (first | exact (Below.refl _ _).drew | (with_reducible assumption) | exact below_new ‹Below w5.heap.size w5 _› (Nat.le_refl _) _ | (refine below_set (below_set (below_set (below_set (by assumption) (by omega) _) (by omega) _) (by omega) _) (by omega) _)) ((go_at_call 18; refine (From_z s y _ N _ (List.replicate N 0) _ hs hy (zeros_sig hN1) (by omega) (by first | exact reads_made _ _ _ _ (by first | rfl | simp) | exact Reads.drew (reads_made _ _ _ _ (by first | rfl | simp)) | exact (Reads.alloc (reads_made _ _ _ _ (by first | rfl | simp)) (Nat.le_refl _) _).more (by simp))).mono ?_; rintro e w6 ⟨vF, rfl, oF, hbW⟩; have hS := below_step ‹Below w5.heap.size w5 _› hbW (Below.size ‹Below w5.heap.size w5 _›); have OF := hide oF; clear oF; have hF2 := below_fro hbW; have hC2 := below_cel hbW; have hL2 := below_lt hbW; have hT2 := below_le hbW; have hK2 := below_blk hbW; have hzf := Below.size hS; have hz2' := Below.size hbW; (try simp only [World.size_alloc, World.size_drew] at hz2'); (try have hq2 := Nat.lt_of_succ_le hz2')))
    all_goals (first
      | (with_reducible refine fin1S (v := w5) (t := 34) (by with_reducible assumption) OF.out (fun X hX oX => ?_))
      | (with_reducible refine fin4S (B := w5.heap.size) (v := w5) (c0 := .int .i64 0) (c1 := .int .i64 0) (c2 := .int .i64 0) (c3 := .int .i64 0) 34 (by with_reducible assumption) (by omega) (by (repeat (first | exact Blk.newAt (by simp) | refine Blk.alloc ?_ _ | refine Blk.drew ?_ | refine (by with_reducible assumption : ∀ g t cs, Blk _ g t cs → Blk _ g t cs) _ _ _ ?_))) OF.out (by decide) (fun X hX oX => ?_)))
    all_goals (
      obtain ⟨A, c, rfl, hc1, hc2, ry⟩ := own_room oX
      go_wp2_with fail; go_meet; exact ⟨A, c, rfl, hc1, hc2, rfl, ry, hX⟩)
  case rest =>
    obtain ⟨A, c, rfl, hc1, hc2, rfl, ry, hv1⟩ := hcut
    rename World => V1
    have hN := HNE.out
    have tN : ((N : Int) != (n : Int) + (p : Int)) = false := by simp; omega
    clear hN
    have cY := (carryK (w' := V1) k1 (by repeat (first | with_reducible assumption | exact Below.refl _ _ | refine below_next (by with_reducible assumption) ?_))).cell; have cYl := (carryK (w' := V1) k1 (by repeat (first | with_reducible assumption | exact Below.refl _ _ | refine below_next (by with_reducible assumption) ?_))).lt
    go_wp2_with fail
    refine (behind_any s y A N c n _ V1 rfl (by omega) hN1 ry).mono ?_
    rintro e V2 ⟨rfl, hx2⟩
    clear cY cYl
    go_upto_region 12 with (fail)
    obtain ⟨V3, e3, hx3, hz3, kA⟩ := box1 V2 #[.int .i64 (s.orb y n).x1, .int .i64 (s.orb y n).x2, .int .i64 (s.orb y n).y1, .int .i64 (s.orb y n).y2] 25
    rw [← e3]; clear e3
    have ry3 := carry (w' := V3) ry (by repeat (first | with_reducible assumption | exact Below.refl _ _ | refine below_next (by with_reducible assumption) ?_))
    have kY3 := carryK (w' := V3) k1 (by repeat (first | with_reducible assumption | exact Below.refl _ _ | refine below_next (by with_reducible assumption) ?_))
    have kS3 := carryK (w' := V3) k0 (by repeat (first | with_reducible assumption | exact Below.refl _ _ | refine below_next (by with_reducible assumption) ?_))
    have hbV3 : Below w.heap.size w V3 := (by repeat (first | with_reducible assumption | exact Below.refl _ _ | refine below_next (by with_reducible assumption) ?_))
    clear hb1 hb2 hb3 hb4 hb5 hv1 hx2 hx3 ry k0 k1
    go_cut [119] (fun s119 wx => s119 = .bool false ∧ Below V3.heap.size V3 wx)
    case first =>
      have hwr := HWR.out
      have H1 : ∀ x, Calls Tryd.prog 47 #[.agg #[.int .i64 y.x1, .int .i64 y.x2, .int .i64 y.y1, .int .i64 y.y2], .slice A N c, .int .i64 (N : Int)] (over V3.heap.size V3 x) fun e w' => e = .returned (.agg #[.int .i64 (s.orb y N).x1, .int .i64 (s.orb y N).x2, .int .i64 (s.orb y N).y1, .int .i64 (s.orb y N).y2]) ∧ Below (over V3.heap.size V3 x).heap.size (over V3.heap.size V3 x) w' := fun x => behind_any s y A N c N _ _ rfl (Nat.le_refl _) hN1 (carry ry3 (over_below _ _ x))
      have cY := over_blk (B := V3.heap.size) kY3 kY3.lt
      have cA := over_blk (B := V3.heap.size) kA kA.lt
      have hq1 : ∀ W, (binOp .neq 25 (.agg #[.int .i64 (s.orb y n).x1, .int .i64 (s.orb y n).x2, .int .i64 (s.orb y n).y1, .int .i64 (s.orb y n).y2]) (.agg #[.int .i64 (s.orb y N).x1, .int .i64 (s.orb y N).x2, .int .i64 (s.orb y N).y1, .int .i64 (s.orb y N).y2])).run Tryd.prog W = .ok (.bool false) W := fun W => neqSt_same (by rw [HNE.out]; exact HR.out.back) W
      by_cases h0 : n = 0
      · have t0 : decide (0 < n) = false := by simp; omega
        clear h0
        refine wp_region_over V3.heap.size (by kernel_rfl) (by kernel_rfl) ?_; (repeat (first | go_big_quiet_step ((go_at_call 47; exact over_call (Nat.le_refl _) (H1 _))) | quiet_step ((go_at_call 47; exact over_call (Nat.le_refl _) (H1 _))))); refine wpQuiet_nil ?_; rintro W ⟨x, rfl⟩
        go_wp2_with fail
        go_meet
        exact ⟨rfl, over_below _ _ _⟩
      · have t0 : decide (0 < n) = true := by simp; omega
        have hn1 : 1 ≤ n := by omega
        clear h0
        have hw1 : IntKind.i64.wrap ((n : Int) - 1) = (n : Int) - 1 := IntWalk.i64_in _ (by omega)
        have hw2 : IntKind.i64.wrap ((N : Int) - 1) = (N : Int) - 1 := IntWalk.i64_in _ (by omega)
        have H2 : ∀ x, Calls Tryd.prog 47 #[.agg #[.int .i64 y.x1, .int .i64 y.x2, .int .i64 y.y1, .int .i64 y.y2], .slice A N c, .int .i64 ((n : Int) - 1)] (over V3.heap.size V3 x) fun e w' => e = .returned (.agg #[.int .i64 (s.orb y (n - 1)).x1, .int .i64 (s.orb y (n - 1)).x2, .int .i64 (s.orb y (n - 1)).y1, .int .i64 (s.orb y (n - 1)).y2]) ∧ Below (over V3.heap.size V3 x).heap.size (over V3.heap.size V3 x) w' := fun x => behind_any s y A N c (n - 1) _ _ (by omega) (by omega) hN1 (carry ry3 (over_below _ _ x))
        have H3 : ∀ x, Calls Tryd.prog 47 #[.agg #[.int .i64 y.x1, .int .i64 y.x2, .int .i64 y.y1, .int .i64 y.y2], .slice A N c, .int .i64 ((N : Int) - 1)] (over V3.heap.size V3 x) fun e w' => e = .returned (.agg #[.int .i64 (s.orb y (N - 1)).x1, .int .i64 (s.orb y (N - 1)).x2, .int .i64 (s.orb y (N - 1)).y1, .int .i64 (s.orb y (N - 1)).y2]) ∧ Below (over V3.heap.size V3 x).heap.size (over V3.heap.size V3 x) w' := fun x => behind_any s y A N c (N - 1) _ _ (by omega) (by omega) hN1 (carry ry3 (over_below _ _ x))
        have hq2 : ∀ W, (binOp .eql 25 (.agg #[.int .i64 (s.orb y (n - 1)).x1, .int .i64 (s.orb y (n - 1)).x2, .int .i64 (s.orb y (n - 1)).y1, .int .i64 (s.orb y (n - 1)).y2]) (.agg #[.int .i64 (s.orb y (N - 1)).x1, .int .i64 (s.orb y (N - 1)).x2, .int .i64 (s.orb y (N - 1)).y1, .int .i64 (s.orb y (N - 1)).y2])).run Tryd.prog W = .ok (.bool false) W := fun W => eqlSt_not (HR.out.apart (n - 1) (N - 1) (by omega) (by have := HNE.out; omega)) W
        refine wp_region_over V3.heap.size (by kernel_rfl) (by kernel_rfl) ?_; (repeat (first | go_big_quiet_step ((go_at_call 47; first | (with_reducible exact over_call (Nat.le_refl _) (H1 _)) | (with_reducible exact over_call (Nat.le_refl _) (H2 _)) | (with_reducible exact over_call (Nat.le_refl _) (H3 _)))) | quiet_step ((go_at_call 47; first | (with_reducible exact over_call (Nat.le_refl _) (H1 _)) | (with_reducible exact over_call (Nat.le_refl _) (H2 _)) | (with_reducible exact over_call (Nat.le_refl _) (H3 _)))))); refine wpQuiet_nil ?_; rintro W ⟨x, rfl⟩
        go_wp2_with fail
        go_meet
        exact ⟨rfl, over_below _ _ _⟩
    case rest =>
      obtain ⟨rfl, hv4⟩ := hcut
      rename World => V4
      have ry4 := carry (w' := V4) ry3 hv4
      have kY4 := carryK kY3 hv4
      have kS4 := carryK kS3 hv4
      have kA4 := carryK kA hv4
      have hb4 := below_next hbV3 hv4
      clear ry3 kY3 kS3 kA hbV3 hv4
      go_wp2_with fail
      go_loopw [12] (fun i wr => ∃ k : Nat, 1 ≤ k ∧ k ≤ p ∧ i = .int .i64 k ∧ Below V4.heap.size V4 wr) (fun i _ => p - (intOf i).toNat)
      case atStart => exact ⟨1, by omega, by omega, rfl, Below.refl _ _⟩
      case round =>
        obtain ⟨k, hk1, hk2, rfl, hbw⟩ := hrel
        by_cases hlt : k < p
        · have hN := HNE.out
          have hnk : n + k ≤ N := by omega
          clear hN
          have hwk : IntKind.i64.wrap ((n : Int) + (k : Int)) = (n : Int) + (k : Int) := IntWalk.i64_in _ (by omega)
          have kYw := carryK kY4 hbw
          have kAw := carryK kA4 hbw
          have cY := over_blk (B := wr.heap.size) kYw kYw.lt
          have cA := over_blk (B := wr.heap.size) kAw kAw.lt
          have ryw := carry ry4 hbw
          have H1 : ∀ x, Calls Tryd.prog 47 #[.agg #[.int .i64 y.x1, .int .i64 y.x2, .int .i64 y.y1, .int .i64 y.y2], .slice A N c, .int .i64 ((n : Int) + (k : Int))] (over wr.heap.size wr x) fun e w' => e = .returned (.agg #[.int .i64 (s.orb y (n + k)).x1, .int .i64 (s.orb y (n + k)).x2, .int .i64 (s.orb y (n + k)).y1, .int .i64 (s.orb y (n + k)).y2]) ∧ Below (over wr.heap.size wr x).heap.size (over wr.heap.size wr x) w' := fun x => behind_any s y A N c (n + k) _ _ (by omega) hnk hN1 (carry ryw (over_below _ _ x))
          have hq : ∀ W, (binOp .eql 25 (.agg #[.int .i64 (s.orb y (n + k)).x1, .int .i64 (s.orb y (n + k)).x2, .int .i64 (s.orb y (n + k)).y1, .int .i64 (s.orb y (n + k)).y2]) (.agg #[.int .i64 (s.orb y n).x1, .int .i64 (s.orb y n).x2, .int .i64 (s.orb y n).y1, .int .i64 (s.orb y n).y2])).run Tryd.prog W = .ok (.bool false) W := fun W => eqlSt_not (fun e => HR.out.apart n (n + k) (by omega) (by omega) e.symm) W
          go_wp2
          refine wp_region_over wr.heap.size (by kernel_rfl) (by kernel_rfl) ?_; (repeat (first | go_big_quiet_step ((go_at_call 47; exact over_call (Nat.le_refl _) (H1 _))) | quiet_step ((go_at_call 47; exact over_call (Nat.le_refl _) (H1 _))))); refine wpQuiet_nil ?_; rintro W ⟨x, rfl⟩
          go_wp2
          go_roundw
          case rel => exact ⟨k + 1, by omega, by omega, by go_num, below_step hbw (over_below _ _ _) hbw.size⟩
          case measure => simp [intOf]; omega
        · have hkp : k = p := by omega
          clear hk1 hk2
          have hb5 := below_next hb4 hbw
          have kS5 := carryK kS4 hbw
          have kA5 := carryK kA4 hbw
          have ry5 := carry ry4 hbw
          clear kS4 kA4 kY4 ry4 hb4 hbw
          go_upto_region 19 with (fail)
          go_cut [153] (fun s153 wx => s153 = .bool false ∧ Below wr.heap.size wr wx)
          case first =>
            have cS := kS5.cell
            have cA := kA5.cell
            by_cases h1 : s.a1 = 0
            · have q1 : (s.a1 == 0) = true := by rw [h1]; rfl
              by_cases h2 : s.a2 = 0
              · have q2 : (s.a2 == 0) = true := by rw [h2]; rfl
                obtain ⟨d1, d2, d3⟩ := rest_dead HR.out h1 h2
                have q3 : ((p : Int) != 1) = false := by rw [d1]; rfl
                have q4 : ∀ W, (binOp .neq 25 (.agg #[.int .i64 (s.orb y n).x1, .int .i64 (s.orb y n).x2, .int .i64 (s.orb y n).y1, .int .i64 (s.orb y n).y2]) (.agg #[.int .i64 0, .int .i64 0, .int .i64 0, .int .i64 0])).run Tryd.prog W = .ok (.bool false) W := fun W => neqSt_same (b := ⟨0, 0, 0, 0⟩) d2 W
                have q5 : decide ((4 : Int) < (n : Int)) = false := by rw [decide_eq_false_iff_not]; omega
                clear h1 h2 d1 d2 d3
                go_wp2_with fail
                go_meet
                exact ⟨rfl, Below.refl _ _⟩
              · have q2 : (s.a2 == 0) = false := by simpa using h2
                clear h1 h2
                go_wp2_with fail
                go_meet
                exact ⟨rfl, Below.refl _ _⟩
            · have q1 : (s.a1 == 0) = false := by simpa using h1
              clear h1
              go_wp2_with fail
              go_meet
              exact ⟨rfl, Below.refl _ _⟩
          case rest =>
            obtain ⟨rfl, hv6⟩ := hcut
            rename World => V6
            have cS := (carryK (w' := V6) kS5 (by repeat (first | with_reducible assumption | exact Below.refl _ _ | refine below_next (by with_reducible assumption) ?_))).cell
            go_wp2_with fail
            refine (room_any s _ hs).mono ?_
            rintro e V7 ⟨rfl, hx7⟩
            clear cS
            have ry7 := carry (w' := V7) ry5 (by repeat (first | with_reducible assumption | exact Below.refl _ _ | refine below_next (by with_reducible assumption) ?_))
            have kS7 := carryK (w' := V7) kS5 (by repeat (first | with_reducible assumption | exact Below.refl _ _ | refine below_next (by with_reducible assumption) ?_))
            have hb7 : Below w.heap.size w V7 := (by repeat (first | with_reducible assumption | exact Below.refl _ _ | refine below_next (by with_reducible assumption) ?_))
            clear ry5 kS5 kA5 hb5 hv6 hx7
            obtain ⟨ad, eA, hadl, had⟩ := ry7.2 (by omega)
            subst eA
            have hcn : ¬ c = n := by omega
            unfold maxLen at hc2
            go_wp2_with fail
            have hro := room_bd hs
            have hu := unit_bd hs
            have hs1 := hs.shl
            have hs2 := hs.shh
            have eu : wrap64 (2 ^ s.sh.toNat) = s.unit := by unfold Sec.unit at *; rw [IntWalk.wrap64_in _ (by omega)]
            have cS := kS7.cell
            go_loop [160] (fun i => ∃ j : Nat, j ≤ N - n ∧ i = .int .i64 j) (fun i => (N - n) - (intOf i).toNat)
            case atStart => exact ⟨0, by omega, rfl⟩
            case round =>
              obtain ⟨j, hj, rfl⟩ := hrel
              by_cases hlt2 : j < N - n
              · obtain ⟨v, hv⟩ : ∃ v, v = s.out (s.orb y (n + j)) 0 := ⟨_, rfl⟩
                have hcv : V7.cell? ((ad.add n).add j) = some (.int .i64 v) := by
                  rw [add_of_add]
                  refine had _ _ ?_
                  have := zeros_outs s y (show n + j < N by omega)
                  simp only [ints, List.getElem?_map, this, Option.map_some, hv]
                have hv1 : -32767 ≤ v ∧ v ≤ 32767 := by rw [hv]; exact lim_bd _
                by_cases hr : 0 < s.room
                · have tr : decide (0 < s.room) = true := by simpa using hr
                  have hsm := rest_small hs HR.out (show 1 ≤ s.room by omega) (n + j) (by omega) (by have := HNE.out; omega)
                  rw [← hv] at hsm
                  have hmm := mul_bd (a := max v (-v)) (b := s.room) (by omega) (by omega) (by omega) (by omega)
                  have tt : decide (s.unit ≤ max v (-v) * s.room) = false := by rw [decide_eq_false_iff_not]; exact Int.not_le.mpr hsm
                  clear hv hr
                  go_wp2
                  all_goals
                    go_round
                    case rel => exact ⟨j + 1, by omega, by go_num⟩
                    case measure => simp [intOf]; omega
                · have tr : decide (0 < s.room) = false := by rw [decide_eq_false_iff_not]; exact hr
                  clear hv hr
                  go_wp2
                  all_goals
                    go_round
                    case rel => exact ⟨j + 1, by omega, by go_num⟩
                    case measure => simp [intOf]; omega
              · have hjn : ¬ j < N - n := hlt2
                clear eu cS
                go_wp2_with fail
                refine (awake_v _ (hV.carry hb7)).mono ?_
                rintro e wz ⟨rfl, hbz⟩
                go_wp2
                go_ret
                exact ⟨rfl, below_next hb7 hbz⟩

theorem lawRests_any (s : Sec) (y : St) (w : World) (hV : Vars w) :
    Calls Tryd.prog 8 #[.agg #[.int .i64 s.b0, .int .i64 s.b1, .int .i64 s.b2, .int .i64 s.a1, .int .i64 s.a2, .int .i64 s.sh], .agg #[.int .i64 y.x1, .int .i64 y.x2, .int .i64 y.y1, .int .i64 y.y2]] w fun e w' => e = .returned (.bool true) ∧ Below w.heap.size w w' := by
  by_cases h1 : s.err = 0
  · have t1 : (s.err != 0) = false := by rw [h1]; rfl
    by_cases h2 : y.err = 0
    · cases h : s.settle y with
      | none => exact lawRests_none s y w hV (Sec.err_ok h1) (St.err_ok h2) h
      | some np => obtain ⟨n, p⟩ := np; exact lawRests_some s y n p w hV (Sec.err_ok h1) (St.err_ok h2) h
    · exact lawRests_bad2 s y w hV t1 (by simpa using h2)
  · exact lawRests_bad1 s y w hV (by simpa using h1)
end Go.Proofs.YtlaaajkehjoffaaDoor
