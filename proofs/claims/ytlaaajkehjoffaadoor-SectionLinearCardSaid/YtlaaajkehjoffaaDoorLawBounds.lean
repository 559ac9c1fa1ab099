/- The law SectionBounds. -/
import Derived.Test.YtlaaajkehjoffaaDoorRResp
import Derived.Test.YtlaaajkehjoffaaDoorChain
import Derived.Deep.DeepCutAuto
namespace Go.Proofs.YtlaaajkehjoffaaDoor
open Go.RowKit Go.Shelf
set_option maxRecDepth 100000

/-- The values of the five. -/
def Sec.bndV (s : Sec) (i : Int) : Int := if boundErr s i = 0 ∧ 1 ≤ s.room then s.bound i else 0
def Sec.bndC (s : Sec) (i : Int) : Int := if boundErr s i = 0 then (if 1 ≤ s.room then 0 else 18) else boundErr s i
def Sec.pole (s : Sec) (q : Int) : Prop := s.dRe q.toNat = 0 ∧ s.dIm q.toNat = 0
instance (s : Sec) (q : Int) : Decidable (s.pole q) := by unfold Sec.pole; infer_instance
/-- Response's four numbers and its code. -/
structure RV where
  (p0 p1 p2 p3 code : Int)
def Sec.rsp (s : Sec) (q : Int) : RV := if respErr s q = 0 then (if s.pole q then ⟨0, 0, 0, 0, 17⟩ else ⟨s.nRe q.toNat, s.nIm q.toNat, s.dRe q.toNat, s.dIm q.toNat, 0⟩) else ⟨0, 0, 0, 0, respErr s q⟩
theorem Stable_tot (s : Sec) (w : World) :
    Calls Tryd.prog 32 #[.agg #[.int .i64 s.b0, .int .i64 s.b1, .int .i64 s.b2, .int .i64 s.a1, .int .i64 s.a2, .int .i64 s.sh]] w fun e w' => e = .returned (.tuple #[.bool (s.okB && s.stab), .int .i64 s.err]) ∧ Below w.heap.size w w' := by
  cases h : s.okB
  · have he : s.err = 3 := by unfold Sec.err; rw [h]; rfl
    have := Stable_bad s w (by rw [he]; rfl)
    simpa using this
  · have he : s.err = 0 := by unfold Sec.err; rw [h]; rfl
    have := Stable_ok s w (Sec.err_ok he)
    rw [he]
    simpa using this
theorem Bound_tot (s : Sec) (i : Int) (w : World) :
    Calls Tryd.prog 33 #[.agg #[.int .i64 s.b0, .int .i64 s.b1, .int .i64 s.b2, .int .i64 s.a1, .int .i64 s.a2, .int .i64 s.sh], .int .i64 i] w fun e w' => e = .returned (.tuple #[.int .i64 (s.bndV i), .int .i64 (s.bndC i)]) ∧ Below w.heap.size w w' := by
  by_cases h0 : boundErr s i = 0
  · by_cases hr : 1 ≤ s.room
    · rw [show s.bndV i = s.bound i by unfold Sec.bndV; rw [if_pos ⟨h0, hr⟩], show s.bndC i = 0 by unfold Sec.bndC; rw [if_pos h0, if_pos hr]]
      exact Bound_ok s i w h0 hr
    · rw [show s.bndV i = 0 by unfold Sec.bndV; rw [if_neg (fun h => hr h.2)], show s.bndC i = 18 by unfold Sec.bndC; rw [if_pos h0, if_neg hr]]
      exact Bound_loose s i w h0 (by omega)
  · rw [show s.bndV i = 0 by unfold Sec.bndV; rw [if_neg (fun h => h0 h.1)], show s.bndC i = boundErr s i by unfold Sec.bndC; rw [if_neg h0]]
    exact Bound_bad s i w (by simpa using h0)
def RspIs (v : RV) (w : World) (e : Ending) (w' : World) : Prop := e = .returned (.tuple #[.agg #[.int .i64 v.p0, .int .i64 v.p1, .int .i64 v.p2, .int .i64 v.p3], .int .i64 v.code]) ∧ Below w.heap.size w w'
theorem Response_tot (s : Sec) (q : Int) (w : World) (hP : Pow w) : Calls Tryd.prog 34 #[.agg #[.int .i64 s.b0, .int .i64 s.b1, .int .i64 s.b2, .int .i64 s.a1, .int .i64 s.a2, .int .i64 s.sh], .int .i64 q] w (RspIs (s.rsp q) w) := by
  by_cases h0 : respErr s q = 0
  · refine (Response_ok s q w hP h0).mono fun _ _ ⟨he, hb⟩ => ⟨?_, hb⟩
    rw [he]; unfold Sec.rsp Sec.pole; rw [if_pos h0]
    split <;> simp [*]
  · refine (Response_bad s q w (by simpa using h0)).mono fun _ _ ⟨he, hb⟩ => ⟨?_, hb⟩
    rw [he]; unfold Sec.rsp; rw [if_neg h0]
theorem rResponse_tot (s : Sec) (q : Int) (w : World) (h0 : respErr s q = 0) : Calls Tryd.prog 39 #[.agg #[.int .i64 s.b0, .int .i64 s.b1, .int .i64 s.b2, .int .i64 s.a1, .int .i64 s.a2, .int .i64 s.sh], .int .i64 q] w (RspIs (s.rsp q) w) := by
  obtain ⟨h1, h2⟩ := fnz2_zero h0
  have hq : 0 ≤ q ∧ q ≤ 3 := by
    rw [rng_eq] at h2
    split at h2
    · exact inB_iff.1 (by assumption)
    · omega
  refine (rResponse_any s q w (Sec.err_ok h1) hq).mono fun _ _ ⟨he, hb⟩ => ⟨?_, hb⟩
  rw [he]; unfold Sec.rsp Sec.pole; rw [if_pos h0]
  split <;> simp [*]
/-- Delay's numbers. -/
def Sec.dly (s : Sec) : Int × Int × Int := if s.err = 0 then s.delay else (0, 0, s.err)
theorem Delay_tot (s : Sec) (w : World) :
    Calls Tryd.prog 35 #[.agg #[.int .i64 s.b0, .int .i64 s.b1, .int .i64 s.b2, .int .i64 s.a1, .int .i64 s.a2, .int .i64 s.sh]] w fun e w' => e = .returned (.tuple #[.agg #[.int .i64 s.dly.1, .int .i64 s.dly.2.1], .int .i64 s.dly.2.2]) ∧ Below w.heap.size w w' := by
  by_cases h0 : s.err = 0
  · have e : s.dly = s.delay := by unfold Sec.dly; rw [if_pos h0]
    rw [e]; exact Delay_ok s w h0
  · have e : s.dly = (0, 0, s.err) := by unfold Sec.dly; rw [if_neg h0]
    rw [e]; exact Delay_bad s w (by simpa using h0)
theorem rDelay_tot (s : Sec) (w : World) (h0 : s.err = 0) :
    Calls Tryd.prog 40 #[.agg #[.int .i64 s.b0, .int .i64 s.b1, .int .i64 s.b2, .int .i64 s.a1, .int .i64 s.a2, .int .i64 s.sh]] w fun e w' => e = .returned (.tuple #[.agg #[.int .i64 s.dly.1, .int .i64 s.dly.2.1], .int .i64 s.dly.2.2]) ∧ Below w.heap.size w w' := by
  have e : s.dly = s.delay := by unfold Sec.dly; rw [if_pos h0]
  rw [e]; exact rDelay_any s w
theorem bnd_first (s : Sec) (i : Int) (A : Option Addr) (c B : Nat) (w : World) (h : Reads w B 1 A 2 (ints [s.err, rng i 0 32767])) (_hn : 2 ≤ 1000) :
    Calls Tryd.prog 20 #[.slice A 2 c] w fun e w' => e = .returned (.int .i64 (boundErr s i)) ∧ w = w' := rFirst_any A 2 c B _ w h (by omega)
theorem rsp_first (s : Sec) (q : Int) (A : Option Addr) (c B : Nat) (w : World) (h : Reads w B 1 A 2 (ints [s.err, rng q 0 3])) (_hn : 2 ≤ 1000) :
    Calls Tryd.prog 20 #[.slice A 2 c] w fun e w' => e = .returned (.int .i64 (respErr s q)) ∧ w = w' := rFirst_any A 2 c B _ w h (by omega)
theorem eqlPair (a b c d : Int) (w : World) : (binOp .eql 67 (.agg #[.int .i64 a, .int .i64 b, .int .i64 c, .int .i64 d]) (.agg #[.int .i64 a, .int .i64 b, .int .i64 c, .int .i64 d])).run Tryd.prog w = .ok (.bool true) w := by
  have hh : (Op.equalIn 10000 67 (.agg #[.int .i64 a, .int .i64 b, .int .i64 c, .int .i64 d]) (.agg #[.int .i64 a, .int .i64 b, .int .i64 c, .int .i64 d])).run Tryd.prog w = .ok true w := by
    rw [show (10000 : Nat) = 9998 + 1 + 1 from rfl, run_equalIn_struct w (9998 + 1) 67 _ _ (by kernel_rfl) (by kernel_rfl)]
    simp [Program.fieldsOf, Tryd.underlying67, Tryd.underlying57, Op.eqFields, go_sem, run_equalIn_struct, run_equalIn_int _ _ _ _ _ _ _ Tryd.underlying3]
  simp only [binOp, Op.equal, Op.maxDepth]
  simp [hh, go_sem]
theorem fold4 (w : World) (o1 o2 : Obj) (c1 c2 : Array Value) (t1 t2 : TypeId) :
    ∃ X, X = (((w.alloc o1).alloc o2).alloc (.cells c1 t1)).alloc (.cells c2 t2) ∧ Below w.heap.size w X ∧ Blk X (w.heap.size + 2) t1 c1 ∧ Blk X (w.heap.size + 3) t2 c2 := by
  obtain ⟨X, eX, h1, h2, h3, h4⟩ := box2 ((w.alloc o1).alloc o2) c1 c2 t1 t2
  have hs : ((w.alloc o1).alloc o2).heap.size = w.heap.size + 2 := by simp
  rw [hs] at h3 h4
  exact ⟨X, eX, (((Below.refl _ _).alloc (Nat.le_refl _) o1).alloc (by simp) o2).trans (h1.mono (by omega)), h3, h4⟩

theorem bnd_err {s : Sec} {i : Int} (h : boundErr s i = 0) : s.err = 0 := (fnz2_zero h).1
theorem rsp_err {s : Sec} {q : Int} (h : respErr s q = 0) : s.err = 0 := (fnz2_zero h).1
theorem rBound_tot (s : Sec) (i : Int) (w : World) (h0 : boundErr s i = 0) (hr : 1 ≤ s.room) :
    Calls Tryd.prog 38 #[.agg #[.int .i64 s.b0, .int .i64 s.b1, .int .i64 s.b2, .int .i64 s.a1, .int .i64 s.a2, .int .i64 s.sh], .int .i64 i] w fun e w' => e = .returned (.int .i64 (s.bndV i)) ∧ Below w.heap.size w w' := by
  obtain ⟨h1, h2⟩ := fnz2_zero h0
  have hi : 0 ≤ i ∧ i ≤ 32767 := by
    rw [rng_eq] at h2
    split at h2
    · exact inB_iff.1 (by assumption)
    · omega
  rw [show s.bndV i = s.bound i by unfold Sec.bndV; rw [if_pos ⟨h0, hr⟩]]
  exact rbound_any s i w (Sec.err_ok h1) hi.1 hi.2 hr
theorem bndC_loose {s : Sec} {i : Int} (h0 : boundErr s i = 0) (hr : s.room < 1) : s.bndC i = 18 ∧ s.bndV i = 0 := by
  unfold Sec.bndC Sec.bndV
  rw [if_pos h0, if_neg (by omega), if_neg (by omega)]; exact ⟨rfl, rfl⟩
theorem bndC_ok {s : Sec} {i : Int} (h0 : boundErr s i = 0) (hr : ¬ s.room < 1) : s.bndC i = 0 := by
  unfold Sec.bndC; rw [if_pos h0, if_pos (by omega)]
theorem bndC_bad {s : Sec} {i : Int} (h0 : ¬ boundErr s i = 0) : s.bndC i = boundErr s i ∧ s.bndV i = 0 := by
  unfold Sec.bndC Sec.bndV
  rw [if_neg h0, if_neg (fun h => h0 h.1)]; exact ⟨rfl, rfl⟩
theorem bndC_else {s : Sec} {i : Int} (h : ¬ (boundErr s i = 0 ∧ s.room < 1)) : s.bndC i = boundErr s i := by
  by_cases h0 : boundErr s i = 0
  · rw [bndC_ok h0 (fun hr => h ⟨h0, hr⟩), h0]
  · exact (bndC_bad h0).1
theorem bndC_zero {s : Sec} {i : Int} (h : s.bndC i = 0) : boundErr s i = 0 ∧ 1 ≤ s.room := by
  unfold Sec.bndC at h
  split at h
  · split at h
    · exact ⟨by assumption, by assumption⟩
    · omega
  · exact absurd h (by assumption)
theorem bndC_not {s : Sec} {i : Int} (h : ¬ s.bndC i = 0) : s.bndV i = 0 := by
  by_cases h0 : boundErr s i = 0
  · by_cases hr : s.room < 1
    · exact (bndC_loose h0 hr).2
    · exact absurd (bndC_ok h0 hr) h
  · exact (bndC_bad h0).2
theorem rsp_bad {s : Sec} {q : Int} (h0 : ¬ respErr s q = 0) : s.rsp q = ⟨0, 0, 0, 0, respErr s q⟩ := by unfold Sec.rsp; rw [if_neg h0]
theorem dly_bad {s : Sec} (h0 : ¬ s.err = 0) : s.dly = (0, 0, s.err) := by unfold Sec.dly; rw [if_neg h0]

set_option maxHeartbeats 8000000 in
theorem lawBounds_at (s : Sec) (i q : Int) (w : World) (hV : Vars w) (c f : Bool) (hC : ∀ W, Calls Tryd.prog 31 #[.agg #[.int .i64 s.b0, .int .i64 s.b1, .int .i64 s.b2, .int .i64 s.a1, .int .i64 s.a2, .int .i64 s.sh]] W fun e w' => e = .returned (.tuple #[.bool c, .int .i64 s.err]) ∧ Below W.heap.size W w')
    (hF : ∀ W, Calls Tryd.prog 32 #[.agg #[.int .i64 s.b0, .int .i64 s.b1, .int .i64 s.b2, .int .i64 s.a1, .int .i64 s.a2, .int .i64 s.sh]] W fun e w' => e = .returned (.tuple #[.bool f, .int .i64 s.err]) ∧ Below W.heap.size W w')
    (hG : s.err = 0 → ∀ W, Calls Tryd.prog 41 #[.agg #[.int .i64 s.b0, .int .i64 s.b1, .int .i64 s.b2, .int .i64 s.a1, .int .i64 s.a2, .int .i64 s.sh]] W fun e w' => e = .returned (.bool f) ∧ Below W.heap.size W w')
    (hc : s.err = 0 → decide (0 < s.room) = c) (hn : s.err ≠ 0 → c = false ∧ f = false) :
    Calls Tryd.prog 5 #[.agg #[.int .i64 s.b0, .int .i64 s.b1, .int .i64 s.b2, .int .i64 s.a1, .int .i64 s.a2, .int .i64 s.sh], .int .i64 i, .int .i64 q] w fun e w' => e = .returned (.bool true) ∧ Below w.heap.size w w' := by
  have hq1 : (∀ W, (binOp .eql 67 (.agg #[.int .i64 (s.rsp q).p0, .int .i64 (s.rsp q).p1, .int .i64 (s.rsp q).p2, .int .i64 (s.rsp q).p3]) (.agg #[.int .i64 (s.rsp q).p0, .int .i64 (s.rsp q).p1, .int .i64 (s.rsp q).p2, .int .i64 (s.rsp q).p3])).run Tryd.prog W = .ok (.bool true) W) ∧ (∀ W, (binOp .eql 63 (.agg #[.int .i64 s.dly.1, .int .i64 s.dly.2.1]) (.agg #[.int .i64 s.dly.1, .int .i64 s.dly.2.1])).run Tryd.prog W = .ok (.bool true) W) := ⟨eqlPair _ _ _ _, fun W => by rw [eqlRatio]; simp⟩
  have HG := hide hG
  have HC := hide hc
  have HNN := hide hn
  clear hG hc hn
  go_enter Tryd.func5, Tryd.ntmps5
  go_wp2_with fail
  obtain ⟨w1, e1, hb1, hz1, k0⟩ := box1 w #[.int .i64 s.b0, .int .i64 s.b1, .int .i64 s.b2, .int .i64 s.a1, .int .i64 s.a2, .int .i64 s.sh] 23
  rw [← e1]; clear e1
  refine (hC _).mono ?_
  rintro e w2 ⟨rfl, hb2⟩
  have hb3 := below_step hb1 hb2 hb1.size
  have k2 := carryK k0 hb2
  have c2 := k2.cell
  clear k0 hb1 hb2
  go_wp2_with fail
  refine (hF _).mono ?_
  rintro e w3 ⟨rfl, hb4⟩
  have hb5 := below_step hb3 hb4 hb3.size
  have k3 := carryK k2 hb4
  have c3 := k3.cell
  clear k2 c2 hb3 hb4
  go_wp2_with fail
  refine (Bound_tot s i _).mono ?_
  rintro e w4 ⟨rfl, hb6⟩
  have hb7 := below_step hb5 hb6 hb5.size
  have k4 := carryK k3 hb6
  have c4 := k4.cell
  clear k3 c3 hb5 hb6
  go_wp2_with fail
  refine (Response_tot s q _ (hV.carry hb7).pow).mono ?_
  rintro e w5 ⟨rfl, hb8⟩
  have hb9 := below_step hb7 hb8 hb7.size
  have k5 := carryK k4 hb8
  have c5 := k5.cell
  have l5 := k5.lt
  clear k4 c4 hb7 hb8
  go_wp2_with fail
  obtain ⟨w6, e6, hb10, hz6, kP⟩ := box1 w5 #[.int .i64 (s.rsp q).p0, .int .i64 (s.rsp q).p1, .int .i64 (s.rsp q).p2, .int .i64 (s.rsp q).p3] 59
  rw [← e6]; clear e6
  refine (Delay_tot s _).mono ?_
  rintro e w7 ⟨rfl, hb11⟩
  have hb12 := below_step hb9 (hb10.trans (hb11.mono hb10.size)) hb9.size
  have k7 := carryK (carryK k5 hb10) hb11
  have kP7 := carryK kP hb11
  have c7 := k7.cell
  have l7 := k7.lt
  clear k5 c5 l5 kP hb9 hb10 hb11 hz6
  go_wp2_with fail
  obtain ⟨w8, e8, hb13, hz8, kD⟩ := box1 w7 #[.int .i64 s.dly.1, .int .i64 s.dly.2.1] 63
  rw [← e8]; clear e8
  refine (rCheckSection_any s _).mono ?_
  rintro e w9 ⟨rfl, hb14⟩
  have hb15 := below_step hb12 (hb13.trans (hb14.mono hb13.size)) hb12.size
  have k9 := carryK (carryK k7 hb13) hb14
  have kP9 := carryK (carryK kP7 hb13) hb14
  have kD9 := carryK kD hb14
  clear k7 c7 l7 kP7 kD hb12 hb13 hb14 hz8
  go_wp2_with (go_at_call 36; refine (checkRange_any _ _ _ _).mono ?_; rintro e w' ⟨rfl, rfl⟩)
  refine (bnd_first s i _ _ _ _ (reads2 _ _ _ _) (by omega)).mono ?_
  rintro e w' ⟨rfl, rfl⟩
  obtain ⟨wA, eA, hbA, hzA, kA⟩ := box1 w9 #[.int .i64 s.err, .int .i64 (rng i 0 32767)] 3
  rw [← eA]; clear eA
  go_wp2_with (go_at_call 36; refine (checkRange_any _ _ _ _).mono ?_; rintro e w' ⟨rfl, rfl⟩)
  refine (rsp_first s q _ _ _ _ (reads2 _ _ _ _) (by omega)).mono ?_
  rintro e w' ⟨rfl, rfl⟩
  go_upto_region 11 with (fail)
  obtain ⟨v, ev, hbv, hzv, kF, kR, kE⟩ := box3 wA #[.int .i64 s.err, .int .i64 (rng q 0 3)] #[.int .i64 0, .int .i64 0, .int .i64 0, .int .i64 0] #[.int .i64 0, .int .i64 0] 3 67 63
  rw [← ev]; clear ev kF kA
  have hb := below_step (below_step hb15 hbA hb15.size) hbv (Nat.le_trans hb15.size hbA.size)
  have k := carryK (carryK k9 hbA) hbv
  have kP := carryK (carryK kP9 hbA) hbv
  have kD := carryK (carryK kD9 hbA) hbv
  have kA0 := carryK k9 hbA
  have lA := kA0.lt
  have lPA := (carryK kP9 hbA).lt
  have lDA := (carryK kD9 hbA).lt
  have kPA := carryK kP9 hbA
  have kDA := carryK kD9 hbA
  have hbwA := below_step hb15 hbA hb15.size
  clear k9 kP9 kD9 hb15 hbA
  have HH := hide hq1
  clear hq1
  go_cut [70] (fun s70 wx => s70 = .bool (decide (boundErr s i = 0 ∧ s.room < 1)) ∧ Below v.heap.size v wx)
  case first =>
    have cS := (carryK (w' := v) k (by repeat (first | with_reducible assumption | exact Below.refl _ _ | refine below_next (by with_reducible assumption) ?_))).cell
    by_cases h0 : boundErr s i = 0
    · have t1 : (boundErr s i == 0) = true := by rw [h0]; rfl
      have hs := Sec.err_ok (bnd_err h0)
      have H0 := hide h0; clear h0
      go_wp2_with fail
      refine (room_any s _ hs).mono ?_
      rintro e w10 ⟨rfl, hbx⟩
      go_wp2_with fail
      go_meet
      exact ⟨by simp [H0.out], hbx⟩
    · have t1 : (boundErr s i == 0) = false := by simpa using h0
      have H0 := hide h0; clear h0
      go_wp2_with fail
      go_meet
      exact ⟨by simp [H0.out], Below.refl _ _⟩
  case rest =>
    obtain ⟨rfl, hv1⟩ := hcut
    rename World => V1
    go_upto_if 70 with (fail)
    go_cut [18] (fun s18 wx => s18 = .int .i64 (s.bndC i) ∧ Below v.heap.size v wx)
    case first =>
      by_cases h0 : boundErr s i = 0 ∧ s.room < 1
      · have t1 : decide (boundErr s i = 0 ∧ s.room < 1) = true := by simpa using h0
        have H0 := hide h0; clear h0
        go_wp2_with fail
        go_meet
        exact ⟨by rw [(bndC_loose H0.out.1 H0.out.2).1], hv1⟩
      · have t1 : decide (boundErr s i = 0 ∧ s.room < 1) = false := by rw [decide_eq_false_iff_not]; exact h0
        have H0 := hide h0; clear h0
        go_wp2_with fail
        go_meet
        exact ⟨by rw [bndC_else H0.out], hv1⟩
    case rest =>
      obtain ⟨rfl, hv2⟩ := hcut
      rename World => V2
      clear hv1
      go_upto_if 72 with (fail)
      go_cut [21] (fun s21 wx => s21 = .int .i64 (s.bndV i) ∧ Below v.heap.size v wx)
      case first =>
        by_cases h0 : s.bndC i = 0
        · have t1 : (s.bndC i == 0) = true := by rw [h0]; rfl
          obtain ⟨h1, h2⟩ := bndC_zero h0
          have H1 := hide h1; clear h1
          have H0 := hide h0; clear h0
          have cS := (carryK (w' := V2) k (by repeat (first | with_reducible assumption | exact Below.refl _ _ | refine below_next (by with_reducible assumption) ?_))).cell
          go_wp2_with fail
          refine (rBound_tot s i _ H1.out h2).mono ?_
          rintro e w10 ⟨rfl, hbx⟩
          go_wp2_with fail
          go_meet
          exact ⟨rfl, below_next hv2 hbx⟩
        · have t1 : (s.bndC i == 0) = false := by simpa using h0
          have H0 := hide h0; clear h0
          go_wp2_with fail
          go_meet
          exact ⟨by rw [bndC_not H0.out], hv2⟩
      case rest =>
        obtain ⟨rfl, hv3⟩ := hcut
        rename World => V3
        clear hv2
        have hsz := hbv.size
        go_upto_if 77 with (fail)
        go_cut [19] (fun s19 wx => s19 = .int .i64 (s.rsp q).code ∧ Below wA.heap.size wA wx ∧ Blk wx (wA.heap.size + 1) 67 #[.int .i64 (s.rsp q).p0, .int .i64 (s.rsp q).p1, .int .i64 (s.rsp q).p2, .int .i64 (s.rsp q).p3] ∧ Blk wx (wA.heap.size + 2) 63 #[.int .i64 0, .int .i64 0])
        case first =>
          by_cases h0 : respErr s q = 0
          · have t1 : (respErr s q == 0) = true := by rw [h0]; rfl
            have H0 := hide h0; clear h0
            have cS := (carryK (w' := V3) k (by repeat (first | with_reducible assumption | exact Below.refl _ _ | refine below_next (by with_reducible assumption) ?_))).cell
            go_wp2_with fail
            refine (rResponse_tot s q _ H0.out).mono ?_
            rintro e w10 ⟨rfl, hbx⟩
            have kR1 := carryK (carryK kR hv3) hbx
            have kE1 := carryK (carryK kE hv3) hbx
            have cR := kR1.cell
            have fR := kR1.frozen
            have lR := kR1.lt
            clear cS
            go_wp2_with fail
            go_meet
            exact ⟨rfl, below4 (below_next hbv (below_next hv3 hbx)) (by omega), blk4 kR1, far4 kE1 (by omega)⟩
          · have t1 : (respErr s q == 0) = false := by simpa using h0
            have hr := rsp_bad h0
            have HR := hide hr; clear hr h0
            go_wp2_with fail
            go_meet
            exact ⟨by rw [HR.out], below_next hbv hv3, by rw [HR.out]; exact carryK kR hv3, carryK kE hv3⟩
        case rest =>
          obtain ⟨rfl, hv4, kR4, kE4⟩ := hcut
          rename World => V4
          clear hv3 kR kE
          go_upto_if 85 with (fail)
          go_cut [20] (fun s20 wx => s20 = .int .i64 s.dly.2.2 ∧ Below wA.heap.size wA wx ∧ Blk wx (wA.heap.size + 1) 67 #[.int .i64 (s.rsp q).p0, .int .i64 (s.rsp q).p1, .int .i64 (s.rsp q).p2, .int .i64 (s.rsp q).p3] ∧ Blk wx (wA.heap.size + 2) 63 #[.int .i64 s.dly.1, .int .i64 s.dly.2.1])
          case first =>
            by_cases h0 : s.err = 0
            · have t1 : (s.err == 0) = true := by rw [h0]; rfl
              have H0 := hide h0; clear h0
              have cS := (carryK kA0 hv4).cell
              go_wp2_with fail
              refine (rDelay_tot s _ H0.out).mono ?_
              rintro e w10 ⟨rfl, hbx⟩
              have kR1 := carryK kR4 hbx
              have kE1 := carryK kE4 hbx
              have cE := kE1.cell
              have fE := kE1.frozen
              have lE := kE1.lt
              clear cS
              go_wp2_with fail
              go_meet
              exact ⟨rfl, below2 (below_next hv4 hbx) (by omega), far2 kR1 (by omega), blk2 kE1⟩
            · have t1 : (s.err == 0) = false := by simpa using h0
              have hr := dly_bad h0
              have HR := hide hr; clear hr h0
              go_wp2_with fail
              go_meet
              exact ⟨by rw [HR.out], hv4, kR4, by rw [HR.out]; exact kE4⟩
          case rest =>
            obtain ⟨rfl, hv5, kR5, kE5⟩ := hcut
            rename World => U
            clear hv4 kR4 kE4 hb hbv hsz
            obtain ⟨hq1, hq2⟩ := HH.out
            by_cases h0 : s.err = 0
            · have t1 : (s.err == 0) = true := by rw [h0]; rfl
              have hcc := HC.out h0
              have hs := Sec.err_ok h0
              have H0 := hide h0; clear h0
              have cS := (carryK (w' := U) kA0 (by repeat (first | with_reducible assumption | exact Below.refl _ _ | refine below_next (by with_reducible assumption) ?_))).cell
              go_wp2_with fail
              refine (room_any s _ hs).mono ?_
              rintro e u1 ⟨rfl, hu1⟩
              have cS1 := (carryK (w' := u1) kA0 (by repeat (first | with_reducible assumption | exact Below.refl _ _ | refine below_next (by with_reducible assumption) ?_))).cell
              clear cS
              go_wp2_with fail
              refine (HG.out H0.out _).mono ?_
              rintro e u2 ⟨rfl, hu2⟩
              clear cS1
              have cP := (carryK (w' := u2) kPA (by repeat (first | with_reducible assumption | exact Below.refl _ _ | refine below_next (by with_reducible assumption) ?_))).cell
              have cD := (carryK (w' := u2) kDA (by repeat (first | with_reducible assumption | exact Below.refl _ _ | refine below_next (by with_reducible assumption) ?_))).cell
              have cR := (carryK (w' := u2) kR5 (by repeat (first | with_reducible assumption | exact Below.refl _ _ | refine below_next (by with_reducible assumption) ?_))).cell
              have cE := (carryK (w' := u2) kE5 (by repeat (first | with_reducible assumption | exact Below.refl _ _ | refine below_next (by with_reducible assumption) ?_))).cell
              go_wp2_with fail
              refine (awake_v _ ((hV.carry hbwA).carry (by repeat (first | with_reducible assumption | exact Below.refl _ _ | refine below_next (by with_reducible assumption) ?_)))).mono ?_
              rintro e wz ⟨rfl, hbz⟩
              go_wp2
              go_ret
              exact ⟨rfl, below_next hbwA (by repeat (first | with_reducible assumption | exact Below.refl _ _ | refine below_next (by with_reducible assumption) ?_))⟩
            · have t1 : (s.err == 0) = false := by simpa using h0
              obtain ⟨rfl, rfl⟩ := HNN.out h0
              clear h0
              have cP := (carryK (w' := U) kPA (by repeat (first | with_reducible assumption | exact Below.refl _ _ | refine below_next (by with_reducible assumption) ?_))).cell
              have cD := (carryK (w' := U) kDA (by repeat (first | with_reducible assumption | exact Below.refl _ _ | refine below_next (by with_reducible assumption) ?_))).cell
              have cR := (carryK (w' := U) kR5 (by repeat (first | with_reducible assumption | exact Below.refl _ _ | refine below_next (by with_reducible assumption) ?_))).cell
              have cE := (carryK (w' := U) kE5 (by repeat (first | with_reducible assumption | exact Below.refl _ _ | refine below_next (by with_reducible assumption) ?_))).cell
              go_wp2_with fail
              refine (awake_v _ ((hV.carry hbwA).carry (by repeat (first | with_reducible assumption | exact Below.refl _ _ | refine below_next (by with_reducible assumption) ?_)))).mono ?_
              rintro e wz ⟨rfl, hbz⟩
              go_wp2
              go_ret
              exact ⟨rfl, below_next hbwA (by repeat (first | with_reducible assumption | exact Below.refl _ _ | refine below_next (by with_reducible assumption) ?_))⟩
theorem lawBounds_any (s : Sec) (i q : Int) (w : World) (hV : Vars w) :
    Calls Tryd.prog 5 #[.agg #[.int .i64 s.b0, .int .i64 s.b1, .int .i64 s.b2, .int .i64 s.a1, .int .i64 s.a2, .int .i64 s.sh], .int .i64 i, .int .i64 q] w fun e w' => e = .returned (.bool true) ∧ Below w.heap.size w w' := by
  refine lawBounds_at s i q w hV (s.okB && decide (0 < s.room)) (s.okB && s.stab) (Contractive_any s) (Stable_tot s) (fun h => ?_) (fun h => ?_) (fun h => ?_)
  · have ho : s.okB = true := Sec.ok_iff.2 (Sec.err_ok h)
    intro W
    rw [ho, Bool.true_and]
    exact rstable_any s W (Sec.err_ok h)
  · have ho : s.okB = true := Sec.ok_iff.2 (Sec.err_ok h)
    rw [ho, Bool.true_and]
  · have ho : s.okB = false := by
      cases hk : s.okB
      · rfl
      · exact absurd (by unfold Sec.err; rw [hk]; rfl) h
    rw [ho]; exact ⟨rfl, rfl⟩
end Go.Proofs.YtlaaajkehjoffaaDoor
