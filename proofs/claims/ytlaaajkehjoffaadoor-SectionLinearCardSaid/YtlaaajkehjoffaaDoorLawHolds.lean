/- The law SectionHolds. -/
import Derived.Test.YtlaaajkehjoffaaDoorLawBounds
import Derived.Test.YtlaaajkehjoffaaDoorPlain
import Derived.Deep.DeepCutAuto
namespace Go.Proofs.YtlaaajkehjoffaaDoor
open Go.RowKit Go.Shelf
set_option maxRecDepth 100000

theorem mirror_ok {s : Sec} (h : s.Ok) : s.mirror.Ok := ⟨h.b2l, h.b2h, h.b1l, h.b1h, h.b0l, h.b0h, h.a1l, h.a1h, h.a2l, h.a2h, h.shl, h.shh⟩
theorem mirror_same {s : Sec} (h : s.b0 = s.b2) : s.mirror = s := by
  obtain ⟨a, b, c, d, e, f⟩ := s
  simp only at h
  subst h
  rfl
/-- A section with a delay has taps of the input alone, so its response has no pole. -/
theorem dly_plain {s : Sec} (h : s.err = 0) (hd : s.dly.2.2 = 0) : s.a1 = 0 ∧ s.a2 = 0 := by
  unfold Sec.dly at hd
  rw [if_pos h] at hd
  unfold Sec.delay at hd
  by_cases h1 : s.a1 = 0
  · by_cases h2 : s.a2 = 0
    · exact ⟨h1, h2⟩
    · simp [h2] at hd
  · simp [h1] at hd
theorem rsp_plain {s : Sec} (hs : s.Ok) (h1 : s.a1 = 0) (h2 : s.a2 = 0) : (s.rsp 0).code = 0 := by
  have he := Sec.err_of hs
  have h0 : respErr s 0 = 0 := by unfold respErr; rw [he]; decide
  have hu := (unit_bd hs).1
  have hp : ¬ s.pole 0 := by
    unfold Sec.pole Sec.dRe atRe
    rw [h1, h2]
    intro h
    have := h.1
    simp at this
    omega
  unfold Sec.rsp
  rw [if_pos h0, if_neg hp]
theorem okB_of {s : Sec} (h : s.Ok) : s.okB = true := Sec.ok_iff.2 h

theorem lawHolds_long (s : Sec) (A : Option Addr) (n c : Nat) (w : World) (hV : Vars w) (h : 40 < n) (hn : n ≤ maxLen) :
    Calls Tryd.prog 10 #[.agg #[.int .i64 s.b0, .int .i64 s.b1, .int .i64 s.b2, .int .i64 s.a1, .int .i64 s.a2, .int .i64 s.sh], .slice A n c] w fun e w' => e = .returned (.bool true) ∧ Below w.heap.size w w' := by
  unfold maxLen at hn
  have g1 : (40 : Int) < (n : Int) := by omega
  go_enter Tryd.func10, Tryd.ntmps10
  go_wp2_with fail
  obtain ⟨w1, e1, hb1, hz1, k0⟩ := box1 w #[.int .i64 s.b0, .int .i64 s.b1, .int .i64 s.b2, .int .i64 s.a1, .int .i64 s.a2, .int .i64 s.sh] 23
  rw [← e1]; clear e1
  go_wp2_with fail
  refine (awake_v _ (hV.carry (by repeat (first | with_reducible assumption | exact Below.refl _ _ | refine below_next (by with_reducible assumption) ?_)))).mono ?_
  rintro e wz ⟨rfl, hbz⟩
  go_wp2
  go_ret
  exact ⟨rfl, (by repeat (first | with_reducible assumption | exact Below.refl _ _ | refine below_next (by with_reducible assumption) ?_))⟩
theorem lawHolds_bad1 (s : Sec) (A : Option Addr) (n c : Nat) (w : World) (hV : Vars w) (h : n ≤ 40) (hs : (s.err != 0) = true) :
    Calls Tryd.prog 10 #[.agg #[.int .i64 s.b0, .int .i64 s.b1, .int .i64 s.b2, .int .i64 s.a1, .int .i64 s.a2, .int .i64 s.sh], .slice A n c] w fun e w' => e = .returned (.bool true) ∧ Below w.heap.size w w' := by
  have g1 : ¬ (40 : Int) < (n : Int) := by omega
  go_enter Tryd.func10, Tryd.ntmps10
  go_wp2_with fail
  obtain ⟨w1, e1, hb1, hz1, k0⟩ := box1 w #[.int .i64 s.b0, .int .i64 s.b1, .int .i64 s.b2, .int .i64 s.a1, .int .i64 s.a2, .int .i64 s.sh] 23
  rw [← e1]; clear e1
  refine (rCheckSection_any s _).mono ?_
  rintro e w2 ⟨rfl, hb2⟩
  go_wp2_with fail
  refine (awake_v _ (hV.carry (by repeat (first | with_reducible assumption | exact Below.refl _ _ | refine below_next (by with_reducible assumption) ?_)))).mono ?_
  rintro e wz ⟨rfl, hbz⟩
  go_wp2
  go_ret
  exact ⟨rfl, (by repeat (first | with_reducible assumption | exact Below.refl _ _ | refine below_next (by with_reducible assumption) ?_))⟩
theorem lawHolds_bad2 (s : Sec) (A : Option Addr) (n c : Nat) (xs : List Int) (w : World) (hV : Vars w) (h : n ≤ 40) (hs : (s.err != 0) = false) (hx : (sigErr xs != 0) = true) (hR : Reads w w.heap.size 1 A n (ints xs)) :
    Calls Tryd.prog 10 #[.agg #[.int .i64 s.b0, .int .i64 s.b1, .int .i64 s.b2, .int .i64 s.a1, .int .i64 s.a2, .int .i64 s.sh], .slice A n c] w fun e w' => e = .returned (.bool true) ∧ Below w.heap.size w w' := by
  have g1 : ¬ (40 : Int) < (n : Int) := by omega
  go_enter Tryd.func10, Tryd.ntmps10
  go_wp2_with fail
  obtain ⟨w1, e1, hb1, hz1, k0⟩ := box1 w #[.int .i64 s.b0, .int .i64 s.b1, .int .i64 s.b2, .int .i64 s.a1, .int .i64 s.a2, .int .i64 s.sh] 23
  rw [← e1]; clear e1
  refine (rCheckSection_any s _).mono ?_
  rintro e w2 ⟨rfl, hb2⟩
  go_wp2_with fail
  refine (rCheckSignal_any _ _ _ _ _ _ (carry hR (by repeat (first | with_reducible assumption | exact Below.refl _ _ | refine below_next (by with_reducible assumption) ?_))) (by omega)).mono ?_
  rintro e w' ⟨rfl, rfl⟩
  go_wp2_with fail
  refine (awake_v _ (hV.carry (by repeat (first | with_reducible assumption | exact Below.refl _ _ | refine below_next (by with_reducible assumption) ?_)))).mono ?_
  rintro e wz ⟨rfl, hbz⟩
  go_wp2
  go_ret
  exact ⟨rfl, (by repeat (first | with_reducible assumption | exact Below.refl _ _ | refine below_next (by with_reducible assumption) ?_))⟩
theorem neqRatio (a b : Int) (w : World) : (binOp .neq 63 (.agg #[.int .i64 a, .int .i64 b]) (.agg #[.int .i64 a, .int .i64 b])).run Tryd.prog w = .ok (.bool false) w := by
  have hh : (Op.equalIn 10000 63 (.agg #[.int .i64 a, .int .i64 b]) (.agg #[.int .i64 a, .int .i64 b])).run Tryd.prog w = .ok true w := by
    rw [show (10000 : Nat) = 9999 + 1 from rfl, run_equalIn_struct w 9999 63 _ _ (by kernel_rfl) (by kernel_rfl)]
    simp [Program.fieldsOf, Tryd.underlying63, Op.eqFields, go_sem, run_equalIn_int _ _ _ _ _ _ _ Tryd.underlying3]
  simp only [binOp, Op.equal, Op.maxDepth]
  simp [hh, go_sem]
theorem neqPair (a b c d : Int) (w : World) : (binOp .neq 59 (.agg #[.int .i64 a, .int .i64 b, .int .i64 c, .int .i64 d]) (.agg #[.int .i64 a, .int .i64 b, .int .i64 c, .int .i64 d])).run Tryd.prog w = .ok (.bool false) w := by
  have hh : (Op.equalIn 10000 59 (.agg #[.int .i64 a, .int .i64 b, .int .i64 c, .int .i64 d]) (.agg #[.int .i64 a, .int .i64 b, .int .i64 c, .int .i64 d])).run Tryd.prog w = .ok true w := by
    rw [show (10000 : Nat) = 9998 + 1 + 1 from rfl, run_equalIn_struct w (9998 + 1) 59 _ _ (by kernel_rfl) (by kernel_rfl)]
    simp [Program.fieldsOf, Tryd.underlying59, Tryd.underlying57, Op.eqFields, go_sem, run_equalIn_struct, run_equalIn_int _ _ _ _ _ _ _ Tryd.underlying3]
  simp only [binOp, Op.equal, Op.maxDepth]
  simp [hh, go_sem]
theorem Delay_z (s : Sec) (w : World) (hd : s.dly.2.2 = 0) :
    Calls Tryd.prog 35 #[.agg #[.int .i64 s.b0, .int .i64 s.b1, .int .i64 s.b2, .int .i64 s.a1, .int .i64 s.a2, .int .i64 s.sh]] w fun e w' => e = .returned (.tuple #[.agg #[.int .i64 s.dly.1, .int .i64 s.dly.2.1], .int .i64 0]) ∧ Below w.heap.size w w' := by
  have := Delay_tot s w
  rwa [hd] at this
theorem Response_z (s : Sec) (a b c d : Int) (w : World) (hP : Pow w) (hd : Hid (s.rsp 0 = ⟨a, b, c, d, 0⟩)) :
    Calls Tryd.prog 34 #[.agg #[.int .i64 s.b0, .int .i64 s.b1, .int .i64 s.b2, .int .i64 s.a1, .int .i64 s.a2, .int .i64 s.sh], .int .i64 0] w fun e w' => e = .returned (.tuple #[.agg #[.int .i64 a, .int .i64 b, .int .i64 c, .int .i64 d], .int .i64 0]) ∧ Below w.heap.size w w' := by
  refine (Response_tot s 0 w hP).mono fun _ _ h => ?_
  unfold RspIs at h
  rwa [hd.out] at h
theorem rsp_form {s : Sec} (hd : (s.rsp 0).code = 0) : ∃ a b c d : Int, Hid (s.rsp 0 = ⟨a, b, c, d, 0⟩) := by
  generalize s.rsp 0 = r at *
  obtain ⟨a, b, c, d, e⟩ := r
  simp only at hd
  subst hd
  exact ⟨a, b, c, d, rfl⟩
theorem Bound_z (s : Sec) (i : Int) (w : World) (hs : s.Ok) (hr : 1 ≤ s.room) (h0 : 0 ≤ i) (h1 : i ≤ 32767) :
    Calls Tryd.prog 33 #[.agg #[.int .i64 s.b0, .int .i64 s.b1, .int .i64 s.b2, .int .i64 s.a1, .int .i64 s.a2, .int .i64 s.sh], .int .i64 i] w fun e w' => e = .returned (.tuple #[.int .i64 (s.bound i), .int .i64 0]) ∧ Below w.heap.size w w' := by
  refine Bound_ok s i w ?_ hr
  unfold boundErr
  rw [Sec.err_of hs, rng_eq, if_pos (inB_iff.2 ⟨h0, h1⟩)]
  rfl
theorem Run_z (s : Sec) (A : Option Addr) (m c : Nat) (xs : List Int) (w : World) (hs : s.Ok) (hx : sigErr xs = 0) (hm : m ≤ 1000000000000) (hR : Reads w w.heap.size 1 A m (ints xs)) :
    Calls Tryd.prog 16 #[.agg #[.int .i64 s.b0, .int .i64 s.b1, .int .i64 s.b2, .int .i64 s.a1, .int .i64 s.a2, .int .i64 s.sh], .slice A m c] w fun e w' => ∃ A' c', e = .returned (.tuple #[.slice A' m c', .int .i64 0]) ∧ Reads w' w'.heap.size 1 A' m (ints (s.outs St.zero xs)) ∧ Below w.heap.size w w' := by
  refine (Run_ok s A m c xs w (by unfold runErr; rw [Sec.err_of hs, hx]; rfl) hm hR).mono fun _ _ ⟨v, he, ho, hb⟩ => ?_
  obtain ⟨A', c', rfl, hr⟩ := own_slice ho
  exact ⟨A', c', he, hr, hb⟩
theorem Contractive_at {s : Sec} {c : Bool} (w : World) (hs : s.Ok) (hc : decide (0 < s.room) = c) :
    Calls Tryd.prog 31 #[.agg #[.int .i64 s.b0, .int .i64 s.b1, .int .i64 s.b2, .int .i64 s.a1, .int .i64 s.a2, .int .i64 s.sh]] w fun e w' => e = .returned (.tuple #[.bool c, .int .i64 0]) ∧ Below w.heap.size w w' := by
  have := Contractive_any s w
  rwa [okB_of hs, Bool.true_and, hc, Sec.err_of hs] at this
theorem Stable_at {s : Sec} {f : Bool} (w : World) (hs : s.Ok) (hf : s.stab = f) :
    Calls Tryd.prog 32 #[.agg #[.int .i64 s.b0, .int .i64 s.b1, .int .i64 s.b2, .int .i64 s.a1, .int .i64 s.a2, .int .i64 s.sh]] w fun e w' => e = .returned (.tuple #[.bool f, .int .i64 0]) ∧ Below w.heap.size w w' := by
  have := Stable_tot s w
  rwa [okB_of hs, Bool.true_and, hf, Sec.err_of hs] at this
theorem Mirror_at (s : Sec) (w : World) (hs : s.Ok) :
    Calls Tryd.prog 53 #[.agg #[.int .i64 s.b0, .int .i64 s.b1, .int .i64 s.b2, .int .i64 s.a1, .int .i64 s.a2, .int .i64 s.sh]] w fun e w' => e = .returned (.tuple #[.agg #[.int .i64 s.mirror.b0, .int .i64 s.mirror.b1, .int .i64 s.mirror.b2, .int .i64 s.mirror.a1, .int .i64 s.mirror.a2, .int .i64 s.mirror.sh], .int .i64 0]) ∧ Below w.heap.size w w' := Mirror_ok s w (Sec.err_of hs)

set_option maxHeartbeats 4000000 in
theorem lawHolds_main (s : Sec) (A : Option Addr) (n c : Nat) (xs : List Int) (w : World) (hV : Vars w) (h : n ≤ 40) (hs : s.Ok) (hx : sigErr xs = 0) (hR : Reads w w.heap.size 1 A n (ints xs)) (cc f : Bool) (hc : decide (0 < s.room) = cc) (hf : s.stab = f) (hcf : cc = true → f = true) :
    Calls Tryd.prog 10 #[.agg #[.int .i64 s.b0, .int .i64 s.b1, .int .i64 s.b2, .int .i64 s.a1, .int .i64 s.a2, .int .i64 s.sh], .slice A n c] w fun e w' => e = .returned (.bool true) ∧ Below w.heap.size w w' := by
  have g1 : ¬ (40 : Int) < (n : Int) := by omega
  have he := Sec.err_of hs
  have t0 : (s.err != 0) = false := by rw [he]; rfl
  have t0' : (s.err + s.err != 0) = false := by rw [he]; rfl
  have hxe : (sigErr xs != 0) = false := by rw [hx]; rfl
  have hme := mirE_ok he
  have tm : (s.mirror.err != 0) = false := by rw [Sec.err_of (mirror_ok hs)]; rfl
  have HE := hide he
  have HM := hide hme
  clear he hme
  go_enter Tryd.func10, Tryd.ntmps10
  go_wp2_with fail
  obtain ⟨w1, e1, hb1, hz1, k0⟩ := box1 w #[.int .i64 s.b0, .int .i64 s.b1, .int .i64 s.b2, .int .i64 s.a1, .int .i64 s.a2, .int .i64 s.sh] 23
  rw [← e1]; clear e1
  refine (rCheckSection_any s _).mono ?_
  rintro e w2 ⟨rfl, hb2⟩
  go_wp2_with fail
  refine (rCheckSignal_any _ _ _ _ _ _ (carry hR (by repeat (first | with_reducible assumption | exact Below.refl _ _ | refine below_next (by with_reducible assumption) ?_))) (by omega)).mono ?_
  rintro e w' ⟨rfl, rfl⟩
  have cS := (carryK (w' := w2) k0 (by repeat (first | with_reducible assumption | exact Below.refl _ _ | refine below_next (by with_reducible assumption) ?_))).cell
  go_wp2_with fail
  refine (Contractive_at _ hs hc).mono ?_
  rintro e w3 ⟨rfl, hb3⟩
  clear cS
  have cS := (carryK (w' := w3) k0 (by repeat (first | with_reducible assumption | exact Below.refl _ _ | refine below_next (by with_reducible assumption) ?_))).cell
  go_wp2_with fail
  refine (Stable_at _ hs hf).mono ?_
  rintro e w4 ⟨rfl, hb4⟩
  clear cS
  have cS := (carryK (w' := w4) k0 (by repeat (first | with_reducible assumption | exact Below.refl _ _ | refine below_next (by with_reducible assumption) ?_))).cell
  go_wp2_with fail
  refine (Mirror_at s _ hs).mono ?_
  rintro e w5 ⟨rfl, hb5⟩
  clear cS
  have cS := (carryK (w' := w5) k0 (by repeat (first | with_reducible assumption | exact Below.refl _ _ | refine below_next (by with_reducible assumption) ?_))).cell; have cSl := (carryK (w' := w5) k0 (by repeat (first | with_reducible assumption | exact Below.refl _ _ | refine below_next (by with_reducible assumption) ?_))).lt
  go_wp2_with fail
  obtain ⟨w6, e6, hb6, hz6, kM⟩ := box1 w5 #[.int .i64 s.mirror.b0, .int .i64 s.mirror.b1, .int .i64 s.mirror.b2, .int .i64 s.mirror.a1, .int .i64 s.mirror.a2, .int .i64 s.mirror.sh] 32
  rw [← e6]; clear e6 cS cSl
  refine (Delay_tot s _).mono ?_
  rintro e w7 ⟨rfl, hb7⟩
  go_upto_region 7 with (fail)
  obtain ⟨w8, e8, hb8, hz8, kD⟩ := box1 w7 #[.int .i64 s.dly.1, .int .i64 s.dly.2.1] 63
  rw [← e8]; clear e8
  go_cut [81] (fun s81 wx => s81 = .bool false ∧ Below w8.heap.size w8 wx)
  case first =>
    have cM := (carryK (w' := w8) kM (by repeat (first | with_reducible assumption | exact Below.refl _ _ | refine below_next (by with_reducible assumption) ?_))).cell
    cases cc <;> cases f
    all_goals first
      | exact absurd (hcf rfl) (by decide)
      | (go_wp2_with fail
         refine (rCheckSection_any s.mirror _).mono ?_
         rintro e w9 ⟨rfl, hb9⟩
         go_wp2_with fail
         go_meet
         exact ⟨rfl, hb9⟩)
  case rest =>
    obtain ⟨rfl, hv1⟩ := hcut
    rename World => V1
    go_upto_region 9 with (fail)
    go_cut [90] (fun s90 wx => ∃ t : Bool, s90 = .bool t ∧ Hid (t = true → s.dly.2.2 = 0 ∧ s.b0 = s.b2) ∧ Below w8.heap.size w8 wx)
    case first =>
      have cS := (carryK (w' := V1) k0 (by repeat (first | with_reducible assumption | exact Below.refl _ _ | refine below_next (by with_reducible assumption) ?_))).cell
      by_cases h0 : s.dly.2.2 = 0
      · have t1 : (s.dly.2.2 == 0) = true := by rw [h0]; rfl
        by_cases h1 : s.b0 = s.b2
        · have t2 : (s.b0 == s.b2) = true := by simpa using h1
          have H0 := hide h0; have H1 := hide h1
          clear h0 h1
          go_wp2_with fail
          go_meet
          exact ⟨true, rfl, hide (fun _ => ⟨H0.out, H1.out⟩), hv1⟩
        · have t2 : (s.b0 == s.b2) = false := by simpa using h1
          have H1 := hide h1
          clear h0 h1
          go_wp2_with fail
          go_meet
          exact ⟨false, rfl, hide (fun h => by cases h), hv1⟩
      · have t1 : (s.dly.2.2 == 0) = false := by simpa using h0
        have H0 := hide h0
        clear h0
        go_wp2_with fail
        go_meet
        exact ⟨false, rfl, hide (fun h => by cases h), hv1⟩
    case rest =>
      obtain ⟨t, rfl, HT, hv2⟩ := hcut
      rename World => V2
      clear hv1
      go_upto_if 90 with (fail)
      go_cut [13, 14, 15, 16, 17, 18] (fun _ _ _ _ _ _ wx => Below w8.heap.size w8 wx)
      case first =>
        cases t
        · go_wp2_with fail
          go_meet
          exact hv2
        · have h0 := HT.out rfl
          have hm := mirror_same h0.2
          rw [hm] at kM
          obtain ⟨p1, p2⟩ := dly_plain (Sec.err_of hs) h0.1
          obtain ⟨a0, a1, a2, a3, HZ⟩ := rsp_form (rsp_plain hs p1 p2)
          have H0 := hide h0
          clear h0 hm p1 p2
          have cM := (carryK (w' := V2) kM (by repeat (first | with_reducible assumption | exact Below.refl _ _ | refine below_next (by with_reducible assumption) ?_))).cell
          go_wp2_with fail
          refine (Delay_z s _ H0.out.1).mono ?_
          rintro e v1 ⟨rfl, hx1⟩
          clear cM
          have cS := (carryK (w' := v1) k0 (by repeat (first | with_reducible assumption | exact Below.refl _ _ | refine below_next (by with_reducible assumption) ?_))).cell; have cSl := (carryK (w' := v1) k0 (by repeat (first | with_reducible assumption | exact Below.refl _ _ | refine below_next (by with_reducible assumption) ?_))).lt
          go_wp2_with fail
          obtain ⟨v2, e2, hx2, hy2, kO⟩ := box1 v1 #[.int .i64 s.dly.1, .int .i64 s.dly.2.1] 63
          rw [← e2]; clear e2 cS cSl
          refine (Response_z s a0 a1 a2 a3 _ ((hV.carry (by repeat (first | with_reducible assumption | exact Below.refl _ _ | refine below_next (by with_reducible assumption) ?_))).pow) HZ).mono ?_
          rintro e v3 ⟨rfl, hx3⟩
          have cM := (carryK (w' := v3) kM (by repeat (first | with_reducible assumption | exact Below.refl _ _ | refine below_next (by with_reducible assumption) ?_))).cell; have cMl := (carryK (w' := v3) kM (by repeat (first | with_reducible assumption | exact Below.refl _ _ | refine below_next (by with_reducible assumption) ?_))).lt
          go_wp2_with fail
          obtain ⟨v4, e4, hx4, hy4, kX⟩ := box1 v3 #[.int .i64 a0, .int .i64 a1, .int .i64 a2, .int .i64 a3] 59
          rw [← e4]; clear e4 cM cMl
          refine (Response_z s a0 a1 a2 a3 _ ((hV.carry (by repeat (first | with_reducible assumption | exact Below.refl _ _ | refine below_next (by with_reducible assumption) ?_))).pow) HZ).mono ?_
          rintro e v5 ⟨rfl, hx5⟩
          go_upto_region 13 with (fail)
          obtain ⟨v6, e6, hx6, hy6, kY⟩ := box1 v5 #[.int .i64 a0, .int .i64 a1, .int .i64 a2, .int .i64 a3] 59
          rw [← e6]; clear e6
          have hq1 := neqRatio s.dly.1 s.dly.2.1
          have hq2 := neqPair a0 a1 a2 a3
          have cO := (carryK (w' := v6) kO (by repeat (first | with_reducible assumption | exact Below.refl _ _ | refine below_next (by with_reducible assumption) ?_))).cell
          have cD := (carryK (w' := v6) kD (by repeat (first | with_reducible assumption | exact Below.refl _ _ | refine below_next (by with_reducible assumption) ?_))).cell
          have cX := (carryK (w' := v6) kX (by repeat (first | with_reducible assumption | exact Below.refl _ _ | refine below_next (by with_reducible assumption) ?_))).cell
          have cY := (carryK (w' := v6) kY (by repeat (first | with_reducible assumption | exact Below.refl _ _ | refine below_next (by with_reducible assumption) ?_))).cell
          go_wp2_with fail
          go_meet
          exact (by repeat (first | with_reducible assumption | exact Below.refl _ _ | refine below_next (by with_reducible assumption) ?_))
      case rest =>
        have hv3 := hcut
        clear hcut
        rename World => V3
        clear hv2
        cases cc
        · go_wp2_with fail
          refine (awake_v _ (hV.carry (by repeat (first | with_reducible assumption | exact Below.refl _ _ | refine below_next (by with_reducible assumption) ?_)))).mono ?_
          rintro e wz ⟨rfl, hbz⟩
          go_wp2
          go_ret
          exact ⟨rfl, (by repeat (first | with_reducible assumption | exact Below.refl _ _ | refine below_next (by with_reducible assumption) ?_))⟩
        · go_upto_region 18 with (fail)
          have hRv := carry (w' := V3) hR (by repeat (first | with_reducible assumption | exact Below.refl _ _ | refine below_next (by with_reducible assumption) ?_))
          have hl := reads_len hRv
          have hxs := (sigErr_ok hx).2
          have hroom : 1 ≤ s.room := by have := of_decide_eq_true hc; omega
          have hrun := run_inside (xs := xs) hs hroom
          have hbd : ∀ v ∈ s.outs St.zero xs, -32767 ≤ v ∧ v ≤ 32767 := outs_bd
          have hmx : mostOf xs ≤ 32767 := mostOf_le (by omega) hxs
          have HL := hide hl; have HXS := hide hxs; have HRUN := hide hrun; have HBD := hide hbd; have HMX := hide hmx
          have HR0 := hide hR
          clear hl hxs hrun hbd hmx hc hR hf
          go_wp2_with fail
          go_loop [19, 127] (fun v i => ∃ k : Nat, k ≤ n ∧ i = .int .i64 k ∧ v = .int .i64 (mostOf (xs.take k))) (fun _ i => n - (intOf i).toNat)
          case atStart => exact ⟨0, by omega, rfl, rfl⟩
          case round =>
            obtain ⟨k, hk, rfl, rfl⟩ := hrel
            by_cases hlt : k < n
            · obtain ⟨ad, x, rfl, _, hxk, hcx⟩ := reads_at hRv hlt
              have hxb := HXS.out x (List.mem_of_getElem? hxk)
              have HXK := hide hxk; clear hxk
              go_wp2
              all_goals
                go_round
                case rel => exact ⟨k + 1, by omega, by go_num, by rw [mostOf_take_succ HXK.out]; first | rfl | (congr 1; omega)⟩
                case measure => simp [intOf]; omega
            · obtain rfl : k = n := by omega
              obtain ⟨M, hM⟩ : ∃ M, M = mostOf (xs.take k) := ⟨_, rfl⟩
              rw [← hM]
              have hM2 : M = mostOf xs := by rw [hM, List.take_of_length_le (by rw [HL.out]; omega)]
              have HM2 := hide hM2
              have hm0 : 0 ≤ M := by rw [hM2]; exact mostOf_nn xs
              have hm1 : M ≤ 32767 := by rw [hM2]; exact HMX.out
              have hbn := bound_nn (s := s) hroom hm0
              have tb : decide (s.bound M < 0) = false := by simpa using hbn
              clear hM hM2
              have cS := (carryK (w' := V3) k0 (by repeat (first | with_reducible assumption | exact Below.refl _ _ | refine below_next (by with_reducible assumption) ?_))).cell
              go_wp2_with fail
              refine (Bound_z s M _ hs hroom hm0 hm1).mono ?_
              rintro e v1 ⟨rfl, hx1⟩
              clear cS
              have c0 : ∀ i W, Below v1.heap.size v1 W → W.cell? ⟨w.heap.size, i, none⟩ = (#[.int .i64 s.b0, .int .i64 s.b1, .int .i64 s.b2, .int .i64 s.a1, .int .i64 s.a2, .int .i64 s.sh] : Array Value)[i]? := fun i W h => (carryK (carryK k0 (by repeat (first | with_reducible assumption | exact Below.refl _ _ | refine below_next (by with_reducible assumption) ?_))) h).cell i
              have R0 := hide (fun W (h : Below v1.heap.size v1 W) => carry (carry hRv hx1) h)
              go_upto_region 24 with (fail)
              go_region_held3 (fun W => Below v1.heap.size v1 W) (first | exact (Below.refl _ _).drew | (with_reducible assumption) | exact below_new ‹Below v1.heap.size v1 _› (Nat.le_refl _) _ | (refine below_set (below_set (below_set (below_set (by assumption) (by omega) _) (by omega) _) (by omega) _) (by omega) _)) (first | (go_at_call 17; refine (ints_any A k c xs _ (R0.out _ ‹Below v1.heap.size v1 _›) (by omega)).mono ?_; rintro e W' ⟨vI, rfl, hoI, hbW⟩; obtain ⟨AI, cI, rfl, hRI⟩ := own_slice hoI; have hS := below_step ‹Below v1.heap.size v1 _› hbW (Below.size ‹Below v1.heap.size v1 _›); have HRI := hide hRI; clear hRI hoI) | (go_at_call 16; refine (Run_z s _ k _ xs _ hs hx (by omega) HRI.out).mono ?_; rintro e v2 ⟨Ay, cy, rfl, ry, hbQ⟩; have hS := below_step ‹Below v1.heap.size v1 _› hbQ (Below.size ‹Below v1.heap.size v1 _›)))
              have hx2 : Below v1.heap.size v1 v2 := ‹Below v1.heap.size v1 v2›
              clear c0 R0 HRI hbW hbQ
              (try clear hS); (try clear hS)
              go_wp2_with fail
              go_loop [162] (fun i => ∃ j : Nat, j ≤ k ∧ i = .int .i64 j) (fun i => k - (intOf i).toNat)
              case atStart => exact ⟨0, by omega, rfl⟩
              case round =>
                obtain ⟨j, hj, rfl⟩ := hrel
                by_cases hlt2 : j < k
                · obtain ⟨ad, v, rfl, _, hvk, hcv⟩ := reads_at ry hlt2
                  have hv1 := HBD.out v (List.mem_of_getElem? hvk)
                  have hv2 := HRUN.out v (List.mem_of_getElem? hvk)
                  rw [← HM2.out] at hv2
                  clear hvk
                  have tv : decide (s.bound M < max v (-v)) = false := by simp only [decide_eq_false_iff_not]; omega
                  go_wp2
                  all_goals
                    go_round
                    case rel => exact ⟨j + 1, by omega, by go_num⟩
                    case measure => simp [intOf]; omega
                · obtain rfl : j = k := by omega
                  by_cases hz : M = 0
                  · have tz : (M == 0) = true := by rw [hz]; rfl
                    have tz2 : (s.bound M == 0) = true := by rw [hz, bound_zero]; rfl
                    clear hz
                    go_wp2_with fail
                    refine (awake_v _ (hV.carry (by repeat (first | with_reducible assumption | exact Below.refl _ _ | refine below_next (by with_reducible assumption) ?_)))).mono ?_
                    rintro e wz ⟨rfl, hbz⟩
                    go_wp2
                    go_ret
                    exact ⟨rfl, (by repeat (first | with_reducible assumption | exact Below.refl _ _ | refine below_next (by with_reducible assumption) ?_))⟩
                  · have tz : (M == 0) = false := by simpa using hz
                    have tl : decide (s.bound (M - 1) ≤ s.bound M) = true := by simpa using bound_mono (s := s) hroom (show M - 1 ≤ M by omega)
                    have hm2 : 1 ≤ M := by omega
                    clear hz
                    have cS := (carryK (w' := v2) k0 (by repeat (first | with_reducible assumption | exact Below.refl _ _ | refine below_next (by with_reducible assumption) ?_))).cell
                    go_wp2_with fail
                    refine (Bound_z s (M - 1) _ hs hroom (by omega) (by omega)).mono ?_
                    rintro e v3 ⟨rfl, hx3⟩
                    go_wp2_with fail
                    refine (awake_v _ (hV.carry (by repeat (first | with_reducible assumption | exact Below.refl _ _ | refine below_next (by with_reducible assumption) ?_)))).mono ?_
                    rintro e wz ⟨rfl, hbz⟩
                    go_wp2
                    go_ret
                    exact ⟨rfl, (by repeat (first | with_reducible assumption | exact Below.refl _ _ | refine below_next (by with_reducible assumption) ?_))⟩
theorem lawHolds_any (s : Sec) (A : Option Addr) (n c : Nat) (xs : List Int) (w : World) (hV : Vars w) (hn : n ≤ maxLen) (hR : Reads w w.heap.size 1 A n (ints xs)) :
    Calls Tryd.prog 10 #[.agg #[.int .i64 s.b0, .int .i64 s.b1, .int .i64 s.b2, .int .i64 s.a1, .int .i64 s.a2, .int .i64 s.sh], .slice A n c] w fun e w' => e = .returned (.bool true) ∧ Below w.heap.size w w' := by
  by_cases h40 : n ≤ 40
  · by_cases h1 : s.err = 0
    · have t1 : (s.err != 0) = false := by rw [h1]; rfl
      by_cases h2 : sigErr xs = 0
      · exact lawHolds_main s A n c xs w hV h40 (Sec.err_ok h1) h2 hR _ _ rfl rfl (fun h => room_stab (by have := of_decide_eq_true h; omega))
      · exact lawHolds_bad2 s A n c xs w hV h40 t1 (by simpa using h2) hR
    · exact lawHolds_bad1 s A n c w hV h40 (by simpa using h1)
  · exact lawHolds_long s A n c w hV (by omega) hn
end Go.Proofs.YtlaaajkehjoffaaDoor
