/- The law NetworkValues. -/
import Derived.Test.YtnndaipnfniciaaDoorNAwk
import Derived.Test.YtnndaipnfniciaaDoorNValsP
import Derived.Test.YtnndaipnfniciaaDoorNPolN
import Derived.Test.YtnndaipnfniciaaDoorNRTab
import Derived.Test.YtnndaipnfniciaaDoorBaseR
import Derived.Test.YtnndaipnfniciaaDoorNCopy
import Derived.Test.YtnndaipnfniciaaDoorNEqs
import Derived.Test.YtnndaipnfniciaaDoorNLiftN
namespace Go.Proofs.YtnndaipnfniciaaDoor
open Go.RowKit Go.Shelf
set_option maxRecDepth 100000
theorem fine_val {p : List Int} {f : Int} (h : Fine p) (h1 : 1 ≤ f) (h8 : f ≤ 8) : valErr p f = 0 := by
  have hE : polE p = 0 := by
    unfold polE
    rw [fnz_zero]
    intro y hy
    simp only [List.mem_cons, List.not_mem_nil, or_false] at hy
    rcases hy with rfl | rfl
    · rw [if_neg (by have := h.len; omega)]
    · rw [if_neg fun q => ?_]
      rcases h.last with e | e
      · rw [e] at q; simp at q
      · exact e q.2
  have hP : polErr p = 0 := by
    unfold polErr
    rw [if_pos hE, fnz_zero]
    intro y hy
    obtain ⟨x, hx, rfl⟩ := List.mem_map.1 hy
    have := h.all x hx
    exact rng_zero.2 (by omega)
  unfold valErr
  rw [hP, rng_zero.2 ⟨h1, h8⟩]; rfl
/-- The values of the polynomials. -/
theorem fine_ev (l : List El) (f : Int) : ev (iw f) (pch .id l).a = (chn f .id l).a ∧ ev (iw f) (pch .id l).b = (chn f .id l).b ∧ ev (iw f) (pch .id l).c = (chn f .id l).c ∧ ev (iw f) (pch .id l).d = (chn f .id l).d ∧ ev (iw f) (pdv [1] l) = dvs f .one l := by
  have h1 := ev_pch f l .id
  have h2 := ev_pdv f l [1]
  rw [ev_id] at h1
  rw [ev_one] at h2
  exact ⟨congrArg Mat.a h1, congrArg Mat.b h1, congrArg Mat.c h1, congrArg Mat.d h1, h2⟩
set_option maxHeartbeats 16000000 in
theorem lawVal_bad (A : Option Addr) (n c : Nat) (l : List El) (u1 u2 : Int) (w : World) (hV : VarsN w) (hR : Reads w w.heap.size 3 A n (els l)) (E : Int) (he : ladErr l = E) (h0 : ¬ E = 0) :
    Calls Tryd.prog 3 #[.slice A n c, .int .u8 u1, .int .u8 u2] w fun e w' => e = .returned (.bool true) ∧ Below w.heap.size w w' := by
  have HE := hide he
  have t0 : (E != 0) = true := by simpa using h0
  clear he h0
  go_enter Tryd.func3, Tryd.ntmps3
  go_wp2_with fail
  refine (rCheckLadder_all A n c l _ hR).mono ?_
  rintro e w1 ⟨rfl, hb1⟩
  rw [HE.out]
  go_wp2_with fail
  refine (awake_any _ (hV.con.carry (by repeat (first | with_reducible assumption | exact Below.refl _ _ | refine below_next (by with_reducible assumption) ?_))) (hV.tur.carry (by repeat (first | with_reducible assumption | exact Below.refl _ _ | refine below_next (by with_reducible assumption) ?_))) (hV.ten.carry (by repeat (first | with_reducible assumption | exact Below.refl _ _ | refine below_next (by with_reducible assumption) ?_)))).mono ?_
  rintro e wz ⟨rfl, hbz⟩
  go_wp2_with fail
  go_ret
  exact ⟨rfl, (by repeat (first | with_reducible assumption | exact Below.refl _ _ | refine below_next (by with_reducible assumption) ?_))⟩
theorem wr_subV (o p : Int) : wr (wr o - wr p) = wr (o + -p) := by simp only [wr_def]; omega
set_option maxHeartbeats 16000000 in
theorem lawVal_good (A : Option Addr) (n c : Nat) (l : List El) (u1 u2 : Int) (w : World) (hV : VarsN w) (hR : Reads w w.heap.size 3 A n (els l)) (h1 : 0 ≤ u1 ∧ u1 ≤ 255) (h2 : 0 ≤ u2 ∧ u2 ≤ 255) (he : ladErr l = 0) :
    Calls Tryd.prog 3 #[.slice A n c, .int .u8 u1, .int .u8 u2] w fun e w' => e = .returned (.bool true) ∧ Below w.heap.size w w' := by
  have hl := lad_ok he
  have hn6 : n ≤ 5 := by have := els_reads_len hR; have := hl.len; omega
  obtain ⟨Fa, Fb, Fc, Fd, Fe⟩ := lad_fine hl
  have hS := sums_zero hl
  have hp := fun A c w (hC : Con w) (hR : Reads w w.heap.size 3 A n (els l)) => polN_ok A n c l w hC he hR (by omega)
  have hev := fun f => fine_ev l f
  obtain ⟨⟨La, Lb, Lc, Ld⟩, hm⟩ : ∃ m, pch .id l = m := ⟨_, rfl⟩
  obtain ⟨Le, hd⟩ : ∃ d, pdv [1] l = d := ⟨_, rfl⟩
  rw [hm] at Fa Fb Fc Fd
  rw [hd] at Fe
  rw [hm, hd] at hp hS
  simp only [hm, hd] at hev
  simp only at hp hS Fa Fb Fc Fd
  have la := Fa.len
  have lb := Fb.len
  have lc := Fc.len
  have ld := Fd.len
  have le := Fe.len
  have fa := hide Fa
  have fb := hide Fb
  have fc := hide Fc
  have fd := hide Fd
  have fe := hide Fe
  have HS := hide hS
  have HP := hide hp
  have HEV := hide hev
  have HL := hide he
  have HOK := hide hl
  clear he hl Fa Fb Fc Fd Fe hS hp hev hm hd
  have t0 : ((0 : Int) != 0) = false := rfl
  go_enter Tryd.func3, Tryd.ntmps3
  go_wp2_with fail
  refine (rCheckLadder_all A n c l _ hR).mono ?_
  rintro e w1 ⟨rfl, hb1⟩
  rw [HL.out]
  go_wp2_with fail
  refine (ladder_lad A n c l _ (carry hR (by repeat (first | with_reducible assumption | exact Below.refl _ _ | refine below_next (by with_reducible assumption) ?_))) (by omega)).mono ?_
  rintro e w2 ⟨A2, cA2, rfl, rA2, hbw2⟩
  go_wp2_with fail
  refine (HP.out A2 cA2 _ (hV.con.carry (by repeat (first | with_reducible assumption | exact Below.refl _ _ | refine below_next (by with_reducible assumption) ?_))) rA2).mono ?_
  rintro e w3 ⟨M0, d0, M1, d1, M2, d2, M3, d3, M4, d4, rfl, m0, m1, m2, m3, m4, hb3⟩
  go_upto_region 4 with (fail)
  obtain ⟨w4, e4, hb4, hz4, kM⟩ := box1 w3 #[.slice M0 La.length d0, .slice M1 Lb.length d1, .slice M2 Lc.length d2, .slice M3 Ld.length d3] 26
  rw [← e4]; clear e4
  have cM := kM.cell
  go_upto_region 7 with (fail)
  obtain ⟨w6, e6, hb6, hz6, kA⟩ := box1 w4 #[.slice M0 La.length d0, .slice M1 Lb.length d1, .slice M2 Lc.length d2, .slice M3 Ld.length d3, .slice M4 Le.length d4] 32
  rw [← e6]; clear e6 cM
  have cA := kA.cell
  have v0 := carry (w' := w6) m0 (by repeat (first | with_reducible assumption | exact Below.refl _ _ | refine below_next (by with_reducible assumption) ?_))
  have v1 := carry (w' := w6) m1 (by repeat (first | with_reducible assumption | exact Below.refl _ _ | refine below_next (by with_reducible assumption) ?_))
  have v2 := carry (w' := w6) m2 (by repeat (first | with_reducible assumption | exact Below.refl _ _ | refine below_next (by with_reducible assumption) ?_))
  have v3 := carry (w' := w6) m3 (by repeat (first | with_reducible assumption | exact Below.refl _ _ | refine below_next (by with_reducible assumption) ?_))
  have v4 := carry (w' := w6) m4 (by repeat (first | with_reducible assumption | exact Below.refl _ _ | refine below_next (by with_reducible assumption) ?_))
  have kM6 := carryK (w' := w6) kM (by repeat (first | with_reducible assumption | exact Below.refl _ _ | refine below_next (by with_reducible assumption) ?_))
  have hbw6 : Below w.heap.size w w6 := (by repeat (first | with_reducible assumption | exact Below.refl _ _ | refine below_next (by with_reducible assumption) ?_))
  have hR6 := carry hR hbw6
  have hV6c := hV.con.carry hbw6
  have hV6t := hV.tur.carry hbw6
  clear m0 m1 m2 m3 m4 kM hb1 hb3 hb4 hb6 rA2
  go_wp2_with fail
  clear cA
  go_loopw [73] (fun v wq => ∃ i : Nat, i ≤ 5 ∧ v = .int .i64 i ∧ Below w6.heap.size w6 wq) (fun v _ => 5 - (intOf v).toNat)
  case atStart => exact ⟨0, by omega, rfl, Below.refl _ _⟩
  case round =>
    rename World => wq
    obtain ⟨i, hi, rfl, hbq⟩ := hrel
    have hc : i = 0 ∨ i = 1 ∨ i = 2 ∨ i = 3 ∨ i = 4 ∨ i = 5 := by omega
    rcases hc with rfl | rfl | rfl | rfl | rfl | rfl
    · skip
      have ri : ∀ W, (Instr.index 32 (.agg #[.slice M0 La.length d0, .slice M1 Lb.length d1, .slice M2 Lc.length d2, .slice M3 Ld.length d3, .slice M4 Le.length d4]) (.int .i64 0)).run Tryd.prog W = .ok (.slice M0 (La).length d0) W := fun _ => by kernel_rfl
      have g6 : ¬ (6 : Int) < ((La).length : Int) := by have := fa.out.len; omega
      rcases Nat.eq_zero_or_pos (La).length with hz | hz
      · have g0 : ¬ (0 : Int) < ((La).length : Int) := by omega
        clear hz
        go_wp2_with fail
        go_loopw [95] (fun v wr => ∃ k : Nat, k ≤ (La).length ∧ v = .int .i64 k ∧ Below w6.heap.size w6 wr) (fun v _ => (La).length - (intOf v).toNat)
        case atStart => exact ⟨0, by omega, rfl, hbq⟩
        case round =>
          rename World => wi
          obtain ⟨k, hk, rfl, hbi⟩ := hrel
          by_cases hlt : k < (La).length
          · obtain ⟨ad2, x, e2, _, hx2, hc2⟩ := reads_at (carry v0 hbi) hlt
            have hxx := fa.out.all x (List.mem_of_getElem? hx2)
            have q0 : ¬ x < 0 := by omega
            have q1 : ¬ (10000000 : Int) < x := by omega
            clear hx2 hxx
            go_wp2_with fail
            go_roundw
            case rel => exact ⟨k + 1, by omega, by go_num, hbi⟩
            case measure => simp [intOf]; omega
          · obtain rfl : k = (La).length := by omega
            go_wp2_with fail
            go_roundw
            case rel => exact ⟨0 + 1, by omega, rfl, hbi⟩
            case measure => simp [intOf]
      · obtain ⟨ad, xl, rfl, had, hx, hcl⟩ := reads_at (carry v0 hbq) (show (La).length - 1 < (La).length by omega)
        have g0 : (0 : Int) < ((La).length : Int) := by omega
        have hk1 : (((La).length : Int) - 1) = (((La).length - 1 : Nat) : Int) := by omega
        have t1 : (xl == 0) = false := by
          rcases fa.out.last with q | q
          · rw [q] at hz; simp at hz
          · rw [co_get hx] at q; simpa using q
        clear hx had
        go_wp2_with fail
        go_loopw [95] (fun v wr => ∃ k : Nat, k ≤ (La).length ∧ v = .int .i64 k ∧ Below w6.heap.size w6 wr) (fun v _ => (La).length - (intOf v).toNat)
        case atStart => exact ⟨0, by omega, rfl, hbq⟩
        case round =>
          rename World => wi
          obtain ⟨k, hk, rfl, hbi⟩ := hrel
          by_cases hlt : k < (La).length
          · obtain ⟨ad2, x, e2, _, hx2, hc2⟩ := reads_at (carry v0 hbi) hlt
            have hxx := fa.out.all x (List.mem_of_getElem? hx2)
            have q0 : ¬ x < 0 := by omega
            have q1 : ¬ (10000000 : Int) < x := by omega
            clear hx2 hxx
            go_wp2_with fail
            go_roundw
            case rel => exact ⟨k + 1, by omega, by go_num, hbi⟩
            case measure => simp [intOf]; omega
          · obtain rfl : k = (La).length := by omega
            go_wp2_with fail
            go_roundw
            case rel => exact ⟨0 + 1, by omega, rfl, hbi⟩
            case measure => simp [intOf]
    · skip
      have ri : ∀ W, (Instr.index 32 (.agg #[.slice M0 La.length d0, .slice M1 Lb.length d1, .slice M2 Lc.length d2, .slice M3 Ld.length d3, .slice M4 Le.length d4]) (.int .i64 1)).run Tryd.prog W = .ok (.slice M1 (Lb).length d1) W := fun _ => by kernel_rfl
      have g6 : ¬ (6 : Int) < ((Lb).length : Int) := by have := fb.out.len; omega
      rcases Nat.eq_zero_or_pos (Lb).length with hz | hz
      · have g0 : ¬ (0 : Int) < ((Lb).length : Int) := by omega
        clear hz
        go_wp2_with fail
        go_loopw [95] (fun v wr => ∃ k : Nat, k ≤ (Lb).length ∧ v = .int .i64 k ∧ Below w6.heap.size w6 wr) (fun v _ => (Lb).length - (intOf v).toNat)
        case atStart => exact ⟨0, by omega, rfl, hbq⟩
        case round =>
          rename World => wi
          obtain ⟨k, hk, rfl, hbi⟩ := hrel
          by_cases hlt : k < (Lb).length
          · obtain ⟨ad2, x, e2, _, hx2, hc2⟩ := reads_at (carry v1 hbi) hlt
            have hxx := fb.out.all x (List.mem_of_getElem? hx2)
            have q0 : ¬ x < 0 := by omega
            have q1 : ¬ (10000000 : Int) < x := by omega
            clear hx2 hxx
            go_wp2_with fail
            go_roundw
            case rel => exact ⟨k + 1, by omega, by go_num, hbi⟩
            case measure => simp [intOf]; omega
          · obtain rfl : k = (Lb).length := by omega
            go_wp2_with fail
            go_roundw
            case rel => exact ⟨1 + 1, by omega, rfl, hbi⟩
            case measure => simp [intOf]
      · obtain ⟨ad, xl, rfl, had, hx, hcl⟩ := reads_at (carry v1 hbq) (show (Lb).length - 1 < (Lb).length by omega)
        have g0 : (0 : Int) < ((Lb).length : Int) := by omega
        have hk1 : (((Lb).length : Int) - 1) = (((Lb).length - 1 : Nat) : Int) := by omega
        have t1 : (xl == 0) = false := by
          rcases fb.out.last with q | q
          · rw [q] at hz; simp at hz
          · rw [co_get hx] at q; simpa using q
        clear hx had
        go_wp2_with fail
        go_loopw [95] (fun v wr => ∃ k : Nat, k ≤ (Lb).length ∧ v = .int .i64 k ∧ Below w6.heap.size w6 wr) (fun v _ => (Lb).length - (intOf v).toNat)
        case atStart => exact ⟨0, by omega, rfl, hbq⟩
        case round =>
          rename World => wi
          obtain ⟨k, hk, rfl, hbi⟩ := hrel
          by_cases hlt : k < (Lb).length
          · obtain ⟨ad2, x, e2, _, hx2, hc2⟩ := reads_at (carry v1 hbi) hlt
            have hxx := fb.out.all x (List.mem_of_getElem? hx2)
            have q0 : ¬ x < 0 := by omega
            have q1 : ¬ (10000000 : Int) < x := by omega
            clear hx2 hxx
            go_wp2_with fail
            go_roundw
            case rel => exact ⟨k + 1, by omega, by go_num, hbi⟩
            case measure => simp [intOf]; omega
          · obtain rfl : k = (Lb).length := by omega
            go_wp2_with fail
            go_roundw
            case rel => exact ⟨1 + 1, by omega, rfl, hbi⟩
            case measure => simp [intOf]
    · skip
      have ri : ∀ W, (Instr.index 32 (.agg #[.slice M0 La.length d0, .slice M1 Lb.length d1, .slice M2 Lc.length d2, .slice M3 Ld.length d3, .slice M4 Le.length d4]) (.int .i64 2)).run Tryd.prog W = .ok (.slice M2 (Lc).length d2) W := fun _ => by kernel_rfl
      have g6 : ¬ (6 : Int) < ((Lc).length : Int) := by have := fc.out.len; omega
      rcases Nat.eq_zero_or_pos (Lc).length with hz | hz
      · have g0 : ¬ (0 : Int) < ((Lc).length : Int) := by omega
        clear hz
        go_wp2_with fail
        go_loopw [95] (fun v wr => ∃ k : Nat, k ≤ (Lc).length ∧ v = .int .i64 k ∧ Below w6.heap.size w6 wr) (fun v _ => (Lc).length - (intOf v).toNat)
        case atStart => exact ⟨0, by omega, rfl, hbq⟩
        case round =>
          rename World => wi
          obtain ⟨k, hk, rfl, hbi⟩ := hrel
          by_cases hlt : k < (Lc).length
          · obtain ⟨ad2, x, e2, _, hx2, hc2⟩ := reads_at (carry v2 hbi) hlt
            have hxx := fc.out.all x (List.mem_of_getElem? hx2)
            have q0 : ¬ x < 0 := by omega
            have q1 : ¬ (10000000 : Int) < x := by omega
            clear hx2 hxx
            go_wp2_with fail
            go_roundw
            case rel => exact ⟨k + 1, by omega, by go_num, hbi⟩
            case measure => simp [intOf]; omega
          · obtain rfl : k = (Lc).length := by omega
            go_wp2_with fail
            go_roundw
            case rel => exact ⟨2 + 1, by omega, rfl, hbi⟩
            case measure => simp [intOf]
      · obtain ⟨ad, xl, rfl, had, hx, hcl⟩ := reads_at (carry v2 hbq) (show (Lc).length - 1 < (Lc).length by omega)
        have g0 : (0 : Int) < ((Lc).length : Int) := by omega
        have hk1 : (((Lc).length : Int) - 1) = (((Lc).length - 1 : Nat) : Int) := by omega
        have t1 : (xl == 0) = false := by
          rcases fc.out.last with q | q
          · rw [q] at hz; simp at hz
          · rw [co_get hx] at q; simpa using q
        clear hx had
        go_wp2_with fail
        go_loopw [95] (fun v wr => ∃ k : Nat, k ≤ (Lc).length ∧ v = .int .i64 k ∧ Below w6.heap.size w6 wr) (fun v _ => (Lc).length - (intOf v).toNat)
        case atStart => exact ⟨0, by omega, rfl, hbq⟩
        case round =>
          rename World => wi
          obtain ⟨k, hk, rfl, hbi⟩ := hrel
          by_cases hlt : k < (Lc).length
          · obtain ⟨ad2, x, e2, _, hx2, hc2⟩ := reads_at (carry v2 hbi) hlt
            have hxx := fc.out.all x (List.mem_of_getElem? hx2)
            have q0 : ¬ x < 0 := by omega
            have q1 : ¬ (10000000 : Int) < x := by omega
            clear hx2 hxx
            go_wp2_with fail
            go_roundw
            case rel => exact ⟨k + 1, by omega, by go_num, hbi⟩
            case measure => simp [intOf]; omega
          · obtain rfl : k = (Lc).length := by omega
            go_wp2_with fail
            go_roundw
            case rel => exact ⟨2 + 1, by omega, rfl, hbi⟩
            case measure => simp [intOf]
    · skip
      have ri : ∀ W, (Instr.index 32 (.agg #[.slice M0 La.length d0, .slice M1 Lb.length d1, .slice M2 Lc.length d2, .slice M3 Ld.length d3, .slice M4 Le.length d4]) (.int .i64 3)).run Tryd.prog W = .ok (.slice M3 (Ld).length d3) W := fun _ => by kernel_rfl
      have g6 : ¬ (6 : Int) < ((Ld).length : Int) := by have := fd.out.len; omega
      rcases Nat.eq_zero_or_pos (Ld).length with hz | hz
      · have g0 : ¬ (0 : Int) < ((Ld).length : Int) := by omega
        clear hz
        go_wp2_with fail
        go_loopw [95] (fun v wr => ∃ k : Nat, k ≤ (Ld).length ∧ v = .int .i64 k ∧ Below w6.heap.size w6 wr) (fun v _ => (Ld).length - (intOf v).toNat)
        case atStart => exact ⟨0, by omega, rfl, hbq⟩
        case round =>
          rename World => wi
          obtain ⟨k, hk, rfl, hbi⟩ := hrel
          by_cases hlt : k < (Ld).length
          · obtain ⟨ad2, x, e2, _, hx2, hc2⟩ := reads_at (carry v3 hbi) hlt
            have hxx := fd.out.all x (List.mem_of_getElem? hx2)
            have q0 : ¬ x < 0 := by omega
            have q1 : ¬ (10000000 : Int) < x := by omega
            clear hx2 hxx
            go_wp2_with fail
            go_roundw
            case rel => exact ⟨k + 1, by omega, by go_num, hbi⟩
            case measure => simp [intOf]; omega
          · obtain rfl : k = (Ld).length := by omega
            go_wp2_with fail
            go_roundw
            case rel => exact ⟨3 + 1, by omega, rfl, hbi⟩
            case measure => simp [intOf]
      · obtain ⟨ad, xl, rfl, had, hx, hcl⟩ := reads_at (carry v3 hbq) (show (Ld).length - 1 < (Ld).length by omega)
        have g0 : (0 : Int) < ((Ld).length : Int) := by omega
        have hk1 : (((Ld).length : Int) - 1) = (((Ld).length - 1 : Nat) : Int) := by omega
        have t1 : (xl == 0) = false := by
          rcases fd.out.last with q | q
          · rw [q] at hz; simp at hz
          · rw [co_get hx] at q; simpa using q
        clear hx had
        go_wp2_with fail
        go_loopw [95] (fun v wr => ∃ k : Nat, k ≤ (Ld).length ∧ v = .int .i64 k ∧ Below w6.heap.size w6 wr) (fun v _ => (Ld).length - (intOf v).toNat)
        case atStart => exact ⟨0, by omega, rfl, hbq⟩
        case round =>
          rename World => wi
          obtain ⟨k, hk, rfl, hbi⟩ := hrel
          by_cases hlt : k < (Ld).length
          · obtain ⟨ad2, x, e2, _, hx2, hc2⟩ := reads_at (carry v3 hbi) hlt
            have hxx := fd.out.all x (List.mem_of_getElem? hx2)
            have q0 : ¬ x < 0 := by omega
            have q1 : ¬ (10000000 : Int) < x := by omega
            clear hx2 hxx
            go_wp2_with fail
            go_roundw
            case rel => exact ⟨k + 1, by omega, by go_num, hbi⟩
            case measure => simp [intOf]; omega
          · obtain rfl : k = (Ld).length := by omega
            go_wp2_with fail
            go_roundw
            case rel => exact ⟨3 + 1, by omega, rfl, hbi⟩
            case measure => simp [intOf]
    · skip
      have ri : ∀ W, (Instr.index 32 (.agg #[.slice M0 La.length d0, .slice M1 Lb.length d1, .slice M2 Lc.length d2, .slice M3 Ld.length d3, .slice M4 Le.length d4]) (.int .i64 4)).run Tryd.prog W = .ok (.slice M4 (Le).length d4) W := fun _ => by kernel_rfl
      have g6 : ¬ (6 : Int) < ((Le).length : Int) := by have := fe.out.len; omega
      rcases Nat.eq_zero_or_pos (Le).length with hz | hz
      · have g0 : ¬ (0 : Int) < ((Le).length : Int) := by omega
        clear hz
        go_wp2_with fail
        go_loopw [95] (fun v wr => ∃ k : Nat, k ≤ (Le).length ∧ v = .int .i64 k ∧ Below w6.heap.size w6 wr) (fun v _ => (Le).length - (intOf v).toNat)
        case atStart => exact ⟨0, by omega, rfl, hbq⟩
        case round =>
          rename World => wi
          obtain ⟨k, hk, rfl, hbi⟩ := hrel
          by_cases hlt : k < (Le).length
          · obtain ⟨ad2, x, e2, _, hx2, hc2⟩ := reads_at (carry v4 hbi) hlt
            have hxx := fe.out.all x (List.mem_of_getElem? hx2)
            have q0 : ¬ x < 0 := by omega
            have q1 : ¬ (10000000 : Int) < x := by omega
            clear hx2 hxx
            go_wp2_with fail
            go_roundw
            case rel => exact ⟨k + 1, by omega, by go_num, hbi⟩
            case measure => simp [intOf]; omega
          · obtain rfl : k = (Le).length := by omega
            go_wp2_with fail
            go_roundw
            case rel => exact ⟨4 + 1, by omega, rfl, hbi⟩
            case measure => simp [intOf]
      · obtain ⟨ad, xl, rfl, had, hx, hcl⟩ := reads_at (carry v4 hbq) (show (Le).length - 1 < (Le).length by omega)
        have g0 : (0 : Int) < ((Le).length : Int) := by omega
        have hk1 : (((Le).length : Int) - 1) = (((Le).length - 1 : Nat) : Int) := by omega
        have t1 : (xl == 0) = false := by
          rcases fe.out.last with q | q
          · rw [q] at hz; simp at hz
          · rw [co_get hx] at q; simpa using q
        clear hx had
        go_wp2_with fail
        go_loopw [95] (fun v wr => ∃ k : Nat, k ≤ (Le).length ∧ v = .int .i64 k ∧ Below w6.heap.size w6 wr) (fun v _ => (Le).length - (intOf v).toNat)
        case atStart => exact ⟨0, by omega, rfl, hbq⟩
        case round =>
          rename World => wi
          obtain ⟨k, hk, rfl, hbi⟩ := hrel
          by_cases hlt : k < (Le).length
          · obtain ⟨ad2, x, e2, _, hx2, hc2⟩ := reads_at (carry v4 hbi) hlt
            have hxx := fe.out.all x (List.mem_of_getElem? hx2)
            have q0 : ¬ x < 0 := by omega
            have q1 : ¬ (10000000 : Int) < x := by omega
            clear hx2 hxx
            go_wp2_with fail
            go_roundw
            case rel => exact ⟨k + 1, by omega, by go_num, hbi⟩
            case measure => simp [intOf]; omega
          · obtain rfl : k = (Le).length := by omega
            go_wp2_with fail
            go_roundw
            case rel => exact ⟨4 + 1, by omega, rfl, hbi⟩
            case measure => simp [intOf]
    · go_wp2_with fail
      go_loopw [15] (fun v wr => ∃ f : Int, 1 ≤ f ∧ f ≤ 9 ∧ v = .int .i64 f ∧ Below w6.heap.size w6 wr) (fun v _ => (9 - intOf v).toNat)
      case atStart => exact ⟨1, by omega, by omega, rfl, hbq⟩
      case round =>
        rename World => wf
        obtain ⟨f, f1, f9, rfl, hbf⟩ := hrel
        clear hbq
        by_cases hlt : f ≤ 8
        · obtain ⟨ea, eb, ec, ed, ee⟩ := HEV.out f
          have hat : atErr l f = 0 := by unfold atErr; rw [HL.out, rng_zero.2 ⟨f1, hlt⟩]; rfl
          obtain ⟨M, hM⟩ : ∃ M, chn f .id l = M := ⟨_, rfl⟩
          obtain ⟨D, hD⟩ : ∃ D, dvs f .one l = D := ⟨_, rfl⟩
          rw [hM] at ea eb ec ed
          rw [hD] at ee
          have HCH : Hid (∀ A c w, Con w → Reads w w.heap.size 3 A n (els l) → Calls Tryd.prog 9 #[.slice A n c, .int .i64 f] w fun e w' => e = .returned (.tuple #[.agg #[.int .i64 M.a.re, .int .i64 M.a.im, .int .i64 M.b.re, .int .i64 M.b.im, .int .i64 M.c.re, .int .i64 M.c.im, .int .i64 M.d.re, .int .i64 M.d.im], .int .i64 0]) ∧ Below w.heap.size w w') := fun A c w hC hR => by rw [← hM]; exact Chain_ok l f A n c w hC hat (by omega) hR
          have HDV : Hid (∀ A c w, Con w → Reads w w.heap.size 3 A n (els l) → Calls Tryd.prog 10 #[.slice A n c, .int .i64 f] w fun e w' => e = .returned (.tuple #[.agg #[.int .i64 D.re, .int .i64 D.im], .int .i64 0]) ∧ Below w.heap.size w w') := fun A c w hC hR => by rw [← hD]; exact Divisor_ok l f A n c w hC hat (by omega) hR
          have W0 := hide (fun A c w (hC : Con w) (hT : Tur w) (hR : Reads w w.heap.size 1 A La.length (ints La)) => ea ▸ Value_ok La f A La.length c w hC hT (fine_val fa.out f1 hlt) (by omega) hR)
          have W1 := hide (fun A c w (hC : Con w) (hT : Tur w) (hR : Reads w w.heap.size 1 A Lb.length (ints Lb)) => eb ▸ Value_ok Lb f A Lb.length c w hC hT (fine_val fb.out f1 hlt) (by omega) hR)
          have W2 := hide (fun A c w (hC : Con w) (hT : Tur w) (hR : Reads w w.heap.size 1 A Lc.length (ints Lc)) => ec ▸ Value_ok Lc f A Lc.length c w hC hT (fine_val fc.out f1 hlt) (by omega) hR)
          have W3 := hide (fun A c w (hC : Con w) (hT : Tur w) (hR : Reads w w.heap.size 1 A Ld.length (ints Ld)) => ed ▸ Value_ok Ld f A Ld.length c w hC hT (fine_val fd.out f1 hlt) (by omega) hR)
          have W4 := hide (fun A c w (hC : Con w) (hT : Tur w) (hR : Reads w w.heap.size 1 A Le.length (ints Le)) => ee ▸ Value_ok Le f A Le.length c w hC hT (fine_val fe.out f1 hlt) (by omega) hR)
          clear hat hM hD ea eb ec ed ee
          go_wp2_with fail
          refine (ladder_lad A n c l _ (carry hR (by repeat (first | with_reducible assumption | exact Below.refl _ _ | refine below_next (by with_reducible assumption) ?_))) (by omega)).mono ?_
          rintro e y2 ⟨A7, cA7, rfl, rA7, hby2⟩
          go_wp2_with fail
          refine (HCH.out A7 cA7 _ (hV.con.carry (by repeat (first | with_reducible assumption | exact Below.refl _ _ | refine below_next (by with_reducible assumption) ?_))) rA7).mono ?_
          rintro e y3 ⟨rfl, hy3⟩
          go_upto_region 23 with (fail)
          obtain ⟨y4, ey4, hy4, hyz4, kC⟩ := box1 y3 #[.int .i64 M.a.re, .int .i64 M.a.im, .int .i64 M.b.re, .int .i64 M.b.im, .int .i64 M.c.re, .int .i64 M.c.im, .int .i64 M.d.re, .int .i64 M.d.im] 36
          rw [← ey4]; clear ey4
          go_wp2_with fail
          refine (ladder_lad A n c l _ (carry hR (by repeat (first | with_reducible assumption | exact Below.refl _ _ | refine below_next (by with_reducible assumption) ?_))) (by omega)).mono ?_
          rintro e y5 ⟨A8, cA8, rfl, rA8, hby5⟩
          go_wp2_with fail
          refine (HDV.out A8 cA8 _ (hV.con.carry (by repeat (first | with_reducible assumption | exact Below.refl _ _ | refine below_next (by with_reducible assumption) ?_))) rA8).mono ?_
          rintro e y6 ⟨rfl, hy6⟩
          go_upto_region 24 with (fail)
          obtain ⟨wd, ey7, hy7, hyz7, kD⟩ := box1 y6 #[.int .i64 D.re, .int .i64 D.im] 34
          rw [← ey7]; clear ey7
          have cC := (carryK (w' := wd) kC (by repeat (first | with_reducible assumption | exact Below.refl _ _ | refine below_next (by with_reducible assumption) ?_))).cell
          have cD := kD.cell
          have kAll := carryK (w' := wd) kA (by repeat (first | with_reducible assumption | exact Below.refl _ _ | refine below_next (by with_reducible assumption) ?_))
          have hbd : Below w6.heap.size w6 wd := (by repeat (first | with_reducible assumption | exact Below.refl _ _ | refine below_next (by with_reducible assumption) ?_))
          clear kC kD hy3 hy4 hy6 hy7 hyz4 hyz7 rA7 rA8 hby2 hby5
          go_wp2_with fail
          clear cC cD
          go_loopw [141] (fun v wr => ∃ i : Nat, i ≤ 5 ∧ v = .int .i64 i ∧ Below wd.heap.size wd wr) (fun v _ => 5 - (intOf v).toNat)
          case atStart => exact ⟨0, by omega, rfl, Below.refl _ _⟩
          case round =>
            rename World => wj
            obtain ⟨i, hi, rfl, hbj⟩ := hrel
            have hc : i = 0 ∨ i = 1 ∨ i = 2 ∨ i = 3 ∨ i = 4 ∨ i = 5 := by omega
            rcases hc with rfl | rfl | rfl | rfl | rfl | rfl
            · skip
              have ri : ∀ W, (Instr.index 41 (.agg #[.int .i64 M.a.re, .int .i64 M.a.im, .int .i64 M.b.re, .int .i64 M.b.im, .int .i64 M.c.re, .int .i64 M.c.im, .int .i64 M.d.re, .int .i64 M.d.im, .int .i64 D.re, .int .i64 D.im]) (.int .i64 0)).run Tryd.prog W = .ok (.agg #[.int .i64 M.a.re, .int .i64 M.a.im]) W := fun _ => by kernel_rfl
              go_upto_region 29 with (fail)
              obtain ⟨x1, ex1, hx1, hxz1, kz⟩ := box1 wj #[.int .i64 M.a.re, .int .i64 M.a.im] 34
              rw [← ex1]; clear ex1
              have ca := (carryK (w' := x1) kAll (by repeat (first | with_reducible assumption | exact Below.refl _ _ | refine below_next (by with_reducible assumption) ?_))).cell
              have cal := (carryK (w' := x1) kAll (by repeat (first | with_reducible assumption | exact Below.refl _ _ | refine below_next (by with_reducible assumption) ?_))).lt
              go_wp2_with (at_builtin; refine wpList_copied x1 rfl (.tmp 146) (.tmp 149) 25 (by rfl) 3 (.int .i64 0) 1 8 Tryd.underlying25 info_int rfl (by decide) (by decide) (by rfl) M0 (La).length d0 (ints La) (by rfl) (carry v0 (by repeat (first | with_reducible assumption | exact Below.refl _ _ | refine below_next (by with_reducible assumption) ?_))) (ints_one _) (by have := fa.out.len; omega) ?_; intro A3 c3 x2 r3 hx2)
              clear ca cal
              go_wp2_with fail
              refine (W0.out A3 c3 _ (hV.con.carry (by repeat (first | with_reducible assumption | exact Below.refl _ _ | refine below_next (by with_reducible assumption) ?_))) (hV.tur.carry (by repeat (first | with_reducible assumption | exact Below.refl _ _ | refine below_next (by with_reducible assumption) ?_))) r3).mono ?_
              rintro e x3 ⟨rfl, hx3⟩
              go_upto_region 30 with (fail)
              obtain ⟨x4, ex4, hx4, hxz4, kv⟩ := box1 x3 #[.int .i64 M.a.re, .int .i64 M.a.im] 34
              rw [← ex4]; clear ex4
              have cz := (carryK (w' := x4) kz (by repeat (first | with_reducible assumption | exact Below.refl _ _ | refine below_next (by with_reducible assumption) ?_))).cell
              have cv := kv.cell
              have qz := fun W => reflG_ne M.a W
              have hbn : Below wd.heap.size wd x4 := (by repeat (first | with_reducible assumption | exact Below.refl _ _ | refine below_next (by with_reducible assumption) ?_))
              clear kz kv hx1 hx2 hx3 hx4 hxz1 hxz4 hbj r3
              go_wp2_with fail
              go_roundw
              case rel => exact ⟨0 + 1, by omega, rfl, hbn⟩
              case measure => simp [intOf]
            · skip
              have ri : ∀ W, (Instr.index 41 (.agg #[.int .i64 M.a.re, .int .i64 M.a.im, .int .i64 M.b.re, .int .i64 M.b.im, .int .i64 M.c.re, .int .i64 M.c.im, .int .i64 M.d.re, .int .i64 M.d.im, .int .i64 D.re, .int .i64 D.im]) (.int .i64 1)).run Tryd.prog W = .ok (.agg #[.int .i64 M.b.re, .int .i64 M.b.im]) W := fun _ => by kernel_rfl
              go_upto_region 29 with (fail)
              obtain ⟨x1, ex1, hx1, hxz1, kz⟩ := box1 wj #[.int .i64 M.b.re, .int .i64 M.b.im] 34
              rw [← ex1]; clear ex1
              have ca := (carryK (w' := x1) kAll (by repeat (first | with_reducible assumption | exact Below.refl _ _ | refine below_next (by with_reducible assumption) ?_))).cell
              have cal := (carryK (w' := x1) kAll (by repeat (first | with_reducible assumption | exact Below.refl _ _ | refine below_next (by with_reducible assumption) ?_))).lt
              go_wp2_with (at_builtin; refine wpList_copied x1 rfl (.tmp 146) (.tmp 149) 25 (by rfl) 3 (.int .i64 0) 1 8 Tryd.underlying25 info_int rfl (by decide) (by decide) (by rfl) M1 (Lb).length d1 (ints Lb) (by rfl) (carry v1 (by repeat (first | with_reducible assumption | exact Below.refl _ _ | refine below_next (by with_reducible assumption) ?_))) (ints_one _) (by have := fb.out.len; omega) ?_; intro A3 c3 x2 r3 hx2)
              clear ca cal
              go_wp2_with fail
              refine (W1.out A3 c3 _ (hV.con.carry (by repeat (first | with_reducible assumption | exact Below.refl _ _ | refine below_next (by with_reducible assumption) ?_))) (hV.tur.carry (by repeat (first | with_reducible assumption | exact Below.refl _ _ | refine below_next (by with_reducible assumption) ?_))) r3).mono ?_
              rintro e x3 ⟨rfl, hx3⟩
              go_upto_region 30 with (fail)
              obtain ⟨x4, ex4, hx4, hxz4, kv⟩ := box1 x3 #[.int .i64 M.b.re, .int .i64 M.b.im] 34
              rw [← ex4]; clear ex4
              have cz := (carryK (w' := x4) kz (by repeat (first | with_reducible assumption | exact Below.refl _ _ | refine below_next (by with_reducible assumption) ?_))).cell
              have cv := kv.cell
              have qz := fun W => reflG_ne M.b W
              have hbn : Below wd.heap.size wd x4 := (by repeat (first | with_reducible assumption | exact Below.refl _ _ | refine below_next (by with_reducible assumption) ?_))
              clear kz kv hx1 hx2 hx3 hx4 hxz1 hxz4 hbj r3
              go_wp2_with fail
              go_roundw
              case rel => exact ⟨1 + 1, by omega, rfl, hbn⟩
              case measure => simp [intOf]
            · skip
              have ri : ∀ W, (Instr.index 41 (.agg #[.int .i64 M.a.re, .int .i64 M.a.im, .int .i64 M.b.re, .int .i64 M.b.im, .int .i64 M.c.re, .int .i64 M.c.im, .int .i64 M.d.re, .int .i64 M.d.im, .int .i64 D.re, .int .i64 D.im]) (.int .i64 2)).run Tryd.prog W = .ok (.agg #[.int .i64 M.c.re, .int .i64 M.c.im]) W := fun _ => by kernel_rfl
              go_upto_region 29 with (fail)
              obtain ⟨x1, ex1, hx1, hxz1, kz⟩ := box1 wj #[.int .i64 M.c.re, .int .i64 M.c.im] 34
              rw [← ex1]; clear ex1
              have ca := (carryK (w' := x1) kAll (by repeat (first | with_reducible assumption | exact Below.refl _ _ | refine below_next (by with_reducible assumption) ?_))).cell
              have cal := (carryK (w' := x1) kAll (by repeat (first | with_reducible assumption | exact Below.refl _ _ | refine below_next (by with_reducible assumption) ?_))).lt
              go_wp2_with (at_builtin; refine wpList_copied x1 rfl (.tmp 146) (.tmp 149) 25 (by rfl) 3 (.int .i64 0) 1 8 Tryd.underlying25 info_int rfl (by decide) (by decide) (by rfl) M2 (Lc).length d2 (ints Lc) (by rfl) (carry v2 (by repeat (first | with_reducible assumption | exact Below.refl _ _ | refine below_next (by with_reducible assumption) ?_))) (ints_one _) (by have := fc.out.len; omega) ?_; intro A3 c3 x2 r3 hx2)
              clear ca cal
              go_wp2_with fail
              refine (W2.out A3 c3 _ (hV.con.carry (by repeat (first | with_reducible assumption | exact Below.refl _ _ | refine below_next (by with_reducible assumption) ?_))) (hV.tur.carry (by repeat (first | with_reducible assumption | exact Below.refl _ _ | refine below_next (by with_reducible assumption) ?_))) r3).mono ?_
              rintro e x3 ⟨rfl, hx3⟩
              go_upto_region 30 with (fail)
              obtain ⟨x4, ex4, hx4, hxz4, kv⟩ := box1 x3 #[.int .i64 M.c.re, .int .i64 M.c.im] 34
              rw [← ex4]; clear ex4
              have cz := (carryK (w' := x4) kz (by repeat (first | with_reducible assumption | exact Below.refl _ _ | refine below_next (by with_reducible assumption) ?_))).cell
              have cv := kv.cell
              have qz := fun W => reflG_ne M.c W
              have hbn : Below wd.heap.size wd x4 := (by repeat (first | with_reducible assumption | exact Below.refl _ _ | refine below_next (by with_reducible assumption) ?_))
              clear kz kv hx1 hx2 hx3 hx4 hxz1 hxz4 hbj r3
              go_wp2_with fail
              go_roundw
              case rel => exact ⟨2 + 1, by omega, rfl, hbn⟩
              case measure => simp [intOf]
            · skip
              have ri : ∀ W, (Instr.index 41 (.agg #[.int .i64 M.a.re, .int .i64 M.a.im, .int .i64 M.b.re, .int .i64 M.b.im, .int .i64 M.c.re, .int .i64 M.c.im, .int .i64 M.d.re, .int .i64 M.d.im, .int .i64 D.re, .int .i64 D.im]) (.int .i64 3)).run Tryd.prog W = .ok (.agg #[.int .i64 M.d.re, .int .i64 M.d.im]) W := fun _ => by kernel_rfl
              go_upto_region 29 with (fail)
              obtain ⟨x1, ex1, hx1, hxz1, kz⟩ := box1 wj #[.int .i64 M.d.re, .int .i64 M.d.im] 34
              rw [← ex1]; clear ex1
              have ca := (carryK (w' := x1) kAll (by repeat (first | with_reducible assumption | exact Below.refl _ _ | refine below_next (by with_reducible assumption) ?_))).cell
              have cal := (carryK (w' := x1) kAll (by repeat (first | with_reducible assumption | exact Below.refl _ _ | refine below_next (by with_reducible assumption) ?_))).lt
              go_wp2_with (at_builtin; refine wpList_copied x1 rfl (.tmp 146) (.tmp 149) 25 (by rfl) 3 (.int .i64 0) 1 8 Tryd.underlying25 info_int rfl (by decide) (by decide) (by rfl) M3 (Ld).length d3 (ints Ld) (by rfl) (carry v3 (by repeat (first | with_reducible assumption | exact Below.refl _ _ | refine below_next (by with_reducible assumption) ?_))) (ints_one _) (by have := fd.out.len; omega) ?_; intro A3 c3 x2 r3 hx2)
              clear ca cal
              go_wp2_with fail
              refine (W3.out A3 c3 _ (hV.con.carry (by repeat (first | with_reducible assumption | exact Below.refl _ _ | refine below_next (by with_reducible assumption) ?_))) (hV.tur.carry (by repeat (first | with_reducible assumption | exact Below.refl _ _ | refine below_next (by with_reducible assumption) ?_))) r3).mono ?_
              rintro e x3 ⟨rfl, hx3⟩
              go_upto_region 30 with (fail)
              obtain ⟨x4, ex4, hx4, hxz4, kv⟩ := box1 x3 #[.int .i64 M.d.re, .int .i64 M.d.im] 34
              rw [← ex4]; clear ex4
              have cz := (carryK (w' := x4) kz (by repeat (first | with_reducible assumption | exact Below.refl _ _ | refine below_next (by with_reducible assumption) ?_))).cell
              have cv := kv.cell
              have qz := fun W => reflG_ne M.d W
              have hbn : Below wd.heap.size wd x4 := (by repeat (first | with_reducible assumption | exact Below.refl _ _ | refine below_next (by with_reducible assumption) ?_))
              clear kz kv hx1 hx2 hx3 hx4 hxz1 hxz4 hbj r3
              go_wp2_with fail
              go_roundw
              case rel => exact ⟨3 + 1, by omega, rfl, hbn⟩
              case measure => simp [intOf]
            · skip
              have ri : ∀ W, (Instr.index 41 (.agg #[.int .i64 M.a.re, .int .i64 M.a.im, .int .i64 M.b.re, .int .i64 M.b.im, .int .i64 M.c.re, .int .i64 M.c.im, .int .i64 M.d.re, .int .i64 M.d.im, .int .i64 D.re, .int .i64 D.im]) (.int .i64 4)).run Tryd.prog W = .ok (.agg #[.int .i64 D.re, .int .i64 D.im]) W := fun _ => by kernel_rfl
              go_upto_region 29 with (fail)
              obtain ⟨x1, ex1, hx1, hxz1, kz⟩ := box1 wj #[.int .i64 D.re, .int .i64 D.im] 34
              rw [← ex1]; clear ex1
              have ca := (carryK (w' := x1) kAll (by repeat (first | with_reducible assumption | exact Below.refl _ _ | refine below_next (by with_reducible assumption) ?_))).cell
              have cal := (carryK (w' := x1) kAll (by repeat (first | with_reducible assumption | exact Below.refl _ _ | refine below_next (by with_reducible assumption) ?_))).lt
              go_wp2_with (at_builtin; refine wpList_copied x1 rfl (.tmp 146) (.tmp 149) 25 (by rfl) 3 (.int .i64 0) 1 8 Tryd.underlying25 info_int rfl (by decide) (by decide) (by rfl) M4 (Le).length d4 (ints Le) (by rfl) (carry v4 (by repeat (first | with_reducible assumption | exact Below.refl _ _ | refine below_next (by with_reducible assumption) ?_))) (ints_one _) (by have := fe.out.len; omega) ?_; intro A3 c3 x2 r3 hx2)
              clear ca cal
              go_wp2_with fail
              refine (W4.out A3 c3 _ (hV.con.carry (by repeat (first | with_reducible assumption | exact Below.refl _ _ | refine below_next (by with_reducible assumption) ?_))) (hV.tur.carry (by repeat (first | with_reducible assumption | exact Below.refl _ _ | refine below_next (by with_reducible assumption) ?_))) r3).mono ?_
              rintro e x3 ⟨rfl, hx3⟩
              go_upto_region 30 with (fail)
              obtain ⟨x4, ex4, hx4, hxz4, kv⟩ := box1 x3 #[.int .i64 D.re, .int .i64 D.im] 34
              rw [← ex4]; clear ex4
              have cz := (carryK (w' := x4) kz (by repeat (first | with_reducible assumption | exact Below.refl _ _ | refine below_next (by with_reducible assumption) ?_))).cell
              have cv := kv.cell
              have qz := fun W => reflG_ne D W
              have hbn : Below wd.heap.size wd x4 := (by repeat (first | with_reducible assumption | exact Below.refl _ _ | refine below_next (by with_reducible assumption) ?_))
              clear kz kv hx1 hx2 hx3 hx4 hxz1 hxz4 hbj r3
              go_wp2_with fail
              go_roundw
              case rel => exact ⟨4 + 1, by omega, rfl, hbn⟩
              case measure => simp [intOf]
            · go_wp2_with fail
              go_roundw
              case rel =>
                (repeat (apply Exists.intro))
                refine ⟨?_, rfl⟩
                exact ⟨f + 1, by omega, by omega, rfl, (by repeat (first | with_reducible assumption | exact Below.refl _ _ | refine below_next (by with_reducible assumption) ?_))⟩
              case measure =>
                show (9 - (f + 1)).toNat < (9 - f).toNat
                omega
        · obtain rfl : f = 9 := by omega
          go_upto_region 34 with (fail)
          obtain ⟨w7, e7, hb7, hz7, kS0⟩ := box1 wf #[.int .i64 0, .int .i64 0, .int .i64 0, .int .i64 0, .int .i64 0, .int .i64 0, .int .i64 0, .int .i64 0, .int .i64 0, .int .i64 0, .int .i64 0, .int .i64 0] 43
          rw [← e7]; clear e7
          have hbS : Below w6.heap.size w6 w7 := (by repeat (first | with_reducible assumption | exact Below.refl _ _ | refine below_next (by with_reducible assumption) ?_))
          obtain ⟨S0, hS0⟩ : ∃ S0, List.replicate 12 (0 : Int) = S0 := ⟨_, rfl⟩
          have HZ := hide hS0
          have HSL0 : Hid (S0.length = 12) := by rw [← hS0]; rfl
          have kS : Blk w7 wf.heap.size 43 (wints (addRows S0 La Ld 0)).toArray := by rw [← hS0]; exact kS0
          obtain ⟨g, hg⟩ : ∃ g, wf.heap.size = g := ⟨_, rfl⟩
          have HG : Hid (w6.heap.size ≤ g) := by rw [← hg]; exact hbf.size
          rw [hg] at kS ⊢
          have cM := (carryK (w' := w7) kM6 hbS).cell
          clear hS0 kS0 hg hb7 hz7 hbf
          go_wp2_with fail
          go_loopw [166] (fun v wq => ∃ i : Nat, i ≤ (La).length ∧ v = .int .i64 i ∧ Blk wq g 43 (wints (addRows (S0) (La) Ld i)).toArray ∧ Below w6.heap.size w6 wq) (fun v _ => (La).length - (intOf v).toNat)
          case atStart => exact ⟨0, by omega, rfl, kS, hbS⟩
          case round =>
            rename World => wo
            obtain ⟨i, hi, rfl, kr, hbr⟩ := hrel
            clear kS hbS
            by_cases hlt : i < (La).length
            · obtain ⟨ad1, x, rfl, _, hx, hcx⟩ := reads_at (carry v0 hbr) hlt
              have HX := hide hx
              have cM := (carryK (w' := wo) kM6 hbr).cell
              clear hx
              go_wp2_with fail
              clear cM
              go_loopw [174] (fun v wq => ∃ k : Nat, k ≤ (Ld).length ∧ v = .int .i64 k ∧ Blk wq g 43 (wints (addPart (addRows (S0) (La) Ld i) i (x) Ld k)).toArray ∧ Below w6.heap.size w6 wq) (fun v _ => (Ld).length - (intOf v).toNat)
              case atStart => exact ⟨0, by omega, rfl, by rw [addPart_zero]; exact kr, hbr⟩
              case round =>
                rename World => wq
                obtain ⟨k, hk, rfl, kq, hbq⟩ := hrel
                clear kr hbr hcx
                by_cases hlt2 : k < (Ld).length
                · obtain ⟨ad2, y, e2, _, hy, hcy⟩ := reads_at (carry v3 hbq) hlt2
                  cases e2
                  have hin : i + k < (addRows (S0) (La) Ld i).length := by rw [addRows_len, HSL0.out]; omega
                  have hcell : wq.cell? ⟨g, i + k, none⟩ = some (.int .i64 (wr (co (addRows (S0) (La) Ld i) (i + k)))) := by
                    rw [kq.cell, List.getElem?_toArray, wints_at (by rw [addPart_len]; exact hin), co_addPart_at hin]
                  have hfro := kq.frozen (i + k)
                  have HY := hide hy
                  have hin2 : i + k < 12 := by rw [addRows_len, HSL0.out] at hin; exact hin
                  have hqlt := kq.lt
                  have hge := HG.out
                  clear hy
                  go_wp2_with fail
                  go_roundw
                  case rel =>
                    have kn := kq.set_ (i + k) (.int .i64 (wr (co (addRows (S0) (La) Ld i) (i + k) + (x) * co Ld k)))
                    rw [wints_set hin] at kn
                    have e := show wrap64 (wr (co (addRows S0 La Ld i) (i + k)) + wrap64 (x * y)) = wr (co (addRows S0 La Ld i) (i + k) + x * co Ld k) by rw [co_get HY.out, wr_is, wr_is, wr_step]
                    rw [e]
                    have hbn := below_set (i := i + k) hbq hge (.int .i64 (wr (co (addRows (S0) (La) Ld i) (i + k) + (x) * co Ld k)))
                    first
                      | exact ⟨k + 1, by omega, by go_num, kn, hbn⟩
                      | ((repeat (apply Exists.intro)); refine ⟨?_, rfl⟩; exact ⟨k + 1, by omega, by go_num, kn, hbn⟩)
                  case measure => simp [intOf]; omega
                · obtain rfl : k = (Ld).length := by omega
                  have kn : Blk wq g 43 (wints (addRows (S0) (La) Ld (i + 1))).toArray := by
                    show Blk wq g 43 (wints (addRow (addRows (S0) (La) Ld i) i (co (La) i) Ld)).toArray
                    rw [show co (La) i = x from co_get HX.out, ← addPart_all]
                    exact kq
                  clear kq
                  go_wp2_with fail
                  go_roundw
                  case rel =>
                    first
                      | exact ⟨i + 1, by omega, by go_num, kn, hbq⟩
                      | ((repeat (apply Exists.intro)); refine ⟨?_, rfl⟩; exact ⟨i + 1, by omega, by go_num, kn, hbq⟩)
                  case measure => simp [intOf]; omega
            · obtain rfl : i = La.length := by omega
              obtain ⟨S1, hS1⟩ : ∃ S1, addRows S0 La Ld La.length = S1 := ⟨_, rfl⟩
              have HSL1 : Hid (S1.length = 12) := by rw [← hS1]; show _ = _; rw [addRows_len]; exact HSL0.out
              rw [hS1] at kr
              have H1 := hide hS1
              have kS : Blk wo g 43 (wints (addRows S1 (Lb.map (-·)) Lc 0)).toArray := kr
              have hbS := hbr
              have cM := (carryK (w' := wo) kM6 hbS).cell
              clear hS1 kr hbr
              go_wp2_with fail
              go_loopw [194] (fun v wq => ∃ i : Nat, i ≤ (Lb).length ∧ v = .int .i64 i ∧ Blk wq g 43 (wints (addRows (S1) (Lb.map (-·)) Lc i)).toArray ∧ Below w6.heap.size w6 wq) (fun v _ => (Lb).length - (intOf v).toNat)
              case atStart => exact ⟨0, by omega, rfl, kS, hbS⟩
              case round =>
                rename World => wo
                obtain ⟨i, hi, rfl, kr, hbr⟩ := hrel
                clear kS hbS
                by_cases hlt : i < (Lb).length
                · obtain ⟨ad1, x, rfl, _, hx, hcx⟩ := reads_at (carry v1 hbr) hlt
                  have HX := hide hx
                  have cM := (carryK (w' := wo) kM6 hbr).cell
                  clear hx
                  go_wp2_with fail
                  clear cM
                  go_loopw [202] (fun v wq => ∃ k : Nat, k ≤ (Lc).length ∧ v = .int .i64 k ∧ Blk wq g 43 (wints (addPart (addRows (S1) (Lb.map (-·)) Lc i) i (-x) Lc k)).toArray ∧ Below w6.heap.size w6 wq) (fun v _ => (Lc).length - (intOf v).toNat)
                  case atStart => exact ⟨0, by omega, rfl, by rw [addPart_zero]; exact kr, hbr⟩
                  case round =>
                    rename World => wq
                    obtain ⟨k, hk, rfl, kq, hbq⟩ := hrel
                    clear kr hbr hcx
                    by_cases hlt2 : k < (Lc).length
                    · obtain ⟨ad2, y, e2, _, hy, hcy⟩ := reads_at (carry v2 hbq) hlt2
                      cases e2
                      have hin : i + k < (addRows (S1) (Lb.map (-·)) Lc i).length := by rw [addRows_len, HSL1.out]; omega
                      have hcell : wq.cell? ⟨g, i + k, none⟩ = some (.int .i64 (wr (co (addRows (S1) (Lb.map (-·)) Lc i) (i + k)))) := by
                        rw [kq.cell, List.getElem?_toArray, wints_at (by rw [addPart_len]; exact hin), co_addPart_at hin]
                      have hfro := kq.frozen (i + k)
                      have HY := hide hy
                      have hin2 : i + k < 12 := by rw [addRows_len, HSL1.out] at hin; exact hin
                      have hqlt := kq.lt
                      have hge := HG.out
                      clear hy
                      go_wp2_with fail
                      go_roundw
                      case rel =>
                        have kn := kq.set_ (i + k) (.int .i64 (wr (co (addRows (S1) (Lb.map (-·)) Lc i) (i + k) + (-x) * co Lc k)))
                        rw [wints_set hin] at kn
                        have e := show wrap64 (wr (co (addRows S1 (Lb.map (-·)) Lc i) (i + k)) - wrap64 (x * y)) = wr (co (addRows S1 (Lb.map (-·)) Lc i) (i + k) + -x * co Lc k) by rw [co_get HY.out, wr_is, wr_is, wr_subV, Int.neg_mul]
                        rw [e]
                        have hbn := below_set (i := i + k) hbq hge (.int .i64 (wr (co (addRows (S1) (Lb.map (-·)) Lc i) (i + k) + (-x) * co Lc k)))
                        first
                          | exact ⟨k + 1, by omega, by go_num, kn, hbn⟩
                          | ((repeat (apply Exists.intro)); refine ⟨?_, rfl⟩; exact ⟨k + 1, by omega, by go_num, kn, hbn⟩)
                      case measure => simp [intOf]; omega
                    · obtain rfl : k = (Lc).length := by omega
                      have kn : Blk wq g 43 (wints (addRows (S1) (Lb.map (-·)) Lc (i + 1))).toArray := by
                        show Blk wq g 43 (wints (addRow (addRows (S1) (Lb.map (-·)) Lc i) i (co (Lb.map (-·)) i) Lc)).toArray
                        rw [show co (Lb.map (-·)) i = -x from by rw [co_neg, co_get HX.out], ← addPart_all]
                        exact kq
                      clear kq
                      go_wp2_with fail
                      go_roundw
                      case rel =>
                        first
                          | exact ⟨i + 1, by omega, by go_num, kn, hbq⟩
                          | ((repeat (apply Exists.intro)); refine ⟨?_, rfl⟩; exact ⟨i + 1, by omega, by go_num, kn, hbq⟩)
                      case measure => simp [intOf]; omega
                · obtain rfl : i = Lb.length := by omega
                  obtain ⟨S2, hS2⟩ : ∃ S2, addRows S1 (Lb.map (-·)) Lc Lb.length = S2 := ⟨_, rfl⟩
                  have HSL2 : Hid (S2.length = 12) := by rw [← hS2]; show _ = _; rw [addRows_len]; exact HSL1.out
                  rw [hS2] at kr
                  have H2 := hide hS2
                  have kS : Blk wo g 43 (wints (addRows S2 (Le.map (-·)) Le 0)).toArray := kr
                  have hbS := hbr
                  clear hS2 kr hbr
                  go_wp2_with fail
                  go_loopw [221] (fun v wq => ∃ i : Nat, i ≤ (Le).length ∧ v = .int .i64 i ∧ Blk wq g 43 (wints (addRows (S2) (Le.map (-·)) Le i)).toArray ∧ Below w6.heap.size w6 wq) (fun v _ => (Le).length - (intOf v).toNat)
                  case atStart => exact ⟨0, by omega, rfl, kS, hbS⟩
                  case round =>
                    rename World => wo
                    obtain ⟨i, hi, rfl, kr, hbr⟩ := hrel
                    clear kS hbS
                    by_cases hlt : i < (Le).length
                    · obtain ⟨ad1, x, rfl, _, hx, hcx⟩ := reads_at (carry v4 hbr) hlt
                      have HX := hide hx
                      have cM := (carryK (w' := wo) kM6 hbr).cell
                      clear hx
                      go_wp2_with fail
                      clear cM
                      go_loopw [228] (fun v wq => ∃ k : Nat, k ≤ (Le).length ∧ v = .int .i64 k ∧ Blk wq g 43 (wints (addPart (addRows (S2) (Le.map (-·)) Le i) i (-x) Le k)).toArray ∧ Below w6.heap.size w6 wq) (fun v _ => (Le).length - (intOf v).toNat)
                      case atStart => exact ⟨0, by omega, rfl, by rw [addPart_zero]; exact kr, hbr⟩
                      case round =>
                        rename World => wq
                        obtain ⟨k, hk, rfl, kq, hbq⟩ := hrel
                        clear kr hbr hcx
                        by_cases hlt2 : k < (Le).length
                        · obtain ⟨ad2, y, e2, _, hy, hcy⟩ := reads_at (carry v4 hbq) hlt2
                          cases e2
                          have hin : i + k < (addRows (S2) (Le.map (-·)) Le i).length := by rw [addRows_len, HSL2.out]; omega
                          have hcell : wq.cell? ⟨g, i + k, none⟩ = some (.int .i64 (wr (co (addRows (S2) (Le.map (-·)) Le i) (i + k)))) := by
                            rw [kq.cell, List.getElem?_toArray, wints_at (by rw [addPart_len]; exact hin), co_addPart_at hin]
                          have hfro := kq.frozen (i + k)
                          have HY := hide hy
                          have hin2 : i + k < 12 := by rw [addRows_len, HSL2.out] at hin; exact hin
                          have hqlt := kq.lt
                          have hge := HG.out
                          clear hy
                          go_wp2_with fail
                          go_roundw
                          case rel =>
                            have kn := kq.set_ (i + k) (.int .i64 (wr (co (addRows (S2) (Le.map (-·)) Le i) (i + k) + (-x) * co Le k)))
                            rw [wints_set hin] at kn
                            have e := show wrap64 (wr (co (addRows S2 (Le.map (-·)) Le i) (i + k)) - wrap64 (x * y)) = wr (co (addRows S2 (Le.map (-·)) Le i) (i + k) + -x * co Le k) by rw [co_get HY.out, wr_is, wr_is, wr_subV, Int.neg_mul]
                            rw [e]
                            have hbn := below_set (i := i + k) hbq hge (.int .i64 (wr (co (addRows (S2) (Le.map (-·)) Le i) (i + k) + (-x) * co Le k)))
                            first
                              | exact ⟨k + 1, by omega, by go_num, kn, hbn⟩
                              | ((repeat (apply Exists.intro)); refine ⟨?_, rfl⟩; exact ⟨k + 1, by omega, by go_num, kn, hbn⟩)
                          case measure => simp [intOf]; omega
                        · obtain rfl : k = (Le).length := by omega
                          have kn : Blk wq g 43 (wints (addRows (S2) (Le.map (-·)) Le (i + 1))).toArray := by
                            show Blk wq g 43 (wints (addRow (addRows (S2) (Le.map (-·)) Le i) i (co (Le.map (-·)) i) Le)).toArray
                            rw [show co (Le.map (-·)) i = -x from by rw [co_neg, co_get HX.out], ← addPart_all]
                            exact kq
                          clear kq
                          go_wp2_with fail
                          go_roundw
                          case rel =>
                            first
                              | exact ⟨i + 1, by omega, by go_num, kn, hbq⟩
                              | ((repeat (apply Exists.intro)); refine ⟨?_, rfl⟩; exact ⟨i + 1, by omega, by go_num, kn, hbq⟩)
                          case measure => simp [intOf]; omega
                    · obtain rfl : i = Le.length := by omega
                      have hfin : addRows S2 (Le.map (-·)) Le Le.length = List.replicate 12 0 := by
                        have := HS.out
                        unfold subRows at this
                        rw [HZ.out, H1.out, H2.out] at this
                        rw [this, HZ.out]
                      rw [hfin] at kr
                      have kE : Blk wo g 43 #[.int .i64 0, .int .i64 0, .int .i64 0, .int .i64 0, .int .i64 0, .int .i64 0, .int .i64 0, .int .i64 0, .int .i64 0, .int .i64 0, .int .i64 0, .int .i64 0] := kr
                      have cE := kE.cell
                      have qN : ∀ W, (binOp .neq 43 (.agg #[.int .i64 0, .int .i64 0, .int .i64 0, .int .i64 0, .int .i64 0, .int .i64 0, .int .i64 0, .int .i64 0, .int .i64 0, .int .i64 0, .int .i64 0, .int .i64 0]) (.agg #[.int .i64 0, .int .i64 0, .int .i64 0, .int .i64 0, .int .i64 0, .int .i64 0, .int .i64 0, .int .i64 0, .int .i64 0, .int .i64 0, .int .i64 0, .int .i64 0])).run Tryd.prog W = .ok (.bool false) W := fun W => by kernel_rfl
                      have hbw : Below w.heap.size w wo := (by repeat (first | with_reducible assumption | exact Below.refl _ _ | refine below_next (by with_reducible assumption) ?_))
                      clear hfin kr kE HS HZ H1 H2 HSL0 HSL1 HSL2 HG HEV HP kA kM6
                      obtain ⟨r1, hr1⟩ : ∃ r, u1 % 8 = r := ⟨_, rfl⟩
                      have m1 : u1.tmod 8 = r1 := by rw [Int.tmod_eq_emod_of_nonneg h1.1]; exact hr1
                      have b1 : 0 ≤ r1 ∧ r1 < 8 := by omega
                      obtain ⟨lo, hlo⟩ : ∃ lo, 1 + r1 = lo := ⟨_, rfl⟩
                      obtain ⟨d, hd⟩ : ∃ d, 8 - lo + 1 = d := ⟨_, rfl⟩
                      have d0 : (d == 0) = false := by simp; omega
                      obtain ⟨r2, hr2⟩ : ∃ r, u2 % d = r := ⟨_, rfl⟩
                      have m2 : u2.tmod d = r2 := by rw [Int.tmod_eq_emod_of_nonneg h2.1]; exact hr2
                      have b2 : 0 ≤ r2 ∧ r2 < d := by rw [← hr2]; exact ⟨Int.emod_nonneg _ (by omega), Int.emod_lt_of_pos _ (by omega)⟩
                      obtain ⟨hi', hhi⟩ : ∃ h, lo + r2 = h := ⟨_, rfl⟩
                      go_upto_region 65 with (fail)
                      clear cE
                      obtain ⟨k, hk⟩ : ∃ k : Nat, (k : Int) = hi' - lo + 1 := ⟨(hi' - lo + 1).toNat, by omega⟩
                      have hte : tabErr l lo hi' = 0 := by rw [tab_form, HL.out, rng_zero.2 ⟨by omega, by omega⟩, rng_zero.2 ⟨by omega, by omega⟩, if_neg (by rw [decide_eq_true_eq]; omega)]; rfl
                      have HT : Hid (∀ A c w, Con w → Reads w w.heap.size 3 A n (els l) → Calls Tryd.prog 12 #[.slice A n c, .int .i64 lo, .int .i64 hi'] w (LvPost l lo k w)) := fun A c w hC h => Table_ok l lo hi' A n c k w hC hte hk (by omega) h
                      have HK : Hid (∀ A c w, Con w → Reads w w.heap.size 3 A n (els l) → Calls Tryd.prog 13 #[.slice A n c, .int .i64 lo, .int .i64 hi'] w (PkPost l lo k w)) := fun A c w hC h => Peak_ok l lo hi' A n c k w hC hte hk (by omega) h
                      have k1 : 1 ≤ k := by omega
                      have lo1 : 1 ≤ lo := by omega
                      have lo8 : lo + k ≤ 9 := by omega
                      have tk : wrap64 (wrap64 (hi' - lo) + 1) = (k : Int) := by unfold wrap64; omega
                      have hk2 : lo + (k : Int) = hi' + 1 := by omega
                      have HKK := hide hk2
                      clear hr1 m1 b1 hlo hd d0 hr2 m2 b2 hhi hk hk2 hte v0 v1 v2 v3 v4 qN h1 h2
                      by_cases hp : noPole l lo k
                      · have hin := fun i x (h : (tab l lo k)[i]? = some x) => tab_in HOK.out lo1 lo8 hp h
                        have HIN := hide hin
                        obtain ⟨P, hP⟩ : ∃ P, pkN (tab l lo k) k = P := ⟨_, rfl⟩
                        have hPk : P < k := by rw [← hP]; exact pkN_lt _ (by omega)
                        have htop : ∀ b, (tab l lo k)[P]? = some b → ∀ i x, i < k → (tab l lo k)[i]? = some x → b.lt x = false ∧ (i < P → x.lt b = true) := by
                          obtain ⟨k', hk'⟩ : ∃ k', k = k' + 1 := ⟨k - 1, by omega⟩
                          intro b hb i x hi hx
                          have hh := pkN_top (t := tab l lo k) (fun x hx => by
                            obtain ⟨j, hj⟩ := List.mem_iff_getElem?.1 hx
                            exact (hin j x hj).pos) k' (by rw [tab_len]; omega) b (by rw [← hk', hP]; exact hb) i x (by omega) hx
                          rw [← hk', hP] at hh
                          exact hh
                        have HTOP := hide htop
                        have HPO := hide hp
                        have gP1 : ¬ lo + (P : Int) < lo := by omega
                        have gP2 : ¬ hi' < lo + (P : Int) := by have := HKK.out; omega
                        have HPP := hide hP
                        clear hin htop hP
                        go_wp2_with fail
                        refine (ladder_lad A n c l _ (carry hR (by repeat (first | with_reducible assumption | exact Below.refl _ _ | refine below_next (by with_reducible assumption) ?_))) (by omega)).mono ?_
                        rintro e z1 ⟨A9, cA9, rfl, rA9, hbz1⟩
                        go_wp2_with fail
                        refine (HT.out A9 cA9 _ (hV.con.carry (by repeat (first | with_reducible assumption | exact Below.refl _ _ | refine below_next (by with_reducible assumption) ?_))) rA9).mono ?_
                        rintro e z2 ⟨hz2, ⟨_, AT, cT, rfl, rT⟩ | ⟨hno, _⟩⟩
                        rotate_left
                        · exact absurd hp hno
                        go_wp2_with fail
                        refine (ladder_lad A n c l _ (carry hR (by repeat (first | with_reducible assumption | exact Below.refl _ _ | refine below_next (by with_reducible assumption) ?_))) (by omega)).mono ?_
                        rintro e z3 ⟨A10, cA10, rfl, rA10, hbz3⟩
                        go_wp2_with fail
                        refine (HK.out A10 cA10 _ (hV.con.carry (by repeat (first | with_reducible assumption | exact Below.refl _ _ | refine below_next (by with_reducible assumption) ?_))) rA10).mono ?_
                        rintro e z4 ⟨hz4, ⟨_, rfl⟩ | ⟨hno, _⟩⟩
                        rotate_left
                        · exact absurd hp hno
                        rw [HPP.out]
                        clear hp HT HK rA9 rA10
                        have rT4 := carry (w' := z4) rT (by repeat (first | with_reducible assumption | exact Below.refl _ _ | refine below_next (by with_reducible assumption) ?_))
                        clear rT
                        go_wp2_with fail
                        go_loopw [305] (fun v wr => ∃ i : Nat, i ≤ k ∧ v = .int .i64 i ∧ Below z4.heap.size z4 wr) (fun v _ => k - (intOf v).toNat)
                        case atStart => exact ⟨0, by omega, rfl, Below.refl _ _⟩
                        case round =>
                          rename World => wl
                          obtain ⟨i, hi, rfl, hbl⟩ := hrel
                          by_cases hlt : i < k
                          · obtain ⟨ad, y, rfl, _, hyk, hcy⟩ := rts_hit (carry rT4 hbl) hlt (Nat.le_refl _)
                            have hyl : lvR l (lo + i) = y := by rw [tab_at hlt] at hyk; exact Option.some.inj hyk
                            have hyp := (HIN.out _ _ hyk).pos
                            have q2 : ¬ y.n < 0 := by have := hyp.n; omega
                            have q3 : ¬ y.d < 1 := by have := hyp.d; omega
                            have hat : atErr l (lo + i) = 0 := by unfold atErr; rw [HL.out, rng_zero.2 ⟨by omega, by omega⟩]; rfl
                            have HLV : Hid (∀ A c w, Con w → Reads w w.heap.size 3 A n (els l) → Calls Tryd.prog 14 #[.slice A n c, .int .i64 (lo + i)] w fun e w' => e = .returned (.tuple #[.agg #[.int .i64 y.n, .int .i64 y.d], .int .i64 0]) ∧ Below w.heap.size w w') := fun A c w hC hR => by rw [← hyl]; exact Level_ok l (lo + i) A n c w hC hat (by omega) hR (HPO.out i hlt)
                            obtain ⟨q0, q1⟩ := hcy wl (Below.refl _ _)
                            clear hyk hyl hyp hat hcy
                            go_upto_region 76 with (fail)
                            obtain ⟨x1, e1, hx1, hxz1, ky⟩ := box1 wl #[.int .i64 y.n, .int .i64 y.d] 50
                            rw [← e1]; clear e1 q0 q1
                            go_wp2_with fail
                            refine (ladder_lad A n c l _ (carry hR (by repeat (first | with_reducible assumption | exact Below.refl _ _ | refine below_next (by with_reducible assumption) ?_))) (by omega)).mono ?_
                            rintro e x2 ⟨A11, cA11, rfl, rA11, hbx2⟩
                            go_wp2_with fail
                            refine (HLV.out A11 cA11 _ (hV.con.carry (by repeat (first | with_reducible assumption | exact Below.refl _ _ | refine below_next (by with_reducible assumption) ?_))) rA11).mono ?_
                            rintro e x3 ⟨rfl, hx3⟩
                            go_upto_region 77 with (fail)
                            obtain ⟨x4, e4, hx4, hxz4, kL⟩ := box1 x3 #[.int .i64 y.n, .int .i64 y.d] 50
                            rw [← e4]; clear e4
                            have cy := (carryK (w' := x4) ky (by repeat (first | with_reducible assumption | exact Below.refl _ _ | refine below_next (by with_reducible assumption) ?_))).cell
                            have cl := kL.cell
                            have hbn : Below z4.heap.size z4 x4 := (by repeat (first | with_reducible assumption | exact Below.refl _ _ | refine below_next (by with_reducible assumption) ?_))
                            clear ky kL HLV rA11 hx1 hx3 hx4 hxz1 hxz4 hbx2 hbl
                            go_wp2_with fail
                            go_roundw
                            case rel =>
                              first
                                | exact ⟨i + 1, by omega, by go_num, hbn⟩
                                | ((repeat (apply Exists.intro)); refine ⟨?_, rfl⟩; exact ⟨i + 1, by omega, by go_num, hbn⟩)
                            case measure => simp [intOf]; omega
                          · obtain rfl : i = k := by omega
                            clear hi hlt
                            go_wp2_with fail
                            go_loopw [339] (fun v wr => ∃ j : Nat, j ≤ i ∧ v = .int .i64 j ∧ Below z4.heap.size z4 wr) (fun v _ => i - (intOf v).toNat)
                            case atStart => exact ⟨0, by omega, rfl, hbl⟩
                            case round =>
                              rename World => wm
                              obtain ⟨j, hj, rfl, hbm⟩ := hrel
                              clear hbl
                              by_cases hlt : j < i
                              · obtain ⟨ad, y, rfl, _, hyk, hcy⟩ := rts_hit (carry rT4 hbm) hlt (Nat.le_refl _)
                                obtain ⟨ad', b, e0, _, hbk, hcb⟩ := rts_hit (carry rT4 hbm) hPk (Nat.le_refl _)
                                cases e0
                                have htp := HTOP.out b hbk j y hlt hyk
                                have HB1 : Hid (∀ W, Calls Tryd.prog 15 #[.agg #[.int .i64 b.n, .int .i64 b.d], .agg #[.int .i64 y.n, .int .i64 y.d]] W fun e w' => e = .returned (.bool false) ∧ Below W.heap.size W w') := fun W => by
                                  have := lessR_any b y W (HIN.out _ _ hbk) (HIN.out _ _ hyk)
                                  rwa [htp.1] at this
                                have HB2 : Hid (j < P → ∀ W, Calls Tryd.prog 15 #[.agg #[.int .i64 y.n, .int .i64 y.d], .agg #[.int .i64 b.n, .int .i64 b.d]] W fun e w' => e = .returned (.bool true) ∧ Below W.heap.size W w') := fun q W => by
                                  have := lessR_any y b W (HIN.out _ _ hyk) (HIN.out _ _ hbk)
                                  rwa [htp.2 q] at this
                                obtain ⟨q0, q1⟩ := hcy wm (Below.refl _ _)
                                clear hyk hbk htp hcy
                                go_upto_region 83 with (fail)
                                obtain ⟨x1, e1, hx1, hxz1, ky⟩ := box1 wm #[.int .i64 y.n, .int .i64 y.d] 50
                                rw [← e1]; clear e1 q0 q1
                                have c0 := over_blk ky ky.lt
                                have q0 : ∀ x, (over x1.heap.size x1 x).cell? (ad.add (P * 2)) = some (.int .i64 b.n) := fun x => (hcb _ (below_next hx1 (over_below _ _ _))).1
                                have q1 : ∀ x, (over x1.heap.size x1 x).cell? ⟨(ad.add (P * 2)).block, (ad.add (P * 2)).off + 1, none⟩ = some (.int .i64 b.d) := fun x => (hcb _ (below_next hx1 (over_below _ _ _))).2
                                have eP : lo + (P : Int) - lo = (P : Int) := by omega
                                by_cases hjp : j < P
                                · have tI : decide (lo + (j : Int) < lo + (P : Int)) = true := decide_eq_true (by omega)
                                  have HB2 := hide (HB2.out hjp)
                                  clear hcb
                                  refine wp_region_over x1.heap.size (by kernel_rfl) (by kernel_rfl) ?_; (repeat (first | go_big_quiet_step ((go_at_call 15; first | with_reducible exact over_call (Nat.le_refl _) (HB1.out _) | with_reducible exact over_call (Nat.le_refl _) (HB2.out _))) | quiet_step ((go_at_call 15; first | with_reducible exact over_call (Nat.le_refl _) (HB1.out _) | with_reducible exact over_call (Nat.le_refl _) (HB2.out _))))); refine wpQuiet_nil ?_; rintro W ⟨x, rfl⟩
                                  have hbY := over_below x1.heap.size x1 x
                                  generalize over x1.heap.size x1 x = Y at hbY ⊢
                                  have hbn : Below z4.heap.size z4 Y := (by repeat (first | with_reducible assumption | exact Below.refl _ _ | refine below_next (by with_reducible assumption) ?_))
                                  clear c0 q0 q1
                                  go_wp2_with fail
                                  go_roundw
                                  case rel =>
                                    first
                                      | exact ⟨j + 1, by omega, by go_num, hbn⟩
                                      | ((repeat (apply Exists.intro)); refine ⟨?_, rfl⟩; exact ⟨j + 1, by omega, by go_num, hbn⟩)
                                  case measure => simp [intOf]; omega
                                · have tI : decide (lo + (j : Int) < lo + (P : Int)) = false := decide_eq_false (by omega)
                                  clear hcb HB2
                                  refine wp_region_over x1.heap.size (by kernel_rfl) (by kernel_rfl) ?_; (repeat (first | go_big_quiet_step ((go_at_call 15; with_reducible exact over_call (Nat.le_refl _) (HB1.out _))) | quiet_step ((go_at_call 15; with_reducible exact over_call (Nat.le_refl _) (HB1.out _))))); refine wpQuiet_nil ?_; rintro W ⟨x, rfl⟩
                                  have hbY := over_below x1.heap.size x1 x
                                  generalize over x1.heap.size x1 x = Y at hbY ⊢
                                  have hbn : Below z4.heap.size z4 Y := (by repeat (first | with_reducible assumption | exact Below.refl _ _ | refine below_next (by with_reducible assumption) ?_))
                                  clear c0 q0 q1
                                  go_wp2_with fail
                                  go_roundw
                                  case rel =>
                                    first
                                      | exact ⟨j + 1, by omega, by go_num, hbn⟩
                                      | ((repeat (apply Exists.intro)); refine ⟨?_, rfl⟩; exact ⟨j + 1, by omega, by go_num, hbn⟩)
                                  case measure => simp [intOf]; omega
                              · go_wp2_with fail
                                refine (awake_any _ (hV.con.carry (by repeat (first | with_reducible assumption | exact Below.refl _ _ | refine below_next (by with_reducible assumption) ?_))) (hV.tur.carry (by repeat (first | with_reducible assumption | exact Below.refl _ _ | refine below_next (by with_reducible assumption) ?_))) (hV.ten.carry (by repeat (first | with_reducible assumption | exact Below.refl _ _ | refine below_next (by with_reducible assumption) ?_)))).mono ?_
                                rintro e wz ⟨rfl, hbz⟩
                                go_wp2_with fail
                                go_ret
                                exact ⟨rfl, (by repeat (first | with_reducible assumption | exact Below.refl _ _ | refine below_next (by with_reducible assumption) ?_))⟩
                      · have t1 : ((17 : Int) != 17) = false := rfl
                        have t2 : ((17 : Int) != 0) = true := rfl
                        go_wp2_with fail
                        refine (ladder_lad A n c l _ (carry hR (by repeat (first | with_reducible assumption | exact Below.refl _ _ | refine below_next (by with_reducible assumption) ?_))) (by omega)).mono ?_
                        rintro e z1 ⟨A9, cA9, rfl, rA9, hbz1⟩
                        go_wp2_with fail
                        refine (HT.out A9 cA9 _ (hV.con.carry (by repeat (first | with_reducible assumption | exact Below.refl _ _ | refine below_next (by with_reducible assumption) ?_))) rA9).mono ?_
                        rintro e z2 ⟨hz2, ⟨hno, _⟩ | ⟨_, rfl⟩⟩
                        · exact absurd hno hp
                        go_wp2_with fail
                        refine (ladder_lad A n c l _ (carry hR (by repeat (first | with_reducible assumption | exact Below.refl _ _ | refine below_next (by with_reducible assumption) ?_))) (by omega)).mono ?_
                        rintro e z3 ⟨A10, cA10, rfl, rA10, hbz3⟩
                        go_wp2_with fail
                        refine (HK.out A10 cA10 _ (hV.con.carry (by repeat (first | with_reducible assumption | exact Below.refl _ _ | refine below_next (by with_reducible assumption) ?_))) rA10).mono ?_
                        rintro e z4 ⟨hz4, ⟨hno, _⟩ | ⟨_, rfl⟩⟩
                        · exact absurd hno hp
                        go_wp2_with fail
                        refine (awake_any _ (hV.con.carry (by repeat (first | with_reducible assumption | exact Below.refl _ _ | refine below_next (by with_reducible assumption) ?_))) (hV.tur.carry (by repeat (first | with_reducible assumption | exact Below.refl _ _ | refine below_next (by with_reducible assumption) ?_))) (hV.ten.carry (by repeat (first | with_reducible assumption | exact Below.refl _ _ | refine below_next (by with_reducible assumption) ?_)))).mono ?_
                        rintro e wz ⟨rfl, hbz⟩
                        go_wp2_with fail
                        go_ret
                        exact ⟨rfl, (by repeat (first | with_reducible assumption | exact Below.refl _ _ | refine below_next (by with_reducible assumption) ?_))⟩
theorem lawVal_any (A : Option Addr) (n c : Nat) (l : List El) (u1 u2 : Int) (w : World) (hV : VarsN w) (hR : Reads w w.heap.size 3 A n (els l)) (h1 : 0 ≤ u1 ∧ u1 ≤ 255) (h2 : 0 ≤ u2 ∧ u2 ≤ 255) :
    Calls Tryd.prog 3 #[.slice A n c, .int .u8 u1, .int .u8 u2] w fun e w' => e = .returned (.bool true) ∧ Below w.heap.size w w' := by
  by_cases he : ladErr l = 0
  · exact lawVal_good A n c l u1 u2 w hV hR h1 h2 he
  · exact lawVal_bad A n c l u1 u2 w hV hR _ rfl he
end Go.Proofs.YtnndaipnfniciaaDoor
