/- The law TopDustLossless. -/
import Derived.Test.YthlnmoecmicofaaDoorNDusP
import Derived.Test.YthlnmoecmicofaaDoorNTee
import Derived.Test.YthlnmoecmicofaaDoorNPow
import Derived.Test.YthlnmoecmicofaaDoorNCalls
import Derived.Test.YthlnmoecmicofaaDoorNRef
import Derived.Deep.DeepCutAuto
namespace Go.Proofs.YthlnmoecmicofaaDoor
open Go.RowKit Go.Shelf
set_option maxRecDepth 100000
theorem pol_ok (A : Option Addr) (n c : Nat) (l : List El) (w : World) (hC : Con w) (h0 : ladErr l = 0) (h : Reads w w.heap.size 3 A n (els l)) (hn : n ≤ 1000000000000) :
    Calls Tryd.prog 23 #[.slice A n c] w fun e w' => ∃ A0 c0 A1 c1 A2 c2 A3 c3 A4 c4, e = .returned (.tuple #[.agg #[.slice A0 (pch .id l).a.length c0, .slice A1 (pch .id l).b.length c1, .slice A2 (pch .id l).c.length c2, .slice A3 (pch .id l).d.length c3], .slice A4 (pdv [1] l).length c4, .int .i64 0]) ∧
      Reads w' w'.heap.size 1 A0 (pch .id l).a.length (ints (pch .id l).a) ∧ Reads w' w'.heap.size 1 A1 (pch .id l).b.length (ints (pch .id l).b) ∧ Reads w' w'.heap.size 1 A2 (pch .id l).c.length (ints (pch .id l).c) ∧ Reads w' w'.heap.size 1 A3 (pch .id l).d.length (ints (pch .id l).d) ∧ Reads w' w'.heap.size 1 A4 (pdv [1] l).length (ints (pdv [1] l)) ∧ Below w.heap.size w w' := by
  refine (Polynomials_ok A n c l w hC h0 h hn).mono fun e w' h => ?_
  obtain ⟨s0, s1, s2, s3, sd, rfl, ⟨ok, hv⟩, hd, hb⟩ := h
  obtain ⟨A0, c0, rfl, r0⟩ := hv.a.sl
  obtain ⟨A1, c1, rfl, r1⟩ := hv.b.sl
  obtain ⟨A2, c2, rfl, r2⟩ := hv.c.sl
  obtain ⟨A3, c3, rfl, r3⟩ := hv.d.sl
  obtain ⟨A4, c4, rfl, r4⟩ := hd
  exact ⟨A0, c0, A1, c1, A2, c2, A3, c3, A4, c4, rfl, r0, r1, r2, r3, r4, hb⟩
theorem at_ofD {l : List El} {f : Int} (h : ladErr l = 0) (h1 : 1 ≤ f) (h8 : f ≤ 8) : atErr l f = 0 := by
  unfold atErr
  rw [fnz_zero]
  simp [h, rng_zero, h1, h8]
theorem dust_wrap {p q : G} {x y : Int} (hp : p.nrm ≤ 2073071593) (hq : q.nrm ≤ 2073071593) (h : (p.re = x ∧ q.re = y) ∨ (p.im = x ∧ q.im = y)) : IntKind.i64.wrap (x * y) = x * y := by
  have h1 : x.natAbs ≤ 2073071593 := by unfold G.nrm at hp; rcases h with h | h <;> omega
  have h2 : y.natAbs ≤ 2073071593 := by unfold G.nrm at hq; rcases h with h | h <;> omega
  have h3 := Nat.mul_le_mul h1 h2
  have h4 := Int.natAbs_mul x y
  exact IntWalk.i64_in _ (by omega)
set_option maxHeartbeats 4000000 in
theorem lawDus_long (A : Option Addr) (n c : Nat) (l : List El) (u : Int) (w : World) (hC : Con w) (hR : Reads w w.heap.size 3 A n (els l)) (hn : 4 < n) :
    Calls Tryd.prog 4 #[.slice A n c, .int .u8 u] w fun e w' => e = .returned (.bool true) ∧ Below w.heap.size w w' := by
  have g1 : (4 : Int) < (n : Int) := by omega
  have hb0 := Below.refl w.heap.size w
  go_enter Tryd.func4, Tryd.ntmps4
  go_wp2_with fail
  refine (tee_any _ (hC.carry (by repeat (first | with_reducible assumption | exact Below.refl _ _ | refine below_next (by with_reducible assumption) ?_)))).mono ?_
  rintro e wz ⟨rfl, hbz⟩
  go_wp2_with fail
  go_ret
  exact ⟨rfl, (by repeat (first | with_reducible assumption | exact Below.refl _ _ | refine below_next (by with_reducible assumption) ?_))⟩
set_option maxHeartbeats 4000000 in
theorem lawDus_bad1 (A : Option Addr) (n c : Nat) (l : List El) (u : Int) (w : World) (hC : Con w) (hR : Reads w w.heap.size 3 A n (els l)) (hn : n ≤ 4) (h1 : (ladErr l != 0) = true) :
    Calls Tryd.prog 4 #[.slice A n c, .int .u8 u] w fun e w' => e = .returned (.bool true) ∧ Below w.heap.size w w' := by
  have g1 : ¬ (4 : Int) < (n : Int) := by omega
  go_enter Tryd.func4, Tryd.ntmps4
  go_wp2_with fail
  refine (rCheckLadder_any A n c l _ hR (by omega)).mono ?_
  rintro e w3 ⟨rfl, hb3⟩
  go_wp2_with fail
  refine (tee_any _ (hC.carry (by repeat (first | with_reducible assumption | exact Below.refl _ _ | refine below_next (by with_reducible assumption) ?_)))).mono ?_
  rintro e wz ⟨rfl, hbz⟩
  go_wp2_with fail
  go_ret
  exact ⟨rfl, (by repeat (first | with_reducible assumption | exact Below.refl _ _ | refine below_next (by with_reducible assumption) ?_))⟩
set_option maxHeartbeats 4000000 in
theorem lawDus_good (A : Option Addr) (n c : Nat) (l : List El) (u : Int) (w : World) (hC : Con w) (hR : Reads w w.heap.size 3 A n (els l)) (hu : 0 ≤ u ∧ u ≤ 255) (hn : n ≤ 4) (h1 : ladErr l = 0) :
    Calls Tryd.prog 4 #[.slice A n c, .int .u8 u] w fun e w' => e = .returned (.bool true) ∧ Below w.heap.size w w' := by
  have g1 : ¬ (4 : Int) < (n : Int) := by omega
  have t1 : (ladErr l != 0) = false := by rw [h1]; rfl
  have hok := lad_ok h1
  have HL := hide (els_reads_len hR)
  have H1 := hide h1
  have HOK := hide hok
  clear h1 hok
  go_enter Tryd.func4, Tryd.ntmps4
  go_wp2_with fail
  refine (rCheckLadder_any A n c l _ hR (by omega)).mono ?_
  rintro e w1 ⟨rfl, hb1⟩
  go_wp2_with fail
  go_loopw [34] (fun v wq => ∃ k : Nat, k ≤ n ∧ v = .int .i64 k ∧ (∀ x ∈ l.take k, x.Pl) ∧ Below w.heap.size w wq) (fun v _ => n - (intOf v).toNat)
  case atStart => exact ⟨0, by omega, rfl, by simp, hb1⟩
  case round =>
    rename World => wo
    obtain ⟨k, hk, rfl, hz, hb⟩ := hrel
    have HZ := hide hz
    clear hz hb1
    by_cases hlt : k < n
    · obtain ⟨ad, x, rfl, hadb, hxk, hcx⟩ := els_hit (hR.below hb) hlt hb.size
      obtain ⟨q0, q1, q2⟩ := hcx wo (Below.refl _ _)
      have HX := hide hxk
      clear hxk hcx
      go_upto_region 6 with (fail)
      obtain ⟨w2, e2, hb2, hz2, kX⟩ := box1 wo #[.string x.kind, .int .i64 x.a, .int .i64 x.b] 53
      rw [← e2]; clear e2 q0 q1 q2
      have cX := kX.cell
      by_cases ha : x.a = 0
      · have ta : (x.a != 0) = false := by simpa using ha
        cases hd : kDiv x.kind
        · have hpl : x.Pl := El.pl_of (HOK.out.all x (List.mem_of_getElem? HX.out)) ha hd
          have HPL := hide hpl
          clear hpl ha
          go_wp2_with (go_at_call 22; refine (divides_any _ _).mono ?_; rintro e W' ⟨rfl, rfl⟩; rw [hd])
          have hbn := below_next hb hb2
          go_roundw
          case rel =>
            refine ⟨k + 1, by omega, by go_num, fun y hy => ?_, hbn⟩
            rw [List.take_add_one, HX.out] at hy
            simp at hy
            rcases hy with hy | rfl
            · exact HZ.out y hy
            · exact HPL.out
          case measure => simp [intOf]; omega
        · clear ha
          go_upto_region 7 with (go_at_call 22; refine (divides_any _ _).mono ?_; rintro e W' ⟨rfl, rfl⟩; rw [hd])
          clear cX
          go_wp2_with fail
          refine (tee_any _ (hC.carry (by repeat (first | with_reducible assumption | exact Below.refl _ _ | refine below_next (by with_reducible assumption) ?_)))).mono ?_
          rintro e wz ⟨rfl, hbz⟩
          go_wp2_with fail
          go_ret
          exact ⟨rfl, (by repeat (first | with_reducible assumption | exact Below.refl _ _ | refine below_next (by with_reducible assumption) ?_))⟩
      · have ta : (x.a != 0) = true := by simpa using ha
        clear ha
        go_wp2_with fail
        refine (tee_any _ (hC.carry (by repeat (first | with_reducible assumption | exact Below.refl _ _ | refine below_next (by with_reducible assumption) ?_)))).mono ?_
        rintro e wz ⟨rfl, hbz⟩
        go_wp2_with fail
        go_ret
        exact ⟨rfl, (by repeat (first | with_reducible assumption | exact Below.refl _ _ | refine below_next (by with_reducible assumption) ?_))⟩
    · obtain rfl : k = n := by omega
      have hpl : ∀ x ∈ l, x.Pl := by
        have := HZ.out
        rwa [List.take_of_length_le (by rw [HL.out]; exact Nat.le_refl _)] at this
      have HPL := hide hpl
      clear hpl
      go_wp2_with fail
      refine (dustLad_lad A k c l _ (carry hR hb) (by omega)).mono ?_
      rintro e w2 ⟨B2, d2, rfl, hR2, hb2⟩
      go_wp2_with fail
      refine (pol_ok B2 k d2 l _ (hC.carry (by repeat (first | with_reducible assumption | exact Below.refl _ _ | refine below_next (by with_reducible assumption) ?_))) H1.out hR2 (by omega)).mono ?_
      rintro e w3 ⟨A0, c0, A1, c1, A2, c2, A3, c3, A4, c4, rfl, r0, r1, r2, r3, r4, hb3⟩
      have hpd := pdv_plain l [1] HPL.out
      have hpp := pch_par l .id HPL.out PPar.id
      rw [hpd] at r4 ⊢
      have hlb := lad_pm HOK.out l.length
      rw [List.take_length] at hlb
      generalize pch .id l = m at r0 r1 r2 r3 hpp hlb ⊢
      have HPP := hide hpp
      have HLB := hide hlb
      clear hpd hpp hlb
      go_upto_region 10 with (fail)
      obtain ⟨w4, e4, hb4, hz4, kM⟩ := box1 w3 #[.slice A0 m.a.length c0, .slice A1 m.b.length c1, .slice A2 m.c.length c2, .slice A3 m.d.length c3] 56
      rw [← e4]; clear e4
      go_wp2_with fail
      obtain ⟨w5, e5, hb5, hz5, kS⟩ := box1 w4 #[.int .i64 1] 3
      rw [← e5]; clear e5
      refine (same_true _ _ _ [1] _ _ _ _ (carry r4 (by repeat (first | with_reducible assumption | exact Below.refl _ _ | refine below_next (by with_reducible assumption) ?_))) (blkR (xs := [1]) kS rfl) (by decide) (by decide)).mono ?_
      rintro e w6 ⟨rfl, hb6⟩
      have cM := (carryK (w' := w6) kM (by repeat (first | with_reducible assumption | exact Below.refl _ _ | refine below_next (by with_reducible assumption) ?_))).cell
      go_wp2_with fail
      have q0 := carry (w' := w6) r0 (by repeat (first | with_reducible assumption | exact Below.refl _ _ | refine below_next (by with_reducible assumption) ?_))
      have q1 := carry (w' := w6) r1 (by repeat (first | with_reducible assumption | exact Below.refl _ _ | refine below_next (by with_reducible assumption) ?_))
      have q2 := carry (w' := w6) r2 (by repeat (first | with_reducible assumption | exact Below.refl _ _ | refine below_next (by with_reducible assumption) ?_))
      have q3 := carry (w' := w6) r3 (by repeat (first | with_reducible assumption | exact Below.refl _ _ | refine below_next (by with_reducible assumption) ?_))
      have hbw6 : Below w.heap.size w w6 := (by repeat (first | with_reducible assumption | exact Below.refl _ _ | refine below_next (by with_reducible assumption) ?_))
      clear r0 r1 r2 r3 r4 cM kM kS hb2 hb3 hb4 hb5 hb6 hR2
      go_loopw [64] (fun v wq => ∃ i : Nat, i ≤ 4 ∧ v = .int .i64 i ∧ Below w6.heap.size w6 wq) (fun v _ => 4 - (intOf v).toNat)
      case atStart => exact ⟨0, by omega, rfl, Below.refl _ _⟩
      case round =>
        rename World => wp
        obtain ⟨i, hi, rfl, hbp⟩ := hrel
        have hc : i = 0 ∨ i = 1 ∨ i = 2 ∨ i = 3 ∨ i = 4 := by omega
        rcases hc with rfl | rfl | rfl | rfl | rfl
        · skip
          have i0 : ∀ W : World, (Instr.index 56 (.agg #[.slice A0 m.a.length c0, .slice A1 m.b.length c1, .slice A2 m.c.length c2, .slice A3 m.d.length c3]) (.int .i64 0)).run Tryd.prog W = .ok (.slice A0 m.a.length c0) W := fun _ => by kernel_rfl
          go_wp2_with fail
          go_loopw [75] (fun v wq => ∃ j : Nat, j ≤ m.a.length ∧ v = .int .i64 j ∧ Below w6.heap.size w6 wq) (fun v _ => m.a.length - (intOf v).toNat)
          case atStart => exact ⟨0, by omega, rfl, hbp⟩
          case round =>
            rename World => wr2
            obtain ⟨j, hj, rfl, hbq⟩ := hrel
            have hlen : m.a.length ≤ 11 := HLB.out.la
            by_cases hlt : j < m.a.length
            · obtain ⟨ad, x, e1, hBx, hx, hcx⟩ := reads_at (carry q0 hbq) hlt
              subst e1
              have hco := HPP.out.a j
              rw [co_get hx] at hco
              clear hx hbp
              by_cases hp : j % 2 = 0
              · have ht : ((j : Int) % 2 != 0) = false := by simp; omega
                clear hco hp
                go_wp2
                go_roundw
                case rel => exact ⟨j + 1, by omega, by go_num, hbq⟩
                case measure => simp [intOf]; omega
              · have hx0 := hco hp
                have ht : ((j : Int) % 2 != 0) = true := by simp; omega
                subst hx0
                clear hco hp
                go_wp2
                go_roundw
                case rel => exact ⟨j + 1, by omega, by go_num, hbq⟩
                case measure => simp [intOf]; omega
            · go_wp2
              go_roundw
              case rel => exact ⟨0 + 1, by omega, rfl, hbq⟩
              case measure => simp [intOf]
        · skip
          have i0 : ∀ W : World, (Instr.index 56 (.agg #[.slice A0 m.a.length c0, .slice A1 m.b.length c1, .slice A2 m.c.length c2, .slice A3 m.d.length c3]) (.int .i64 1)).run Tryd.prog W = .ok (.slice A1 m.b.length c1) W := fun _ => by kernel_rfl
          go_wp2_with fail
          go_loopw [75] (fun v wq => ∃ j : Nat, j ≤ m.b.length ∧ v = .int .i64 j ∧ Below w6.heap.size w6 wq) (fun v _ => m.b.length - (intOf v).toNat)
          case atStart => exact ⟨0, by omega, rfl, hbp⟩
          case round =>
            rename World => wr2
            obtain ⟨j, hj, rfl, hbq⟩ := hrel
            have hlen : m.b.length ≤ 11 := HLB.out.lb
            by_cases hlt : j < m.b.length
            · obtain ⟨ad, x, e1, hBx, hx, hcx⟩ := reads_at (carry q1 hbq) hlt
              subst e1
              have hco := HPP.out.b j
              rw [co_get hx] at hco
              clear hx hbp
              by_cases hp : j % 2 = 1
              · have ht : ((j : Int) % 2 != 1) = false := by simp; omega
                clear hco hp
                go_wp2
                go_roundw
                case rel => exact ⟨j + 1, by omega, by go_num, hbq⟩
                case measure => simp [intOf]; omega
              · have hx0 := hco hp
                have ht : ((j : Int) % 2 != 1) = true := by simp; omega
                subst hx0
                clear hco hp
                go_wp2
                go_roundw
                case rel => exact ⟨j + 1, by omega, by go_num, hbq⟩
                case measure => simp [intOf]; omega
            · go_wp2
              go_roundw
              case rel => exact ⟨1 + 1, by omega, rfl, hbq⟩
              case measure => simp [intOf]
        · skip
          have i0 : ∀ W : World, (Instr.index 56 (.agg #[.slice A0 m.a.length c0, .slice A1 m.b.length c1, .slice A2 m.c.length c2, .slice A3 m.d.length c3]) (.int .i64 2)).run Tryd.prog W = .ok (.slice A2 m.c.length c2) W := fun _ => by kernel_rfl
          go_wp2_with fail
          go_loopw [75] (fun v wq => ∃ j : Nat, j ≤ m.c.length ∧ v = .int .i64 j ∧ Below w6.heap.size w6 wq) (fun v _ => m.c.length - (intOf v).toNat)
          case atStart => exact ⟨0, by omega, rfl, hbp⟩
          case round =>
            rename World => wr2
            obtain ⟨j, hj, rfl, hbq⟩ := hrel
            have hlen : m.c.length ≤ 11 := HLB.out.lc
            by_cases hlt : j < m.c.length
            · obtain ⟨ad, x, e1, hBx, hx, hcx⟩ := reads_at (carry q2 hbq) hlt
              subst e1
              have hco := HPP.out.c j
              rw [co_get hx] at hco
              clear hx hbp
              by_cases hp : j % 2 = 1
              · have ht : ((j : Int) % 2 != 1) = false := by simp; omega
                clear hco hp
                go_wp2
                go_roundw
                case rel => exact ⟨j + 1, by omega, by go_num, hbq⟩
                case measure => simp [intOf]; omega
              · have hx0 := hco hp
                have ht : ((j : Int) % 2 != 1) = true := by simp; omega
                subst hx0
                clear hco hp
                go_wp2
                go_roundw
                case rel => exact ⟨j + 1, by omega, by go_num, hbq⟩
                case measure => simp [intOf]; omega
            · go_wp2
              go_roundw
              case rel => exact ⟨2 + 1, by omega, rfl, hbq⟩
              case measure => simp [intOf]
        · skip
          have i0 : ∀ W : World, (Instr.index 56 (.agg #[.slice A0 m.a.length c0, .slice A1 m.b.length c1, .slice A2 m.c.length c2, .slice A3 m.d.length c3]) (.int .i64 3)).run Tryd.prog W = .ok (.slice A3 m.d.length c3) W := fun _ => by kernel_rfl
          go_wp2_with fail
          go_loopw [75] (fun v wq => ∃ j : Nat, j ≤ m.d.length ∧ v = .int .i64 j ∧ Below w6.heap.size w6 wq) (fun v _ => m.d.length - (intOf v).toNat)
          case atStart => exact ⟨0, by omega, rfl, hbp⟩
          case round =>
            rename World => wr2
            obtain ⟨j, hj, rfl, hbq⟩ := hrel
            have hlen : m.d.length ≤ 11 := HLB.out.ld
            by_cases hlt : j < m.d.length
            · obtain ⟨ad, x, e1, hBx, hx, hcx⟩ := reads_at (carry q3 hbq) hlt
              subst e1
              have hco := HPP.out.d j
              rw [co_get hx] at hco
              clear hx hbp
              by_cases hp : j % 2 = 0
              · have ht : ((j : Int) % 2 != 0) = false := by simp; omega
                clear hco hp
                go_wp2
                go_roundw
                case rel => exact ⟨j + 1, by omega, by go_num, hbq⟩
                case measure => simp [intOf]; omega
              · have hx0 := hco hp
                have ht : ((j : Int) % 2 != 0) = true := by simp; omega
                subst hx0
                clear hco hp
                go_wp2
                go_roundw
                case rel => exact ⟨j + 1, by omega, by go_num, hbq⟩
                case measure => simp [intOf]; omega
            · go_wp2
              go_roundw
              case rel => exact ⟨3 + 1, by omega, rfl, hbq⟩
              case measure => simp [intOf]
        · have hbz : Below w.heap.size w wp := below_next hbw6 hbp
          clear hbp hbw6 q0 q1 q2 q3 HPP HLB
          have um : u % 8 < 8 := Int.emod_lt_of_pos _ (by omega)
          have u0 : 0 ≤ u % 8 := Int.emod_nonneg _ (by omega)
          go_upto_region 24 with (fail)
          obtain ⟨f, hf⟩ : ∃ f, 1 + u % 8 = f := ⟨_, rfl⟩
          have f1 : 1 ≤ f := by omega
          have f8 : f ≤ 8 := by omega
          rw [hf]
          clear hf um u0
          have hk' : ∀ x ∈ l, x.known = true := fun x hx => (HOK.out.all x hx).kn
          have hm := chn_lm f l .id HPL.out LM.id
          have HDET := hide (dust_det (f := f) hk' HPL.out)
          have HPW := hide (dust_pw (f := f) HPL.out)
          have HLD := hide (dust_load (f := f) hk' HPL.out)
          have HIN := hide (chain_in HOK.out f1 f8)
          have HAT := hide (at_ofD H1.out f1 f8)
          have HAT2 := hide (at_ofD (dust_more HOK.out (by rw [HL.out]; exact hn)) f1 f8)
          clear hk'
          go_wp2_with fail
          refine (dustLad_lad A k c l _ (carry hR (by repeat (first | with_reducible assumption | exact Below.refl _ _ | refine below_next (by with_reducible assumption) ?_))) (by omega)).mono ?_
          rintro e w7 ⟨B7, d7, rfl, hR7, hb7⟩
          go_wp2_with fail
          refine (Chain_ok l f B7 k d7 _ (hC.carry (by repeat (first | with_reducible assumption | exact Below.refl _ _ | refine below_next (by with_reducible assumption) ?_))) HAT.out (by omega) hR7).mono ?_
          rintro e w8 ⟨rfl, hb8⟩
          rw [hm.a, hm.b, hm.c, hm.d]
          clear hm hR7
          go_upto_region 25 with (fail)
          obtain ⟨w9, e9, hb9, hz9, kC⟩ := box1 w8 #[.int .i64 (chn f .id l).a.re, .int .i64 0, .int .i64 0, .int .i64 (chn f .id l).b.im, .int .i64 0, .int .i64 (chn f .id l).c.im, .int .i64 (chn f .id l).d.re, .int .i64 0] 38
          rw [← e9]; clear e9
          go_wp2_with fail
          refine (dustLad_lad A k c l _ (carry hR (by repeat (first | with_reducible assumption | exact Below.refl _ _ | refine below_next (by with_reducible assumption) ?_))) (by omega)).mono ?_
          rintro e w10 ⟨B10, d10, rfl, hR10, hb10⟩
          go_wp2_with fail
          refine (Power_ok l f B10 k d10 _ (hC.carry (by repeat (first | with_reducible assumption | exact Below.refl _ _ | refine below_next (by with_reducible assumption) ?_))) HAT.out (by omega) hR10).mono ?_
          rintro e w11 ⟨rfl, hb11⟩
          rw [HPW.out]
          clear hR10
          go_wp2_with fail
          refine (dustLad_any A k c l _ (carry hR (by repeat (first | with_reducible assumption | exact Below.refl _ _ | refine below_next (by with_reducible assumption) ?_))) (by omega)).mono ?_
          rintro e w12 ⟨v, rfl, ho, hb12⟩
          have q1 : k + 1 ≤ maxLen := by unfold maxLen; omega
          have q2 : (k + 1) * 32 ≤ 140737488355328 := by omega
          go_wp2_with (at_builtin; refine wpList_push _ rfl (.tmp 109) (.tmp 111) _ rfl w11.heap.size 62 _ 3 32 Tryd.underlying41 info_el rfl (by decide) _ k _ rfl (ho.alloc _) w12.heap.size (elCells ⟨kShunt, 1, 0⟩) rfl rfl (cells_new _ _ _) (one_el _) q1 q2 (le_alloc hb12.size _) ?_; intro v1 w13 ho1 hb13)
          have hb1113 : Below w11.heap.size w11 w13 := (hb12.alloc hb12.size _).trans hb13
          rw [← els_snoc] at ho1
          obtain ⟨B13, d13, rfl, hR13⟩ := own_slice ho1
          clear ho ho1 hb12 hb13 q1 q2
          refine (Power_ok (l ++ [⟨kShunt, 1, 0⟩]) f B13 (k + 1) d13 _ (hC.carry (by repeat (first | with_reducible assumption | exact Below.refl _ _ | refine below_next (by with_reducible assumption) ?_))) HAT2.out (by omega) hR13).mono ?_
          rintro e w14 ⟨rfl, hb14⟩
          rw [HLD.out]
          clear hR13
          have cC := (carryK (w' := w14) kC (by repeat (first | with_reducible assumption | exact Below.refl _ _ | refine below_next (by with_reducible assumption) ?_))).cell
          have hbe : Below w.heap.size w w14 := (by repeat (first | with_reducible assumption | exact Below.refl _ _ | refine below_next (by with_reducible assumption) ?_))
          generalize chn f .id l = M at HDET HIN cC ⊢
          have e1 : IntKind.i64.wrap (M.a.re * M.d.re) = M.a.re * M.d.re := dust_wrap (show M.a.nrm ≤ 2073071593 by have := HIN.out.1; omega) (show M.d.nrm ≤ 2073071593 by have := HIN.out.2; omega) (.inl ⟨rfl, rfl⟩)
          have e2 : IntKind.i64.wrap (M.b.im * M.c.im) = M.b.im * M.c.im := dust_wrap (show M.b.nrm ≤ 2073071593 by have := HIN.out.1; omega) (show M.c.nrm ≤ 2073071593 by have := HIN.out.2; omega) (.inr ⟨rfl, rfl⟩)
          have e3 := HDET.out
          go_upto_region 30 with (fail)
          go_wp2_with fail
          refine (tee_any _ (hC.carry (by repeat (first | with_reducible assumption | exact Below.refl _ _ | refine below_next (by with_reducible assumption) ?_)))).mono ?_
          rintro e wz ⟨rfl, hbz2⟩
          go_wp2_with fail
          go_ret
          exact ⟨rfl, below_next hbe hbz2⟩
theorem lawDus_any (A : Option Addr) (n c : Nat) (l : List El) (u : Int) (w : World) (hC : Con w) (hR : Reads w w.heap.size 3 A n (els l)) (hu : 0 ≤ u ∧ u ≤ 255) :
    Calls Tryd.prog 4 #[.slice A n c, .int .u8 u] w fun e w' => e = .returned (.bool true) ∧ Below w.heap.size w w' := by
  by_cases hn : 4 < n
  · exact lawDus_long A n c l u w hC hR hn
  have hn : n ≤ 4 := by omega
  by_cases h1 : ladErr l = 0
  · exact lawDus_good A n c l u w hC hR hu hn h1
  · exact lawDus_bad1 A n c l u w hC hR hn (by simpa using h1)
end Go.Proofs.YthlnmoecmicofaaDoor
