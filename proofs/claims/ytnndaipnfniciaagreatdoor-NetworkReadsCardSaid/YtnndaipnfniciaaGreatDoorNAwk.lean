/- The contract of awake: printed by tools/genawakenet.py. -/
import Derived.Test.YtnndaipnfniciaaGreatDoorNAwkC
namespace Go.Proofs.YtnndaipnfniciaaGreatDoor
open Go.RowKit Go.Shelf
set_option maxRecDepth 100000
set_option maxHeartbeats 40000000 in
theorem awake_any (w : World) (hC : Con w) (hT : Tur w) (hP : Tens w) : Calls Tryz.prog 14 #[] w fun e w' => e = .returned (.bool true) ∧ Below w.heap.size w w' := by
  have hB := Below.refl w.heap.size w
  go_enter Tryz.func14, Tryz.ntmps14
  go_wp2_with fail
  refine (filter_any _).mono ?_
  rintro e w1 ⟨g1, rfl, rf, hb⟩
  replace hC := hC.carry hb
  replace hT := hT.carry hb
  replace hP := hP.carry hb
  replace hB := below_step hB hb hB.size
  clear hb
  go_wp2_with fail
  refine (c_chain hC rf).mono ?_
  rintro e w2 ⟨rfl, hb⟩
  replace hC := hC.carry hb
  replace hT := hT.carry hb
  replace hP := hP.carry hb
  replace rf := carry rf hb
  replace hB := below_step hB hb hB.size
  clear hb
  clear rf
  go_upto_region 2 with (fail)
  obtain ⟨w3, eb, hb, hz, kM⟩ := box1 w2 #[.int .i64 0, .int .i64 2, .int .i64 2, .int .i64 1, .int .i64 0, .int .i64 1, .int .i64 1, .int .i64 0] 73
  rw [← eb]; clear eb hz
  replace hC := hC.carry hb
  replace hT := hT.carry hb
  replace hP := hP.carry hb
  replace hB := below_step hB hb hB.size
  clear hb
  have cM := kM.cell
  go_wp2_with fail
  clear cM
  refine (c_det hT).mono ?_
  rintro e w4 ⟨rfl, hb⟩
  replace hC := hC.carry hb
  replace hT := hT.carry hb
  replace hP := hP.carry hb
  replace kM := carryK kM hb
  replace hB := below_step hB hb hB.size
  clear hb
  go_upto_region 3 with (fail)
  obtain ⟨w5, eb, hb, hz, kD⟩ := box1 w4 #[.int .i64 1, .int .i64 0] 23
  rw [← eb]; clear eb hz
  replace hC := hC.carry hb
  replace hT := hT.carry hb
  replace hP := hP.carry hb
  replace kM := carryK kM hb
  replace hB := below_step hB hb hB.size
  clear hb
  go_wp2_with fail
  refine (filter_any _).mono ?_
  rintro e w6 ⟨g2, rfl, rf, hb⟩
  replace hC := hC.carry hb
  replace hT := hT.carry hb
  replace hP := hP.carry hb
  replace kM := carryK kM hb
  replace kD := carryK kD hb
  replace hB := below_step hB hb hB.size
  clear hb
  go_wp2_with fail
  refine (c_input hC rf).mono ?_
  rintro e w7 ⟨rfl, hb⟩
  replace hC := hC.carry hb
  replace hT := hT.carry hb
  replace hP := hP.carry hb
  replace kM := carryK kM hb
  replace kD := carryK kD hb
  replace rf := carry rf hb
  replace hB := below_step hB hb hB.size
  clear hb
  clear rf
  go_upto_region 4 with (fail)
  obtain ⟨w8, eb, hb, hz, kX⟩ := box1 w7 #[.int .i64 0, .int .i64 2, .int .i64 0, .int .i64 1] 32
  rw [← eb]; clear eb hz
  replace hC := hC.carry hb
  replace hT := hT.carry hb
  replace hP := hP.carry hb
  replace kM := carryK kM hb
  replace kD := carryK kD hb
  replace hB := below_step hB hb hB.size
  clear hb
  go_wp2_with fail
  refine (filter_any _).mono ?_
  rintro e w9 ⟨g3, rfl, rf, hb⟩
  replace hC := hC.carry hb
  replace hT := hT.carry hb
  replace hP := hP.carry hb
  replace kM := carryK kM hb
  replace kD := carryK kD hb
  replace kX := carryK kX hb
  replace hB := below_step hB hb hB.size
  clear hb
  go_wp2_with fail
  refine (c_short hC rf).mono ?_
  rintro e w10 ⟨rfl, hb⟩
  replace hC := hC.carry hb
  replace hT := hT.carry hb
  replace hP := hP.carry hb
  replace kM := carryK kM hb
  replace kD := carryK kD hb
  replace kX := carryK kX hb
  replace rf := carry rf hb
  replace hB := below_step hB hb hB.size
  clear hb
  clear rf
  go_upto_region 5 with (fail)
  obtain ⟨w11, eb, hb, hz, kY⟩ := box1 w10 #[.int .i64 2, .int .i64 1, .int .i64 1, .int .i64 0] 32
  rw [← eb]; clear eb hz
  replace hC := hC.carry hb
  replace hT := hT.carry hb
  replace hP := hP.carry hb
  replace kM := carryK kM hb
  replace kD := carryK kD hb
  replace kX := carryK kX hb
  replace hB := below_step hB hb hB.size
  clear hb
  go_wp2_with fail
  refine (filter_any _).mono ?_
  rintro e w12 ⟨g4, rfl, rf, hb⟩
  replace hC := hC.carry hb
  replace hT := hT.carry hb
  replace hP := hP.carry hb
  replace kM := carryK kM hb
  replace kD := carryK kD hb
  replace kX := carryK kX hb
  replace kY := carryK kY hb
  replace hB := below_step hB hb hB.size
  clear hb
  go_wp2_with fail
  refine (c_trans hC rf).mono ?_
  rintro e w13 ⟨rfl, hb⟩
  replace hC := hC.carry hb
  replace hT := hT.carry hb
  replace hP := hP.carry hb
  replace kM := carryK kM hb
  replace kD := carryK kD hb
  replace kX := carryK kX hb
  replace kY := carryK kY hb
  replace rf := carry rf hb
  replace hB := below_step hB hb hB.size
  clear hb
  clear rf
  go_upto_region 6 with (fail)
  obtain ⟨w14, eb, hb, hz, kT⟩ := box1 w13 #[.int .i64 1, .int .i64 0, .int .i64 0, .int .i64 2] 32
  rw [← eb]; clear eb hz
  replace hC := hC.carry hb
  replace hT := hT.carry hb
  replace hP := hP.carry hb
  replace kM := carryK kM hb
  replace kD := carryK kD hb
  replace kX := carryK kX hb
  replace kY := carryK kY hb
  replace hB := below_step hB hb hB.size
  clear hb
  go_wp2_with fail
  refine (filter_any _).mono ?_
  rintro e w15 ⟨g5, rfl, rf, hb⟩
  replace hC := hC.carry hb
  replace hT := hT.carry hb
  replace hP := hP.carry hb
  replace kM := carryK kM hb
  replace kD := carryK kD hb
  replace kX := carryK kX hb
  replace kY := carryK kY hb
  replace kT := carryK kT hb
  replace hB := below_step hB hb hB.size
  clear hb
  go_wp2_with fail
  refine (c_table hC rf).mono ?_
  rintro e w16 ⟨At, ct, rfl, rt, hb⟩
  replace hC := hC.carry hb
  replace hT := hT.carry hb
  replace hP := hP.carry hb
  replace kM := carryK kM hb
  replace kD := carryK kD hb
  replace kX := carryK kX hb
  replace kY := carryK kY hb
  replace kT := carryK kT hb
  replace rf := carry rf hb
  replace hB := below_step hB hb hB.size
  clear hb
  clear rf
  go_wp2_with fail
  refine (filter_any _).mono ?_
  rintro e w17 ⟨g6, rfl, rf, hb⟩
  replace hC := hC.carry hb
  replace hT := hT.carry hb
  replace hP := hP.carry hb
  replace kM := carryK kM hb
  replace kD := carryK kD hb
  replace kX := carryK kX hb
  replace kY := carryK kY hb
  replace kT := carryK kT hb
  replace rt := carry rt hb
  replace hB := below_step hB hb hB.size
  clear hb
  go_wp2_with fail
  refine (c_power hC rf).mono ?_
  rintro e w18 ⟨rfl, hb⟩
  replace hC := hC.carry hb
  replace hT := hT.carry hb
  replace hP := hP.carry hb
  replace kM := carryK kM hb
  replace kD := carryK kD hb
  replace kX := carryK kX hb
  replace kY := carryK kY hb
  replace kT := carryK kT hb
  replace rt := carry rt hb
  replace rf := carry rf hb
  replace hB := below_step hB hb hB.size
  clear hb
  clear rf
  go_wp2_with fail
  refine (filter_any _).mono ?_
  rintro e w19 ⟨g7, rfl, rf, hb⟩
  replace hC := hC.carry hb
  replace hT := hT.carry hb
  replace hP := hP.carry hb
  replace kM := carryK kM hb
  replace kD := carryK kD hb
  replace kX := carryK kX hb
  replace kY := carryK kY hb
  replace kT := carryK kT hb
  replace rt := carry rt hb
  replace hB := below_step hB hb hB.size
  clear hb
  go_wp2_with fail
  refine (c_peak hC rf).mono ?_
  rintro e w20 ⟨rfl, hb⟩
  replace hC := hC.carry hb
  replace hT := hT.carry hb
  replace hP := hP.carry hb
  replace kM := carryK kM hb
  replace kD := carryK kD hb
  replace kX := carryK kX hb
  replace kY := carryK kY hb
  replace kT := carryK kT hb
  replace rt := carry rt hb
  replace rf := carry rf hb
  replace hB := below_step hB hb hB.size
  clear hb
  clear rf
  go_wp2_with fail
  refine (filter_any _).mono ?_
  rintro e w21 ⟨g8, rfl, rf, hb⟩
  replace hC := hC.carry hb
  replace hT := hT.carry hb
  replace hP := hP.carry hb
  replace kM := carryK kM hb
  replace kD := carryK kD hb
  replace kX := carryK kX hb
  replace kY := carryK kY hb
  replace kT := carryK kT hb
  replace rt := carry rt hb
  replace hB := below_step hB hb hB.size
  clear hb
  go_wp2_with fail
  refine (c_below hC rf).mono ?_
  rintro e w22 ⟨rfl, hb⟩
  replace hC := hC.carry hb
  replace hT := hT.carry hb
  replace hP := hP.carry hb
  replace kM := carryK kM hb
  replace kD := carryK kD hb
  replace kX := carryK kX hb
  replace kY := carryK kY hb
  replace kT := carryK kT hb
  replace rt := carry rt hb
  replace rf := carry rf hb
  replace hB := below_step hB hb hB.size
  clear hb
  clear rf
  have cM := kM.cell
  have cD := kD.cell
  have cX := kX.cell
  have cY := kY.cell
  have cT := kT.cell
  have qM : ∀ W, (binOp .neq 73 (.agg #[.int .i64 0, .int .i64 2, .int .i64 2, .int .i64 1, .int .i64 0, .int .i64 1, .int .i64 1, .int .i64 0]) (.agg #[.int .i64 0, .int .i64 2, .int .i64 2, .int .i64 1, .int .i64 0, .int .i64 1, .int .i64 1, .int .i64 0])).run Tryz.prog W = .ok (.bool false) W := fun _ => by kernel_rfl
  have qX : ∀ W, (binOp .neq 32 (.agg #[.int .i64 0, .int .i64 2, .int .i64 0, .int .i64 1]) (.agg #[.int .i64 0, .int .i64 2, .int .i64 0, .int .i64 1])).run Tryz.prog W = .ok (.bool false) W := fun _ => by kernel_rfl
  have qY : ∀ W, (binOp .neq 32 (.agg #[.int .i64 2, .int .i64 1, .int .i64 1, .int .i64 0]) (.agg #[.int .i64 2, .int .i64 1, .int .i64 1, .int .i64 0])).run Tryz.prog W = .ok (.bool false) W := fun _ => by kernel_rfl
  have qT : ∀ W, (binOp .neq 32 (.agg #[.int .i64 1, .int .i64 0, .int .i64 0, .int .i64 2]) (.agg #[.int .i64 1, .int .i64 0, .int .i64 0, .int .i64 2])).run Tryz.prog W = .ok (.bool false) W := fun _ => by kernel_rfl
  go_wp2_with fail
  clear cM cD cX cY cT qM qX qY qT
  clear kM
  clear kD
  clear kX
  clear kY
  clear kT
  obtain ⟨w23, eb, hb, hz, kr⟩ := box1 w22 #[.int .i64 1, .int .i64 4, .int .i64 1, .int .i64 25] 54
  rw [← eb]; clear eb hz
  replace hC := hC.carry hb
  replace hT := hT.carry hb
  replace hP := hP.carry hb
  replace rt := carry rt hb
  replace hB := below_step hB hb hB.size
  clear hb
  refine (c_rats _ _ _ _ _ [⟨1, 4⟩, ⟨1, 25⟩] _ rt (blkRt (l := [⟨1, 4⟩, ⟨1, 25⟩]) kr rfl) (by omega)).mono ?_
  rintro e w24 ⟨rfl, hb⟩
  replace hC := hC.carry hb
  replace hT := hT.carry hb
  replace hP := hP.carry hb
  replace rt := carry rt hb
  replace kr := carryK kr hb
  replace hB := below_step hB hb hB.size
  clear hb
  clear kr
  clear rt
  go_wp2_with fail
  refine (filter_any _).mono ?_
  rintro e w25 ⟨g9, rfl, rf, hb⟩
  replace hC := hC.carry hb
  replace hT := hT.carry hb
  replace hP := hP.carry hb
  replace hB := below_step hB hb hB.size
  clear hb
  go_wp2_with fail
  refine (c_pol hC rf).mono ?_
  rintro e w26 ⟨A0, c0, A1, c1, A2, c2, A3, c3, A4, c4, rfl, r0, r1, r2, r3, r4, hb⟩
  replace hC := hC.carry hb
  replace hT := hT.carry hb
  replace hP := hP.carry hb
  replace rf := carry rf hb
  replace hB := below_step hB hb hB.size
  clear hb
  clear rf
  go_upto_region 13 with (fail)
  obtain ⟨w27, eb, hb, hz, kP⟩ := box1 w26 #[.slice A0 3 c0, .slice A1 2 c1, .slice A2 2 c2, .slice A3 1 c3] 44
  rw [← eb]; clear eb hz
  replace hC := hC.carry hb
  replace hT := hT.carry hb
  replace hP := hP.carry hb
  replace r0 := carry r0 hb
  replace r1 := carry r1 hb
  replace r2 := carry r2 hb
  replace r3 := carry r3 hb
  replace r4 := carry r4 hb
  replace hB := below_step hB hb hB.size
  clear hb
  go_wp2_with fail
  obtain ⟨w28, eb, hb, hz, kv⟩ := box1 w27 #[.int .i64 1, .int .i64 2, .int .i64 1] 3
  rw [← eb]; clear eb hz
  replace hC := hC.carry hb
  replace hT := hT.carry hb
  replace hP := hP.carry hb
  replace r0 := carry r0 hb
  replace r1 := carry r1 hb
  replace r2 := carry r2 hb
  replace r3 := carry r3 hb
  replace r4 := carry r4 hb
  replace kP := carryK kP hb
  replace hB := below_step hB hb hB.size
  clear hb
  refine (c_value hC hT (blkR (xs := [1, 2, 1]) kv rfl)).mono ?_
  rintro e w29 ⟨rfl, hb⟩
  replace hC := hC.carry hb
  replace hT := hT.carry hb
  replace hP := hP.carry hb
  replace r0 := carry r0 hb
  replace r1 := carry r1 hb
  replace r2 := carry r2 hb
  replace r3 := carry r3 hb
  replace r4 := carry r4 hb
  replace kP := carryK kP hb
  replace kv := carryK kv hb
  replace hB := below_step hB hb hB.size
  clear hb
  clear kv
  go_upto_region 14 with (fail)
  obtain ⟨w30, eb, hb, hz, kV⟩ := box1 w29 #[.int .i64 (-3), .int .i64 4] 23
  rw [← eb]; clear eb hz
  replace hC := hC.carry hb
  replace hT := hT.carry hb
  replace hP := hP.carry hb
  replace r0 := carry r0 hb
  replace r1 := carry r1 hb
  replace r2 := carry r2 hb
  replace r3 := carry r3 hb
  replace r4 := carry r4 hb
  replace kP := carryK kP hb
  replace hB := below_step hB hb hB.size
  clear hb
  go_wp2_with fail
  obtain ⟨w31, eb, hb, hz, ke⟩ := box1 w30 #[.string { data := #[98, 108, 111, 99, 107] }, .int .i64 0, .int .i64 1] 104
  rw [← eb]; clear eb hz
  replace hC := hC.carry hb
  replace hT := hT.carry hb
  replace hP := hP.carry hb
  replace r0 := carry r0 hb
  replace r1 := carry r1 hb
  replace r2 := carry r2 hb
  replace r3 := carry r3 hb
  replace r4 := carry r4 hb
  replace kP := carryK kP hb
  replace kV := carryK kV hb
  replace hB := below_step hB hb hB.size
  clear hb
  refine (c_level hC (blkE (l := [⟨kBlock, 0, 1⟩]) ke rfl)).mono ?_
  rintro e w32 ⟨rfl, hb⟩
  replace hC := hC.carry hb
  replace hT := hT.carry hb
  replace hP := hP.carry hb
  replace r0 := carry r0 hb
  replace r1 := carry r1 hb
  replace r2 := carry r2 hb
  replace r3 := carry r3 hb
  replace r4 := carry r4 hb
  replace kP := carryK kP hb
  replace kV := carryK kV hb
  replace ke := carryK ke hb
  replace hB := below_step hB hb hB.size
  clear hb
  clear ke
  go_upto_region 15 with (fail)
  obtain ⟨w33, eb, hb, hz, kL⟩ := box1 w32 #[.int .i64 1, .int .i64 1] 54
  rw [← eb]; clear eb hz
  replace hC := hC.carry hb
  replace hT := hT.carry hb
  replace hP := hP.carry hb
  replace r0 := carry r0 hb
  replace r1 := carry r1 hb
  replace r2 := carry r2 hb
  replace r3 := carry r3 hb
  replace r4 := carry r4 hb
  replace kP := carryK kP hb
  replace kV := carryK kV hb
  replace hB := below_step hB hb hB.size
  clear hb
  go_wp2_with fail
  refine (filter_any _).mono ?_
  rintro e w34 ⟨g10, rfl, rf, hb⟩
  replace hC := hC.carry hb
  replace hT := hT.carry hb
  replace hP := hP.carry hb
  replace r0 := carry r0 hb
  replace r1 := carry r1 hb
  replace r2 := carry r2 hb
  replace r3 := carry r3 hb
  replace r4 := carry r4 hb
  replace kP := carryK kP hb
  replace kV := carryK kV hb
  replace kL := carryK kL hb
  replace hB := below_step hB hb hB.size
  clear hb
  go_wp2_with fail
  refine (c_dual rf).mono ?_
  rintro e w35 ⟨Ad, cd, rfl, rd, hb⟩
  replace hC := hC.carry hb
  replace hT := hT.carry hb
  replace hP := hP.carry hb
  replace r0 := carry r0 hb
  replace r1 := carry r1 hb
  replace r2 := carry r2 hb
  replace r3 := carry r3 hb
  replace r4 := carry r4 hb
  replace kP := carryK kP hb
  replace kV := carryK kV hb
  replace kL := carryK kL hb
  replace rf := carry rf hb
  replace hB := below_step hB hb hB.size
  clear hb
  clear rf
  go_wp2_with fail
  refine (c_num1 hC).mono ?_
  rintro e w36 ⟨rfl, hb⟩
  replace hC := hC.carry hb
  replace hT := hT.carry hb
  replace hP := hP.carry hb
  replace r0 := carry r0 hb
  replace r1 := carry r1 hb
  replace r2 := carry r2 hb
  replace r3 := carry r3 hb
  replace r4 := carry r4 hb
  replace kP := carryK kP hb
  replace kV := carryK kV hb
  replace kL := carryK kL hb
  replace rd := carry rd hb
  replace hB := below_step hB hb hB.size
  clear hb
  go_wp2_with fail
  refine (c_num2 hC).mono ?_
  rintro e w37 ⟨rfl, hb⟩
  replace hC := hC.carry hb
  replace hT := hT.carry hb
  replace hP := hP.carry hb
  replace r0 := carry r0 hb
  replace r1 := carry r1 hb
  replace r2 := carry r2 hb
  replace r3 := carry r3 hb
  replace r4 := carry r4 hb
  replace kP := carryK kP hb
  replace kV := carryK kV hb
  replace kL := carryK kL hb
  replace rd := carry rd hb
  replace hB := below_step hB hb hB.size
  clear hb
  go_wp2_with fail
  refine (filter_any _).mono ?_
  rintro e w38 ⟨g11, rfl, rf, hb⟩
  replace hC := hC.carry hb
  replace hT := hT.carry hb
  replace hP := hP.carry hb
  replace r0 := carry r0 hb
  replace r1 := carry r1 hb
  replace r2 := carry r2 hb
  replace r3 := carry r3 hb
  replace r4 := carry r4 hb
  replace kP := carryK kP hb
  replace kV := carryK kV hb
  replace kL := carryK kL hb
  replace rd := carry rd hb
  replace hB := below_step hB hb hB.size
  clear hb
  go_wp2_with fail
  refine (c_print hP rf).mono ?_
  rintro e w39 ⟨rfl, hb⟩
  replace hC := hC.carry hb
  replace hT := hT.carry hb
  replace hP := hP.carry hb
  replace r0 := carry r0 hb
  replace r1 := carry r1 hb
  replace r2 := carry r2 hb
  replace r3 := carry r3 hb
  replace r4 := carry r4 hb
  replace kP := carryK kP hb
  replace kV := carryK kV hb
  replace kL := carryK kL hb
  replace rd := carry rd hb
  replace rf := carry rf hb
  replace hB := below_step hB hb hB.size
  clear hb
  clear rf
  clear hC
  clear hT
  clear hP
  have cP := kP.cell
  go_wp2_with fail
  clear cP
  obtain ⟨w40, eb, hb, hz, kk⟩ := box1 w39 #[.int .i64 1, .int .i64 2, .int .i64 1] 3
  rw [← eb]; clear eb hz
  replace r0 := carry r0 hb
  replace r1 := carry r1 hb
  replace r2 := carry r2 hb
  replace r3 := carry r3 hb
  replace r4 := carry r4 hb
  replace kP := carryK kP hb
  replace kV := carryK kV hb
  replace kL := carryK kL hb
  replace rd := carry rd hb
  replace hB := below_step hB hb hB.size
  clear hb
  refine (c_same _ 3 _ _ _ [1, 2, 1] _ r0 (blkR (xs := [1, 2, 1]) kk rfl) (by omega)).mono ?_
  rintro e w41 ⟨rfl, hb⟩
  replace r0 := carry r0 hb
  replace r1 := carry r1 hb
  replace r2 := carry r2 hb
  replace r3 := carry r3 hb
  replace r4 := carry r4 hb
  replace kP := carryK kP hb
  replace kV := carryK kV hb
  replace kL := carryK kL hb
  replace rd := carry rd hb
  replace kk := carryK kk hb
  replace hB := below_step hB hb hB.size
  clear hb
  clear kk
  clear r0
  have cP := kP.cell
  go_wp2_with fail
  clear cP
  obtain ⟨w42, eb, hb, hz, kk⟩ := box1 w41 #[.int .i64 2, .int .i64 1] 3
  rw [← eb]; clear eb hz
  replace r1 := carry r1 hb
  replace r2 := carry r2 hb
  replace r3 := carry r3 hb
  replace r4 := carry r4 hb
  replace kP := carryK kP hb
  replace kV := carryK kV hb
  replace kL := carryK kL hb
  replace rd := carry rd hb
  replace hB := below_step hB hb hB.size
  clear hb
  refine (c_same _ 2 _ _ _ [2, 1] _ r1 (blkR (xs := [2, 1]) kk rfl) (by omega)).mono ?_
  rintro e w43 ⟨rfl, hb⟩
  replace r1 := carry r1 hb
  replace r2 := carry r2 hb
  replace r3 := carry r3 hb
  replace r4 := carry r4 hb
  replace kP := carryK kP hb
  replace kV := carryK kV hb
  replace kL := carryK kL hb
  replace rd := carry rd hb
  replace kk := carryK kk hb
  replace hB := below_step hB hb hB.size
  clear hb
  clear kk
  clear r1
  have cP := kP.cell
  go_wp2_with fail
  clear cP
  obtain ⟨w44, eb, hb, hz, kk⟩ := box1 w43 #[.int .i64 0, .int .i64 1] 3
  rw [← eb]; clear eb hz
  replace r2 := carry r2 hb
  replace r3 := carry r3 hb
  replace r4 := carry r4 hb
  replace kP := carryK kP hb
  replace kV := carryK kV hb
  replace kL := carryK kL hb
  replace rd := carry rd hb
  replace hB := below_step hB hb hB.size
  clear hb
  refine (c_same _ 2 _ _ _ [0, 1] _ r2 (blkR (xs := [0, 1]) kk rfl) (by omega)).mono ?_
  rintro e w45 ⟨rfl, hb⟩
  replace r2 := carry r2 hb
  replace r3 := carry r3 hb
  replace r4 := carry r4 hb
  replace kP := carryK kP hb
  replace kV := carryK kV hb
  replace kL := carryK kL hb
  replace rd := carry rd hb
  replace kk := carryK kk hb
  replace hB := below_step hB hb hB.size
  clear hb
  clear kk
  clear r2
  have cP := kP.cell
  go_wp2_with fail
  clear cP
  obtain ⟨w46, eb, hb, hz, kk⟩ := box1 w45 #[.int .i64 1] 3
  rw [← eb]; clear eb hz
  replace r3 := carry r3 hb
  replace r4 := carry r4 hb
  replace kP := carryK kP hb
  replace kV := carryK kV hb
  replace kL := carryK kL hb
  replace rd := carry rd hb
  replace hB := below_step hB hb hB.size
  clear hb
  refine (c_same _ 1 _ _ _ [1] _ r3 (blkR (xs := [1]) kk rfl) (by omega)).mono ?_
  rintro e w47 ⟨rfl, hb⟩
  replace r3 := carry r3 hb
  replace r4 := carry r4 hb
  replace kP := carryK kP hb
  replace kV := carryK kV hb
  replace kL := carryK kL hb
  replace rd := carry rd hb
  replace kk := carryK kk hb
  replace hB := below_step hB hb hB.size
  clear hb
  clear kk
  clear r3
  clear kP
  go_wp2_with fail
  obtain ⟨w48, eb, hb, hz, kk⟩ := box1 w47 #[.int .i64 1] 3
  rw [← eb]; clear eb hz
  replace r4 := carry r4 hb
  replace kV := carryK kV hb
  replace kL := carryK kL hb
  replace rd := carry rd hb
  replace hB := below_step hB hb hB.size
  clear hb
  refine (c_same _ 1 _ _ _ [1] _ r4 (blkR (xs := [1]) kk rfl) (by omega)).mono ?_
  rintro e w49 ⟨rfl, hb⟩
  replace r4 := carry r4 hb
  replace kV := carryK kV hb
  replace kL := carryK kL hb
  replace rd := carry rd hb
  replace kk := carryK kk hb
  replace hB := below_step hB hb hB.size
  clear hb
  clear kk
  clear r4
  have cV := kV.cell
  have cL := kL.cell
  obtain ⟨ad, s0, e0, _, hs0, hc0⟩ := els_hit rd (show 0 < 2 by omega) (Nat.le_refl _)
  obtain ⟨ad', s1, e1, _, hs1, hc1⟩ := els_hit rd (show 1 < 2 by omega) (Nat.le_refl _)
  subst e0
  obtain rfl := Option.some.inj e1
  cases hs0
  cases hs1
  obtain ⟨d0, d1, d2⟩ := hc0 _ (Below.refl _ _)
  obtain ⟨d3, d4, d5⟩ := hc1 _ (Below.refl _ _)
  clear hc0 hc1 e1 rd
  have qE : ∀ W, (binOp .eql 104 (.agg #[.string { data := #[115, 104, 117, 110, 116] }, .int .i64 2, .int .i64 1]) (.agg #[.string { data := #[115, 104, 117, 110, 116] }, .int .i64 2, .int .i64 1])).run Tryz.prog W = .ok (.bool true) W := fun _ => by kernel_rfl
  have qF : ∀ W, (binOp .eql 104 (.agg #[.string { data := #[115, 101, 114, 105, 101, 115] }, .int .i64 0, .int .i64 1]) (.agg #[.string { data := #[115, 101, 114, 105, 101, 115] }, .int .i64 0, .int .i64 1])).run Tryz.prog W = .ok (.bool true) W := fun _ => by kernel_rfl
  have qC : ∀ W, (binOp .eql 28 (.complex .f64 4602678819172646912 13826050856027422720) (.complex .f64 4602678819172646912 13826050856027422720)).run Tryz.prog W = .ok (.bool true) W := fun _ => by kernel_rfl
  have qS : ∀ W, (binOp .eql 9 (.string { data := #[115, 101, 114, 105, 101, 115, 58, 50, 58, 49, 32, 115, 104, 117, 110, 116, 58, 48, 58, 49] }) (.string { data := #[115, 101, 114, 105, 101, 115, 58, 50, 58, 49, 32, 115, 104, 117, 110, 116, 58, 48, 58, 49] })).run Tryz.prog W = .ok (.bool true) W := fun _ => by kernel_rfl
  replace d0 : w49.cell? ad = some (.string { data := #[115, 104, 117, 110, 116] }) := by rw [Nat.zero_mul, add_zero] at d0; exact d0
  replace d1 : w49.cell? ⟨ad.block, ad.off + 1, none⟩ = some (.int .i64 2) := by rw [Nat.zero_mul, add_zero] at d1; exact d1
  replace d2 : w49.cell? ⟨ad.block, ad.off + 2, none⟩ = some (.int .i64 1) := by rw [Nat.zero_mul, add_zero] at d2; exact d2
  replace d3 : w49.cell? ⟨ad.block, ad.off + 3, none⟩ = some (.string { data := #[115, 101, 114, 105, 101, 115] }) := d3
  replace d4 : w49.cell? ⟨ad.block, ad.off + 3 + 1, none⟩ = some (.int .i64 0) := d4
  replace d5 : w49.cell? ⟨ad.block, ad.off + 3 + 2, none⟩ = some (.int .i64 1) := d5
  go_wp2_with fail
  go_ret
  exact ⟨rfl, hB⟩
end Go.Proofs.YtnndaipnfniciaaGreatDoor
