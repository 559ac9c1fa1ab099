/- The contract of awake: printed by tools/genawakearr.py. -/
import Derived.Test.YtcihiglpahhboaaGreatDoorAAwkC
namespace Go.Proofs.YtcihiglpahhboaaGreatDoor
open Go.RowKit Go.Shelf
set_option maxRecDepth 100000
set_option maxHeartbeats 40000000 in
theorem awake_any (w : World) (hV : Vr w) (hT : Tens w) : Calls Tryz.prog 17 #[] w fun e w' => e = .returned (.bool true) ∧ Below w.heap.size w w' := by
  have hB := Below.refl w.heap.size w
  go_enter Tryz.func17, Tryz.ntmps17
  go_wp2_with fail
  refine (pair_any _).mono ?_
  rintro e w1 ⟨g1, rfl, rf, hb⟩
  replace hV := hV.carry hb
  replace hT := tens_below hT hb hT.1
  replace hB := below_step hB hb hB.size
  clear hb
  go_wp2_with fail
  refine (c_pat hV rf).mono ?_
  rintro e w2 ⟨rfl, hb⟩
  replace hV := hV.carry hb
  replace hT := tens_below hT hb hT.1
  replace rf := carry rf hb
  replace hB := below_step hB hb hB.size
  clear hb
  clear rf
  go_upto_region 2 with (fail)
  obtain ⟨w3, eb, hb, hz, kP⟩ := box1 w2 #[.int .i64 1, .int .i64 1, .int .i64 1, .int .i64 1, .int .i64 2, .int .i64 0, .int .i64 1, .int .i64 (-1), .int .i64 1, .int .i64 (-1), .int .i64 1, .int .i64 (-1), .int .i64 2, .int .i64 0, .int .i64 1, .int .i64 1] 55
  rw [← eb]; clear eb hz
  replace hV := hV.carry hb
  replace hT := tens_below hT hb hT.1
  replace hB := below_step hB hb hB.size
  clear hb
  go_wp2_with fail
  refine (pair_any _).mono ?_
  rintro e w4 ⟨g2, rfl, rf, hb⟩
  replace hV := hV.carry hb
  replace hT := tens_below hT hb hT.1
  replace kP := carryK kP hb
  replace hB := below_step hB hb hB.size
  clear hb
  go_wp2_with fail
  refine (c_lev hV rf).mono ?_
  rintro e w5 ⟨rfl, hb⟩
  replace hV := hV.carry hb
  replace hT := tens_below hT hb hT.1
  replace kP := carryK kP hb
  replace rf := carry rf hb
  replace hB := below_step hB hb hB.size
  clear hb
  clear rf
  go_wp2_with fail
  refine (pair_any _).mono ?_
  rintro e w6 ⟨g3, rfl, rf, hb⟩
  replace hV := hV.carry hb
  replace hT := tens_below hT hb hT.1
  replace kP := carryK kP hb
  replace hB := below_step hB hb hB.size
  clear hb
  go_wp2_with fail
  refine (c_dir hV rf).mono ?_
  rintro e w7 ⟨rfl, hb⟩
  replace hV := hV.carry hb
  replace hT := tens_below hT hb hT.1
  replace kP := carryK kP hb
  replace rf := carry rf hb
  replace hB := below_step hB hb hB.size
  clear hb
  clear rf
  go_upto_region 4 with (fail)
  obtain ⟨w8, eb, hb, hz, kD⟩ := box1 w7 #[.int .i64 8, .int .i64 5] 88
  rw [← eb]; clear eb hz
  replace hV := hV.carry hb
  replace hT := tens_below hT hb hT.1
  replace kP := carryK kP hb
  replace hB := below_step hB hb hB.size
  clear hb
  go_wp2_with fail
  refine (pair_any _).mono ?_
  rintro e w9 ⟨g4, rfl, rf, hb⟩
  replace hV := hV.carry hb
  replace hT := tens_below hT hb hT.1
  replace kP := carryK kP hb
  replace kD := carryK kD hb
  replace hB := below_step hB hb hB.size
  clear hb
  go_wp2_with fail
  refine (c_ste hV rf).mono ?_
  rintro e w10 ⟨As, cs, rfl, rs, hb⟩
  replace hV := hV.carry hb
  replace hT := tens_below hT hb hT.1
  replace kP := carryK kP hb
  replace kD := carryK kD hb
  replace rf := carry rf hb
  replace hB := below_step hB hb hB.size
  clear hb
  clear rf
  go_wp2_with (at_builtin; refine wpList_copied w10 rfl (.tmp 61) (.tmp 62) 26 (by rfl) 60 _ 4 32 Tryz.underlying26 info_src rfl (by decide) (by decide) (by rfl) As 2 cs (srcs lS) (by rfl) rs (srcs_one _) (by omega) ?_; intro Ax5 cx5 w11 rc hb)
  replace hV := hV.carry hb
  replace hT := tens_below hT hb hT.1
  replace kP := carryK kP hb
  replace kD := carryK kD hb
  replace rs := carry rs hb
  replace hB := below_step hB hb hB.size
  clear hb
  refine (c_nul hV rc).mono ?_
  rintro e w12 ⟨An, cn, rfl, rn, hb⟩
  replace hV := hV.carry hb
  replace hT := tens_below hT hb hT.1
  replace kP := carryK kP hb
  replace kD := carryK kD hb
  replace rs := carry rs hb
  replace rc := carry rc hb
  replace hB := below_step hB hb hB.size
  clear hb
  clear rc
  go_wp2_with fail
  refine (pair_any _).mono ?_
  rintro e w13 ⟨g6, rfl, rf, hb⟩
  replace hV := hV.carry hb
  replace hT := tens_below hT hb hT.1
  replace kP := carryK kP hb
  replace kD := carryK kD hb
  replace rs := carry rs hb
  replace rn := carry rn hb
  replace hB := below_step hB hb hB.size
  clear hb
  go_wp2_with fail
  refine (c_best hV rf).mono ?_
  rintro e w14 ⟨Ab, cb, rfl, rb, hb⟩
  replace hV := hV.carry hb
  replace hT := tens_below hT hb hT.1
  replace kP := carryK kP hb
  replace kD := carryK kD hb
  replace rs := carry rs hb
  replace rn := carry rn hb
  replace rf := carry rf hb
  replace hB := below_step hB hb hB.size
  clear hb
  clear rf
  have cP := kP.cell
  go_wp2_with fail
  clear cP
  refine (c_har hV).mono ?_
  rintro e w15 ⟨rfl, hb⟩
  replace hV := hV.carry hb
  replace hT := tens_below hT hb hT.1
  replace kP := carryK kP hb
  replace kD := carryK kD hb
  replace rs := carry rs hb
  replace rn := carry rn hb
  replace rb := carry rb hb
  replace hB := below_step hB hb hB.size
  clear hb
  have cP := kP.cell
  have cD := kD.cell
  have lP := kP.lt
  have lD := kD.lt
  have qP : ∀ W, (binOp .neq 55 (.agg #[.int .i64 1, .int .i64 1, .int .i64 1, .int .i64 1, .int .i64 2, .int .i64 0, .int .i64 1, .int .i64 (-1), .int .i64 1, .int .i64 (-1), .int .i64 1, .int .i64 (-1), .int .i64 2, .int .i64 0, .int .i64 1, .int .i64 1]) (.agg #[.int .i64 1, .int .i64 1, .int .i64 1, .int .i64 1, .int .i64 2, .int .i64 0, .int .i64 1, .int .i64 (-1), .int .i64 1, .int .i64 (-1), .int .i64 1, .int .i64 (-1), .int .i64 2, .int .i64 0, .int .i64 1, .int .i64 1])).run Tryz.prog W = .ok (.bool false) W := fun _ => by kernel_rfl
  have qD : ∀ W, (binOp .neq 88 (.agg #[.int .i64 8, .int .i64 5]) (.agg #[.int .i64 8, .int .i64 5])).run Tryz.prog W = .ok (.bool false) W := fun _ => by kernel_rfl
  go_wp2_with fail
  clear cP cD lP lD qP qD
  obtain ⟨w16, eb, hb, hz, kH⟩ := box1 w15 #[.int .i64 6, .int .i64 0, .int .i64 0, .int .i64 2, .int .i64 (-2), .int .i64 0, .int .i64 0, .int .i64 2] 114
  rw [← eb]; clear eb hz
  replace hV := hV.carry hb
  replace hT := tens_below hT hb hT.1
  replace kP := carryK kP hb
  replace kD := carryK kD hb
  replace rs := carry rs hb
  replace rn := carry rn hb
  replace rb := carry rb hb
  replace hB := below_step hB hb hB.size
  clear hb
  clear kP
  clear kD
  refine (c_told lS As 2 cs _ rs (by omega)).mono ?_
  rintro e w17 ⟨rtt, rtc, rfl, rt, hb⟩
  replace hV := hV.carry hb
  replace hT := tens_below hT hb hT.1
  replace rs := carry rs hb
  replace rn := carry rn hb
  replace rb := carry rb hb
  replace kH := carryK kH hb
  replace hB := below_step hB hb hB.size
  clear hb
  go_wp2_with fail
  obtain ⟨w18, eb, hb, hz, kk⟩ := box1 w17 #[.int .i64 0, .int .i64 0, .int .i64 1, .int .i64 0, .int .i64 1, .int .i64 0, .int .i64 1, .int .i64 3] 78
  rw [← eb]; clear eb hz
  replace hV := hV.carry hb
  replace hT := tens_below hT hb hT.1
  replace rs := carry rs hb
  replace rn := carry rn hb
  replace rb := carry rb hb
  replace kH := carryK kH hb
  replace rt := carry rt hb
  replace hB := below_step hB hb hB.size
  clear hb
  refine (c_same lS _ 2 _ _ _ _ rt (blkS (l := lS) kk rfl) (by omega)).mono ?_
  rintro e w19 ⟨rfl, hb⟩
  replace hV := hV.carry hb
  replace hT := tens_below hT hb hT.1
  replace rs := carry rs hb
  replace rn := carry rn hb
  replace rb := carry rb hb
  replace kH := carryK kH hb
  replace rt := carry rt hb
  replace kk := carryK kk hb
  replace hB := below_step hB hb hB.size
  clear hb
  clear kk
  clear rt
  go_wp2_with fail
  obtain ⟨w20, eb, hb, hz, kk⟩ := box1 w19 #[.int .i64 3, .int .i64 4, .int .i64 5] 3
  rw [← eb]; clear eb hz
  replace hV := hV.carry hb
  replace hT := tens_below hT hb hT.1
  replace rs := carry rs hb
  replace rn := carry rn hb
  replace rb := carry rb hb
  replace kH := carryK kH hb
  replace hB := below_step hB hb hB.size
  clear hb
  refine (c_sameI [3, 4, 5] _ 3 _ _ _ _ rn (blkR (xs := [3, 4, 5]) kk rfl) (by omega)).mono ?_
  rintro e w21 ⟨rfl, hb⟩
  replace hV := hV.carry hb
  replace hT := tens_below hT hb hT.1
  replace rs := carry rs hb
  replace rn := carry rn hb
  replace rb := carry rb hb
  replace kH := carryK kH hb
  replace kk := carryK kk hb
  replace hB := below_step hB hb hB.size
  clear hb
  clear kk
  clear rn
  go_wp2_with fail
  refine (c_told lS Ab 2 cb _ rb (by omega)).mono ?_
  rintro e w22 ⟨rtt, rtc, rfl, rt, hb⟩
  replace hV := hV.carry hb
  replace hT := tens_below hT hb hT.1
  replace rs := carry rs hb
  replace rb := carry rb hb
  replace kH := carryK kH hb
  replace hB := below_step hB hb hB.size
  clear hb
  go_wp2_with fail
  refine (c_told lS As 2 cs _ rs (by omega)).mono ?_
  rintro e w23 ⟨rut, ruc, rfl, ru, hb⟩
  replace hV := hV.carry hb
  replace hT := tens_below hT hb hT.1
  replace rs := carry rs hb
  replace rb := carry rb hb
  replace kH := carryK kH hb
  replace rt := carry rt hb
  replace hB := below_step hB hb hB.size
  clear hb
  go_wp2_with fail
  refine (c_same lS _ 2 _ _ _ _ rt ru (by omega)).mono ?_
  rintro e w24 ⟨rfl, hb⟩
  replace hV := hV.carry hb
  replace hT := tens_below hT hb hT.1
  replace rs := carry rs hb
  replace rb := carry rb hb
  replace kH := carryK kH hb
  replace rt := carry rt hb
  replace ru := carry ru hb
  replace hB := below_step hB hb hB.size
  clear hb
  clear rt
  clear ru
  clear rb
  clear rs
  have cH := kH.cell
  have qH : ∀ W, (binOp .neq 114 (.agg #[.int .i64 6, .int .i64 0, .int .i64 0, .int .i64 2, .int .i64 (-2), .int .i64 0, .int .i64 0, .int .i64 2]) (.agg #[.int .i64 6, .int .i64 0, .int .i64 0, .int .i64 2, .int .i64 (-2), .int .i64 0, .int .i64 0, .int .i64 2])).run Tryz.prog W = .ok (.bool false) W := fun _ => by kernel_rfl
  go_wp2_with fail
  refine (pair_any _).mono ?_
  rintro e w25 ⟨g7, rfl, rf, hb⟩
  replace hV := hV.carry hb
  replace hT := tens_below hT hb hT.1
  replace kH := carryK kH hb
  replace hB := below_step hB hb hB.size
  clear hb
  clear cH qH
  clear kH
  go_wp2_with fail
  refine (pair_any _).mono ?_
  rintro e w26 ⟨g8, rfl, rg, hb⟩
  replace hV := hV.carry hb
  replace hT := tens_below hT hb hT.1
  replace rf := carry rf hb
  replace hB := below_step hB hb hB.size
  clear hb
  go_wp2_with fail
  refine (c_rep rf rg).mono ?_
  rintro e w27 ⟨Ar, cr, rfl, rr, hb⟩
  replace hV := hV.carry hb
  replace hT := tens_below hT hb hT.1
  replace rf := carry rf hb
  replace rg := carry rg hb
  replace hB := below_step hB hb hB.size
  clear hb
  clear rf
  clear rg
  go_wp2_with fail
  refine (c_bin).mono ?_
  rintro e w28 ⟨Ai, ci, rfl, ri, hb⟩
  replace hV := hV.carry hb
  replace hT := tens_below hT hb hT.1
  replace rr := carry rr hb
  replace hB := below_step hB hb hB.size
  clear hb
  go_wp2_with (at_builtin; refine wpList_copied w28 rfl (.tmp 170) (.tmp 171) 26 (by rfl) 60 _ 4 32 Tryz.underlying26 info_src rfl (by decide) (by decide) (by rfl) Ar 4 cr (srcs lR) (by rfl) rr (srcs_one _) (by omega) ?_; intro Ax9 cx9 w29 rc hb)
  replace hV := hV.carry hb
  replace hT := tens_below hT hb hT.1
  replace rr := carry rr hb
  replace ri := carry ri hb
  replace hB := below_step hB hb hB.size
  clear hb
  refine (c_nrmR hV rc).mono ?_
  rintro e w30 ⟨Au, cu, rfl, ru, hb⟩
  replace hV := hV.carry hb
  replace hT := tens_below hT hb hT.1
  replace rr := carry rr hb
  replace ri := carry ri hb
  replace rc := carry rc hb
  replace hB := below_step hB hb hB.size
  clear hb
  clear rc
  go_wp2_with (at_builtin; refine wpList_copied w30 rfl (.tmp 177) (.tmp 178) 26 (by rfl) 60 _ 4 32 Tryz.underlying26 info_src rfl (by decide) (by decide) (by rfl) Ai 3 ci (srcs lC) (by rfl) ri (srcs_one _) (by omega) ?_; intro Ax10 cx10 w31 rc hb)
  replace hV := hV.carry hb
  replace hT := tens_below hT hb hT.1
  replace rr := carry rr hb
  replace ri := carry ri hb
  replace ru := carry ru hb
  replace hB := below_step hB hb hB.size
  clear hb
  refine (c_nrmC hV rc).mono ?_
  rintro e w32 ⟨Av, cv, rfl, rv, hb⟩
  replace hV := hV.carry hb
  replace hT := tens_below hT hb hT.1
  replace rr := carry rr hb
  replace ri := carry ri hb
  replace ru := carry ru hb
  replace rc := carry rc hb
  replace hB := below_step hB hb hB.size
  clear hb
  clear rc
  go_wp2_with (at_builtin; refine wpList_copied w32 rfl (.tmp 184) (.tmp 185) 26 (by rfl) 60 _ 4 32 Tryz.underlying26 info_src rfl (by decide) (by decide) (by rfl) Ai 3 ci (srcs lC) (by rfl) ri (srcs_one _) (by omega) ?_; intro Ax11 cx11 w33 rc hb)
  replace hV := hV.carry hb
  replace hT := tens_below hT hb hT.1
  replace rr := carry rr hb
  replace ri := carry ri hb
  replace ru := carry ru hb
  replace rv := carry rv hb
  replace hB := below_step hB hb hB.size
  clear hb
  refine (c_prsC hV rc).mono ?_
  rintro e w34 ⟨rfl, hb⟩
  replace hV := hV.carry hb
  replace hT := tens_below hT hb hT.1
  replace rr := carry rr hb
  replace ri := carry ri hb
  replace ru := carry ru hb
  replace rv := carry rv hb
  replace rc := carry rc hb
  replace hB := below_step hB hb hB.size
  clear hb
  clear rc
  go_upto_region 15 with (fail)
  obtain ⟨w35, eb, hb, hz, kW⟩ := box1 w34 #[.int .i64 0, .int .i64 2] 54
  rw [← eb]; clear eb hz
  replace hV := hV.carry hb
  replace hT := tens_below hT hb hT.1
  replace rr := carry rr hb
  replace ri := carry ri hb
  replace ru := carry ru hb
  replace rv := carry rv hb
  replace hB := below_step hB hb hB.size
  clear hb
  go_wp2_with fail
  refine (pair_any _).mono ?_
  rintro e w36 ⟨g12, rfl, rf, hb⟩
  replace hV := hV.carry hb
  replace hT := tens_below hT hb hT.1
  replace rr := carry rr hb
  replace ri := carry ri hb
  replace ru := carry ru hb
  replace rv := carry rv hb
  replace kW := carryK kW hb
  replace hB := below_step hB hb hB.size
  clear hb
  go_wp2_with fail
  refine (c_mirH rf).mono ?_
  rintro e w37 ⟨Ah, ch, rfl, rh, hb⟩
  replace hV := hV.carry hb
  replace hT := tens_below hT hb hT.1
  replace rr := carry rr hb
  replace ri := carry ri hb
  replace ru := carry ru hb
  replace rv := carry rv hb
  replace kW := carryK kW hb
  replace rf := carry rf hb
  replace hB := below_step hB hb hB.size
  clear hb
  clear rf
  go_wp2_with fail
  refine (pair_any _).mono ?_
  rintro e w38 ⟨g13, rfl, rf, hb⟩
  replace hV := hV.carry hb
  replace hT := tens_below hT hb hT.1
  replace rr := carry rr hb
  replace ri := carry ri hb
  replace ru := carry ru hb
  replace rv := carry rv hb
  replace kW := carryK kW hb
  replace rh := carry rh hb
  replace hB := below_step hB hb hB.size
  clear hb
  go_wp2_with fail
  refine (c_mirS rf).mono ?_
  rintro e w39 ⟨Am, cm, rfl, rm, hb⟩
  replace hV := hV.carry hb
  replace hT := tens_below hT hb hT.1
  replace rr := carry rr hb
  replace ri := carry ri hb
  replace ru := carry ru hb
  replace rv := carry rv hb
  replace kW := carryK kW hb
  replace rh := carry rh hb
  replace rf := carry rf hb
  replace hB := below_step hB hb hB.size
  clear hb
  clear rf
  go_wp2_with (at_builtin; refine wpList_copied w39 rfl (.tmp 201) (.tmp 202) 26 (by rfl) 60 _ 4 32 Tryz.underlying26 info_src rfl (by decide) (by decide) (by rfl) Ah 4 ch (srcs lH) (by rfl) rh (srcs_one _) (by omega) ?_; intro Ax14 cx14 w40 rc hb)
  replace hV := hV.carry hb
  replace hT := tens_below hT hb hT.1
  replace rr := carry rr hb
  replace ri := carry ri hb
  replace ru := carry ru hb
  replace rv := carry rv hb
  replace kW := carryK kW hb
  replace rh := carry rh hb
  replace rm := carry rm hb
  replace hB := below_step hB hb hB.size
  clear hb
  refine (c_prsH hV rc).mono ?_
  rintro e w41 ⟨rfl, hb⟩
  replace hV := hV.carry hb
  replace hT := tens_below hT hb hT.1
  replace rr := carry rr hb
  replace ri := carry ri hb
  replace ru := carry ru hb
  replace rv := carry rv hb
  replace kW := carryK kW hb
  replace rh := carry rh hb
  replace rm := carry rm hb
  replace rc := carry rc hb
  replace hB := below_step hB hb hB.size
  clear hb
  clear rc
  go_upto_region 18 with (fail)
  obtain ⟨w42, eb, hb, hz, kX⟩ := box1 w41 #[.int .i64 4, .int .i64 0] 54
  rw [← eb]; clear eb hz
  replace hV := hV.carry hb
  replace hT := tens_below hT hb hT.1
  replace rr := carry rr hb
  replace ri := carry ri hb
  replace ru := carry ru hb
  replace rv := carry rv hb
  replace kW := carryK kW hb
  replace rh := carry rh hb
  replace rm := carry rm hb
  replace hB := below_step hB hb hB.size
  clear hb
  go_wp2_with (at_builtin; refine wpList_copied w42 rfl (.tmp 208) (.tmp 209) 26 (by rfl) 60 _ 4 32 Tryz.underlying26 info_src rfl (by decide) (by decide) (by rfl) Am 4 cm (srcs lM) (by rfl) rm (srcs_one _) (by omega) ?_; intro Ax15 cx15 w43 rc hb)
  replace hV := hV.carry hb
  replace hT := tens_below hT hb hT.1
  replace rr := carry rr hb
  replace ri := carry ri hb
  replace ru := carry ru hb
  replace rv := carry rv hb
  replace kW := carryK kW hb
  replace rh := carry rh hb
  replace rm := carry rm hb
  replace kX := carryK kX hb
  replace hB := below_step hB hb hB.size
  clear hb
  refine (c_prsS hV rc).mono ?_
  rintro e w44 ⟨rfl, hb⟩
  replace hV := hV.carry hb
  replace hT := tens_below hT hb hT.1
  replace rr := carry rr hb
  replace ri := carry ri hb
  replace ru := carry ru hb
  replace rv := carry rv hb
  replace kW := carryK kW hb
  replace rh := carry rh hb
  replace rm := carry rm hb
  replace kX := carryK kX hb
  replace rc := carry rc hb
  replace hB := below_step hB hb hB.size
  clear hb
  clear rc
  clear rm
  go_upto_region 19 with (fail)
  obtain ⟨w45, eb, hb, hz, kY⟩ := box1 w44 #[.int .i64 0, .int .i64 0] 54
  rw [← eb]; clear eb hz
  replace hV := hV.carry hb
  replace hT := tens_below hT hb hT.1
  replace rr := carry rr hb
  replace ri := carry ri hb
  replace ru := carry ru hb
  replace rv := carry rv hb
  replace kW := carryK kW hb
  replace rh := carry rh hb
  replace kX := carryK kX hb
  replace hB := below_step hB hb hB.size
  clear hb
  go_wp2_with fail
  refine (pair_any _).mono ?_
  rintro e w46 ⟨g16, rfl, rf, hb⟩
  replace hV := hV.carry hb
  replace hT := tens_below hT hb hT.1
  replace rr := carry rr hb
  replace ri := carry ri hb
  replace ru := carry ru hb
  replace rv := carry rv hb
  replace kW := carryK kW hb
  replace rh := carry rh hb
  replace kX := carryK kX hb
  replace kY := carryK kY hb
  replace hB := below_step hB hb hB.size
  clear hb
  go_wp2_with fail
  refine (c_symP hV rf).mono ?_
  rintro e w47 ⟨Ao, co, rfl, ro, hb⟩
  replace hV := hV.carry hb
  replace hT := tens_below hT hb hT.1
  replace rr := carry rr hb
  replace ri := carry ri hb
  replace ru := carry ru hb
  replace rv := carry rv hb
  replace kW := carryK kW hb
  replace rh := carry rh hb
  replace kX := carryK kX hb
  replace kY := carryK kY hb
  replace rf := carry rf hb
  replace hB := below_step hB hb hB.size
  clear hb
  clear rf
  go_wp2_with fail
  obtain ⟨w48, eb, hb, hz, kk⟩ := box1 w47 #[.int .i64 1, .int .i64 0, .int .i64 1, .int .i64 0, .int .i64 (-1), .int .i64 0, .int .i64 1, .int .i64 0] 60
  rw [← eb]; clear eb hz
  replace hV := hV.carry hb
  replace hT := tens_below hT hb hT.1
  replace rr := carry rr hb
  replace ri := carry ri hb
  replace ru := carry ru hb
  replace rv := carry rv hb
  replace kW := carryK kW hb
  replace rh := carry rh hb
  replace kX := carryK kX hb
  replace kY := carryK kY hb
  replace ro := carry ro hb
  replace hB := below_step hB hb hB.size
  clear hb
  refine (c_symQ hV (blkS (l := lQ) kk rfl)).mono ?_
  rintro e w49 ⟨Aq, cq, rfl, rq, hb⟩
  replace hV := hV.carry hb
  replace hT := tens_below hT hb hT.1
  replace rr := carry rr hb
  replace ri := carry ri hb
  replace ru := carry ru hb
  replace rv := carry rv hb
  replace kW := carryK kW hb
  replace rh := carry rh hb
  replace kX := carryK kX hb
  replace kY := carryK kY hb
  replace ro := carry ro hb
  replace kk := carryK kk hb
  replace hB := below_step hB hb hB.size
  clear hb
  clear kk
  go_wp2_with fail
  refine (pair_any _).mono ?_
  rintro e w50 ⟨g17, rfl, rf, hb⟩
  replace hV := hV.carry hb
  replace hT := tens_below hT hb hT.1
  replace rr := carry rr hb
  replace ri := carry ri hb
  replace ru := carry ru hb
  replace rv := carry rv hb
  replace kW := carryK kW hb
  replace rh := carry rh hb
  replace kX := carryK kX hb
  replace kY := carryK kY hb
  replace ro := carry ro hb
  replace rq := carry rq hb
  replace hB := below_step hB hb hB.size
  clear hb
  go_wp2_with fail
  refine (c_print hT rf).mono ?_
  rintro e w51 ⟨rfl, hb⟩
  replace hV := hV.carry hb
  replace hT := tens_below hT hb hT.1
  replace rr := carry rr hb
  replace ri := carry ri hb
  replace ru := carry ru hb
  replace rv := carry rv hb
  replace kW := carryK kW hb
  replace rh := carry rh hb
  replace kX := carryK kX hb
  replace kY := carryK kY hb
  replace ro := carry ro hb
  replace rq := carry rq hb
  replace rf := carry rf hb
  replace hB := below_step hB hb hB.size
  clear hb
  clear rf
  clear hV
  clear hT
  go_wp2_with fail
  refine (c_told lR Ar 4 cr _ rr (by omega)).mono ?_
  rintro e w52 ⟨rtt, rtc, rfl, rt, hb⟩
  replace rr := carry rr hb
  replace ri := carry ri hb
  replace ru := carry ru hb
  replace rv := carry rv hb
  replace kW := carryK kW hb
  replace rh := carry rh hb
  replace kX := carryK kX hb
  replace kY := carryK kY hb
  replace ro := carry ro hb
  replace rq := carry rq hb
  replace hB := below_step hB hb hB.size
  clear hb
  go_wp2_with fail
  obtain ⟨w53, eb, hb, hz, kk⟩ := box1 w52 #[.int .i64 0, .int .i64 0, .int .i64 1, .int .i64 0, .int .i64 1, .int .i64 0, .int .i64 1, .int .i64 0, .int .i64 1, .int .i64 0, .int .i64 1, .int .i64 0, .int .i64 2, .int .i64 0, .int .i64 1, .int .i64 0] 78
  rw [← eb]; clear eb hz
  replace rr := carry rr hb
  replace ri := carry ri hb
  replace ru := carry ru hb
  replace rv := carry rv hb
  replace kW := carryK kW hb
  replace rh := carry rh hb
  replace kX := carryK kX hb
  replace kY := carryK kY hb
  replace ro := carry ro hb
  replace rq := carry rq hb
  replace rt := carry rt hb
  replace hB := below_step hB hb hB.size
  clear hb
  refine (c_same lR _ 4 _ _ _ _ rt (blkS (l := lR) kk rfl) (by omega)).mono ?_
  rintro e w54 ⟨rfl, hb⟩
  replace rr := carry rr hb
  replace ri := carry ri hb
  replace ru := carry ru hb
  replace rv := carry rv hb
  replace kW := carryK kW hb
  replace rh := carry rh hb
  replace kX := carryK kX hb
  replace kY := carryK kY hb
  replace ro := carry ro hb
  replace rq := carry rq hb
  replace rt := carry rt hb
  replace kk := carryK kk hb
  replace hB := below_step hB hb hB.size
  clear hb
  clear kk
  clear rt
  clear rr
  go_wp2_with fail
  refine (c_told lC Ai 3 ci _ ri (by omega)).mono ?_
  rintro e w55 ⟨rtt, rtc, rfl, rt, hb⟩
  replace ri := carry ri hb
  replace ru := carry ru hb
  replace rv := carry rv hb
  replace kW := carryK kW hb
  replace rh := carry rh hb
  replace kX := carryK kX hb
  replace kY := carryK kY hb
  replace ro := carry ro hb
  replace rq := carry rq hb
  replace hB := below_step hB hb hB.size
  clear hb
  go_wp2_with fail
  obtain ⟨w56, eb, hb, hz, kk⟩ := box1 w55 #[.int .i64 0, .int .i64 0, .int .i64 1, .int .i64 0, .int .i64 1, .int .i64 0, .int .i64 2, .int .i64 0, .int .i64 2, .int .i64 0, .int .i64 1, .int .i64 0] 78
  rw [← eb]; clear eb hz
  replace ri := carry ri hb
  replace ru := carry ru hb
  replace rv := carry rv hb
  replace kW := carryK kW hb
  replace rh := carry rh hb
  replace kX := carryK kX hb
  replace kY := carryK kY hb
  replace ro := carry ro hb
  replace rq := carry rq hb
  replace rt := carry rt hb
  replace hB := below_step hB hb hB.size
  clear hb
  refine (c_same lC _ 3 _ _ _ _ rt (blkS (l := lC) kk rfl) (by omega)).mono ?_
  rintro e w57 ⟨rfl, hb⟩
  replace ri := carry ri hb
  replace ru := carry ru hb
  replace rv := carry rv hb
  replace kW := carryK kW hb
  replace rh := carry rh hb
  replace kX := carryK kX hb
  replace kY := carryK kY hb
  replace ro := carry ro hb
  replace rq := carry rq hb
  replace rt := carry rt hb
  replace kk := carryK kk hb
  replace hB := below_step hB hb hB.size
  clear hb
  clear kk
  clear rt
  clear ri
  go_wp2_with fail
  refine (c_wts lC Au 3 cu _ ru (by omega)).mono ?_
  rintro e w58 ⟨Ay, cy, rfl, ry, hb⟩
  replace ru := carry ru hb
  replace rv := carry rv hb
  replace kW := carryK kW hb
  replace rh := carry rh hb
  replace kX := carryK kX hb
  replace kY := carryK kY hb
  replace ro := carry ro hb
  replace rq := carry rq hb
  replace hB := below_step hB hb hB.size
  clear hb
  go_wp2_with fail
  refine (c_wts lC Av 3 cv _ rv (by omega)).mono ?_
  rintro e w59 ⟨Az, cz, rfl, rz, hb⟩
  replace ru := carry ru hb
  replace rv := carry rv hb
  replace kW := carryK kW hb
  replace rh := carry rh hb
  replace kX := carryK kX hb
  replace kY := carryK kY hb
  replace ro := carry ro hb
  replace rq := carry rq hb
  replace ry := carry ry hb
  replace hB := below_step hB hb hB.size
  clear hb
  go_wp2_with fail
  refine (c_sameW lC _ 3 _ _ _ _ ry rz (by omega)).mono ?_
  rintro e w60 ⟨rfl, hb⟩
  replace ru := carry ru hb
  replace rv := carry rv hb
  replace kW := carryK kW hb
  replace rh := carry rh hb
  replace kX := carryK kX hb
  replace kY := carryK kY hb
  replace ro := carry ro hb
  replace rq := carry rq hb
  replace ry := carry ry hb
  replace rz := carry rz hb
  replace hB := below_step hB hb hB.size
  clear hb
  clear ry
  clear rz
  clear ru
  clear rv
  have cW := kW.cell
  have cX := kX.cell
  have cY := kY.cell
  obtain ⟨ad, s0, e0, _, hs0, hc0⟩ := src_hit rh (show 2 < 4 by omega) (Nat.le_refl _)
  subst e0
  cases hs0
  obtain ⟨d0, d1, d2, d3⟩ := hc0 _ (Below.refl _ _)
  replace d0 : w60.cell? ⟨ad.block, ad.off + 8, none⟩ = some (.int .i64 4) := d0
  replace d1 : w60.cell? ⟨ad.block, ad.off + 8 + 1, none⟩ = some (.int .i64 0) := d1
  replace d2 : w60.cell? ⟨ad.block, ad.off + 8 + 2, none⟩ = some (.int .i64 1) := d2
  replace d3 : w60.cell? ⟨ad.block, ad.off + 8 + 3, none⟩ = some (.int .i64 0) := d3
  clear hc0 rh
  have qW : ∀ W, (binOp .eql 54 (.agg #[.int .i64 0, .int .i64 2]) (.agg #[.int .i64 0, .int .i64 2])).run Tryz.prog W = .ok (.bool true) W := fun _ => by kernel_rfl
  have qX : ∀ W, (binOp .eql 54 (.agg #[.int .i64 4, .int .i64 0]) (.agg #[.int .i64 4, .int .i64 0])).run Tryz.prog W = .ok (.bool true) W := fun _ => by kernel_rfl
  have qY : ∀ W, (binOp .eql 54 (.agg #[.int .i64 0, .int .i64 0]) (.agg #[.int .i64 0, .int .i64 0])).run Tryz.prog W = .ok (.bool true) W := fun _ => by kernel_rfl
  have qS : ∀ W, (binOp .eql 60 (.agg #[.int .i64 4, .int .i64 0, .int .i64 1, .int .i64 0]) (.agg #[.int .i64 4, .int .i64 0, .int .i64 1, .int .i64 0])).run Tryz.prog W = .ok (.bool true) W := fun _ => by kernel_rfl
  go_wp2_with fail
  clear cW cX cY qW qX qY qS d0 d1 d2 d3
  clear kW
  clear kX
  clear kY
  obtain ⟨w61, eb, hb, hz, kk⟩ := box1 w60 #[.int .i64 0] 3
  rw [← eb]; clear eb hz
  replace ro := carry ro hb
  replace rq := carry rq hb
  replace hB := below_step hB hb hB.size
  clear hb
  refine (c_sameI [0] _ 1 _ _ _ _ ro (blkR (xs := [0]) kk rfl) (by omega)).mono ?_
  rintro e w62 ⟨rfl, hb⟩
  replace ro := carry ro hb
  replace rq := carry rq hb
  replace kk := carryK kk hb
  replace hB := below_step hB hb hB.size
  clear hb
  clear kk
  clear ro
  go_wp2_with fail
  obtain ⟨w63, eb, hb, hz, kk⟩ := box1 w62 #[.int .i64 0, .int .i64 2] 3
  rw [← eb]; clear eb hz
  replace rq := carry rq hb
  replace hB := below_step hB hb hB.size
  clear hb
  refine (c_sameI [0, 2] _ 2 _ _ _ _ rq (blkR (xs := [0, 2]) kk rfl) (by omega)).mono ?_
  rintro e w64 ⟨rfl, hb⟩
  replace rq := carry rq hb
  replace kk := carryK kk hb
  replace hB := below_step hB hb hB.size
  clear hb
  clear kk
  clear rq
  have qT : ∀ W, (binOp .eql 9 (.string { data := #[115, 111, 117, 114, 99, 101, 32, 48, 32, 48, 32, 49, 32, 48, 10, 115, 111, 117, 114, 99, 101, 32, 49, 32, 48, 32, 49, 32, 48, 10] }) (.string { data := #[115, 111, 117, 114, 99, 101, 32, 48, 32, 48, 32, 49, 32, 48, 10, 115, 111, 117, 114, 99, 101, 32, 49, 32, 48, 32, 49, 32, 48, 10] })).run Tryz.prog W = .ok (.bool true) W := fun _ => by kernel_rfl
  go_wp2_with fail
  go_ret
  exact ⟨rfl, hB⟩
end Go.Proofs.YtcihiglpahhboaaGreatDoor
