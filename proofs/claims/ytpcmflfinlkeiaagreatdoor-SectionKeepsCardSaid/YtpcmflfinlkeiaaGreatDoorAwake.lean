/- The contract of awake: printed by tools/genawake.py. -/
import Derived.Test.YtpcmflfinlkeiaaGreatDoorAwakeC
namespace Go.Proofs.YtpcmflfinlkeiaaGreatDoor
open Go.RowKit Go.Shelf
set_option maxRecDepth 100000

theorem secR {w : World} {g : Nat} {s : Sec} (h : Blk w g 53 #[.int .i64 s.b0, .int .i64 s.b1, .int .i64 s.b2, .int .i64 s.a1, .int .i64 s.a2, .int .i64 s.sh]) : Reads w w.heap.size 6 (some ⟨g, 0, none⟩) 1 (secs [s]) := by
  refine ⟨by rw [secs_len]; rfl, fun _ => ⟨_, rfl, h.lt, fun j u hu => ?_⟩⟩
  have h3 : (⟨g, 0, none⟩ : Addr).add j = ⟨g, j, none⟩ := by unfold Addr.add; split <;> simp_all
  rw [h3, h.cell j]
  simpa [secs, secCells] using hu

set_option maxHeartbeats 40000000 in
theorem awake_any (w : World) (hP : Pow w) (hT : Tens w) : Calls Tryz.prog 5 #[] w fun e w' => e = .returned (.bool true) ∧ Below w.heap.size w w' := by
  have hB := Below.refl w.heap.size w
  go_enter Tryz.func5, Tryz.ntmps5
  go_wp2_with fail
  refine (half_any _).mono ?_
  rintro e w1 ⟨rfl, hb⟩
  replace hP := carryP hP hb
  replace hT := carryT hT hb
  replace hB := below_step hB hb hB.size
  clear hb
  go_wp2_with fail
  refine (c_imp1 _).mono ?_
  rintro e w2 ⟨A1, c1, rfl, r1, hb⟩
  replace hP := carryP hP hb
  replace hT := carryT hT hb
  replace hB := below_step hB hb hB.size
  clear hb
  go_wp2_with fail
  refine (half_any _).mono ?_
  rintro e w3 ⟨rfl, hb⟩
  replace hP := carryP hP hb
  replace hT := carryT hT hb
  replace r1 := carry r1 hb
  replace hB := below_step hB hb hB.size
  clear hb
  go_wp2_with fail
  refine (c_imp2 _).mono ?_
  rintro e w4 ⟨A2, c2, rfl, r2, hb⟩
  replace hP := carryP hP hb
  replace hT := carryT hT hb
  replace r1 := carry r1 hb
  replace hB := below_step hB hb hB.size
  clear hb
  go_wp2_with fail
  refine (half_any _).mono ?_
  rintro e w5 ⟨rfl, hb⟩
  replace hP := carryP hP hb
  replace hT := carryT hT hb
  replace r1 := carry r1 hb
  replace r2 := carry r2 hb
  replace hB := below_step hB hb hB.size
  clear hb
  go_wp2_with fail
  refine (c_set1 _).mono ?_
  rintro e w6 ⟨rfl, hb⟩
  replace hP := carryP hP hb
  replace hT := carryT hT hb
  replace r1 := carry r1 hb
  replace r2 := carry r2 hb
  replace hB := below_step hB hb hB.size
  clear hb
  go_wp2_with fail
  refine (half_any _).mono ?_
  rintro e w7 ⟨rfl, hb⟩
  replace hP := carryP hP hb
  replace hT := carryT hT hb
  replace r1 := carry r1 hb
  replace r2 := carry r2 hb
  replace hB := below_step hB hb hB.size
  clear hb
  go_wp2_with fail
  refine (c_set2 _).mono ?_
  rintro e w8 ⟨rfl, hb⟩
  replace hP := carryP hP hb
  replace hT := carryT hT hb
  replace r1 := carry r1 hb
  replace r2 := carry r2 hb
  replace hB := below_step hB hb hB.size
  clear hb
  go_wp2_with fail
  refine (half_any _).mono ?_
  rintro e w9 ⟨rfl, hb⟩
  replace hP := carryP hP hb
  replace hT := carryT hT hb
  replace r1 := carry r1 hb
  replace r2 := carry r2 hb
  replace hB := below_step hB hb hB.size
  clear hb
  go_wp2_with fail
  refine (c_con _).mono ?_
  rintro e w10 ⟨rfl, hb⟩
  replace hP := carryP hP hb
  replace hT := carryT hT hb
  replace r1 := carry r1 hb
  replace r2 := carry r2 hb
  replace hB := below_step hB hb hB.size
  clear hb
  go_wp2_with fail
  refine (half_any _).mono ?_
  rintro e w11 ⟨rfl, hb⟩
  replace hP := carryP hP hb
  replace hT := carryT hT hb
  replace r1 := carry r1 hb
  replace r2 := carry r2 hb
  replace hB := below_step hB hb hB.size
  clear hb
  go_wp2_with fail
  refine (c_sta _).mono ?_
  rintro e w12 ⟨rfl, hb⟩
  replace hP := carryP hP hb
  replace hT := carryT hT hb
  replace r1 := carry r1 hb
  replace r2 := carry r2 hb
  replace hB := below_step hB hb hB.size
  clear hb
  go_wp2_with fail
  refine (half_any _).mono ?_
  rintro e w13 ⟨rfl, hb⟩
  replace hP := carryP hP hb
  replace hT := carryT hT hb
  replace r1 := carry r1 hb
  replace r2 := carry r2 hb
  replace hB := below_step hB hb hB.size
  clear hb
  go_wp2_with fail
  refine (c_bou _).mono ?_
  rintro e w14 ⟨rfl, hb⟩
  replace hP := carryP hP hb
  replace hT := carryT hT hb
  replace r1 := carry r1 hb
  replace r2 := carry r2 hb
  replace hB := below_step hB hb hB.size
  clear hb
  go_wp2_with fail
  refine (half_any _).mono ?_
  rintro e w15 ⟨rfl, hb⟩
  replace hP := carryP hP hb
  replace hT := carryT hT hb
  replace r1 := carry r1 hb
  replace r2 := carry r2 hb
  replace hB := below_step hB hb hB.size
  clear hb
  go_wp2_with fail
  refine (c_res _ hP).mono ?_
  rintro e w16 ⟨rfl, hb⟩
  replace hP := carryP hP hb
  replace hT := carryT hT hb
  replace r1 := carry r1 hb
  replace r2 := carry r2 hb
  replace hB := below_step hB hb hB.size
  clear hb
  clear hP
  go_wp2_with fail
  obtain ⟨w17, eb, hb, hz, k1, kk⟩ := box2 w16 #[.int .i64 4, .int .i64 0, .int .i64 4, .int .i64 2] #[.int .i64 4, .int .i64 0, .int .i64 0] 68 3
  rw [← eb]; clear eb hz
  replace hT := carryT hT hb
  replace r1 := carry r1 hb
  replace r2 := carry r2 hb
  replace hB := below_step hB hb hB.size
  clear hb
  refine (c_run1 _ _ _ (blkR (xs := [4, 0, 0]) kk rfl)).mono ?_
  rintro e w18 ⟨A3, c3, rfl, r3, hb⟩
  replace hT := carryT hT hb
  replace r1 := carry r1 hb
  replace r2 := carry r2 hb
  replace k1 := carryK k1 hb
  replace kk := carryK kk hb
  replace hB := below_step hB hb hB.size
  clear hb
  clear kk
  go_wp2_with fail
  refine (c_del1 _).mono ?_
  rintro e w19 ⟨rfl, hb⟩
  replace hT := carryT hT hb
  replace r1 := carry r1 hb
  replace r2 := carry r2 hb
  replace k1 := carryK k1 hb
  replace r3 := carry r3 hb
  replace hB := below_step hB hb hB.size
  clear hb
  go_wp2_with fail
  obtain ⟨w20, eb, hb, hz, k2⟩ := box1 w19 #[.int .i64 1, .int .i64 1] 72
  rw [← eb]; clear eb hz
  replace hT := carryT hT hb
  replace r1 := carry r1 hb
  replace r2 := carry r2 hb
  replace k1 := carryK k1 hb
  replace r3 := carry r3 hb
  replace hB := below_step hB hb hB.size
  clear hb
  refine (c_del2 _).mono ?_
  rintro e w21 ⟨rfl, hb⟩
  replace hT := carryT hT hb
  replace r1 := carry r1 hb
  replace r2 := carry r2 hb
  replace k1 := carryK k1 hb
  replace r3 := carry r3 hb
  replace k2 := carryK k2 hb
  replace hB := below_step hB hb hB.size
  clear hb
  go_wp2_with fail
  obtain ⟨w22, eb, hb, hz, k3, kk⟩ := box2 w21 #[.int .i64 1, .int .i64 2] #[.int .i64 8, .int .i64 4, .int .i64 2, .int .i64 1, .int .i64 0, .int .i64 0] 72 3
  rw [← eb]; clear eb hz
  replace hT := carryT hT hb
  replace r1 := carry r1 hb
  replace r2 := carry r2 hb
  replace k1 := carryK k1 hb
  replace r3 := carry r3 hb
  replace k2 := carryK k2 hb
  replace hB := below_step hB hb hB.size
  clear hb
  refine (c_same A1 6 c1 _ _ 6 _ r1 (blkR (xs := [8, 4, 2, 1, 0, 0]) kk rfl) (by omega)).mono ?_
  rintro e w23 ⟨rfl, hb⟩
  replace hT := carryT hT hb
  replace r1 := carry r1 hb
  replace r2 := carry r2 hb
  replace k1 := carryK k1 hb
  replace r3 := carry r3 hb
  replace k2 := carryK k2 hb
  replace k3 := carryK k3 hb
  replace kk := carryK kk hb
  replace hB := below_step hB hb hB.size
  clear hb
  clear kk
  clear r1
  go_wp2_with fail
  obtain ⟨w24, eb, hb, hz, kk⟩ := box1 w23 #[.int .i64 (-8), .int .i64 (-4), .int .i64 (-2), .int .i64 (-1), .int .i64 (-1), .int .i64 (-1)] 3
  rw [← eb]; clear eb hz
  replace hT := carryT hT hb
  replace r2 := carry r2 hb
  replace k1 := carryK k1 hb
  replace r3 := carry r3 hb
  replace k2 := carryK k2 hb
  replace k3 := carryK k3 hb
  replace hB := below_step hB hb hB.size
  clear hb
  refine (c_same A2 6 c2 _ _ 6 _ r2 (blkR (xs := [-8, -4, -2, -1, -1, -1]) kk rfl) (by omega)).mono ?_
  rintro e w25 ⟨rfl, hb⟩
  replace hT := carryT hT hb
  replace r2 := carry r2 hb
  replace k1 := carryK k1 hb
  replace r3 := carry r3 hb
  replace k2 := carryK k2 hb
  replace k3 := carryK k3 hb
  replace kk := carryK kk hb
  replace hB := below_step hB hb hB.size
  clear hb
  clear kk
  clear r2
  have x1 := k1.cell
  go_wp2_with fail
  clear x1
  obtain ⟨w26, eb, hb, hz, kk⟩ := box1 w25 #[.int .i64 1, .int .i64 2, .int .i64 1] 3
  rw [← eb]; clear eb hz
  replace hT := carryT hT hb
  replace k1 := carryK k1 hb
  replace r3 := carry r3 hb
  replace k2 := carryK k2 hb
  replace k3 := carryK k3 hb
  replace hB := below_step hB hb hB.size
  clear hb
  refine (c_same A3 3 c3 _ _ 3 _ r3 (blkR (xs := [1, 2, 1]) kk rfl) (by omega)).mono ?_
  rintro e w27 ⟨rfl, hb⟩
  replace hT := carryT hT hb
  replace k1 := carryK k1 hb
  replace r3 := carry r3 hb
  replace k2 := carryK k2 hb
  replace k3 := carryK k3 hb
  replace kk := carryK kk hb
  replace hB := below_step hB hb hB.size
  clear hb
  clear kk
  clear r3
  clear k1
  have x2 := k2.cell
  have x3 := k3.cell
  go_wp2_with fail
  clear x2 x3
  clear k2
  clear k3
  obtain ⟨w28, eb, hb, hz, kk⟩ := box1 w27 #[.int .i64 3, .int .i64 1, .int .i64 (-2)] 3
  rw [← eb]; clear eb hz
  replace hT := carryT hT hb
  replace hB := below_step hB hb hB.size
  clear hb
  refine (c_run2 _ _ _ (blkR (xs := [3, 1, -2]) kk rfl)).mono ?_
  rintro e w29 ⟨A4, c4, rfl, r4, hb⟩
  replace hT := carryT hT hb
  replace kk := carryK kk hb
  replace hB := below_step hB hb hB.size
  clear hb
  clear kk
  go_wp2_with fail
  obtain ⟨w30, eb, hb, hz, kk⟩ := box1 w29 #[.int .i64 3, .int .i64 2, .int .i64 (-2)] 3
  rw [← eb]; clear eb hz
  replace hT := carryT hT hb
  replace r4 := carry r4 hb
  replace hB := below_step hB hb hB.size
  clear hb
  refine (c_und _ _ _ (blkR (xs := [3, 2, -2]) kk rfl)).mono ?_
  rintro e w31 ⟨A5, c5, rfl, r5, hb⟩
  replace hT := carryT hT hb
  replace r4 := carry r4 hb
  replace kk := carryK kk hb
  replace hB := below_step hB hb hB.size
  clear hb
  clear kk
  go_wp2_with fail
  obtain ⟨w32, eb, hb, hz, kk⟩ := box1 w31 #[.int .i64 1, .int .i64 2] 3
  rw [← eb]; clear eb hz
  replace hT := carryT hT hb
  replace r4 := carry r4 hb
  replace r5 := carry r5 hb
  replace hB := below_step hB hb hB.size
  clear hb
  refine (c_run3 _ _ _ (blkR (xs := [1, 2]) kk rfl)).mono ?_
  rintro e w33 ⟨A6, c6, rfl, r6, hb⟩
  replace hT := carryT hT hb
  replace r4 := carry r4 hb
  replace r5 := carry r5 hb
  replace kk := carryK kk hb
  replace hB := below_step hB hb hB.size
  clear hb
  clear kk
  go_wp2_with fail
  obtain ⟨w34, eb, hb, hz, kk⟩ := box1 w33 #[.int .i64 1, .int .i64 2] 3
  rw [← eb]; clear eb hz
  replace hT := carryT hT hb
  replace r4 := carry r4 hb
  replace r5 := carry r5 hb
  replace r6 := carry r6 hb
  replace hB := below_step hB hb hB.size
  clear hb
  refine (c_sat _ _ _ (blkR (xs := [1, 2]) kk rfl)).mono ?_
  rintro e w35 ⟨rfl, hb⟩
  replace hT := carryT hT hb
  replace r4 := carry r4 hb
  replace r5 := carry r5 hb
  replace r6 := carry r6 hb
  replace kk := carryK kk hb
  replace hB := below_step hB hb hB.size
  clear hb
  clear kk
  go_wp2_with fail
  refine (half_any _).mono ?_
  rintro e w36 ⟨rfl, hb⟩
  replace hT := carryT hT hb
  replace r4 := carry r4 hb
  replace r5 := carry r5 hb
  replace r6 := carry r6 hb
  replace hB := below_step hB hb hB.size
  clear hb
  go_wp2_with fail
  obtain ⟨w37, eb, hb, hz, kk⟩ := box1 w36 #[.int .i64 4, .int .i64 0, .int .i64 0, .int .i64 (-2), .int .i64 0, .int .i64 2] 53
  rw [← eb]; clear eb hz
  replace hT := carryT hT hb
  replace r4 := carry r4 hb
  replace r5 := carry r5 hb
  replace r6 := carry r6 hb
  replace hB := below_step hB hb hB.size
  clear hb
  refine (c_pri _ _ _ (secR (s := hf) kk) hT).mono ?_
  rintro e w38 ⟨rfl, hb⟩
  replace hT := carryT hT hb
  replace r4 := carry r4 hb
  replace r5 := carry r5 hb
  replace r6 := carry r6 hb
  replace kk := carryK kk hb
  replace hB := below_step hB hb hB.size
  clear hb
  clear kk
  clear hT
  go_wp2_with fail
  obtain ⟨w39, eb, hb, hz, kk⟩ := box1 w38 #[.int .i64 3, .int .i64 2, .int .i64 (-2)] 3
  rw [← eb]; clear eb hz
  replace r4 := carry r4 hb
  replace r5 := carry r5 hb
  replace r6 := carry r6 hb
  replace hB := below_step hB hb hB.size
  clear hb
  refine (c_same A4 3 c4 _ _ 3 _ r4 (blkR (xs := [3, 2, -2]) kk rfl) (by omega)).mono ?_
  rintro e w40 ⟨rfl, hb⟩
  replace r4 := carry r4 hb
  replace r5 := carry r5 hb
  replace r6 := carry r6 hb
  replace kk := carryK kk hb
  replace hB := below_step hB hb hB.size
  clear hb
  clear kk
  clear r4
  go_wp2_with fail
  obtain ⟨w41, eb, hb, hz, kk⟩ := box1 w40 #[.int .i64 3, .int .i64 1, .int .i64 (-2)] 3
  rw [← eb]; clear eb hz
  replace r5 := carry r5 hb
  replace r6 := carry r6 hb
  replace hB := below_step hB hb hB.size
  clear hb
  refine (c_same A5 3 c5 _ _ 3 _ r5 (blkR (xs := [3, 1, -2]) kk rfl) (by omega)).mono ?_
  rintro e w42 ⟨rfl, hb⟩
  replace r5 := carry r5 hb
  replace r6 := carry r6 hb
  replace kk := carryK kk hb
  replace hB := below_step hB hb hB.size
  clear hb
  clear kk
  clear r5
  go_wp2_with fail
  obtain ⟨w43, eb, hb, hz, kk⟩ := box1 w42 #[.int .i64 30000, .int .i64 32767] 3
  rw [← eb]; clear eb hz
  replace r6 := carry r6 hb
  replace hB := below_step hB hb hB.size
  clear hb
  refine (c_same A6 2 c6 _ _ 2 _ r6 (blkR (xs := [30000, 32767]) kk rfl) (by omega)).mono ?_
  rintro e w44 ⟨rfl, hb⟩
  replace r6 := carry r6 hb
  replace kk := carryK kk hb
  replace hB := below_step hB hb hB.size
  clear hb
  clear kk
  clear r6
  go_wp2
  go_ret
  exact ⟨by simp, hB⟩
end Go.Proofs.YtpcmflfinlkeiaaGreatDoor
