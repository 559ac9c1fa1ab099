/- Closed contracts: what awake asks. -/
import Derived.Test.YtnndaipnfniciaaGreatDoorBaseO
import Derived.Test.YtnndaipnfniciaaGreatDoorBaseW
import Derived.Test.YtnndaipnfniciaaGreatDoorNPol2
import Derived.Test.YtnndaipnfniciaaGreatDoorNBel
import Derived.Test.YtnndaipnfniciaaGreatDoorNPeak
import Derived.Test.YtnndaipnfniciaaGreatDoorNSamR
import Derived.Test.YtnndaipnfniciaaGreatDoorNDual
import Derived.Test.YtnndaipnfniciaaGreatDoorNNumb
import Derived.Test.YtnndaipnfniciaaGreatDoorNProdF
import Derived.Test.YtnndaipnfniciaaGreatDoorNPrint
import Derived.Test.YtnndaipnfniciaaGreatDoorBaseV
namespace Go.Proofs.YtnndaipnfniciaaGreatDoor
open Go.RowKit Go.Shelf
set_option maxRecDepth 100000
def lF : List El := [⟨kSeries, 2, 1⟩, ⟨kShunt, 0, 1⟩]
theorem lF_ok : ladErr lF = 0 := by decide +kernel
theorem lF_at : atErr lF 1 = 0 := by decide +kernel
theorem lF_a : (chn 1 .id lF).a = ⟨0, 2⟩ := by decide +kernel
theorem lF_b : (chn 1 .id lF).b = ⟨2, 1⟩ := by decide +kernel
theorem lF_c : (chn 1 .id lF).c = ⟨0, 1⟩ := by decide +kernel
theorem lF_d : (chn 1 .id lF).d = ⟨1, 0⟩ := by decide +kernel
theorem lF_v : dvs 1 .one lF = ⟨1, 0⟩ := by decide +kernel
theorem elsNew (w : World) (l : List El) (t : TypeId) (n : Nat) (hn : n = l.length) : Reads (w.alloc (.cells (els l).toArray t)) (w.alloc (.cells (els l).toArray t)).heap.size 3 (some ⟨w.heap.size, 0, none⟩) n (els l) := by
  refine ⟨by rw [els_len]; omega, fun _ => ⟨_, rfl, by simp, fun j u hu => ?_⟩⟩
  have : (⟨w.heap.size, 0, none⟩ : Addr).add j = ⟨w.heap.size, j, none⟩ := by unfold Addr.add; split <;> simp_all
  rw [this]
  exact cells_new _ _ _ j u hu
theorem blkE {w : World} {g : Nat} {t : TypeId} {l : List El} {n : Nat} (h : Blk w g t (els l).toArray) (hn : n = l.length) : Reads w w.heap.size 3 (some ⟨g, 0, none⟩) n (els l) := by
  refine ⟨by rw [els_len]; omega, fun _ => ⟨_, rfl, h.lt, fun j u hu => ?_⟩⟩
  have : (⟨g, 0, none⟩ : Addr).add j = ⟨g, j, none⟩ := by unfold Addr.add; split <;> simp_all
  rw [this, h.cell]
  simpa using hu
theorem blkRt {w : World} {g : Nat} {t : TypeId} {l : List Rt} {n : Nat} (h : Blk w g t (rts l).toArray) (hn : n = l.length) : Reads w w.heap.size 2 (some ⟨g, 0, none⟩) n (rts l) := by
  refine ⟨by rw [rts_len]; omega, fun _ => ⟨_, rfl, h.lt, fun j u hu => ?_⟩⟩
  have : (⟨g, 0, none⟩ : Addr).add j = ⟨g, j, none⟩ := by unfold Addr.add; split <;> simp_all
  rw [this, h.cell]
  simpa using hu
theorem filter_any (w : World) :
    Calls Tryz.prog 80 #[] w fun e w' => ∃ g, e = .returned (.slice (some ⟨g, 0, none⟩) 2 2) ∧ Reads w' w'.heap.size 3 (some ⟨g, 0, none⟩) 2 (els lF) ∧ Below w.heap.size w w' := by
  go_enter Tryz.func80, Tryz.ntmps80
  go_wp2
  go_ret
  exact ⟨_, rfl, elsNew w lF 104 2 rfl, (by repeat (first | exact Below.refl _ _ | exact Below.refl _ _ | refine Below.drew ?_ | refine below_drewN ?_ _ | refine below_set ?_ (by omega) _ | refine below_new ?_ (by omega) _))⟩
variable {A : Option Addr} {c : Nat} {w : World}
theorem c_chain (hC : Con w) (hR : Reads w w.heap.size 3 A 2 (els lF)) :
    Calls Tryz.prog 38 #[.slice A 2 c, .int .i64 1] w fun e w' => e = .returned (.tuple #[.agg #[.int .i64 0, .int .i64 2, .int .i64 2, .int .i64 1, .int .i64 0, .int .i64 1, .int .i64 1, .int .i64 0], .int .i64 0]) ∧ Below w.heap.size w w' := by
  have := Chain_ok lF 1 A 2 c w hC lF_at (by omega) hR
  rw [lF_a, lF_b, lF_c, lF_d] at this
  exact this
theorem c_det (hT : Tur w) : Calls Tryz.prog 81 #[.agg #[.int .i64 0, .int .i64 2, .int .i64 2, .int .i64 1, .int .i64 0, .int .i64 1, .int .i64 1, .int .i64 0]] w fun e w' => e = .returned (.tuple #[.agg #[.int .i64 1, .int .i64 0], .int .i64 0]) ∧ Below w.heap.size w w' := by
  have := Determinant_ok ⟨⟨0, 2⟩, ⟨2, 1⟩, ⟨0, 1⟩, ⟨1, 0⟩⟩ w hT (by decide +kernel)
  rw [show Mat.det ⟨⟨0, 2⟩, ⟨2, 1⟩, ⟨0, 1⟩, ⟨1, 0⟩⟩ = ⟨1, 0⟩ by decide +kernel] at this
  exact this
theorem c_input (hC : Con w) (hR : Reads w w.heap.size 3 A 2 (els lF)) :
    Calls Tryz.prog 47 #[.slice A 2 c, .int .i64 1] w fun e w' => e = .returned (.tuple #[.agg #[.int .i64 0, .int .i64 2, .int .i64 0, .int .i64 1], .int .i64 0]) ∧ Below w.heap.size w w' := by
  have := Input_ok lF 1 A 2 c w hC lF_at (by omega) hR
  rw [lF_a, lF_c] at this
  exact this
theorem c_short (hC : Con w) (hR : Reads w w.heap.size 3 A 2 (els lF)) :
    Calls Tryz.prog 48 #[.slice A 2 c, .int .i64 1] w fun e w' => e = .returned (.tuple #[.agg #[.int .i64 2, .int .i64 1, .int .i64 1, .int .i64 0], .int .i64 0]) ∧ Below w.heap.size w w' := by
  have := Shorted_ok lF 1 A 2 c w hC lF_at (by omega) hR
  rw [lF_b, lF_d] at this
  exact this
theorem c_trans (hC : Con w) (hR : Reads w w.heap.size 3 A 2 (els lF)) :
    Calls Tryz.prog 49 #[.slice A 2 c, .int .i64 1] w fun e w' => e = .returned (.tuple #[.agg #[.int .i64 1, .int .i64 0, .int .i64 0, .int .i64 2], .int .i64 0]) ∧ Below w.heap.size w w' := by
  have := Transfer_ok lF 1 A 2 c w hC lF_at (by omega) hR
  rw [lF_v, lF_a] at this
  exact this
theorem lF_np : noPole lF 1 3 := by
  intro i hi
  have : i = 0 ∨ i = 1 ∨ i = 2 := by omega
  rcases this with rfl | rfl | rfl <;> decide +kernel
theorem lF_tab : tab lF 1 2 = [⟨1, 4⟩, ⟨1, 25⟩] := by decide +kernel
theorem c_table (hC : Con w) (hR : Reads w w.heap.size 3 A 2 (els lF)) :
    Calls Tryz.prog 29 #[.slice A 2 c, .int .i64 1, .int .i64 2] w fun e w' => ∃ A' c', e = .returned (.tuple #[.slice A' 2 c', .int .i64 0]) ∧ Reads w' w'.heap.size 2 A' 2 (rts [⟨1, 4⟩, ⟨1, 25⟩]) ∧ Below w.heap.size w w' := by
  refine (Table_ok lF 1 2 A 2 c 2 w hC (by decide +kernel) (by decide) (by omega) hR).mono fun e w' h => ?_
  obtain ⟨hb, ⟨_, A', c', he, hr⟩ | ⟨hp, _⟩⟩ := h
  · rw [lF_tab] at hr
    exact ⟨A', c', he, hr, hb⟩
  · exact absurd (fun i hi => lF_np i (by omega)) hp
theorem c_power (hC : Con w) (hR : Reads w w.heap.size 3 A 2 (els lF)) :
    Calls Tryz.prog 51 #[.slice A 2 c, .int .i64 1] w fun e w' => e = .returned (.tuple #[.int .i64 2, .int .i64 0]) ∧ Below w.heap.size w w' := by
  have := Power_ok lF 1 A 2 c w hC lF_at (by omega) hR
  rw [show pw (chn 1 .id lF).a (chn 1 .id lF).c = 2 by decide +kernel] at this
  exact this
theorem c_peak (hC : Con w) (hR : Reads w w.heap.size 3 A 2 (els lF)) :
    Calls Tryz.prog 30 #[.slice A 2 c, .int .i64 1, .int .i64 3] w fun e w' => e = .returned (.tuple #[.int .i64 1, .int .i64 0]) ∧ Below w.heap.size w w' := by
  refine (Peak_ok lF 1 3 A 2 c 3 w hC (by decide +kernel) (by decide) (by omega) hR).mono fun e w' h => ?_
  obtain ⟨hb, ⟨_, he⟩ | ⟨hp, _⟩⟩ := h
  · rw [show pkN (tab lF 1 3) 3 = 0 by decide +kernel] at he
    exact ⟨he, hb⟩
  · exact absurd lF_np hp
theorem c_below (hC : Con w) (hR : Reads w w.heap.size 3 A 2 (els lF)) :
    Calls Tryz.prog 31 #[.slice A 2 c, .int .i64 1, .int .i64 3, .agg #[.int .i64 1, .int .i64 10]] w fun e w' => e = .returned (.tuple #[.int .i64 2, .int .i64 0]) ∧ Below w.heap.size w w' := by
  refine (Below_ok lF 1 3 ⟨1, 10⟩ A 2 c 3 w hC (by decide +kernel) (by decide) (by decide +kernel) (by omega) hR).mono fun e w' h => ?_
  have hbl : blN (tab lF 1 3) ⟨1, 10⟩ 3 = some 1 := by decide +kernel
  obtain ⟨hb, ⟨hx, _⟩ | ⟨_, hp, _⟩ | ⟨_, _, ⟨i, hi, he⟩ | ⟨hn, _⟩⟩⟩ := h
  · exact absurd (by decide +kernel) hx
  · exact absurd lF_np hp
  · rw [hbl] at hi
    cases hi
    exact ⟨he, hb⟩
  · rw [hbl] at hn; cases hn
theorem c_pol (hC : Con w) (hR : Reads w w.heap.size 3 A 2 (els lF)) :
    Calls Tryz.prog 24 #[.slice A 2 c] w fun e w' => ∃ A0 c0 A1 c1 A2 c2 A3 c3 A4 c4, e = .returned (.tuple #[.agg #[.slice A0 3 c0, .slice A1 2 c1, .slice A2 2 c2, .slice A3 1 c3], .slice A4 1 c4, .int .i64 0]) ∧
      Reads w' w'.heap.size 1 A0 3 (ints [1, 2, 1]) ∧ Reads w' w'.heap.size 1 A1 2 (ints [2, 1]) ∧ Reads w' w'.heap.size 1 A2 2 (ints [0, 1]) ∧ Reads w' w'.heap.size 1 A3 1 (ints [1]) ∧ Reads w' w'.heap.size 1 A4 1 (ints [1]) ∧ Below w.heap.size w w' := by
  refine (Polynomials_ok A 2 c lF w hC lF_ok hR (by omega)).mono fun e w' h => ?_
  obtain ⟨s0, s1, s2, s3, sd, rfl, ⟨ok, hv⟩, hd, hb⟩ := h
  obtain ⟨A0, c0, rfl, r0⟩ := hv.a.sl
  obtain ⟨A1, c1, rfl, r1⟩ := hv.b.sl
  obtain ⟨A2, c2, rfl, r2⟩ := hv.c.sl
  obtain ⟨A3, c3, rfl, r3⟩ := hv.d.sl
  obtain ⟨A4, c4, rfl, r4⟩ := hd
  clear hv
  rw [show (pch .id lF).a = [1, 2, 1] by decide +kernel] at r0 ⊢
  rw [show (pch .id lF).b = [2, 1] by decide +kernel] at r1 ⊢
  rw [show (pch .id lF).c = [0, 1] by decide +kernel] at r2 ⊢
  rw [show (pch .id lF).d = [1] by decide +kernel] at r3 ⊢
  rw [show pdv [1] lF = [1] by decide +kernel] at r4 ⊢
  exact ⟨A0, c0, A1, c1, A2, c2, A3, c3, A4, c4, rfl, r0, r1, r2, r3, r4, hb⟩
theorem c_value (hC : Con w) (hT : Tur w) (hR : Reads w w.heap.size 1 A 3 (ints [1, 2, 1])) :
    Calls Tryz.prog 16 #[.slice A 3 c, .int .i64 2] w fun e w' => e = .returned (.tuple #[.agg #[.int .i64 (-3), .int .i64 4], .int .i64 0]) ∧ Below w.heap.size w w' := by
  have := Value_ok [1, 2, 1] 2 A 3 c w hC hT (by decide +kernel) (by omega) hR
  rw [show ev (iw 2) [1, 2, 1] = ⟨-3, 4⟩ by decide +kernel] at this
  exact this
theorem c_level (hC : Con w) (hR : Reads w w.heap.size 3 A 1 (els [⟨kBlock, 0, 1⟩])) :
    Calls Tryz.prog 50 #[.slice A 1 c, .int .i64 2] w fun e w' => e = .returned (.tuple #[.agg #[.int .i64 1, .int .i64 1], .int .i64 0]) ∧ Below w.heap.size w w' := by
  have := Level_ok [⟨kBlock, 0, 1⟩] 2 A 1 c w hC (by decide +kernel) (by omega) hR (by decide +kernel)
  rw [show lvR [⟨kBlock, 0, 1⟩] 2 = ⟨1, 1⟩ by decide +kernel] at this
  exact this
theorem c_dual (hR : Reads w w.heap.size 3 A 2 (els lF)) :
    Calls Tryz.prog 59 #[.slice A 2 c] w fun e w' => ∃ A' c', e = .returned (.tuple #[.slice A' 2 c', .int .i64 0]) ∧ Reads w' w'.heap.size 3 A' 2 (els [⟨kShunt, 2, 1⟩, ⟨kSeries, 0, 1⟩]) ∧ Below w.heap.size w w' :=
  Dual_ok A 2 c lF w hR lF_ok
theorem c_num1 (hC : Con w) : Calls Tryz.prog 15 #[.agg #[.int .i64 1, .int .i64 0, .int .i64 1, .int .i64 1]] w fun e w' => e = .returned (.tuple #[.complex .f64 4602678819172646912 13826050856027422720, .int .i64 0]) ∧ Below w.heap.size w w' :=
  Number_ok ⟨⟨1, 0⟩, ⟨1, 1⟩⟩ w hC (by decide +kernel) 32768 (-32768) (by decide +kernel) 4602678819172646912 13826050856027422720 (by decide +kernel) (by decide +kernel)
theorem c_num2 (hC : Con w) : Calls Tryz.prog 15 #[.agg #[.int .i64 1, .int .i64 0, .int .i64 3, .int .i64 0]] w fun e w' => e = .returned (.tuple #[.complex .f64 0 0, .int .i64 1]) ∧ Below w.heap.size w w' :=
  Number_form ⟨⟨1, 0⟩, ⟨3, 0⟩⟩ w hC (by decide +kernel) (by decide +kernel)
theorem lF_txt : ladTxt lF = { data := #[115, 101, 114, 105, 101, 115, 58, 50, 58, 49, 32, 115, 104, 117, 110, 116, 58, 48, 58, 49] } := by decide +kernel
theorem c_print (hT : Tens w) (hR : Reads w w.heap.size 3 A 2 (els lF)) :
    Calls Tryz.prog 76 #[.slice A 2 c] w fun e w' => e = .returned (.tuple #[.string { data := #[115, 101, 114, 105, 101, 115, 58, 50, 58, 49, 32, 115, 104, 117, 110, 116, 58, 48, 58, 49] }, .int .i64 0]) ∧ Below w.heap.size w w' := by
  have := Print_ok A 2 c lF w hT hR lF_ok
  rw [lF_txt] at this
  exact this
theorem c_same (A : Option Addr) (n c : Nat) (A' : Option Addr) (c' : Nat) (xs : List Int) (w : World) (h : Reads w w.heap.size 1 A n (ints xs)) (h' : Reads w w.heap.size 1 A' n (ints xs)) (hn : n ≤ 1000000000000) :
    Calls Tryz.prog 28 #[.slice A n c, .slice A' n c'] w fun r w' => r = .returned (.bool true) ∧ Below w.heap.size w w' :=
  (sameInts_any A n c _ xs A' n c' _ xs w h h' (Nat.le_refl _) (Nat.le_refl _) hn hn).mono fun _ _ h => by simpa using h
theorem c_rats (A : Option Addr) (n c : Nat) (A' : Option Addr) (c' : Nat) (xs : List Rt) (w : World) (h : Reads w w.heap.size 2 A n (rts xs)) (h' : Reads w w.heap.size 2 A' n (rts xs)) (hn : n ≤ 1000000000000) :
    Calls Tryz.prog 37 #[.slice A n c, .slice A' n c'] w fun r w' => r = .returned (.bool true) ∧ Below w.heap.size w w' :=
  (sameRatios_any A n c xs A' n c' xs w h h' hn hn).mono fun _ _ h => by simpa using h
end Go.Proofs.YtnndaipnfniciaaGreatDoor
