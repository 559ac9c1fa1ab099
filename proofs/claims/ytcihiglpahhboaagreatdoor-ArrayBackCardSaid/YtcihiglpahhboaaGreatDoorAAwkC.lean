/- Closed contracts: what awake asks. -/
import Derived.Test.YtcihiglpahhboaaGreatDoorAPat3
import Derived.Test.YtcihiglpahhboaaGreatDoorALev
import Derived.Test.YtcihiglpahhboaaGreatDoorADir
import Derived.Test.YtcihiglpahhboaaGreatDoorASte
import Derived.Test.YtcihiglpahhboaaGreatDoorANul
import Derived.Test.YtcihiglpahhboaaGreatDoorBaseB
import Derived.Test.YtcihiglpahhboaaGreatDoorBaseK
import Derived.Test.YtcihiglpahhboaaGreatDoorARep
import Derived.Test.YtcihiglpahhboaaGreatDoorABin
import Derived.Test.YtcihiglpahhboaaGreatDoorASymP
import Derived.Test.YtcihiglpahhboaaGreatDoorAMir
import Derived.Test.YtcihiglpahhboaaGreatDoorAPrint
import Derived.Test.YtcihiglpahhboaaGreatDoorBaseM
namespace Go.Proofs.YtcihiglpahhboaaGreatDoor
open Go.RowKit Go.Shelf
set_option maxRecDepth 100000
def l2 : List Src := [⟨0, 0, 1, 0⟩, ⟨1, 0, 1, 0⟩]
def lS : List Src := [⟨0, 0, 1, 0⟩, ⟨1, 0, 1, 3⟩]
def lR : List Src := [⟨0, 0, 1, 0⟩, ⟨1, 0, 1, 0⟩, ⟨1, 0, 1, 0⟩, ⟨2, 0, 1, 0⟩]
def lC : List Src := [⟨0, 0, 1, 0⟩, ⟨1, 0, 2, 0⟩, ⟨2, 0, 1, 0⟩]
def lH : List Src := [⟨0, 0, 1, 0⟩, ⟨1, 0, 1, 0⟩, ⟨4, 0, 1, 0⟩, ⟨3, 0, 1, 0⟩]
def lM : List Src := [⟨0, 0, 1, 0⟩, ⟨1, 0, 1, 0⟩, ⟨4, 0, -1, 0⟩, ⟨3, 0, -1, 0⟩]
def lQ : List Src := [⟨1, 0, 1, 0⟩, ⟨-1, 0, 1, 0⟩]
theorem OutS.fix {w w' : World} {r l : List Src} {er : Int} {e : Ending} {n : Nat} (h : OutS w r er e w') (hr : r = l) (he : er = 0) (hn : l.length = n) : ∃ A c, e = .returned (.tuple #[.slice A n c, .int .i64 0]) ∧ Reads w' w'.heap.size 4 A n (srcs l) ∧ Below w.heap.size w w' := by
  obtain ⟨A, m, c, rfl, hR, hb⟩ := h
  subst hr he
  obtain rfl : n = m := by rw [← hn]; exact srcs_reads_len hR
  exact ⟨A, c, rfl, hR, hb⟩
theorem srcsNew2 (w : World) (l : List Src) (t : TypeId) (n : Nat) (hn : n = l.length) : Reads (w.alloc (.cells (srcs l).toArray t)) (w.alloc (.cells (srcs l).toArray t)).heap.size 4 (some ⟨w.heap.size, 0, none⟩) n (srcs l) := by
  refine ⟨by rw [srcs_len]; omega, fun _ => ⟨_, rfl, by simp, fun j u hu => ?_⟩⟩
  have : (⟨w.heap.size, 0, none⟩ : Addr).add j = ⟨w.heap.size, j, none⟩ := by unfold Addr.add; split <;> simp_all
  rw [this]
  exact cells_new _ _ _ j u hu
theorem pair_any (w : World) :
    Calls Tryz.prog 85 #[] w fun e w' => ∃ g, e = .returned (.slice (some ⟨g, 0, none⟩) 2 2) ∧ Reads w' w'.heap.size 4 (some ⟨g, 0, none⟩) 2 (srcs l2) ∧ Below w.heap.size w w' := by
  go_enter Tryz.func85, Tryz.ntmps85
  go_wp2
  go_ret
  exact ⟨_, rfl, srcsNew2 w l2 60 2 rfl, (by repeat (first | exact Below.refl _ _ | exact Below.refl _ _ | refine Below.drew ?_ | refine below_drewN ?_ _ | refine below_set ?_ (by omega) _ | refine below_new ?_ (by omega) _))⟩
theorem c_told (l : List Src) (A : Option Addr) (n c : Nat) (w : World) (h : Reads w w.heap.size 4 A n (srcs l)) (hn : n ≤ 1000) :
    Calls Tryz.prog 37 #[.slice A n c] w fun r w' => ∃ A' c', r = .returned (.slice A' n c') ∧ Reads w' w'.heap.size 4 A' n (srcs l) ∧ Below w.heap.size w w' := told_any A n c l w h (by omega)
theorem c_wts (l : List Src) (A : Option Addr) (n c : Nat) (w : World) (h : Reads w w.heap.size 4 A n (srcs l)) (hn : n ≤ 1000) :
    Calls Tryz.prog 32 #[.slice A n c] w fun r w' => ∃ A' c', r = .returned (.slice A' n c') ∧ Reads w' w'.heap.size 4 A' n (srcs l) ∧ Below w.heap.size w w' := weights_any A n c l w h (by omega)
theorem c_same (l : List Src) (A : Option Addr) (n c : Nat) (A' : Option Addr) (c' : Nat) (w : World) (h : Reads w w.heap.size 4 A n (srcs l)) (h' : Reads w w.heap.size 4 A' n (srcs l)) (hn : n ≤ 1000) :
    Calls Tryz.prog 36 #[.slice A n c, .slice A' n c'] w fun r w' => r = .returned (.bool true) ∧ Below w.heap.size w w' :=
  (rSame_any A n c l A' n c' l w h h' (by omega) (by omega)).mono fun _ _ h => by simpa using h
theorem c_sameW (l : List Src) (A : Option Addr) (n c : Nat) (A' : Option Addr) (c' : Nat) (w : World) (h : Reads w w.heap.size 4 A n (srcs l)) (h' : Reads w w.heap.size 4 A' n (srcs l)) (hn : n ≤ 1000) :
    Calls Tryz.prog 31 #[.slice A n c, .slice A' n c'] w fun r w' => r = .returned (.bool true) ∧ Below w.heap.size w w' :=
  (rSameW_any A n c l A' n c' l w h h' (by omega) (by omega)).mono fun _ _ h => by simpa using h
theorem c_sameI (l : List Int) (A : Option Addr) (n c : Nat) (A' : Option Addr) (c' : Nat) (w : World) (h : Reads w w.heap.size 1 A n (ints l)) (h' : Reads w w.heap.size 1 A' n (ints l)) (hn : n ≤ 1000) :
    Calls Tryz.prog 33 #[.slice A n c, .slice A' n c'] w fun r w' => r = .returned (.bool true) ∧ Below w.heap.size w w' :=
  (sameInts_any A n c _ l A' n c' _ l w h h' (Nat.le_refl _) (Nat.le_refl _) (by omega) (by omega)).mono fun _ _ h => by simpa using h
variable {A : Option Addr} {c : Nat} {w : World}
theorem c_pat (hV : Vr w) (hR : Reads w w.heap.size 4 A 2 (srcs l2)) :
    Calls Tryz.prog 34 #[.slice A 2 c] w fun e w' => e = .returned (.tuple #[.agg #[.int .i64 1, .int .i64 1, .int .i64 1, .int .i64 1, .int .i64 2, .int .i64 0, .int .i64 1, .int .i64 (-1), .int .i64 1, .int .i64 (-1), .int .i64 1, .int .i64 (-1), .int .i64 2, .int .i64 0, .int .i64 1, .int .i64 1], .int .i64 0]) ∧ Below w.heap.size w w' := by
  have := Pattern_any A 2 c l2 w hR hV (by omega)
  rw [show lstErr l2 = 0 by decide +kernel, show ptV l2 0 = ⟨1, 1⟩ by decide +kernel, show ptV l2 1 = ⟨1, 1⟩ by decide +kernel, show ptV l2 2 = ⟨2, 0⟩ by decide +kernel, show ptV l2 3 = ⟨1, -1⟩ by decide +kernel, show ptV l2 4 = ⟨1, -1⟩ by decide +kernel, show ptV l2 5 = ⟨1, -1⟩ by decide +kernel, show ptV l2 6 = ⟨2, 0⟩ by decide +kernel, show ptV l2 7 = ⟨1, 1⟩ by decide +kernel] at this
  exact this
theorem c_lev (hV : Vr w) (hR : Reads w w.heap.size 4 A 2 (srcs l2)) :
    Calls Tryz.prog 48 #[.slice A 2 c, .int .i64 2] w fun e w' => e = .returned (.tuple #[.int .i64 4, .int .i64 0]) ∧ Below w.heap.size w w' := by
  have := Level_any A 2 c l2 2 w hR hV (by omega)
  rw [show prE l2 2 = 0 by decide +kernel, show (prV l2 2).sq = 4 by decide +kernel] at this
  exact this
theorem c_dir (hV : Vr w) (hR : Reads w w.heap.size 4 A 2 (srcs l2)) :
    Calls Tryz.prog 51 #[.slice A 2 c, .int .i64 2] w fun e w' => e = .returned (.tuple #[.agg #[.int .i64 8, .int .i64 5], .int .i64 0]) ∧ Below w.heap.size w w' := by
  have := Directivity_any A 2 c l2 2 w hR hV (by omega)
  rw [show drE l2 2 = 0 by decide +kernel, show (drV l2 2).n = 8 by decide +kernel, show (drV l2 2).d = 5 by decide +kernel] at this
  exact this
theorem c_ste (hV : Vr w) (hR : Reads w w.heap.size 4 A 2 (srcs l2)) :
    Calls Tryz.prog 38 #[.slice A 2 c, .int .i64 0] w fun e w' => ∃ A' c', e = .returned (.tuple #[.slice A' 2 c', .int .i64 0]) ∧ Reads w' w'.heap.size 4 A' 2 (srcs lS) ∧ Below w.heap.size w w' :=
  (Steer_any A 2 c l2 0 w hR hV (by omega)).mono fun _ _ h => h.fix (by decide +kernel) (by decide +kernel) (by decide +kernel)
theorem c_nul (hV : Vr w) (hR : Reads w w.heap.size 4 A 2 (srcs lS)) :
    Calls Tryz.prog 50 #[.slice A 2 c] w fun e w' => ∃ A' c', e = .returned (.tuple #[.slice A' 3 c', .int .i64 0]) ∧ Reads w' w'.heap.size 1 A' 3 (ints [3, 4, 5]) ∧ Below w.heap.size w w' := by
  refine (Nulls_any A 2 c lS w hR hV (by omega)).mono ?_
  rintro e w' ⟨A', n', c', rfl, hr, hb⟩
  rw [show nulV lS = [3, 4, 5] by decide +kernel] at hr
  obtain rfl : 3 = n' := reads_len hr
  exact ⟨A', c', by rw [show lstErr lS = 0 by decide +kernel], hr, hb⟩
theorem c_best (hV : Vr w) (hR : Reads w w.heap.size 4 A 2 (srcs l2)) :
    Calls Tryz.prog 40 #[.slice A 2 c, .agg #[.int .i64 1, .int .i64 0, .int .i64 0, .int .i64 0, .int .i64 (-1), .int .i64 0, .int .i64 0, .int .i64 0]] w fun e w' => ∃ A' c', e = .returned (.tuple #[.slice A' 2 c', .int .i64 4, .int .i64 0]) ∧ Reads w' w'.heap.size 4 A' 2 (srcs lS) ∧ Below w.heap.size w w' := by
  refine (Best_any A 2 c l2 ⟨1, 0, 0, 0, -1, 0, 0, 0⟩ w hR hV (by omega)).mono ?_
  rintro e w' ⟨A', n', c', rfl, hr, hb⟩
  rw [show (beO l2 ⟨1, 0, 0, 0, -1, 0, 0, 0⟩).1 = lS by decide +kernel] at hr
  obtain rfl : 2 = n' := srcs_reads_len hr
  exact ⟨A', c', by rw [show (beO l2 ⟨1, 0, 0, 0, -1, 0, 0, 0⟩).2 = 4 by decide +kernel, show beE l2 ⟨1, 0, 0, 0, -1, 0, 0, 0⟩ = 0 by decide +kernel], hr, hb⟩
def pF : F4 := ⟨⟨1, 1⟩, ⟨2, 0⟩, ⟨1, -1⟩, ⟨2, 0⟩⟩
theorem c_har (hV : Vr w) :
    Calls Tryz.prog 75 #[.agg #[.int .i64 1, .int .i64 1, .int .i64 2, .int .i64 0, .int .i64 1, .int .i64 (-1), .int .i64 2, .int .i64 0]] w fun e w' => e = .returned (.tuple #[.agg #[.int .i64 6, .int .i64 0, .int .i64 0, .int .i64 2, .int .i64 (-2), .int .i64 0, .int .i64 0, .int .i64 2], .int .i64 0]) ∧ Below w.heap.size w w' := by
  have := Harmonics_any pF w hV
  rw [show fourE pF = 0 by decide +kernel, show (haV pF).a = ⟨6, 0⟩ by decide +kernel, show (haV pF).b = ⟨0, 2⟩ by decide +kernel, show (haV pF).c = ⟨-2, 0⟩ by decide +kernel, show (haV pF).d = ⟨0, 2⟩ by decide +kernel] at this
  exact this
theorem c_rep {A' : Option Addr} {c' : Nat} (hR : Reads w w.heap.size 4 A 2 (srcs l2)) (hR' : Reads w w.heap.size 4 A' 2 (srcs l2)) :
    Calls Tryz.prog 19 #[.slice A 2 c, .slice A' 2 c'] w fun e w' => ∃ A' c', e = .returned (.tuple #[.slice A' 4 c', .int .i64 0]) ∧ Reads w' w'.heap.size 4 A' 4 (srcs lR) ∧ Below w.heap.size w w' :=
  (Repeat_any A 2 c l2 A' 2 c' l2 w hR hR' (by omega) (by omega)).mono fun _ _ h => h.fix (by decide +kernel) (by decide +kernel) (by decide +kernel)
theorem c_bin : Calls Tryz.prog 21 #[.int .i64 3, .int .i64 1, .int .i64 0] w fun e w' => ∃ A' c', e = .returned (.tuple #[.slice A' 3 c', .int .i64 0]) ∧ Reads w' w'.heap.size 4 A' 3 (srcs lC) ∧ Below w.heap.size w w' :=
  (Binomial_any 3 1 0 w).mono fun _ _ h => h.fix (by decide +kernel) (by decide +kernel) (by decide +kernel)
theorem c_nrm (l : List Src) (n : Nat) (h1 : (nmO l).map asS = lC) (h2 : lstErr l = 0) (hn : n ≤ 1000) (hV : Vr w) (hR : Reads w w.heap.size 4 A n (srcs l)) :
    Calls Tryz.prog 27 #[.slice A n c] w fun e w' => ∃ A' c', e = .returned (.tuple #[.slice A' 3 c', .int .i64 0]) ∧ Reads w' w'.heap.size 4 A' 3 (srcs lC) ∧ Below w.heap.size w w' :=
  (Normal_any A n c l w hR hV (by omega)).mono fun _ _ h => h.1.fix h1 h2 (by decide +kernel)
theorem c_nrmR (hV : Vr w) (hR : Reads w w.heap.size 4 A 4 (srcs lR)) :
    Calls Tryz.prog 27 #[.slice A 4 c] w fun e w' => ∃ A' c', e = .returned (.tuple #[.slice A' 3 c', .int .i64 0]) ∧ Reads w' w'.heap.size 4 A' 3 (srcs lC) ∧ Below w.heap.size w w' := c_nrm lR 4 (by decide +kernel) (by decide +kernel) (by omega) hV hR
theorem c_nrmC (hV : Vr w) (hR : Reads w w.heap.size 4 A 3 (srcs lC)) :
    Calls Tryz.prog 27 #[.slice A 3 c] w fun e w' => ∃ A' c', e = .returned (.tuple #[.slice A' 3 c', .int .i64 0]) ∧ Reads w' w'.heap.size 4 A' 3 (srcs lC) ∧ Below w.heap.size w w' := c_nrm lC 3 (by decide +kernel) (by decide +kernel) (by omega) hV hR
theorem c_prsC (hV : Vr w) (hR : Reads w w.heap.size 4 A 3 (srcs lC)) :
    Calls Tryz.prog 47 #[.slice A 3 c, .int .i64 0] w fun e w' => e = .returned (.tuple #[.agg #[.int .i64 0, .int .i64 2], .int .i64 0]) ∧ Below w.heap.size w w' := by
  have := Pressure_any A 3 c lC 0 w hR hV (by omega)
  rw [show prE lC 0 = 0 by decide +kernel, show prV lC 0 = ⟨0, 2⟩ by decide +kernel] at this
  exact this
theorem c_prsH (hV : Vr w) (hR : Reads w w.heap.size 4 A 4 (srcs lH)) :
    Calls Tryz.prog 47 #[.slice A 4 c, .int .i64 2] w fun e w' => e = .returned (.tuple #[.agg #[.int .i64 4, .int .i64 0], .int .i64 0]) ∧ Below w.heap.size w w' := by
  have := Pressure_any A 4 c lH 2 w hR hV (by omega)
  rw [show prE lH 2 = 0 by decide +kernel, show prV lH 2 = ⟨4, 0⟩ by decide +kernel] at this
  exact this
theorem c_prsS (hV : Vr w) (hR : Reads w w.heap.size 4 A 4 (srcs lM)) :
    Calls Tryz.prog 47 #[.slice A 4 c, .int .i64 2] w fun e w' => e = .returned (.tuple #[.agg #[.int .i64 0, .int .i64 0], .int .i64 0]) ∧ Below w.heap.size w w' := by
  have := Pressure_any A 4 c lM 2 w hR hV (by omega)
  rw [show prE lM 2 = 0 by decide +kernel, show prV lM 2 = ⟨0, 0⟩ by decide +kernel] at this
  exact this
theorem c_mirH (hR : Reads w w.heap.size 4 A 2 (srcs l2)) :
    Calls Tryz.prog 66 #[.slice A 2 c, .int .i64 2, .bool false] w fun e w' => ∃ A' c', e = .returned (.tuple #[.slice A' 4 c', .int .i64 0]) ∧ Reads w' w'.heap.size 4 A' 4 (srcs lH) ∧ Below w.heap.size w w' :=
  (Mirror_any A 2 c l2 2 false w hR (by omega)).mono fun _ _ h => h.fix (by decide +kernel) (by decide +kernel) (by decide +kernel)
theorem c_mirS (hR : Reads w w.heap.size 4 A 2 (srcs l2)) :
    Calls Tryz.prog 66 #[.slice A 2 c, .int .i64 2, .bool true] w fun e w' => ∃ A' c', e = .returned (.tuple #[.slice A' 4 c', .int .i64 0]) ∧ Reads w' w'.heap.size 4 A' 4 (srcs lM) ∧ Below w.heap.size w w' :=
  (Mirror_any A 2 c l2 2 true w hR (by omega)).mono fun _ _ h => h.fix (by decide +kernel) (by decide +kernel) (by decide +kernel)
theorem c_symP (hV : Vr w) (hR : Reads w w.heap.size 4 A 2 (srcs l2)) :
    Calls Tryz.prog 28 #[.slice A 2 c] w fun e w' => ∃ A' c', e = .returned (.tuple #[.slice A' 1 c', .int .i64 0]) ∧ Reads w' w'.heap.size 1 A' 1 (ints [0]) ∧ Below w.heap.size w w' := by
  refine (Symmetries_any A 2 c l2 w hR hV (by omega)).mono ?_
  rintro e w' ⟨A', n', c', rfl, hr, hb⟩
  rw [show syO l2 = [0] by decide +kernel] at hr
  obtain rfl : 1 = n' := reads_len hr
  exact ⟨A', c', by rw [show lstErr l2 = 0 by decide +kernel], hr, hb⟩
theorem c_symQ (hV : Vr w) (hR : Reads w w.heap.size 4 A 2 (srcs lQ)) :
    Calls Tryz.prog 28 #[.slice A 2 c] w fun e w' => ∃ A' c', e = .returned (.tuple #[.slice A' 2 c', .int .i64 0]) ∧ Reads w' w'.heap.size 1 A' 2 (ints [0, 2]) ∧ Below w.heap.size w w' := by
  refine (Symmetries_any A 2 c lQ w hR hV (by omega)).mono ?_
  rintro e w' ⟨A', n', c', rfl, hr, hb⟩
  rw [show syO lQ = [0, 2] by decide +kernel] at hr
  obtain rfl : 2 = n' := reads_len hr
  exact ⟨A', c', by rw [show lstErr lQ = 0 by decide +kernel], hr, hb⟩
theorem l2_txt : (⟨(prTxt l2).toArray⟩ : ByteArray) = { data := #[115, 111, 117, 114, 99, 101, 32, 48, 32, 48, 32, 49, 32, 48, 10, 115, 111, 117, 114, 99, 101, 32, 49, 32, 48, 32, 49, 32, 48, 10] } := by decide +kernel
theorem c_print (hT : Tens w) (hR : Reads w w.heap.size 4 A 2 (srcs l2)) :
    Calls Tryz.prog 80 #[.slice A 2 c] w fun e w' => e = .returned (.tuple #[.string { data := #[115, 111, 117, 114, 99, 101, 32, 48, 32, 48, 32, 49, 32, 48, 10, 115, 111, 117, 114, 99, 101, 32, 49, 32, 48, 32, 49, 32, 48, 10] }, .int .i64 0]) ∧ Below w.heap.size w w' := by
  have := Print_ok A 2 c l2 w (lst_ok (by decide +kernel)) hR hT
  rw [l2_txt] at this
  exact this
end Go.Proofs.YtcihiglpahhboaaGreatDoor
