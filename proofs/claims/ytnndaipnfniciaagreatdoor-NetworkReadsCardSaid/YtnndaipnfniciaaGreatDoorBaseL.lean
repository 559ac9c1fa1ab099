/- The contracts of small functions: checks of ranges; complex integers. Lists of numbers: first, First, SameInts, Few. -/
import Derived.Test.YtnndaipnfniciaaGreatDoorProg
import Derived.Test.YtnndaipnfniciaaGreatDoorPlainA
import Derived.WalkKit
import Derived.WalkSpells
import Derived.WalkLawsBesides
import Derived.Deep.DeepMust
namespace Go.Proofs.YtnndaipnfniciaaGreatDoor
open Go.RowKit
set_option maxRecDepth 100000

set_option maxHeartbeats 400000 in
theorem when_any (b : Bool) (e : Int) (w : World) :
    Calls Tryz.prog 84 #[.bool b, .int .i64 e] w fun r w' => r = .returned (.int .i64 (if b then e else 0)) ∧ w = w' := by
  cases b
  · go_enter Tryz.func84, Tryz.ntmps84
    go_wp2
    go_ret
    exact ⟨rfl, rfl⟩
  · go_enter Tryz.func84, Tryz.ntmps84
    go_wp2
    go_ret
    exact ⟨rfl, rfl⟩
set_option maxHeartbeats 400000 in
theorem within_any (n lo hi : Int) (w : World) :
    Calls Tryz.prog 113 #[.int .i64 n, .int .i64 lo, .int .i64 hi] w fun r w' => r = .returned (.int .i64 (rng n lo hi)) ∧ w = w' := by
  go_enter Tryz.func113, Tryz.ntmps113
  go_wp2_with (go_at_call 84; refine (when_any _ _ _).mono ?_; rintro e w' ⟨rfl, rfl⟩)
  all_goals (go_ret; exact ⟨by unfold rng; simp; omega, rfl⟩)
set_option maxHeartbeats 400000 in
theorem when_si (b : Bool) (e : Int) (w : World) :
    Calls Tryz.prog 149 #[.bool b, .int .i64 e] w fun r w' => r = .returned (.int .i64 (if b then e else 0)) ∧ w = w' := by
  cases b
  · go_enter Tryz.func149, Tryz.ntmps149
    go_wp2
    go_ret
    exact ⟨rfl, rfl⟩
  · go_enter Tryz.func149, Tryz.ntmps149
    go_wp2
    go_ret
    exact ⟨rfl, rfl⟩
set_option maxHeartbeats 400000 in
theorem within_si (n lo hi : Int) (w : World) :
    Calls Tryz.prog 148 #[.int .i64 n, .int .i64 lo, .int .i64 hi] w fun r w' => r = .returned (.int .i64 (rng n lo hi)) ∧ w = w' := by
  go_enter Tryz.func148, Tryz.ntmps148
  go_wp2_with (go_at_call 149; refine (when_si _ _ _).mono ?_; rintro e w' ⟨rfl, rfl⟩)
  all_goals (go_ret; exact ⟨by unfold rng; simp; omega, rfl⟩)
theorem checkW_any (n : Int) (w : World) :
    Calls Tryz.prog 89 #[.int .i64 n] w fun r w' => r = .returned (.int .i64 (rng n 1 8)) ∧ w = w' := by
  go_enter Tryz.func89, Tryz.ntmps89
  go_wp2_with (go_at_call 113; refine (within_any _ _ _ _).mono ?_; rintro e w' ⟨rfl, rfl⟩)
  go_ret
  exact ⟨rfl, rfl⟩
/-- The reference's own check of a range. -/
theorem checkRange_any (n lo hi : Int) (w : World) :
    Calls Tryz.prog 93 #[.int .i64 n, .int .i64 lo, .int .i64 hi] w fun r w' => r = .returned (.int .i64 (rng n lo hi)) ∧ w = w' := by
  go_enter Tryz.func93, Tryz.ntmps93
  go_wp2
  all_goals (go_ret; exact ⟨by unfold rng; simp; omega, rfl⟩)
theorem rCheckW_any (n : Int) (w : World) :
    Calls Tryz.prog 20 #[.int .i64 n] w fun r w' => r = .returned (.int .i64 (rng n 1 8)) ∧ w = w' := by
  go_enter Tryz.func20, Tryz.ntmps20
  go_wp2_with (go_at_call 93; refine (checkRange_any _ _ _ _).mono ?_; rintro e w' ⟨rfl, rfl⟩)
  go_ret
  exact ⟨rfl, rfl⟩
/-! ### Complex integers -/
theorem wr_is (n : Int) : wrap64 n = wr n := by rw [wr_def]; unfold wrap64; omega
theorem w_mul_re (a b : G) : wrap64 (wrap64 (a.re * b.re) - wrap64 (a.im * b.im)) = (a.mul b).w.re := by simp only [wr_is]; exact wr_sub _ _
theorem w_mul_im (a b : G) : wrap64 (wrap64 (a.re * b.im) + wrap64 (a.im * b.re)) = (a.mul b).w.im := by simp only [wr_is]; exact wr_add _ _
theorem w_add_re (a b : G) : wrap64 (a.re + b.re) = (a.add b).w.re := by simp only [wr_is]; exact rfl
theorem w_add_im (a b : G) : wrap64 (a.im + b.im) = (a.add b).w.im := by simp only [wr_is]; exact rfl
theorem w_sub_re (a b : G) : wrap64 (a.re - b.re) = (a.sub b).w.re := by simp only [wr_is]; exact rfl
theorem w_sub_im (a b : G) : wrap64 (a.im - b.im) = (a.sub b).w.im := by simp only [wr_is]; exact rfl
theorem w_sq (a : G) : wrap64 (wrap64 (a.re * a.re) + wrap64 (a.im * a.im)) = wr a.sq := by simp only [wr_is]; exact wr_add _ _
theorem plus_any (a b : G) (w : World) :
    Calls Tryz.prog 90 #[.agg #[.int .i64 a.re, .int .i64 a.im], .agg #[.int .i64 b.re, .int .i64 b.im]] w fun e w' => e = .returned (.agg #[.int .i64 (a.add b).w.re, .int .i64 (a.add b).w.im]) ∧ Below w.heap.size w w' := by
  go_enter Tryz.func90, Tryz.ntmps90
  go_wp2
  refine bodyPost_ret (v := .agg #[.int .i64 (a.add b).w.re, .int .i64 (a.add b).w.im]) (by simp [results, Tryz.results90, go_sem, w_add_re, w_add_im]) rfl ?_
  exact ⟨rfl, (by repeat (first | exact Below.refl _ _ | exact Below.refl _ _ | refine Below.drew ?_ | refine below_drewN ?_ _ | refine below_set ?_ (by omega) _ | refine below_new ?_ (by omega) _))⟩
theorem times_any (a b : G) (w : World) :
    Calls Tryz.prog 85 #[.agg #[.int .i64 a.re, .int .i64 a.im], .agg #[.int .i64 b.re, .int .i64 b.im]] w fun e w' => e = .returned (.agg #[.int .i64 (a.mul b).w.re, .int .i64 (a.mul b).w.im]) ∧ Below w.heap.size w w' := by
  go_enter Tryz.func85, Tryz.ntmps85
  go_wp2
  refine bodyPost_ret (v := .agg #[.int .i64 (a.mul b).w.re, .int .i64 (a.mul b).w.im]) (by simp [results, Tryz.results85, go_sem, w_mul_re, w_mul_im]) rfl ?_
  exact ⟨rfl, (by repeat (first | exact Below.refl _ _ | exact Below.refl _ _ | refine Below.drew ?_ | refine below_drewN ?_ _ | refine below_set ?_ (by omega) _ | refine below_new ?_ (by omega) _))⟩
theorem rPlus_any (a b : G) (w : World) :
    Calls Tryz.prog 66 #[.agg #[.int .i64 a.re, .int .i64 a.im], .agg #[.int .i64 b.re, .int .i64 b.im]] w fun e w' => e = .returned (.agg #[.int .i64 (a.add b).w.re, .int .i64 (a.add b).w.im]) ∧ Below w.heap.size w w' := by
  go_enter Tryz.func66, Tryz.ntmps66
  go_wp2
  refine bodyPost_ret (v := .agg #[.int .i64 (a.add b).w.re, .int .i64 (a.add b).w.im]) (by simp [results, Tryz.results66, go_sem, w_add_re, w_add_im]) rfl ?_
  exact ⟨rfl, (by repeat (first | exact Below.refl _ _ | exact Below.refl _ _ | refine Below.drew ?_ | refine below_drewN ?_ _ | refine below_set ?_ (by omega) _ | refine below_new ?_ (by omega) _))⟩
theorem rTimes_any (a b : G) (w : World) :
    Calls Tryz.prog 61 #[.agg #[.int .i64 a.re, .int .i64 a.im], .agg #[.int .i64 b.re, .int .i64 b.im]] w fun e w' => e = .returned (.agg #[.int .i64 (a.mul b).w.re, .int .i64 (a.mul b).w.im]) ∧ Below w.heap.size w w' := by
  go_enter Tryz.func61, Tryz.ntmps61
  go_wp2
  refine bodyPost_ret (v := .agg #[.int .i64 (a.mul b).w.re, .int .i64 (a.mul b).w.im]) (by simp [results, Tryz.results61, go_sem, w_mul_re, w_mul_im]) rfl ?_
  exact ⟨rfl, (by repeat (first | exact Below.refl _ _ | exact Below.refl _ _ | refine Below.drew ?_ | refine below_drewN ?_ _ | refine below_set ?_ (by omega) _ | refine below_new ?_ (by omega) _))⟩
theorem rLess_any (a b : G) (w : World) :
    Calls Tryz.prog 65 #[.agg #[.int .i64 a.re, .int .i64 a.im], .agg #[.int .i64 b.re, .int .i64 b.im]] w fun e w' => e = .returned (.agg #[.int .i64 (a.sub b).w.re, .int .i64 (a.sub b).w.im]) ∧ Below w.heap.size w w' := by
  go_enter Tryz.func65, Tryz.ntmps65
  go_wp2
  refine bodyPost_ret (v := .agg #[.int .i64 (a.sub b).w.re, .int .i64 (a.sub b).w.im]) (by simp [results, Tryz.results65, go_sem, w_sub_re, w_sub_im]) rfl ?_
  exact ⟨rfl, (by repeat (first | exact Below.refl _ _ | exact Below.refl _ _ | refine Below.drew ?_ | refine below_drewN ?_ _ | refine below_set ?_ (by omega) _ | refine below_new ?_ (by omega) _))⟩
theorem conjugate_any (a : G) (w : World) :
    Calls Tryz.prog 86 #[.agg #[.int .i64 a.re, .int .i64 a.im]] w fun e w' => e = .returned (.agg #[.int .i64 a.re, .int .i64 (wr (-a.im))]) ∧ Below w.heap.size w w' := by
  go_enter Tryz.func86, Tryz.ntmps86
  go_wp2
  refine bodyPost_ret (v := .agg #[.int .i64 a.re, .int .i64 (wr (-a.im))]) (by simp [results, Tryz.results86, go_sem, wr_is]) rfl ?_
  exact ⟨rfl, (by repeat (first | exact Below.refl _ _ | exact Below.refl _ _ | refine Below.drew ?_ | refine below_drewN ?_ _ | refine below_set ?_ (by omega) _ | refine below_new ?_ (by omega) _))⟩
theorem rConjugate_any (a : G) (w : World) :
    Calls Tryz.prog 62 #[.agg #[.int .i64 a.re, .int .i64 a.im]] w fun e w' => e = .returned (.agg #[.int .i64 a.re, .int .i64 (wr (-a.im))]) ∧ Below w.heap.size w w' := by
  go_enter Tryz.func62, Tryz.ntmps62
  go_wp2
  refine bodyPost_ret (v := .agg #[.int .i64 a.re, .int .i64 (wr (-a.im))]) (by simp [results, Tryz.results62, go_sem, wr_is]) rfl ?_
  exact ⟨rfl, (by repeat (first | exact Below.refl _ _ | exact Below.refl _ _ | refine Below.drew ?_ | refine below_drewN ?_ _ | refine below_set ?_ (by omega) _ | refine below_new ?_ (by omega) _))⟩
theorem square_any (a : G) (w : World) :
    Calls Tryz.prog 87 #[.agg #[.int .i64 a.re, .int .i64 a.im]] w fun e w' => e = .returned (.int .i64 (wr a.sq)) ∧ Below w.heap.size w w' := by
  go_enter Tryz.func87, Tryz.ntmps87
  go_wp2
  go_ret
  exact ⟨by simp [w_sq], (by repeat (first | exact Below.refl _ _ | exact Below.refl _ _ | refine Below.drew ?_ | refine below_drewN ?_ _ | refine below_set ?_ (by omega) _ | refine below_new ?_ (by omega) _))⟩
theorem rSquare_any (a : G) (w : World) :
    Calls Tryz.prog 63 #[.agg #[.int .i64 a.re, .int .i64 a.im]] w fun e w' => e = .returned (.int .i64 (wr a.sq)) ∧ Below w.heap.size w w' := by
  go_enter Tryz.func63, Tryz.ntmps63
  go_wp2
  go_ret
  exact ⟨by simp [w_sq], (by repeat (first | exact Below.refl _ _ | exact Below.refl _ _ | refine Below.drew ?_ | refine below_drewN ?_ _ | refine below_set ?_ (by omega) _ | refine below_new ?_ (by omega) _))⟩
end Go.Proofs.YtnndaipnfniciaaGreatDoor

namespace Go.Proofs.YtnndaipnfniciaaGreatDoor
open Go.RowKit
set_option maxRecDepth 100000

theorem fnz_all {xs : List Int} (h : ∀ x ∈ xs, x = 0) : fnz xs = 0 := by
  induction xs with
  | nil => rfl
  | cons a l ih => unfold fnz; rw [if_pos (h a (by simp))]; exact ih fun x hx => h x (by simp [hx])
theorem fnz_hit {xs : List Int} {k : Nat} {x : Int} (hx : xs[k]? = some x) (h : ∀ y ∈ xs.take k, y = 0) (hne' : (x != 0) = true) : fnz xs = x := by
  have hne : x ≠ 0 := by simpa using hne'
  clear hne'
  induction xs generalizing k with
  | nil => simp at hx
  | cons a l ih =>
    unfold fnz
    cases k with
    | zero =>
      simp at hx
      rw [if_neg (by omega)]
      exact hx
    | succ k =>
      rw [if_pos (h a (by simp))]
      exact ih (by simpa using hx) fun y hy => h y (by simp [hy])

theorem own_slice {w : World} {base size n : Nat} {e : TypeId} {v : Value} {xs : List Value} (h : w.ownsRow base e size v n xs) : ∃ A c, v = .slice A n c ∧ Reads w w.heap.size size A n xs := by
  rcases h.2 with ⟨rfl, rfl⟩ | ⟨g, cap, cur, rfl, _⟩
  · exact ⟨none, 0, rfl, Reads.of_own h⟩
  · exact ⟨_, cap, rfl, Reads.of_own h⟩

/-- Numbers as cells. -/
def ints (xs : List Int) : List Value := xs.map (Value.int .i64)
theorem ints_len (xs : List Int) : (ints xs).length = xs.length := by simp [ints]
theorem ints_at {xs : List Int} {k : Nat} {u : Value} (h : (ints xs)[k]? = some u) : ∃ x, xs[k]? = some x ∧ u = .int .i64 x := by
  simp only [ints, List.getElem?_map, Option.map_eq_some_iff] at h
  obtain ⟨x, h1, h2⟩ := h
  exact ⟨x, h1, h2.symm⟩
theorem ints_one (xs : List Int) : ∀ u ∈ ints xs, u.oneCell' = true := by
  intro u hu
  simp only [ints, List.mem_map] at hu
  obtain ⟨x, _, rfl⟩ := hu
  rfl
theorem reads_len {w : World} {B n : Nat} {A : Option Addr} {xs : List Int} (h : Reads w B 1 A n (ints xs)) : xs.length = n := by
  have := h.1
  rw [ints_len] at this
  omega
theorem reads_at {w : World} {B n k : Nat} {A : Option Addr} {xs : List Int} (h : Reads w B 1 A n (ints xs)) (hk : k < n) :
    ∃ ad x, A = some ad ∧ ad.block < B ∧ xs[k]? = some x ∧ w.cell? (ad.add k) = some (.int .i64 x) := by
  obtain ⟨ad, u, h1, h2, h3, h4⟩ := h.at_ hk
  obtain ⟨x, h5, rfl⟩ := ints_at h3
  exact ⟨ad, x, h1, h2, h5, h4⟩

/-- What came ahead of place k was 0. -/
def zeros (xs : List Int) (k : Nat) : Prop := ∀ y ∈ xs.take k, y = 0
theorem zeros_succ {xs : List Int} {k : Nat} {x : Int} (h : zeros xs k) (hx : xs[k]? = some x) (h0' : (x != 0) = false) : zeros xs (k + 1) := by
  have h0 : x = 0 := by simpa using h0'
  intro y hy
  rw [List.take_add_one, hx] at hy
  simp at hy
  rcases hy with hy | hy
  · exact h y hy
  · omega
theorem zeros_end {xs : List Int} {k : Nat} (h : zeros xs k) (hk : xs.length ≤ k) : fnz xs = 0 :=
  fnz_all fun x hx => h x (by rw [List.take_of_length_le hk]; exact hx)

theorem first_any (A : Option Addr) (n c B : Nat) (xs : List Int) (w : World) (h : Reads w B 1 A n (ints xs)) (hn : n ≤ 1000000000000) :
    Calls Tryz.prog 82 #[.slice A n c] w fun r w' => r = .returned (.int .i64 (fnz xs)) ∧ w = w' := by
  have hl := reads_len h
  have HL := hide hl; clear hl
  go_enter Tryz.func82, Tryz.ntmps82
  go_wp2
  go_loop [7] (fun i => ∃ k : Nat, k ≤ n ∧ i = .int .i64 k ∧ zeros xs k) (fun i => n - (intOf i).toNat)
  case atStart => exact ⟨0, by omega, rfl, by intro y hy; simp at hy⟩
  case round =>
    obtain ⟨k, hk, rfl, hz⟩ := hrel
    by_cases hlt : k < n
    · obtain ⟨ad, x, rfl, _, hx, hc⟩ := reads_at h hlt
      have HX := hide hx; clear hx
      go_wp2
      · go_ret
        exact ⟨by simp; exact (fnz_hit HX.out hz ‹_›).symm, rfl⟩
      · go_round
        case rel => exact ⟨k + 1, by omega, by go_num, zeros_succ hz HX.out ‹_›⟩
        case measure => simp [intOf]; omega
    · go_wp2
      go_ret
      exact ⟨by simp; exact (zeros_end hz (by rw [HL.out]; omega)).symm, rfl⟩

theorem rFirst_any (A : Option Addr) (n c B : Nat) (xs : List Int) (w : World) (h : Reads w B 1 A n (ints xs)) (hn : n ≤ 1000000000000) :
    Calls Tryz.prog 18 #[.slice A n c] w fun r w' => r = .returned (.int .i64 (fnz xs)) ∧ w = w' := by
  have hl := reads_len h
  have HL := hide hl; clear hl
  go_enter Tryz.func18, Tryz.ntmps18
  go_wp2
  go_loop [3] (fun i => ∃ k : Nat, k ≤ n ∧ i = .int .i64 k ∧ zeros xs k) (fun i => n - (intOf i).toNat)
  case atStart => exact ⟨0, by omega, rfl, by intro y hy; simp at hy⟩
  case round =>
    obtain ⟨k, hk, rfl, hz⟩ := hrel
    by_cases hlt : k < n
    · obtain ⟨ad, x, rfl, _, hx, hc⟩ := reads_at h hlt
      have HX := hide hx; clear hx
      go_wp2
      · go_ret
        exact ⟨by simp; exact (fnz_hit HX.out hz ‹_›).symm, rfl⟩
      · go_round
        case rel => exact ⟨k + 1, by omega, by go_num, zeros_succ hz HX.out ‹_›⟩
        case measure => simp [intOf]; omega
    · go_wp2
      go_ret
      exact ⟨by simp; exact (zeros_end hz (by rw [HL.out]; omega)).symm, rfl⟩

theorem info_int : (Tryz.prog.info? 3).map (fun i => (i.zero, i.size, i.bytes)) = some (some (.int .i64 0), 1, 8) := by kernel_rfl
theorem info_errno : (Tryz.prog.info? 29).map (fun i => (i.zero, i.size, i.bytes)) = some (some (.int .i64 0), 1, 8) := by kernel_rfl

theorem ints_snoc (xs : List Int) (x : Int) : ints (xs ++ [x]) = ints xs ++ [.int .i64 x] := by simp [ints]
theorem map_snoc (g : Int → Int) {xs : List Int} {k : Nat} {x : Int} (h : xs[k]? = some x) : ints ((xs.take (k + 1)).map g) = ints ((xs.take k).map g) ++ [.int .i64 (g x)] := by
  rw [List.take_add_one, h]; simp [ints]
theorem take_snoc {xs : List Int} {k : Nat} {x : Int} (h : xs[k]? = some x) : xs.take (k + 1) = xs.take k ++ [x] := by rw [List.take_add_one, h]; rfl

set_option maxHeartbeats 400000 in
/-- mapped, at a function of numbers that leaves memory alone. -/
theorem mapped_any (f : Nat) (g : Int → Int) (hcf : ∀ a W, Sem.run Tryz.prog (callFunc f #[a]) W = .ok (.enter f #[a]) W) (hf : ∀ x W, Calls Tryz.prog f #[.int .i64 x] W fun r W' => r = .returned (.int .i64 (g x)) ∧ W = W')
    (A : Option Addr) (n c : Nat) (xs : List Int) (w : World) (h : Reads w w.heap.size 1 A n (ints xs)) (hn : n ≤ 1000000000000) :
    Calls Tryz.prog 140 #[.slice A n c, .func (.func f) #[] #[]] w fun r w' => ∃ A' c', r = .returned (.slice A' n c') ∧ Reads w' w'.heap.size 1 A' n (ints (xs.map g)) ∧ Below w.heap.size w w' := by
  have hl := reads_len h
  have HL := hide hl; clear hl
  have HF := hide hf; clear hf
  go_enter Tryz.func140, Tryz.ntmps140
  go_wp2
  go_loopw [5, 10] (fun v i wr => ∃ k : Nat, k ≤ n ∧ i = .int .i64 k ∧ wr.ownsRow w.heap.size 29 1 v k (ints ((xs.take k).map g)) ∧ Below w.heap.size w wr) (fun _ i _ => n - (intOf i).toNat)
  case atStart => exact ⟨0, by omega, rfl, by simp [ints, World.ownsRow_nil], Below.refl _ _⟩
  case round =>
    obtain ⟨k, hk, rfl, ho, hb⟩ := hrel
    by_cases hlt : k < n
    · have hr := h.below hb
      obtain ⟨ad, x, rfl, _, hx, hc⟩ := reads_at hr hlt
      have HX := hide hx; clear hx
      have hsz := hb.size
      have A1 : k + 1 ≤ maxLen := by unfold maxLen; omega
      have A2 : (k + 1) * 8 ≤ 140737488355328 := by omega
      clear h hr
      go_wp2_with fail
      refine (HF.out x _).mono ?_
      rintro e w' ⟨rfl, rfl⟩
      go_wp2_with (at_builtin; refine wpList_push _ rfl (.tmp 14) (.tmp 18) _ rfl w.heap.size 29 (.int .i64 0) 1 8 Tryz.underlying183 info_errno rfl (by decide) _ k _ rfl (ho.alloc _) wr.heap.size [.int .i64 (g x)] rfl rfl (cell_new1 _ _ _) (one_int _) A1 A2 (le_alloc hsz _) ?_; intro v1 w1 ho1 hb1)
      exact ⟨⟨k + 1, by omega, by go_num, by rw [map_snoc g HX.out]; exact ho1, (hb.alloc hsz _).trans hb1⟩, by simp [intOf]; omega⟩
    · go_wp2
      go_ret
      obtain rfl : k = n := by omega
      rw [List.take_of_length_le (by rw [HL.out]; omega)] at ho
      obtain ⟨A', c', rfl, hr⟩ := own_slice ho
      exact ⟨A', c', rfl, hr, hb⟩
theorem reads_new (w : World) (xs : List Int) (t : TypeId) (n : Nat) (hn : n = xs.length) : Reads (w.alloc (.cells (ints xs).toArray t)) (w.heap.size + 1) 1 (some ⟨w.heap.size, 0, none⟩) n (ints xs) := by
  refine ⟨by rw [ints_len]; omega, fun _ => ⟨_, rfl, by simp, fun j u hu => ?_⟩⟩
  have : (⟨w.heap.size, 0, none⟩ : Addr).add j = ⟨w.heap.size, j, none⟩ := by unfold Addr.add; split <;> simp_all
  rw [this]
  exact cells_new _ _ _ j u hu
theorem reads2 (w : World) (a b : Int) (t : TypeId) : Reads (w.alloc (.cells #[.int .i64 a, .int .i64 b] t)) (w.heap.size + 1) 1 (some ⟨w.heap.size, 0, none⟩) 2 (ints [a, b]) := reads_new w [a, b] t 2 rfl
theorem reads3 (w : World) (a b c : Int) (t : TypeId) : Reads (w.alloc (.cells #[.int .i64 a, .int .i64 b, .int .i64 c] t)) (w.heap.size + 1) 1 (some ⟨w.heap.size, 0, none⟩) 3 (ints [a, b, c]) := reads_new w [a, b, c] t 3 rfl
theorem reads4 (w : World) (a b c d : Int) (t : TypeId) : Reads (w.alloc (.cells #[.int .i64 a, .int .i64 b, .int .i64 c, .int .i64 d] t)) (w.heap.size + 1) 1 (some ⟨w.heap.size, 0, none⟩) 4 (ints [a, b, c, d]) := reads_new w [a, b, c, d] t 4 rfl
theorem reads_block {w : World} {g : Nat} {t : TypeId} {n m : Nat} {xs : List Int} (h : Blk w g t (xs.map (Value.int .i64)).toArray) (hn : n ≤ xs.length) (hm : g < m) : Reads w m 1 (some ⟨g, 0, none⟩) n (ints (xs.take n)) := by
  refine ⟨by simp [ints]; omega, fun _ => ⟨_, rfl, hm, fun j u hu => ?_⟩⟩
  have : (⟨g, 0, none⟩ : Addr).add j = ⟨g, j, none⟩ := by unfold Addr.add; split <;> simp_all
  rw [this, h.cell]
  simp only [ints, List.map_take, List.getElem?_take] at hu
  split at hu
  · simpa using hu
  · cases hu

end Go.Proofs.YtnndaipnfniciaaGreatDoor
