/- Polynomials of the program: trimmed and add. checkPolynomial, Value of the program. Plain mathematics: the value of a polynomial as a sum. No program in sight. Value of the program. -/
import Derived.Test.YtnndaipnfniciaaGreatDoorBaseS
import Derived.Laws.CopyOwn
import Derived.Deep.LoopGhost
import Derived.Test.YtnndaipnfniciaaGreatDoorBaseO
import Derived.Test.YtnndaipnfniciaaGreatDoorPlainA
namespace Go.Proofs.YtnndaipnfniciaaGreatDoor
open Go.RowKit Go.Shelf
set_option maxRecDepth 100000

theorem made_eq (n : Nat) : madeCells #[.int .i64 0] n = (ints (List.replicate n 0)).toArray := by
  apply Array.ext_getElem?
  intro i
  by_cases h : i < n <;> simp [madeCells, ints, h, Nat.mod_one]
theorem reads_take {w : World} {B n k : Nat} {A : Option Addr} {xs : List Int} (h : Reads w B 1 A n (ints xs)) (hk : k ≤ n) : Reads w B 1 A k (ints (xs.take k)) := by
  have hl := reads_len h
  refine ⟨by rw [ints_len, List.length_take]; omega, fun hn => ?_⟩
  obtain ⟨ad, e, hb, hc⟩ := h.2 (by omega)
  refine ⟨ad, e, hb, fun j u hu => hc j u ?_⟩
  obtain ⟨x, hx, rfl⟩ := ints_at hu
  rw [List.getElem?_take] at hx
  split at hx
  · simp [ints, hx]
  · cases hx
theorem trim_is_take {xs : List Int} {k : Nat} (hk : k ≤ xs.length) (hz : ∀ j, k ≤ j → co xs j = 0) (h : k = 0 ∨ co xs (k - 1) ≠ 0) : trim xs = xs.take k := by
  rw [← trim_take xs k hz]
  refine trim_last ?_
  rcases h with rfl | h
  · exact .inl (by simp)
  · right
    have : (xs.take k).length = k := by rw [List.length_take]; omega
    rw [this]
    rcases Nat.eq_zero_or_pos k with q | q
    · exact absurd (hz (k - 1) (by omega)) h
    · unfold co at h ⊢
      rw [List.getElem?_take, if_pos (by omega)]
      exact h
theorem trim_isT (xs : List Int) : xs.take (trim xs).length = trim xs := by
  induction xs with
  | nil => rfl
  | cons a l ih =>
    unfold trim
    split
    · rfl
    · rw [List.length_cons, List.take_succ_cons, ih]
def lenV : Value → Nat
  | .slice _ n _ => n
  | _ => 0
theorem co_get {xs : List Int} {k : Nat} {x : Int} (h : xs[k]? = some x) : co xs k = x := by unfold co; rw [h]; rfl
theorem co_far {xs : List Int} {k : Nat} (h : xs.length ≤ k) : co xs k = 0 := by unfold co; rw [List.getElem?_eq_none h]; rfl
set_option maxHeartbeats 1000000 in
theorem trimmed_any (A : Option Addr) (n c B : Nat) (xs : List Int) (w : World) (h : Reads w B 1 A n (ints xs)) (hc : n ≤ c) (hn : n ≤ 1000000000000) :
    Calls Tryz.prog 95 #[.slice A n c] w fun e w' => e = .returned (.slice A (trim xs).length c) ∧ w = w' := by
  have hl := reads_len h
  have HL := hide hl; clear hl
  go_enter Tryz.func95, Tryz.ntmps95
  go_wp2
  go_loop [0] (fun v => ∃ k : Nat, k ≤ n ∧ v = .slice A k c ∧ Hid (∀ j, k ≤ j → co xs j = 0)) (fun v => lenV v)
  case atStart => exact ⟨n, Nat.le_refl _, rfl, fun j hj => co_far (by rw [HL.out]; exact hj)⟩
  case round =>
    obtain ⟨k, hk, rfl, hz⟩ := hrel
    rcases Nat.eq_zero_or_pos k with h0 | h0
    · subst h0
      go_wp2
      go_ret
      have ht : trim xs = xs.take 0 := trim_is_take (Nat.zero_le _) hz.out (.inl rfl)
      exact ⟨by rw [ht]; simp, rfl⟩
    · obtain ⟨ad, x, rfl, _, hx, hcx⟩ := reads_at h (show k - 1 < n by omega)
      have HX := hide hx; clear hx
      have hk1 : ((k : Int) - 1) = ((k - 1 : Nat) : Int) := by omega
      have hg : (0 : Int) < (k : Int) := by omega
      have hkc : k - 1 ≤ c := by omega
      by_cases hx0 : x = 0
      · subst hx0
        go_wp2
        go_round
        case rel =>
          refine ⟨k - 1, by omega, by simp, fun j hj => ?_⟩
          by_cases e : j = k - 1
          · rw [e]; exact co_get HX.out
          · exact hz.out j (by omega)
        case measure => simp [lenV]; omega
      · have hx1 : (x == 0) = false := by simpa using hx0
        have HX0 := hide hx0
        clear hx0
        go_wp2
        go_ret
        have ht : trim xs = xs.take k := trim_is_take (by rw [HL.out]; exact hk) hz.out (.inr (by rw [co_get HX.out]; exact HX0.out))
        exact ⟨by rw [ht, List.length_take, HL.out, Nat.min_eq_left hk]; rfl, rfl⟩
/-! ### Sizes of polynomials -/
def n1 (l : List Int) : Nat := (l.map Int.natAbs).sum
theorem n1_cons (a : Int) (l : List Int) : n1 (a :: l) = a.natAbs + n1 l := by simp [n1]
theorem n1_nil : n1 [] = 0 := rfl
theorem n1_append (l m : List Int) : n1 (l ++ m) = n1 l + n1 m := by simp [n1]
theorem n1_zeros (n : Nat) : n1 (List.replicate n 0) = 0 := by
  induction n with
  | zero => rfl
  | succ n ih => rw [List.replicate_succ, n1_cons, ih]; rfl
theorem n1_trim (l : List Int) : n1 (trim l) ≤ n1 l := by
  induction l with
  | nil => exact Nat.le_refl _
  | cons a l ih =>
    unfold trim
    split
    · simp [n1_nil]
    · rw [n1_cons, n1_cons]; omega
theorem co_n1 (l : List Int) (k : Nat) : (co l k).natAbs ≤ n1 l := by
  induction l generalizing k with
  | nil => simp [co_nil]
  | cons a l ih =>
    cases k with
    | zero => rw [co_cons_zero, n1_cons]; omega
    | succ k => rw [co_cons_succ, n1_cons]; have := ih k; omega
theorem addRow_cons_zero (y : Int) (out : List Int) (x b0 : Int) (b : List Int) : addRow (y :: out) 0 x (b0 :: b) = (y + x * b0) :: addRow out 0 x b := by
  unfold addRow
  simp [List.mapIdx_cons, co_cons_zero, co_cons_succ]
theorem addRow_cons_succ (y : Int) (out : List Int) (i : Nat) (x : Int) (b : List Int) : addRow (y :: out) (i + 1) x b = y :: addRow out i x b := by
  unfold addRow
  simp [List.mapIdx_cons]
theorem addRow_nil_b (out : List Int) (i : Nat) (x : Int) : addRow out i x [] = out := by
  unfold addRow
  refine List.ext_getElem? fun j => ?_
  rw [List.getElem?_mapIdx]
  cases out[j]? with
  | none => rfl
  | some y => simp [co_nil]
theorem n1_addRow (x : Int) : ∀ (out : List Int) (i : Nat) (b : List Int), n1 (addRow out i x b) ≤ n1 out + x.natAbs * n1 b
  | [], i, b => by simp [addRow, n1_nil]
  | y :: out, i + 1, b => by
    rw [addRow_cons_succ, n1_cons, n1_cons]
    have := n1_addRow x out i b
    omega
  | y :: out, 0, [] => by rw [addRow_nil_b]; omega
  | y :: out, 0, b0 :: b => by
    rw [addRow_cons_zero, n1_cons, n1_cons, n1_cons]
    have h := n1_addRow x out 0 b
    have h2 := Int.natAbs_mul x b0
    rw [Nat.mul_add]
    omega
theorem n1_addRows (out a b : List Int) : ∀ n, n1 (addRows out a b n) ≤ n1 out + n1 (a.take n) * n1 b
  | 0 => by simp [addRows, n1_nil]
  | n + 1 => by
    show n1 (addRow (addRows out a b n) n (co a n) b) ≤ _
    have h1 := n1_addRow (co a n) (addRows out a b n) n b
    have h2 := n1_addRows out a b n
    have h3 : n1 (a.take (n + 1)) = n1 (a.take n) + (co a n).natAbs := by
      rw [List.take_add_one, n1_append]
      unfold co
      cases a[n]? with
      | none => rfl
      | some v => simp [n1]
    rw [h3, Nat.add_mul]
    omega
theorem n1_padd (p a b : List Int) : n1 (padd p a b) ≤ n1 p + n1 a * n1 b := by
  unfold padd
  have h1 := n1_trim (addRows (p ++ List.replicate (max p.length (a.length + b.length) - p.length) 0) a b a.length)
  have h2 := n1_addRows (p ++ List.replicate (max p.length (a.length + b.length) - p.length) 0) a b a.length
  rw [n1_append, n1_zeros, List.take_length] at h2
  omega
end Go.Proofs.YtnndaipnfniciaaGreatDoor

namespace Go.Proofs.YtnndaipnfniciaaGreatDoor
open Go.RowKit Go.Shelf
set_option maxRecDepth 100000
theorem add_zero (a : Addr) : a.add 0 = a := by unfold Addr.add; rw [if_pos rfl]
/-- The error of a polynomial. -/
def polE (p : List Int) : Int := fnz [if 6 < p.length then 5 else 0, if 0 < p.length ∧ co p (p.length - 1) = 0 then 1 else 0]
def polErr (p : List Int) : Int := if polE p = 0 then fnz (p.map fun x => rng x (-999999999) 999999999) else polE p
theorem polOne_any (x : Int) (w : World) :
    Calls Tryz.prog 141 #[.int .i64 x] w fun r w' => r = .returned (.int .i64 (rng x (-999999999) 999999999)) ∧ w = w' := by
  go_enter Tryz.func141, Tryz.ntmps141
  go_wp2_with (go_at_call 113; refine (within_any _ _ _ _).mono ?_; rintro e w' ⟨rfl, rfl⟩)
  go_ret
  exact ⟨rfl, rfl⟩
theorem enters_polOne : ∀ a W, Sem.run Tryz.prog (callFunc 141 #[a]) W = .ok (.enter 141 #[a]) W := fun _ _ => by kernel_rfl
set_option maxHeartbeats 2000000 in
theorem checkPolynomial_any (p : List Int) (A : Option Addr) (m c : Nat) (w : World) (hm : m ≤ 1000000000000) (hR : Reads w w.heap.size 1 A m (ints p)) :
    Calls Tryz.prog 88 #[.slice A m c] w fun e w' => e = .returned (.int .i64 (polErr p)) ∧ Below w.heap.size w w' := by
  obtain rfl := reads_len hR
  by_cases h0 : 0 < p.length
  · obtain ⟨ad, x, rfl, _, hx, hc⟩ := reads_at hR (show p.length - 1 < p.length by omega)
    have hco := co_get hx
    have g0 : decide ((0 : Int) < (p.length : Int)) = true := decide_eq_true (by omega)
    have HX := hide hx
    clear hx
    by_cases hone : 1 < p.length
    · have g1 : (1 : Int) < (p.length : Int) := by omega
      have g2 : ((p.length : Int) - 1).toNat = p.length - 1 := by omega
      by_cases h6 : 6 < p.length
      · have g6 : (6 : Int) < (p.length : Int) := by omega
        by_cases hx0 : x = 0
        · subst hx0
          have HE := hide (show polE p = fnz [5, 1] by unfold polE; rw [if_pos h6, if_pos ⟨h0, hco⟩])
          (try clear hco)
          by_cases h0 : fnz [5, 1] = 0
          · have hr : polErr p = fnz (p.map fun x => rng x (-999999999) 999999999) := by unfold polErr; rw [if_pos (by rw [HE.out]; exact h0)]
            have HR2 := hide hr
            have t1 : (fnz [5, 1] != 0) = false := by rw [h0]; rfl
            clear h0 hr
            go_enter Tryz.func88, Tryz.ntmps88
            go_upto_region 2 with (first | (go_at_call 84; refine (when_any _ _ _).mono ?_; rintro e W' ⟨rfl, rfl⟩) | (go_at_call 82; (first | (with_reducible (refine (first_any _ _ _ _ _ _ (reads2 _ _ _ _) (by omega)).mono ?_)) | (with_reducible (refine (first_any _ _ _ _ _ _ (Reads.drew (reads2 _ _ _ _)) (by omega)).mono ?_))); rintro e W' ⟨rfl, rfl⟩))
            obtain ⟨w3, e3, hb3, hz3, k3⟩ := box1 w #[.int .i64 5, .int .i64 1] 29
            rw [← e3]; clear e3 k3
            go_wp2_with fail
            refine (mapped_any 141 (fun x => rng x (-999999999) 999999999) enters_polOne polOne_any _ p.length c p _ (carry hR hb3) hm).mono ?_
            rintro e w4 ⟨A4, c4, rfl, hr4, hb4⟩
            have hbw4 := below_next hb3 hb4
            go_wp2_with fail
            refine (first_any A4 p.length c4 _ _ _ hr4 hm).mono ?_
            rintro e w5 ⟨rfl, rfl⟩
            go_wp2_with fail
            go_ret
            exact ⟨by rw [HR2.out]; rfl, hbw4⟩
          · have hr : polErr p = fnz [5, 1] := by unfold polErr; rw [if_neg (by rw [HE.out]; exact h0), HE.out]
            have HR2 := hide hr
            have t1 : (fnz [5, 1] != 0) = true := by simpa using h0
            clear h0 hr
            go_enter Tryz.func88, Tryz.ntmps88
            go_upto_region 2 with (first | (go_at_call 84; refine (when_any _ _ _).mono ?_; rintro e W' ⟨rfl, rfl⟩) | (go_at_call 82; (first | (with_reducible (refine (first_any _ _ _ _ _ _ (reads2 _ _ _ _) (by omega)).mono ?_)) | (with_reducible (refine (first_any _ _ _ _ _ _ (Reads.drew (reads2 _ _ _ _)) (by omega)).mono ?_))); rintro e W' ⟨rfl, rfl⟩))
            obtain ⟨w3, e3, hb3, hz3, k3⟩ := box1 w #[.int .i64 5, .int .i64 1] 29
            rw [← e3]; clear e3 k3
            go_wp2_with fail
            go_ret
            exact ⟨by rw [HR2.out]; rfl, hb3⟩
        · have tx : (x == 0) = false := by simpa using hx0
          have HE := hide (show polE p = fnz [5, 0] by unfold polE; rw [if_pos h6, if_neg (fun h => hx0 (hco.symm.trans h.2))])
          (try clear hco)
          by_cases h0 : fnz [5, 0] = 0
          · have hr : polErr p = fnz (p.map fun x => rng x (-999999999) 999999999) := by unfold polErr; rw [if_pos (by rw [HE.out]; exact h0)]
            have HR2 := hide hr
            have t1 : (fnz [5, 0] != 0) = false := by rw [h0]; rfl
            clear h0 hr
            go_enter Tryz.func88, Tryz.ntmps88
            go_upto_region 2 with (first | (go_at_call 84; refine (when_any _ _ _).mono ?_; rintro e W' ⟨rfl, rfl⟩) | (go_at_call 82; (first | (with_reducible (refine (first_any _ _ _ _ _ _ (reads2 _ _ _ _) (by omega)).mono ?_)) | (with_reducible (refine (first_any _ _ _ _ _ _ (Reads.drew (reads2 _ _ _ _)) (by omega)).mono ?_))); rintro e W' ⟨rfl, rfl⟩))
            obtain ⟨w3, e3, hb3, hz3, k3⟩ := box1 w #[.int .i64 5, .int .i64 0] 29
            rw [← e3]; clear e3 k3
            go_wp2_with fail
            refine (mapped_any 141 (fun x => rng x (-999999999) 999999999) enters_polOne polOne_any _ p.length c p _ (carry hR hb3) hm).mono ?_
            rintro e w4 ⟨A4, c4, rfl, hr4, hb4⟩
            have hbw4 := below_next hb3 hb4
            go_wp2_with fail
            refine (first_any A4 p.length c4 _ _ _ hr4 hm).mono ?_
            rintro e w5 ⟨rfl, rfl⟩
            go_wp2_with fail
            go_ret
            exact ⟨by rw [HR2.out]; rfl, hbw4⟩
          · have hr : polErr p = fnz [5, 0] := by unfold polErr; rw [if_neg (by rw [HE.out]; exact h0), HE.out]
            have HR2 := hide hr
            have t1 : (fnz [5, 0] != 0) = true := by simpa using h0
            clear h0 hr
            go_enter Tryz.func88, Tryz.ntmps88
            go_upto_region 2 with (first | (go_at_call 84; refine (when_any _ _ _).mono ?_; rintro e W' ⟨rfl, rfl⟩) | (go_at_call 82; (first | (with_reducible (refine (first_any _ _ _ _ _ _ (reads2 _ _ _ _) (by omega)).mono ?_)) | (with_reducible (refine (first_any _ _ _ _ _ _ (Reads.drew (reads2 _ _ _ _)) (by omega)).mono ?_))); rintro e W' ⟨rfl, rfl⟩))
            obtain ⟨w3, e3, hb3, hz3, k3⟩ := box1 w #[.int .i64 5, .int .i64 0] 29
            rw [← e3]; clear e3 k3
            go_wp2_with fail
            go_ret
            exact ⟨by rw [HR2.out]; rfl, hb3⟩
      · have g6 : ¬ (6 : Int) < (p.length : Int) := by omega
        by_cases hx0 : x = 0
        · subst hx0
          have HE := hide (show polE p = fnz [0, 1] by unfold polE; rw [if_neg h6, if_pos ⟨h0, hco⟩])
          (try clear hco)
          by_cases h0 : fnz [0, 1] = 0
          · have hr : polErr p = fnz (p.map fun x => rng x (-999999999) 999999999) := by unfold polErr; rw [if_pos (by rw [HE.out]; exact h0)]
            have HR2 := hide hr
            have t1 : (fnz [0, 1] != 0) = false := by rw [h0]; rfl
            clear h0 hr
            go_enter Tryz.func88, Tryz.ntmps88
            go_upto_region 2 with (first | (go_at_call 84; refine (when_any _ _ _).mono ?_; rintro e W' ⟨rfl, rfl⟩) | (go_at_call 82; (first | (with_reducible (refine (first_any _ _ _ _ _ _ (reads2 _ _ _ _) (by omega)).mono ?_)) | (with_reducible (refine (first_any _ _ _ _ _ _ (Reads.drew (reads2 _ _ _ _)) (by omega)).mono ?_))); rintro e W' ⟨rfl, rfl⟩))
            obtain ⟨w3, e3, hb3, hz3, k3⟩ := box1 w #[.int .i64 0, .int .i64 1] 29
            rw [← e3]; clear e3 k3
            go_wp2_with fail
            refine (mapped_any 141 (fun x => rng x (-999999999) 999999999) enters_polOne polOne_any _ p.length c p _ (carry hR hb3) hm).mono ?_
            rintro e w4 ⟨A4, c4, rfl, hr4, hb4⟩
            have hbw4 := below_next hb3 hb4
            go_wp2_with fail
            refine (first_any A4 p.length c4 _ _ _ hr4 hm).mono ?_
            rintro e w5 ⟨rfl, rfl⟩
            go_wp2_with fail
            go_ret
            exact ⟨by rw [HR2.out]; rfl, hbw4⟩
          · have hr : polErr p = fnz [0, 1] := by unfold polErr; rw [if_neg (by rw [HE.out]; exact h0), HE.out]
            have HR2 := hide hr
            have t1 : (fnz [0, 1] != 0) = true := by simpa using h0
            clear h0 hr
            go_enter Tryz.func88, Tryz.ntmps88
            go_upto_region 2 with (first | (go_at_call 84; refine (when_any _ _ _).mono ?_; rintro e W' ⟨rfl, rfl⟩) | (go_at_call 82; (first | (with_reducible (refine (first_any _ _ _ _ _ _ (reads2 _ _ _ _) (by omega)).mono ?_)) | (with_reducible (refine (first_any _ _ _ _ _ _ (Reads.drew (reads2 _ _ _ _)) (by omega)).mono ?_))); rintro e W' ⟨rfl, rfl⟩))
            obtain ⟨w3, e3, hb3, hz3, k3⟩ := box1 w #[.int .i64 0, .int .i64 1] 29
            rw [← e3]; clear e3 k3
            go_wp2_with fail
            go_ret
            exact ⟨by rw [HR2.out]; rfl, hb3⟩
        · have tx : (x == 0) = false := by simpa using hx0
          have HE := hide (show polE p = fnz [0, 0] by unfold polE; rw [if_neg h6, if_neg (fun h => hx0 (hco.symm.trans h.2))])
          (try clear hco)
          by_cases h0 : fnz [0, 0] = 0
          · have hr : polErr p = fnz (p.map fun x => rng x (-999999999) 999999999) := by unfold polErr; rw [if_pos (by rw [HE.out]; exact h0)]
            have HR2 := hide hr
            have t1 : (fnz [0, 0] != 0) = false := by rw [h0]; rfl
            clear h0 hr
            go_enter Tryz.func88, Tryz.ntmps88
            go_upto_region 2 with (first | (go_at_call 84; refine (when_any _ _ _).mono ?_; rintro e W' ⟨rfl, rfl⟩) | (go_at_call 82; (first | (with_reducible (refine (first_any _ _ _ _ _ _ (reads2 _ _ _ _) (by omega)).mono ?_)) | (with_reducible (refine (first_any _ _ _ _ _ _ (Reads.drew (reads2 _ _ _ _)) (by omega)).mono ?_))); rintro e W' ⟨rfl, rfl⟩))
            obtain ⟨w3, e3, hb3, hz3, k3⟩ := box1 w #[.int .i64 0, .int .i64 0] 29
            rw [← e3]; clear e3 k3
            go_wp2_with fail
            refine (mapped_any 141 (fun x => rng x (-999999999) 999999999) enters_polOne polOne_any _ p.length c p _ (carry hR hb3) hm).mono ?_
            rintro e w4 ⟨A4, c4, rfl, hr4, hb4⟩
            have hbw4 := below_next hb3 hb4
            go_wp2_with fail
            refine (first_any A4 p.length c4 _ _ _ hr4 hm).mono ?_
            rintro e w5 ⟨rfl, rfl⟩
            go_wp2_with fail
            go_ret
            exact ⟨by rw [HR2.out]; rfl, hbw4⟩
          · have hr : polErr p = fnz [0, 0] := by unfold polErr; rw [if_neg (by rw [HE.out]; exact h0), HE.out]
            have HR2 := hide hr
            have t1 : (fnz [0, 0] != 0) = true := by simpa using h0
            clear h0 hr
            go_enter Tryz.func88, Tryz.ntmps88
            go_upto_region 2 with (first | (go_at_call 84; refine (when_any _ _ _).mono ?_; rintro e W' ⟨rfl, rfl⟩) | (go_at_call 82; (first | (with_reducible (refine (first_any _ _ _ _ _ _ (reads2 _ _ _ _) (by omega)).mono ?_)) | (with_reducible (refine (first_any _ _ _ _ _ _ (Reads.drew (reads2 _ _ _ _)) (by omega)).mono ?_))); rintro e W' ⟨rfl, rfl⟩))
            obtain ⟨w3, e3, hb3, hz3, k3⟩ := box1 w #[.int .i64 0, .int .i64 0] 29
            rw [← e3]; clear e3 k3
            go_wp2_with fail
            go_ret
            exact ⟨by rw [HR2.out]; rfl, hb3⟩
    · have g1 : ¬ (1 : Int) < (p.length : Int) := by omega
      have g6 : ¬ (6 : Int) < (p.length : Int) := by omega
      have h6 : ¬ 6 < p.length := by omega
      have g2 : (0 : Int) < (p.length : Int) := by omega
      rw [show p.length - 1 = 0 by omega] at hc
      rw [add_zero] at hc
      by_cases hx0 : x = 0
      · subst hx0
        have HE := hide (show polE p = fnz [0, 1] by unfold polE; rw [if_neg h6, if_pos ⟨h0, hco⟩])
        (try clear hco)
        by_cases h0 : fnz [0, 1] = 0
        · have hr : polErr p = fnz (p.map fun x => rng x (-999999999) 999999999) := by unfold polErr; rw [if_pos (by rw [HE.out]; exact h0)]
          have HR2 := hide hr
          have t1 : (fnz [0, 1] != 0) = false := by rw [h0]; rfl
          clear h0 hr
          go_enter Tryz.func88, Tryz.ntmps88
          go_upto_region 2 with (first | (go_at_call 84; refine (when_any _ _ _).mono ?_; rintro e W' ⟨rfl, rfl⟩) | (go_at_call 82; (first | (with_reducible (refine (first_any _ _ _ _ _ _ (reads2 _ _ _ _) (by omega)).mono ?_)) | (with_reducible (refine (first_any _ _ _ _ _ _ (Reads.drew (reads2 _ _ _ _)) (by omega)).mono ?_))); rintro e W' ⟨rfl, rfl⟩))
          obtain ⟨w3, e3, hb3, hz3, k3⟩ := box1 w #[.int .i64 0, .int .i64 1] 29
          rw [← e3]; clear e3 k3
          go_wp2_with fail
          refine (mapped_any 141 (fun x => rng x (-999999999) 999999999) enters_polOne polOne_any _ p.length c p _ (carry hR hb3) hm).mono ?_
          rintro e w4 ⟨A4, c4, rfl, hr4, hb4⟩
          have hbw4 := below_next hb3 hb4
          go_wp2_with fail
          refine (first_any A4 p.length c4 _ _ _ hr4 hm).mono ?_
          rintro e w5 ⟨rfl, rfl⟩
          go_wp2_with fail
          go_ret
          exact ⟨by rw [HR2.out]; rfl, hbw4⟩
        · have hr : polErr p = fnz [0, 1] := by unfold polErr; rw [if_neg (by rw [HE.out]; exact h0), HE.out]
          have HR2 := hide hr
          have t1 : (fnz [0, 1] != 0) = true := by simpa using h0
          clear h0 hr
          go_enter Tryz.func88, Tryz.ntmps88
          go_upto_region 2 with (first | (go_at_call 84; refine (when_any _ _ _).mono ?_; rintro e W' ⟨rfl, rfl⟩) | (go_at_call 82; (first | (with_reducible (refine (first_any _ _ _ _ _ _ (reads2 _ _ _ _) (by omega)).mono ?_)) | (with_reducible (refine (first_any _ _ _ _ _ _ (Reads.drew (reads2 _ _ _ _)) (by omega)).mono ?_))); rintro e W' ⟨rfl, rfl⟩))
          obtain ⟨w3, e3, hb3, hz3, k3⟩ := box1 w #[.int .i64 0, .int .i64 1] 29
          rw [← e3]; clear e3 k3
          go_wp2_with fail
          go_ret
          exact ⟨by rw [HR2.out]; rfl, hb3⟩
      · have tx : (x == 0) = false := by simpa using hx0
        have HE := hide (show polE p = fnz [0, 0] by unfold polE; rw [if_neg h6, if_neg (fun h => hx0 (hco.symm.trans h.2))])
        (try clear hco)
        by_cases h0 : fnz [0, 0] = 0
        · have hr : polErr p = fnz (p.map fun x => rng x (-999999999) 999999999) := by unfold polErr; rw [if_pos (by rw [HE.out]; exact h0)]
          have HR2 := hide hr
          have t1 : (fnz [0, 0] != 0) = false := by rw [h0]; rfl
          clear h0 hr
          go_enter Tryz.func88, Tryz.ntmps88
          go_upto_region 2 with (first | (go_at_call 84; refine (when_any _ _ _).mono ?_; rintro e W' ⟨rfl, rfl⟩) | (go_at_call 82; (first | (with_reducible (refine (first_any _ _ _ _ _ _ (reads2 _ _ _ _) (by omega)).mono ?_)) | (with_reducible (refine (first_any _ _ _ _ _ _ (Reads.drew (reads2 _ _ _ _)) (by omega)).mono ?_))); rintro e W' ⟨rfl, rfl⟩))
          obtain ⟨w3, e3, hb3, hz3, k3⟩ := box1 w #[.int .i64 0, .int .i64 0] 29
          rw [← e3]; clear e3 k3
          go_wp2_with fail
          refine (mapped_any 141 (fun x => rng x (-999999999) 999999999) enters_polOne polOne_any _ p.length c p _ (carry hR hb3) hm).mono ?_
          rintro e w4 ⟨A4, c4, rfl, hr4, hb4⟩
          have hbw4 := below_next hb3 hb4
          go_wp2_with fail
          refine (first_any A4 p.length c4 _ _ _ hr4 hm).mono ?_
          rintro e w5 ⟨rfl, rfl⟩
          go_wp2_with fail
          go_ret
          exact ⟨by rw [HR2.out]; rfl, hbw4⟩
        · have hr : polErr p = fnz [0, 0] := by unfold polErr; rw [if_neg (by rw [HE.out]; exact h0), HE.out]
          have HR2 := hide hr
          have t1 : (fnz [0, 0] != 0) = true := by simpa using h0
          clear h0 hr
          go_enter Tryz.func88, Tryz.ntmps88
          go_upto_region 2 with (first | (go_at_call 84; refine (when_any _ _ _).mono ?_; rintro e W' ⟨rfl, rfl⟩) | (go_at_call 82; (first | (with_reducible (refine (first_any _ _ _ _ _ _ (reads2 _ _ _ _) (by omega)).mono ?_)) | (with_reducible (refine (first_any _ _ _ _ _ _ (Reads.drew (reads2 _ _ _ _)) (by omega)).mono ?_))); rintro e W' ⟨rfl, rfl⟩))
          obtain ⟨w3, e3, hb3, hz3, k3⟩ := box1 w #[.int .i64 0, .int .i64 0] 29
          rw [← e3]; clear e3 k3
          go_wp2_with fail
          go_ret
          exact ⟨by rw [HR2.out]; rfl, hb3⟩
  · have g0 : decide ((0 : Int) < (p.length : Int)) = false := decide_eq_false (by omega)
    have g6 : ¬ (6 : Int) < (p.length : Int) := by omega
    have h6 : ¬ 6 < p.length := by omega
    have HE := hide (show polE p = fnz [0, 0] by unfold polE; rw [if_neg h6, if_neg (fun h => h0 h.1)])
    (try clear hco)
    by_cases h0 : fnz [0, 0] = 0
    · have hr : polErr p = fnz (p.map fun x => rng x (-999999999) 999999999) := by unfold polErr; rw [if_pos (by rw [HE.out]; exact h0)]
      have HR2 := hide hr
      have t1 : (fnz [0, 0] != 0) = false := by rw [h0]; rfl
      clear h0 hr
      go_enter Tryz.func88, Tryz.ntmps88
      go_upto_region 2 with (first | (go_at_call 84; refine (when_any _ _ _).mono ?_; rintro e W' ⟨rfl, rfl⟩) | (go_at_call 82; (first | (with_reducible (refine (first_any _ _ _ _ _ _ (reads2 _ _ _ _) (by omega)).mono ?_)) | (with_reducible (refine (first_any _ _ _ _ _ _ (Reads.drew (reads2 _ _ _ _)) (by omega)).mono ?_))); rintro e W' ⟨rfl, rfl⟩))
      obtain ⟨w3, e3, hb3, hz3, k3⟩ := box1 w #[.int .i64 0, .int .i64 0] 29
      rw [← e3]; clear e3 k3
      go_wp2_with fail
      refine (mapped_any 141 (fun x => rng x (-999999999) 999999999) enters_polOne polOne_any _ p.length c p _ (carry hR hb3) hm).mono ?_
      rintro e w4 ⟨A4, c4, rfl, hr4, hb4⟩
      have hbw4 := below_next hb3 hb4
      go_wp2_with fail
      refine (first_any A4 p.length c4 _ _ _ hr4 hm).mono ?_
      rintro e w5 ⟨rfl, rfl⟩
      go_wp2_with fail
      go_ret
      exact ⟨by rw [HR2.out]; rfl, hbw4⟩
    · have hr : polErr p = fnz [0, 0] := by unfold polErr; rw [if_neg (by rw [HE.out]; exact h0), HE.out]
      have HR2 := hide hr
      have t1 : (fnz [0, 0] != 0) = true := by simpa using h0
      clear h0 hr
      go_enter Tryz.func88, Tryz.ntmps88
      go_upto_region 2 with (first | (go_at_call 84; refine (when_any _ _ _).mono ?_; rintro e W' ⟨rfl, rfl⟩) | (go_at_call 82; (first | (with_reducible (refine (first_any _ _ _ _ _ _ (reads2 _ _ _ _) (by omega)).mono ?_)) | (with_reducible (refine (first_any _ _ _ _ _ _ (Reads.drew (reads2 _ _ _ _)) (by omega)).mono ?_))); rintro e W' ⟨rfl, rfl⟩))
      obtain ⟨w3, e3, hb3, hz3, k3⟩ := box1 w #[.int .i64 0, .int .i64 0] 29
      rw [← e3]; clear e3 k3
      go_wp2_with fail
      go_ret
      exact ⟨by rw [HR2.out]; rfl, hb3⟩
end Go.Proofs.YtnndaipnfniciaaGreatDoor

namespace Go.Proofs.YtnndaipnfniciaaGreatDoor
open Go.RowKit
set_option maxRecDepth 100000
/-- The powers of i. -/
def turnG (k : Nat) : G := if k % 4 = 0 then ⟨1, 0⟩ else if k % 4 = 1 then ⟨0, 1⟩ else if k % 4 = 2 then ⟨-1, 0⟩ else ⟨0, -1⟩
theorem turn_succ (k : Nat) : turnG (k + 1) = (⟨0, 1⟩ : G).mul (turnG k) := by
  have : k % 4 = 0 ∨ k % 4 = 1 ∨ k % 4 = 2 ∨ k % 4 = 3 := by omega
  unfold turnG
  rcases this with h | h | h | h
  · rw [h, show (k + 1) % 4 = 1 by omega]; rfl
  · rw [h, show (k + 1) % 4 = 2 by omega]; rfl
  · rw [h, show (k + 1) % 4 = 3 by omega]; rfl
  · rw [h, show (k + 1) % 4 = 0 by omega]; rfl
theorem turn_nrm (k : Nat) : (turnG k).nrm = 1 := by unfold turnG; repeat' split <;> try rfl
/-- The sum of the first terms. -/
def vsum (f : Int) (c : Nat → Int) : Nat → G
  | 0 => .zero
  | n + 1 => (vsum f c n).add ((turnG n).mul ⟨c n * f ^ n, 0⟩)
theorem vsum_shift (f : Int) : ∀ (n : Nat) (c : Nat → Int), vsum f c (n + 1) = (G.of (c 0)).add ((iw f).mul (vsum f (fun k => c (k + 1)) n)) := by
  intro n
  induction n with
  | zero => intro c; apply G.ext' <;> simp [vsum, turnG, G.add, G.mul, G.of, G.zero, iw]
  | succ n ih =>
    intro c
    rw [vsum, ih, vsum, turn_succ]
    have e : f ^ (n + 1) = f * f ^ n := by rw [Int.pow_succ, Int.mul_comm]
    rw [e]
    generalize vsum f (fun k => c (k + 1)) n = q
    generalize turnG n = t
    generalize f ^ n = z
    apply G.ext' <;> simp only [G.add, G.mul, G.of, iw] <;> grind
theorem vsum_evf (f : Int) : ∀ (n : Nat) (c : Nat → Int), vsum f c n = evf (iw f) c n := by
  intro n
  induction n with
  | zero => intro c; rfl
  | succ n ih => intro c; rw [vsum_shift, ih]; rfl
theorem vsum_ev (f : Int) (p : List Int) : vsum f (co p) p.length = ev (iw f) p := vsum_evf f p.length (co p)
theorem pow_in {f : Int} (h1 : 1 ≤ f) (h8 : f ≤ 8) {k : Nat} (hk : k ≤ 6) : 1 ≤ f ^ k ∧ f ^ k ≤ 262144 := by
  have key : ∀ k : Nat, 1 ≤ f ^ k ∧ f ^ k ≤ 8 ^ k := by
    intro k
    induction k with
    | zero => exact ⟨by simp, by simp⟩
    | succ k ih =>
      rw [Int.pow_succ, Int.pow_succ]
      have h0 := Int.mul_le_mul ih.1 h1 (by omega) (by omega)
      exact ⟨by omega, Int.mul_le_mul ih.2 h8 (by omega) (by omega)⟩
  have := key k
  have e : (8 : Int) ^ k ≤ 262144 := by
    have : k = 0 ∨ k = 1 ∨ k = 2 ∨ k = 3 ∨ k = 4 ∨ k = 5 ∨ k = 6 := by omega
    rcases this with rfl | rfl | rfl | rfl | rfl | rfl | rfl <;> decide
  omega
theorem term_in {f x : Int} (h1 : 1 ≤ f) (h8 : f ≤ 8) {k : Nat} (hk : k ≤ 6) (hx : -999999999 ≤ x ∧ x ≤ 999999999) : (x * f ^ k).natAbs ≤ 300000000000000 := by
  have hp := pow_in h1 h8 hk
  have h2 := Int.natAbs_mul x (f ^ k)
  have h3 := Nat.mul_le_mul (show x.natAbs ≤ 999999999 by omega) (show (f ^ k).natAbs ≤ 262144 by omega)
  omega
theorem turn_term (k : Nat) (x : Int) : ((turnG k).mul ⟨x, 0⟩).nrm = x.natAbs := by
  have h := turn_nrm k
  have : turnG k = ⟨1, 0⟩ ∨ turnG k = ⟨0, 1⟩ ∨ turnG k = ⟨-1, 0⟩ ∨ turnG k = ⟨0, -1⟩ := by
    unfold turnG
    split
    · exact .inl rfl
    · split
      · exact .inr (.inl rfl)
      · split
        · exact .inr (.inr (.inl rfl))
        · exact .inr (.inr (.inr rfl))
  rcases this with e | e | e | e <;> rw [e] <;> simp [G.mul, G.nrm]
theorem vsum_in {f : Int} (h1 : 1 ≤ f) (h8 : f ≤ 8) {c : Nat → Int} (hc : ∀ k, -999999999 ≤ c k ∧ c k ≤ 999999999) : ∀ k, k ≤ 6 → (vsum f c k).nrm ≤ k * 300000000000000 := by
  intro k
  induction k with
  | zero => intro _; simp [vsum, G.nrm, G.zero]
  | succ k ih =>
    intro hk
    have a := ih (by omega)
    have b := G.nrm_add (vsum f c k) ((turnG k).mul ⟨c k * f ^ k, 0⟩)
    rw [turn_term] at b
    have := term_in h1 h8 (k := k) (by omega) (hc k)
    rw [vsum]; omega
end Go.Proofs.YtnndaipnfniciaaGreatDoor

namespace Go.Proofs.YtnndaipnfniciaaGreatDoor
open Go.RowKit Go.Shelf
set_option maxRecDepth 100000
/-- The variable turns lies where it was laid. -/
structure Tur (w : World) : Prop where
  lt : 1 < w.heap.size
  c : ∀ i v, (#[.int .i64 1, .int .i64 0, .int .i64 0, .int .i64 1, .int .i64 (-1), .int .i64 0, .int .i64 0, .int .i64 (-1)] : Array Value)[i]? = some v → w.cell? ⟨1, i, none⟩ = some v
theorem Tur.carry {w w' : World} (h : Tur w) (hb : Below w.heap.size w w') : Tur w' :=
  ⟨Nat.lt_of_lt_of_le h.lt hb.size, fun i v hv => (hb.cell (p := ⟨1, i, none⟩) h.lt).trans (h.c i v hv)⟩
theorem times_g (a b T : G) (w : World) (hT : a.mul b = T) (hin : T.nrm ≤ 9223372036854775807) :
    Calls Tryz.prog 85 #[.agg #[.int .i64 a.re, .int .i64 a.im], .agg #[.int .i64 b.re, .int .i64 b.im]] w fun e w' => e = .returned (.agg #[.int .i64 T.re, .int .i64 T.im]) ∧ Below w.heap.size w w' := by
  have := times_any a b w
  rwa [hT, G.w_in hin] at this
theorem plus_g (a b T : G) (w : World) (hT : a.add b = T) (hin : T.nrm ≤ 9223372036854775807) :
    Calls Tryz.prog 90 #[.agg #[.int .i64 a.re, .int .i64 a.im], .agg #[.int .i64 b.re, .int .i64 b.im]] w fun e w' => e = .returned (.agg #[.int .i64 T.re, .int .i64 T.im]) ∧ Below w.heap.size w w' := by
  have := plus_any a b w
  rwa [hT, G.w_in hin] at this
theorem pol_ok2 {p : List Int} (h : polErr p = 0) : p.length ≤ 6 ∧ ∀ x ∈ p, -999999999 ≤ x ∧ x ≤ 999999999 := by
  unfold polErr at h
  split at h
  · rename_i h0
    unfold polE at h0
    rw [fnz_zero] at h0 h
    simp only [List.mem_cons, List.not_mem_nil, or_false, forall_eq_or_imp, forall_eq] at h0
    refine ⟨?_, fun x hx => ?_⟩
    · have := h0.1
      split at this <;> omega
    · exact rng_zero.1 (h _ (List.mem_map_of_mem hx))
  · omega
theorem co_bd {p : List Int} (h : ∀ x ∈ p, -999999999 ≤ x ∧ x ≤ 999999999) (k : Nat) : -999999999 ≤ co p k ∧ co p k ≤ 999999999 := by
  unfold co
  cases hk : p[k]? with
  | none => simp
  | some x => exact h x (List.mem_of_getElem? hk)
/-- The error of Value. -/
def valErr (p : List Int) (f : Int) : Int := fnz [polErr p, rng f 1 8]
set_option maxHeartbeats 1000000 in
theorem Value_bad (p : List Int) (f : Int) (A : Option Addr) (m c : Nat) (w : World) (he : ¬ valErr p f = 0) (hm : m ≤ 1000000000000) (hR : Reads w w.heap.size 1 A m (ints p)) :
    Calls Tryz.prog 16 #[.slice A m c, .int .i64 f] w fun e w' => e = .returned (.tuple #[.agg #[.int .i64 0, .int .i64 0], .int .i64 (valErr p f)]) ∧ Below w.heap.size w w' := by
  have t1 : (fnz [polErr p, rng f 1 8] != 0) = true := by unfold valErr at he; simpa using he
  clear he
  go_enter Tryz.func16, Tryz.ntmps16
  go_wp2_with fail
  obtain ⟨w1, e1, hb1, hz1, k0⟩ := box1 w #[.int .i64 0, .int .i64 0] 23
  rw [← e1]; clear e1
  refine (checkPolynomial_any p A m c _ hm (carry hR hb1)).mono ?_
  rintro e w2 ⟨rfl, hb2⟩
  have hbw2 := below_next hb1 hb2
  have k2 := carryK k0 hb2
  go_upto_region 2 with (first | (go_at_call 89; refine (checkW_any _ _).mono ?_; rintro e W' ⟨rfl, rfl⟩) | (go_at_call 82; (first | (with_reducible (refine (first_any _ _ _ _ _ _ (reads2 _ _ _ _) (by omega)).mono ?_)) | (with_reducible (refine (first_any _ _ _ _ _ _ (Reads.drew (reads2 _ _ _ _)) (by omega)).mono ?_))); rintro e W' ⟨rfl, rfl⟩))
  obtain ⟨w3, e3, hb3, hz3, k3⟩ := box1 w2 #[.int .i64 (polErr p), .int .i64 (rng f 1 8)] 29
  rw [← e3]; clear e3
  have hbw3 := below_next hbw2 hb3
  have k3' := carryK k2 hb3
  have c5 := k3'.cell
  have f5 := k3'.frozen
  go_wp2_with fail
  have kX := blk2 (u0 := .int .i64 0) (u1 := .int .i64 0) k3'
  have hX := below2 (u0 := .int .i64 0) (u1 := .int .i64 0) hbw3 (Nat.le_refl w.heap.size)
  have cX := kX.cell
  clear c5 f5
  refine bodyPost_ret (v := .tuple #[.agg #[.int .i64 0, .int .i64 0], .int .i64 (fnz [polErr p, rng f 1 8])]) (by simp [results, Tryz.results16, go_sem, cX]) rfl ?_
  exact ⟨rfl, hX⟩
set_option maxHeartbeats 4000000 in
theorem Value_ok (p : List Int) (f : Int) (A : Option Addr) (m c : Nat) (w : World) (hC : Con w) (hTu : Tur w) (he : valErr p f = 0) (hm : m ≤ 1000000000000) (hR : Reads w w.heap.size 1 A m (ints p)) :
    Calls Tryz.prog 16 #[.slice A m c, .int .i64 f] w fun e w' => e = .returned (.tuple #[.agg #[.int .i64 (ev (iw f) p).re, .int .i64 (ev (iw f) p).im], .int .i64 0]) ∧ Below w.heap.size w w' := by
  have t1 : (fnz [polErr p, rng f 1 8] != 0) = false := by rw [show fnz [polErr p, rng f 1 8] = 0 from he]; rfl
  unfold valErr at he
  rw [fnz_zero] at he
  simp only [List.mem_cons, List.not_mem_nil, or_false, forall_eq_or_imp, forall_eq] at he
  obtain ⟨hp0, hf⟩ := he
  obtain ⟨f1, f8⟩ := rng_zero.1 hf
  obtain ⟨hl6, hpx⟩ := pol_ok2 hp0
  have hcb := co_bd hpx
  have hm6 : m ≤ 6 := by rw [← reads_len hR]; exact hl6
  have HLN := hide (reads_len hR)
  have HCB := hide hcb
  have hev := vsum_ev f p
  rw [HLN.out] at hev
  have HEV := hide hev
  clear hp0 hf hl6 hpx hcb hev
  go_enter Tryz.func16, Tryz.ntmps16
  go_wp2_with fail
  obtain ⟨w1, e1, hb1, hz1, k0⟩ := box1 w #[.int .i64 0, .int .i64 0] 23
  rw [← e1]; clear e1
  refine (checkPolynomial_any p A m c _ hm (carry hR hb1)).mono ?_
  rintro e w2 ⟨rfl, hb2⟩
  have hbw2 := below_next hb1 hb2
  have k2 := carryK k0 hb2
  go_upto_region 2 with (first | (go_at_call 89; refine (checkW_any _ _).mono ?_; rintro e W' ⟨rfl, rfl⟩) | (go_at_call 82; (first | (with_reducible (refine (first_any _ _ _ _ _ _ (reads2 _ _ _ _) (by omega)).mono ?_)) | (with_reducible (refine (first_any _ _ _ _ _ _ (Reads.drew (reads2 _ _ _ _)) (by omega)).mono ?_))); rintro e W' ⟨rfl, rfl⟩))
  obtain ⟨w3, e3, hb3, hz3, k3⟩ := box1 w2 #[.int .i64 (polErr p), .int .i64 (rng f 1 8)] 29
  rw [← e3]; clear e3
  have hbw3 := below_next hbw2 hb3
  have k3' := carryK k2 hb3
  obtain ⟨_, n0, n1, _, _, _⟩ := hC.carry hbw3
  go_upto_region 5 with (fail)
  obtain ⟨w4, e4, hb4, hz4, k4⟩ := box1 w3 #[.int .i64 0, .int .i64 0] 23
  rw [← e4]; clear e4
  clear n0 n1
  obtain ⟨g7, e7'⟩ : ∃ g, w3.heap.size = g := ⟨_, rfl⟩
  have k4 : Blk w4 g7 23 #[.int .i64 0, .int .i64 0] := e7' ▸ k4
  have hg1 : w.heap.size + 1 ≤ g7 := by have := hbw2.size; have := hb3.size; have := hb2.size; omega
  have kR4 := carryK k3' hb4
  have hbw4 := below_next hbw3 hb4
  rw [e7']; clear e7'
  go_wp2_with fail
  go_loopw [8, 24] (fun v i wr => ∃ k : Nat, k ≤ m ∧ i = .int .i64 k ∧ v = .int .i64 (f ^ k) ∧ Blk wr g7 23 #[.int .i64 (vsum f (co p) k).re, .int .i64 (vsum f (co p) k).im] ∧ Blk wr w.heap.size 23 #[.int .i64 0, .int .i64 0] ∧ Below w.heap.size w wr) (fun _ i _ => m - (intOf i).toNat)
  case atStart => exact ⟨0, by omega, rfl, by simp, k4, kR4, hbw4⟩
  case round =>
    rename World => wo
    obtain ⟨k, hk, rfl, rfl, kS, kR, hbo⟩ := hrel
    clear k4 kR4 hbw4
    by_cases hlt : k < m
    · obtain ⟨ad, y, rfl, _, hy, hcy⟩ := reads_at (carry hR hbo) hlt
      have hco := co_get hy
      have hyb := HCB.out k
      rw [hco] at hyb
      have htb := term_in f1 f8 (k := k) (by omega) hyb
      have hpk := pow_in f1 f8 (k := k) (by omega)
      have hpk2 := pow_in f1 f8 (k := k + 1) (by omega)
      have hvs := vsum_in f1 f8 HCB.out (k + 1) (by omega)
      obtain ⟨z, hz⟩ : ∃ z, f ^ k = z := ⟨_, rfl⟩
      obtain ⟨z', hz'⟩ : ∃ z, f ^ (k + 1) = z := ⟨_, rfl⟩
      obtain ⟨X, hX⟩ : ∃ X, y * z = X := ⟨_, rfl⟩
      obtain ⟨T, hTD⟩ : ∃ T, (turnG k).mul ⟨X, 0⟩ = T := ⟨_, rfl⟩
      obtain ⟨S, hS⟩ : ∃ S, vsum f (co p) k = S := ⟨_, rfl⟩
      obtain ⟨U, hU⟩ : ∃ U, vsum f (co p) (k + 1) = U := ⟨_, rfl⟩
      have hstep : S.add T = U := by rw [← hU, ← hS, ← hTD, ← hX, ← hz, ← hco]; rfl
      have hTn : T.nrm ≤ 9223372036854775807 := by rw [← hTD, turn_term, ← hX, ← hz]; omega
      have hUn : U.nrm ≤ 9223372036854775807 := by rw [← hU]; omega
      have hxw : IntKind.i64.wrap (y * z) = X := by rw [hX]; exact IntWalk.i64_in _ (by rw [← hX, ← hz]; omega)
      have hpw : wrap64 (z * f) = z' := by
        rw [← hz, ← hz', ← Int.pow_succ]
        generalize f ^ (k + 1) = r at hpk2 ⊢
        unfold wrap64; omega
      rw [hS] at kS
      rw [hz] at hpk ⊢
      have HTI := hide hTn
      have HUI := hide hUn
      have HU := hide hstep
      have HUD := hide hU
      have HPW := hide hz'
      have c0 := over_blk kS kS.lt
      have htt := hTu.carry hbo
      have tb := fun i (v : Value) (h : (#[.int .i64 1, .int .i64 0, .int .i64 0, .int .i64 1, .int .i64 (-1), .int .i64 0, .int .i64 0, .int .i64 (-1)] : Array Value)[i]? = some v) (x : World) => (over_cell (w := wo) (i := i) x htt.lt).trans (htt.c i v h)
      have cT0 := tb 0 _ rfl
      have cT1 := tb 1 _ rfl
      have cT2 := tb 2 _ rfl
      have cT3 := tb 3 _ rfl
      have cT4 := tb 4 _ rfl
      have cT5 := tb 5 _ rfl
      have cT6 := tb 6 _ rfl
      have cT7 := tb 7 _ rfl
      clear hy hco hyb htb hpk hpk2 hvs hz hz' hX hS hU hstep hTn hUn tb htt
      have h4 : k % 4 = 0 ∨ k % 4 = 1 ∨ k % 4 = 2 ∨ k % 4 = 3 := by omega
      rcases h4 with h4 | h4 | h4 | h4
      · have H4 := h4
        have hq : (k : Int) % 4 = 0 := by omega
        have hT := show (⟨1, 0⟩ : G).mul ⟨X, 0⟩ = T by rw [← hTD, show turnG k = ⟨1, 0⟩ by unfold turnG; simp [show k % 4 = 0 by omega]]
        have HT := hide hT
        clear hT hTD
        go_upto_region 8 with (fail)
        refine wp_region_part 11 wo.heap.size (by kernel_rfl) (by kernel_rfl) ?_; simp only [List.take_succ_cons, List.take_zero, List.drop_succ_cons, List.drop_zero]; (repeat (first | go_big_quiet_step (first | (go_at_call 85; with_reducible exact over_call (Nat.le_refl _) (times_g ⟨1, 0⟩ ⟨X, 0⟩ T _ HT.out HTI.out)) | (go_at_call 90; with_reducible exact over_call (Nat.le_refl _) (plus_g S T U _ HU.out HUI.out))) | quiet_step (first | (go_at_call 85; with_reducible exact over_call (Nat.le_refl _) (times_g ⟨1, 0⟩ ⟨X, 0⟩ T _ HT.out HTI.out)) | (go_at_call 90; with_reducible exact over_call (Nat.le_refl _) (plus_g S T U _ HU.out HUI.out))))); refine wpQuiet_nil ?_; rintro W ⟨x, rfl⟩
        have hbY := over_below wo.heap.size wo x
        generalize over wo.heap.size wo x = Y at hbY ⊢
        have kY := carryK kS hbY
        have kRY := carryK kR hbY
        clear c0 cT0 cT1 cT2 cT3 cT4 cT5 cT6 cT7 hxw
        have c0 := kY.cell
        have f0 := kY.frozen
        go_wp2_with fail
        have kZ := blk2 (u0 := .int .i64 U.re) (u1 := .int .i64 U.im) kY
        have kRZ := far2 (u0 := .int .i64 U.re) (u1 := .int .i64 U.im) kRY (show w.heap.size ≠ g7 by omega)
        have hZ := below2 (u0 := .int .i64 U.re) (u1 := .int .i64 U.im) (below_next hbo hbY) (show w.heap.size ≤ g7 by omega)
        go_roundw
        case rel => exact ⟨k + 1, by omega, by go_num, by rw [HPW.out, hpw], by rw [HUD.out]; exact kZ, kRZ, hZ⟩
        case measure => simp [intOf]; omega
      · have H4 := h4
        have hq : (k : Int) % 4 = 1 := by omega
        have hT := show (⟨0, 1⟩ : G).mul ⟨X, 0⟩ = T by rw [← hTD, show turnG k = ⟨0, 1⟩ by unfold turnG; simp [show k % 4 = 1 by omega]]
        have HT := hide hT
        clear hT hTD
        go_upto_region 8 with (fail)
        refine wp_region_part 11 wo.heap.size (by kernel_rfl) (by kernel_rfl) ?_; simp only [List.take_succ_cons, List.take_zero, List.drop_succ_cons, List.drop_zero]; (repeat (first | go_big_quiet_step (first | (go_at_call 85; with_reducible exact over_call (Nat.le_refl _) (times_g ⟨0, 1⟩ ⟨X, 0⟩ T _ HT.out HTI.out)) | (go_at_call 90; with_reducible exact over_call (Nat.le_refl _) (plus_g S T U _ HU.out HUI.out))) | quiet_step (first | (go_at_call 85; with_reducible exact over_call (Nat.le_refl _) (times_g ⟨0, 1⟩ ⟨X, 0⟩ T _ HT.out HTI.out)) | (go_at_call 90; with_reducible exact over_call (Nat.le_refl _) (plus_g S T U _ HU.out HUI.out))))); refine wpQuiet_nil ?_; rintro W ⟨x, rfl⟩
        have hbY := over_below wo.heap.size wo x
        generalize over wo.heap.size wo x = Y at hbY ⊢
        have kY := carryK kS hbY
        have kRY := carryK kR hbY
        clear c0 cT0 cT1 cT2 cT3 cT4 cT5 cT6 cT7 hxw
        have c0 := kY.cell
        have f0 := kY.frozen
        go_wp2_with fail
        have kZ := blk2 (u0 := .int .i64 U.re) (u1 := .int .i64 U.im) kY
        have kRZ := far2 (u0 := .int .i64 U.re) (u1 := .int .i64 U.im) kRY (show w.heap.size ≠ g7 by omega)
        have hZ := below2 (u0 := .int .i64 U.re) (u1 := .int .i64 U.im) (below_next hbo hbY) (show w.heap.size ≤ g7 by omega)
        go_roundw
        case rel => exact ⟨k + 1, by omega, by go_num, by rw [HPW.out, hpw], by rw [HUD.out]; exact kZ, kRZ, hZ⟩
        case measure => simp [intOf]; omega
      · have H4 := h4
        have hq : (k : Int) % 4 = 2 := by omega
        have hT := show (⟨-1, 0⟩ : G).mul ⟨X, 0⟩ = T by rw [← hTD, show turnG k = ⟨-1, 0⟩ by unfold turnG; simp [show k % 4 = 2 by omega]]
        have HT := hide hT
        clear hT hTD
        go_upto_region 8 with (fail)
        refine wp_region_part 11 wo.heap.size (by kernel_rfl) (by kernel_rfl) ?_; simp only [List.take_succ_cons, List.take_zero, List.drop_succ_cons, List.drop_zero]; (repeat (first | go_big_quiet_step (first | (go_at_call 85; with_reducible exact over_call (Nat.le_refl _) (times_g ⟨-1, 0⟩ ⟨X, 0⟩ T _ HT.out HTI.out)) | (go_at_call 90; with_reducible exact over_call (Nat.le_refl _) (plus_g S T U _ HU.out HUI.out))) | quiet_step (first | (go_at_call 85; with_reducible exact over_call (Nat.le_refl _) (times_g ⟨-1, 0⟩ ⟨X, 0⟩ T _ HT.out HTI.out)) | (go_at_call 90; with_reducible exact over_call (Nat.le_refl _) (plus_g S T U _ HU.out HUI.out))))); refine wpQuiet_nil ?_; rintro W ⟨x, rfl⟩
        have hbY := over_below wo.heap.size wo x
        generalize over wo.heap.size wo x = Y at hbY ⊢
        have kY := carryK kS hbY
        have kRY := carryK kR hbY
        clear c0 cT0 cT1 cT2 cT3 cT4 cT5 cT6 cT7 hxw
        have c0 := kY.cell
        have f0 := kY.frozen
        go_wp2_with fail
        have kZ := blk2 (u0 := .int .i64 U.re) (u1 := .int .i64 U.im) kY
        have kRZ := far2 (u0 := .int .i64 U.re) (u1 := .int .i64 U.im) kRY (show w.heap.size ≠ g7 by omega)
        have hZ := below2 (u0 := .int .i64 U.re) (u1 := .int .i64 U.im) (below_next hbo hbY) (show w.heap.size ≤ g7 by omega)
        go_roundw
        case rel => exact ⟨k + 1, by omega, by go_num, by rw [HPW.out, hpw], by rw [HUD.out]; exact kZ, kRZ, hZ⟩
        case measure => simp [intOf]; omega
      · have H4 := h4
        have hq : (k : Int) % 4 = 3 := by omega
        have hT := show (⟨0, -1⟩ : G).mul ⟨X, 0⟩ = T by rw [← hTD, show turnG k = ⟨0, -1⟩ by unfold turnG; simp [show k % 4 = 3 by omega]]
        have HT := hide hT
        clear hT hTD
        go_upto_region 8 with (fail)
        refine wp_region_part 11 wo.heap.size (by kernel_rfl) (by kernel_rfl) ?_; simp only [List.take_succ_cons, List.take_zero, List.drop_succ_cons, List.drop_zero]; (repeat (first | go_big_quiet_step (first | (go_at_call 85; with_reducible exact over_call (Nat.le_refl _) (times_g ⟨0, -1⟩ ⟨X, 0⟩ T _ HT.out HTI.out)) | (go_at_call 90; with_reducible exact over_call (Nat.le_refl _) (plus_g S T U _ HU.out HUI.out))) | quiet_step (first | (go_at_call 85; with_reducible exact over_call (Nat.le_refl _) (times_g ⟨0, -1⟩ ⟨X, 0⟩ T _ HT.out HTI.out)) | (go_at_call 90; with_reducible exact over_call (Nat.le_refl _) (plus_g S T U _ HU.out HUI.out))))); refine wpQuiet_nil ?_; rintro W ⟨x, rfl⟩
        have hbY := over_below wo.heap.size wo x
        generalize over wo.heap.size wo x = Y at hbY ⊢
        have kY := carryK kS hbY
        have kRY := carryK kR hbY
        clear c0 cT0 cT1 cT2 cT3 cT4 cT5 cT6 cT7 hxw
        have c0 := kY.cell
        have f0 := kY.frozen
        go_wp2_with fail
        have kZ := blk2 (u0 := .int .i64 U.re) (u1 := .int .i64 U.im) kY
        have kRZ := far2 (u0 := .int .i64 U.re) (u1 := .int .i64 U.im) kRY (show w.heap.size ≠ g7 by omega)
        have hZ := below2 (u0 := .int .i64 U.re) (u1 := .int .i64 U.im) (below_next hbo hbY) (show w.heap.size ≤ g7 by omega)
        go_roundw
        case rel => exact ⟨k + 1, by omega, by go_num, by rw [HPW.out, hpw], by rw [HUD.out]; exact kZ, kRZ, hZ⟩
        case measure => simp [intOf]; omega
    · obtain rfl : k = m := by omega
      have c0 := kS.cell
      have c5 := kR.cell
      have f5 := kR.frozen
      have kX := blk2 (u0 := .int .i64 (vsum f (co p) k).re) (u1 := .int .i64 (vsum f (co p) k).im) kR
      have hX := below2 (u0 := .int .i64 (vsum f (co p) k).re) (u1 := .int .i64 (vsum f (co p) k).im) hbo (Nat.le_refl w.heap.size)
      go_wp2_with fail
      have cX := kX.cell
      clear c0 c5 f5
      refine bodyPost_ret (v := .tuple #[.agg #[.int .i64 (vsum f (co p) k).re, .int .i64 (vsum f (co p) k).im], .int .i64 0]) (by simp [results, Tryz.results16, go_sem, cX]) rfl ?_
      exact ⟨by rw [HEV.out], hX⟩
end Go.Proofs.YtnndaipnfniciaaGreatDoor
