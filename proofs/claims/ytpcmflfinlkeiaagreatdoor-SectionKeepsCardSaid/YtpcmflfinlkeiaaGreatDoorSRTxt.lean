/- The reference's Text. -/
import Derived.Test.YtpcmflfinlkeiaaGreatDoorSRStr
import Derived.Test.YtpcmflfinlkeiaaGreatDoorBaseA
import Derived.Laws.Runes
namespace Go.Proofs.YtpcmflfinlkeiaaGreatDoor
open Go.RowKit Go.Shelf
set_option maxRecDepth 100000
/-- The digits, none for nothing. -/
def dd (m : Nat) : List UInt8 := if m = 0 then [] else Lib.decDigits m
theorem dd_step {m : Nat} (h : 0 < m) : dd m = dd (m / 10) ++ [UInt8.ofNat (48 + m % 10)] := by
  unfold dd
  rw [if_neg (by omega)]
  by_cases h10 : m < 10
  · rw [Lib.decDigits_one h10, if_pos (by omega), Nat.mod_eq_of_lt h10]; rfl
  · rw [if_neg (by omega)]
    conv => lhs; rw [Lib.decDigits, dif_neg h10]
theorem dd_first (n : Nat) : Lib.decDigits n = dd (n / 10) ++ [UInt8.ofNat (48 + n % 10)] := by
  by_cases h : n = 0
  · subst h; rw [Lib.decDigits_one (by decide)]; rfl
  · have := dd_step (m := n) (by omega)
    unfold dd at this ⊢
    rw [if_neg h] at this
    exact this
theorem dd_zero : dd 0 = [] := rfl
theorem rune_any {d : Nat} (h : d < 10) : Utf8.encode ((48 : Int) + (d : Int)) = ⟨#[UInt8.ofNat (48 + d)]⟩ := by
  have : d = 0 ∨ d = 1 ∨ d = 2 ∨ d = 3 ∨ d = 4 ∨ d = 5 ∨ d = 6 ∨ d = 7 ∨ d = 8 ∨ d = 9 := by omega
  rcases this with rfl | rfl | rfl | rfl | rfl | rfl | rfl | rfl | rfl | rfl <;> rfl
/-- The last digit's text. -/
def dg (m : Nat) : ByteArray := ⟨#[UInt8.ofNat (48 + m % 10)]⟩
theorem dg_size (m : Nat) : (dg m).size = 1 := rfl
theorem dg_data (m : Nat) : (dg m).data.toList = [UInt8.ofNat (48 + m % 10)] := rfl
theorem rune_one (m : Nat) : Utf8.encode ((48 : Int) + (m : Int) % 10) = dg m := by
  unfold dg
  have := rune_any (d := m % 10) (by omega)
  rwa [show (((m % 10 : Nat) : Nat) : Int) = (m : Int) % 10 by omega] at this
theorem itoaB_nat (n : Nat) : (itoaB (n : Int)).data.toList = Lib.decDigits n := by
  show (Lib.itoa (n : Int)).toArray.toList = _
  rw [List.toList_toArray]
  unfold Lib.itoa
  rw [if_neg (by omega), Int.toNat_natCast]
theorem itoaB_size {n : Int} (h : -9223372036854775808 ≤ n ∧ n ≤ 9223372036854775807) : (itoaB n).size ≤ 21 := by
  have := Lib.itoa_length_le n h.1 h.2
  show (Lib.itoa n).toArray.size ≤ 21
  simpa using this
theorem bytes_ext {a b : ByteArray} (h : a.data.toList = b.data.toList) : a = b := by
  apply ByteArray.ext
  exact Array.toList_inj.1 h
theorem tmod10 (m : Nat) : ((m : Int).tmod 10) = ((m % 10 : Nat) : Int) := rfl
theorem tdiv10 (m : Nat) : ((m : Int).tdiv 10) = ((m / 10 : Nat) : Int) := rfl
set_option maxHeartbeats 2000000 in
theorem qText_nn (n : Nat) (w : World) (hn : n ≤ 9223372036854775807) :
    Calls Tryz.prog 51 #[.int .i64 (n : Int)] w fun e w' => e = .returned (.string (itoaB n)) ∧ w' = w := by
  have hlen := itoaB_size (n := (n : Int)) ⟨by omega, by omega⟩
  have HL := hide (show (Lib.decDigits n).length ≤ 21 by rw [← itoaB_nat, ← bsizeL]; exact hlen)
  have HS := hide (dd_first n)
  have t0 : decide ((n : Int) < 0) = false := decide_eq_false (by omega)
  have nq := tdiv10 n
  have nr := tmod10 n
  have nd : n % 10 < 10 := Nat.mod_lt _ (by decide)
  have nw : wrap64 (48 + ((n % 10 : Nat) : Int)) = 48 + ((n % 10 : Nat) : Int) := by unfold wrap64; omega
  have nv : IntKind.i32.wrap (48 + ((n % 10 : Nat) : Int)) = 48 + ((n % 10 : Nat) : Int) := by
    have : n % 10 = 0 ∨ n % 10 = 1 ∨ n % 10 = 2 ∨ n % 10 = 3 ∨ n % 10 = 4 ∨ n % 10 = 5 ∨ n % 10 = 6 ∨ n % 10 = 7 ∨ n % 10 = 8 ∨ n % 10 = 9 := by omega
    rcases this with e | e | e | e | e | e | e | e | e | e <;> rw [e] <;> rfl
  have ne := rune_one n
  clear hlen
  go_enter Tryz.func51, Tryz.ntmps51
  go_wp2_with fail
  go_loopw [0, 3] (fun i v wr => ∃ (m : Nat) (T : ByteArray), m ≤ n ∧ i = .int .i64 m ∧ v = .string T ∧ Lib.decDigits n = dd m ++ T.data.toList ∧ wr = w) (fun i _ _ => (intOf i).toNat)
  case atStart => exact ⟨n / 10, dg n, by omega, by go_num, rfl, HS.out, rfl⟩
  case round =>
    clear nq nr nd nw nv ne t0
    obtain ⟨m, T, hm, rfl, rfl, hd, rfl⟩ := hrel
    by_cases h0 : 0 < m
    · have hT : T.size ≤ 21 := by rw [bsizeL]; have := HL.out; rw [hd, List.length_append] at this; omega
      have hst := dd_step h0
      rw [hst, List.append_assoc] at hd
      have HD := hide hd
      have t0 : decide (0 < (m : Int)) = true := decide_eq_true (by omega)
      have mq := tdiv10 m
      have mr := tmod10 m
      have md : m % 10 < 10 := Nat.mod_lt _ (by decide)
      have mw : wrap64 (48 + ((m % 10 : Nat) : Int)) = 48 + ((m % 10 : Nat) : Int) := by unfold wrap64; omega
      have mv : IntKind.i32.wrap (48 + ((m % 10 : Nat) : Int)) = 48 + ((m % 10 : Nat) : Int) := by
        have : m % 10 = 0 ∨ m % 10 = 1 ∨ m % 10 = 2 ∨ m % 10 = 3 ∨ m % 10 = 4 ∨ m % 10 = 5 ∨ m % 10 = 6 ∨ m % 10 = 7 ∨ m % 10 = 8 ∨ m % 10 = 9 := by omega
        rcases this with e | e | e | e | e | e | e | e | e | e <;> rw [e] <;> rfl
      have me := rune_one m
      clear hd hst
      have b1 : (dg m).size + T.size ≤ 9223372036854775807 := by rw [dg_size]; omega
      go_wp2_with fail
      go_roundw
      case rel =>
        exact ⟨m / 10, dg m ++ T, by omega, by go_num, rfl, by rw [HD.out]; simp [dg], trivial⟩
      case measure => simp [intOf]; omega
    · obtain rfl : m = 0 := by omega
      have hT : T = itoaB n := bytes_ext (by rw [itoaB_nat, hd]; rfl)
      subst hT
      clear hd
      go_wp2_with fail
      go_ret
      exact ⟨rfl, rfl⟩
set_option maxHeartbeats 2000000 in
theorem qText_in (n : Int) (w : World) (h0 : -1000000000 ≤ n) (h1 : n ≤ 1000000000) :
    Calls Tryz.prog 51 #[.int .i64 n] w fun e w' => e = .returned (.string (itoaB n)) ∧ w = w' := by
  by_cases hn : 0 ≤ n
  · obtain ⟨m, rfl⟩ := Int.eq_ofNat_of_zero_le hn
    exact (qText_nn m w (by omega)).mono fun _ _ ⟨h1, h2⟩ => ⟨h1, h2.symm⟩
  · obtain ⟨m, hm⟩ : ∃ m : Nat, n = -(m : Int) := ⟨n.natAbs, by omega⟩
    have hm0 : 0 < m := by omega
    have ht : (⟨#[45]⟩ ++ itoaB (m : Int) : ByteArray) = itoaB n := by
      apply bytes_ext
      rw [ByteArray.data_append, Array.toList_append, itoaB_nat, hm]
      show _ = (Lib.itoa _).toArray.toList
      rw [List.toList_toArray, Lib.itoa_neg m hm0]; rfl
    have HT := hide ht
    have hsz := itoaB_size (n := (m : Int)) ⟨by omega, by omega⟩
    have t0 : decide (n < 0) = true := decide_eq_true (by omega)
    have e1 : -n = (m : Int) := by omega
    have e2 : wrap64 (0 - n) = (m : Int) := by unfold wrap64; omega
    have e3 : wrap64 (-n) = (m : Int) := by unfold wrap64; omega
    have b1 : 1 + (itoaB (m : Int)).size ≤ 9223372036854775807 := by omega
    have hmx : m ≤ 9223372036854775807 := by omega
    clear hm ht hsz hn h0 h1
    go_enter Tryz.func51, Tryz.ntmps51
    go_wp2_with fail
    refine (qText_nn m _ hmx).mono ?_
    rintro e W1 ⟨rfl, rfl⟩
    go_wp2_with fail
    go_ret
    exact ⟨by rw [HT.out]; rfl, rfl⟩
theorem itoaB_data (n : Int) : (itoaB n).data.toList = Lib.itoa n := by
  show (Lib.itoa n).toArray.toList = _
  rw [List.toList_toArray]
end Go.Proofs.YtpcmflfinlkeiaaGreatDoor
