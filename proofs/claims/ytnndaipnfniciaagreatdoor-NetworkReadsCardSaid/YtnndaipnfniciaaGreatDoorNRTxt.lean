/- The reference's Text and Print. -/
import Derived.Test.YtnndaipnfniciaaGreatDoorNInt
import Derived.Test.YtnndaipnfniciaaGreatDoorBaseF
import Derived.Test.YtnndaipnfniciaaGreatDoorNRStr
import Derived.Laws.Runes
namespace Go.Proofs.YtnndaipnfniciaaGreatDoor
open Go.RowKit Go.Shelf
set_option maxRecDepth 100000
/-- The digits, none for nothing. -/
def dd (m : Nat) : List UInt8 := if m = 0 then [] else Lib.decDigits m
theorem dd_step {m : Nat} (h : 0 < m) : dd m = dd (m / 10) ++ [UInt8.ofNat (48 + m % 10)] := by
  unfold dd
  rw [if_neg (by omega)]
  by_cases h10 : m < 10
  · rw [Lib.decDigits_one h10, if_pos (by omega), Nat.mod_eq_of_lt h10]; rfl
  · rw [if_neg (by omega)]
    conv => lhs; rw [Lib.decDigits, dif_neg h10]
theorem dd_first (n : Nat) : Lib.decDigits n = dd (n / 10) ++ [UInt8.ofNat (48 + n % 10)] := by
  by_cases h : n = 0
  · subst h; rw [Lib.decDigits_one (by decide)]; rfl
  · have := dd_step (m := n) (by omega)
    unfold dd at this ⊢
    rw [if_neg h] at this
    exact this
theorem dd_zero : dd 0 = [] := rfl
theorem rune_any {d : Nat} (h : d < 10) : Utf8.encode ((48 : Int) + (d : Int)) = ⟨#[UInt8.ofNat (48 + d)]⟩ := by
  have : d = 0 ∨ d = 1 ∨ d = 2 ∨ d = 3 ∨ d = 4 ∨ d = 5 ∨ d = 6 ∨ d = 7 ∨ d = 8 ∨ d = 9 := by omega
  rcases this with rfl | rfl | rfl | rfl | rfl | rfl | rfl | rfl | rfl | rfl <;> rfl
/-- The last digit's text. -/
def dg (m : Nat) : ByteArray := ⟨#[UInt8.ofNat (48 + m % 10)]⟩
theorem dg_size (m : Nat) : (dg m).size = 1 := rfl
theorem dg_data (m : Nat) : (dg m).data.toList = [UInt8.ofNat (48 + m % 10)] := rfl
theorem rune_one (m : Nat) : Utf8.encode ((48 : Int) + (m : Int) % 10) = dg m := by
  unfold dg
  have := rune_any (d := m % 10) (by omega)
  rwa [show (((m % 10 : Nat) : Nat) : Int) = (m : Int) % 10 by omega] at this
theorem itoaB_nat (n : Nat) : (itoaB (n : Int)).data.toList = Lib.decDigits n := by
  show (Lib.itoa (n : Int)).toArray.toList = _
  rw [List.toList_toArray]
  unfold Lib.itoa
  rw [if_neg (by omega), Int.toNat_natCast]
theorem bytes_ext {a b : ByteArray} (h : a.data.toList = b.data.toList) : a = b := by
  apply ByteArray.ext
  exact Array.toList_inj.1 h
theorem tmod10 (m : Nat) : ((m : Int).tmod 10) = ((m % 10 : Nat) : Int) := rfl
theorem tdiv10 (m : Nat) : ((m : Int).tdiv 10) = ((m / 10 : Nat) : Int) := rfl
set_option maxHeartbeats 2000000 in
theorem qText_nn (n : Nat) (w : World) (hn : n ≤ 9223372036854775807) :
    Calls Tryz.prog 137 #[.int .i64 (n : Int)] w fun e w' => e = .returned (.string (itoaB n)) ∧ w' = w := by
  have hlen := itoaB_size (n := (n : Int)) ⟨by omega, by omega⟩
  have HL := hide (show (Lib.decDigits n).length ≤ 21 by rw [← itoaB_nat, ← bsizeL]; exact hlen)
  have HS := hide (dd_first n)
  have t0 : decide ((n : Int) < 0) = false := decide_eq_false (by omega)
  have nq := tdiv10 n
  have nr := tmod10 n
  have nd : n % 10 < 10 := Nat.mod_lt _ (by decide)
  have nw : wrap64 (48 + ((n % 10 : Nat) : Int)) = 48 + ((n % 10 : Nat) : Int) := by unfold wrap64; omega
  have nv : IntKind.i32.wrap (48 + ((n % 10 : Nat) : Int)) = 48 + ((n % 10 : Nat) : Int) := by
    have : n % 10 = 0 ∨ n % 10 = 1 ∨ n % 10 = 2 ∨ n % 10 = 3 ∨ n % 10 = 4 ∨ n % 10 = 5 ∨ n % 10 = 6 ∨ n % 10 = 7 ∨ n % 10 = 8 ∨ n % 10 = 9 := by omega
    rcases this with e | e | e | e | e | e | e | e | e | e <;> rw [e] <;> rfl
  have ne := rune_one n
  clear hlen
  go_enter Tryz.func137, Tryz.ntmps137
  go_wp2_with fail
  go_loopw [0, 3] (fun i v wr => ∃ (m : Nat) (T : ByteArray), m ≤ n ∧ i = .int .i64 m ∧ v = .string T ∧ Lib.decDigits n = dd m ++ T.data.toList ∧ wr = w) (fun i _ _ => (intOf i).toNat)
  case atStart => exact ⟨n / 10, dg n, by omega, by go_num, rfl, HS.out, rfl⟩
  case round =>
    clear nq nr nd nw nv ne t0
    obtain ⟨m, T, hm, rfl, rfl, hd, rfl⟩ := hrel
    by_cases h0 : 0 < m
    · have hT : T.size ≤ 21 := by rw [bsizeL]; have := HL.out; rw [hd, List.length_append] at this; omega
      have hst := dd_step h0
      rw [hst, List.append_assoc] at hd
      have HD := hide hd
      have t0 : decide (0 < (m : Int)) = true := decide_eq_true (by omega)
      have mq := tdiv10 m
      have mr := tmod10 m
      have md : m % 10 < 10 := Nat.mod_lt _ (by decide)
      have mw : wrap64 (48 + ((m % 10 : Nat) : Int)) = 48 + ((m % 10 : Nat) : Int) := by unfold wrap64; omega
      have mv : IntKind.i32.wrap (48 + ((m % 10 : Nat) : Int)) = 48 + ((m % 10 : Nat) : Int) := by
        have : m % 10 = 0 ∨ m % 10 = 1 ∨ m % 10 = 2 ∨ m % 10 = 3 ∨ m % 10 = 4 ∨ m % 10 = 5 ∨ m % 10 = 6 ∨ m % 10 = 7 ∨ m % 10 = 8 ∨ m % 10 = 9 := by omega
        rcases this with e | e | e | e | e | e | e | e | e | e <;> rw [e] <;> rfl
      have me := rune_one m
      clear hd hst
      have b1 : (dg m).size + T.size ≤ 9223372036854775807 := by rw [dg_size]; omega
      go_wp2_with fail
      go_roundw
      case rel =>
        exact ⟨m / 10, dg m ++ T, by omega, by go_num, rfl, by rw [HD.out]; simp [dg], trivial⟩
      case measure => simp [intOf]; omega
    · obtain rfl : m = 0 := by omega
      have hT : T = itoaB n := bytes_ext (by rw [itoaB_nat, hd]; rfl)
      subst hT
      clear hd
      go_wp2_with fail
      go_ret
      exact ⟨rfl, rfl⟩
theorem qText_in (n : Int) (w : World) (h0 : 0 ≤ n) (h1 : n ≤ 9223372036854775807) :
    Calls Tryz.prog 137 #[.int .i64 n] w fun e w' => e = .returned (.string (itoaB n)) ∧ w = w' := by
  obtain ⟨m, rfl⟩ := Int.eq_ofNat_of_zero_le h0
  exact (qText_nn m w (by omega)).mono fun _ _ ⟨h1, h2⟩ => ⟨h1, h2.symm⟩
/-- The joined texts. -/
def jt (l : List El) : List UInt8 := Lib.join ((l.map El.txt).map (·.data.toList)) [32]
theorem jt_snoc (l : List El) (x : El) : jt (l ++ [x]) = if l = [] then x.txt.data.toList else jt l ++ [32] ++ x.txt.data.toList := by
  unfold jt
  cases l with
  | nil => simp [Lib.join_one]
  | cons y r =>
    rw [if_neg (by simp)]
    simp only [List.map_append, List.map_cons, List.map_nil, List.cons_append, Lib.join_cons]
    simp [Lib.joinTail]
theorem jt_len (l : List El) (h : ∀ x ∈ l, x.Ok) : (jt l).length ≤ l.length * 61 := by
  have := join_len ((l.map El.txt).map (·.data.toList)) 60 (fun x hx => by
    obtain ⟨y, hy, rfl⟩ := List.mem_map.1 hx
    obtain ⟨z, hz, rfl⟩ := List.mem_map.1 hy
    exact txt_len (h z hz))
  rwa [List.length_map, List.length_map] at this
theorem ladTxt_jt {l : List El} (h : ¬ l = []) : ladTxt l = ⟨(jt l).toArray⟩ := by unfold ladTxt jt; rw [if_neg h]
theorem jt_nil : jt [] = [] := rfl
set_option maxHeartbeats 2000000 in
theorem rPrint_ok (A : Option Addr) (n c : Nat) (l : List El) (w : World) (h : Reads w w.heap.size 3 A n (els l)) (h0 : ladErr l = 0) :
    Calls Tryz.prog 78 #[.slice A n c] w fun e w' => e = .returned (.string (ladTxt l)) ∧ Below w.heap.size w w' := by
  have hok := lad_ok h0
  have hn5 : n ≤ 5 := by rw [← els_reads_len h]; exact hok.len
  have HL := hide (els_reads_len h)
  have HOK := hide hok
  clear h0 hok
  go_enter Tryz.func78, Tryz.ntmps78
  by_cases hz : n = 0
  · have hl0 : l = [] := List.eq_nil_of_length_eq_zero (by rw [HL.out]; exact hz)
    have HZ := hide (show ladTxt l = ⟨#[119, 105, 114, 101]⟩ by unfold ladTxt; rw [if_pos hl0])
    have t0 : ((n : Int) == 0) = true := by simp; omega
    clear hz hl0
    go_wp2_with fail
    go_ret
    exact ⟨by rw [HZ.out]; rfl, Below.refl _ _⟩
  · have t0 : ((n : Int) == 0) = false := by simp; omega
    have hl0 : ¬ l = [] := fun e => hz (by rw [← HL.out, e]; rfl)
    have HZ := hide (ladTxt_jt hl0)
    clear hl0
    go_wp2_with fail
    clear t0
    go_loopw [3, 4] (fun v i wr => ∃ (k : Nat) (T : ByteArray), k ≤ n ∧ i = .int .i64 k ∧ v = .string T ∧ T.data.toList = jt (l.take k) ∧ Below w.heap.size w wr) (fun _ i _ => n - (intOf i).toNat)
    case atStart => exact ⟨0, ⟨#[]⟩, by omega, rfl, rfl, rfl, Below.refl _ _⟩
    case round =>
      rename World => wo
      obtain ⟨k, T, hk, rfl, rfl, hT, hb⟩ := hrel
      have hTs : T.size ≤ 305 := by
        rw [bsizeL, hT]
        have h1 := jt_len (l.take k) (fun x hx => HOK.out.all x (List.mem_of_mem_take hx))
        have h2 : (l.take k).length ≤ 5 := by rw [List.length_take]; omega
        omega
      by_cases hlt : k < n
      · obtain ⟨ad, s, rfl, _, hx, hc⟩ := els_hit (carry h hb) hlt (Nat.le_refl _)
        have ho := HOK.out.all s (List.mem_of_getElem? hx)
        have q0 : ∀ z, (over wo.heap.size wo z).cell? (ad.add (k * 3)) = some (.string s.kind) := fun z => (hc _ (over_below _ _ _)).1
        have q1 : ∀ z, (over wo.heap.size wo z).cell? ⟨(ad.add (k * 3)).block, (ad.add (k * 3)).off + 1, none⟩ = some (.int .i64 s.a) := fun z => (hc _ (over_below _ _ _)).2.1
        have q2 : ∀ z, (over wo.heap.size wo z).cell? ⟨(ad.add (k * 3)).block, (ad.add (k * 3)).off + 2, none⟩ = some (.int .i64 s.b) := fun z => (hc _ (over_below _ _ _)).2.2
        have hks := kind_size ho.kn
        have HA : Hid (0 ≤ s.a ∧ s.a ≤ 9223372036854775807) := by have h1 := ho.al; have h2 := ho.ah; show _ ∧ _; omega
        have HB : Hid (0 ≤ s.b ∧ s.b ≤ 9223372036854775807) := by have h1 := ho.bl; have h2 := ho.bh; show _ ∧ _; omega
        have hia := itoaB_size (n := s.a) ⟨by have := HA.out.1; omega, HA.out.2⟩
        have hib := itoaB_size (n := s.b) ⟨by have := HB.out.1; omega, HB.out.2⟩
        have hsn := jt_snoc (l.take k) s
        have htk : l.take k ++ [s] = l.take (k + 1) := by rw [List.take_add_one, hx]; rfl
        rw [htk] at hsn
        by_cases hk0 : 0 < k
        · have t7 : decide (0 < (k : Int)) = true := decide_eq_true (by omega)
          have hUs : (T ++ ⟨#[32]⟩ : ByteArray).size ≤ 306 := by rw [ByteArray.size_append]; show T.size + 1 ≤ 306; omega
          have hlk : (l.take k).length = k := by rw [List.length_take, HL.out]; omega
          rw [if_neg (by intro e; rw [e, List.length_nil] at hlk; omega), ← hT] at hsn
          have HSN := hide hsn
          clear hsn htk hx hc ho hT hlk
          go_upto_region 9 with (fail)
          obtain ⟨U, hU⟩ : ∃ U : ByteArray, U = T ++ ⟨#[32]⟩ := ⟨_, rfl⟩
          rw [← hU] at hUs ⊢
          have b1 : U.size + s.kind.size ≤ 9223372036854775807 := by omega
          have b2 : U.size + s.kind.size + 1 ≤ 9223372036854775807 := by omega
          have b3 : U.size + s.kind.size + 1 + (itoaB s.a).size ≤ 9223372036854775807 := by omega
          have b4 : U.size + s.kind.size + 1 + (itoaB s.a).size + 1 ≤ 9223372036854775807 := by omega
          have b5 : U.size + s.kind.size + 1 + (itoaB s.a).size + 1 + (itoaB s.b).size ≤ 9223372036854775807 := by omega
          have HU := hide hU
          clear hks hia hib hUs hU
          refine wp_region_over wo.heap.size (by kernel_rfl) (by kernel_rfl) ?_; (repeat (first | go_big_quiet_step ((go_at_call 137; with_reducible first | exact over_same (qText_in s.a _ HA.out.1 HA.out.2) | exact over_same (qText_in s.b _ HB.out.1 HB.out.2))) | quiet_step ((go_at_call 137; with_reducible first | exact over_same (qText_in s.a _ HA.out.1 HA.out.2) | exact over_same (qText_in s.b _ HB.out.1 HB.out.2))))); refine wpQuiet_nil ?_; rintro W ⟨x, rfl⟩
          have hbY := over_below wo.heap.size wo x
          generalize over wo.heap.size wo x = Y at hbY ⊢
          clear q0 q1 q2
          go_wp2_with fail
          go_roundw
          case rel => exact ⟨k + 1, _, by omega, by go_num, rfl, by rw [HSN.out, HU.out]; simp [El.txt], below_next hb hbY⟩
          case measure => simp [intOf]; omega
        · have t7 : decide (0 < (k : Int)) = false := decide_eq_false (by omega)
          have hlk : l.take k = [] := by rw [show k = 0 by omega]; rfl
          rw [hlk, if_pos rfl] at hsn
          rw [hlk, jt_nil] at hT
          have hUs : T.size ≤ 306 := by omega
          have HSN : Hid (jt (l.take (k + 1)) = T.data.toList ++ s.txt.data.toList) := by show _ = _; rw [hsn, hT]; rfl
          clear hsn htk hx hc ho hT hlk
          go_upto_region 9 with (fail)
          obtain ⟨U, hU⟩ : ∃ U : ByteArray, U = T := ⟨_, rfl⟩
          rw [← hU] at hUs ⊢
          have b1 : U.size + s.kind.size ≤ 9223372036854775807 := by omega
          have b2 : U.size + s.kind.size + 1 ≤ 9223372036854775807 := by omega
          have b3 : U.size + s.kind.size + 1 + (itoaB s.a).size ≤ 9223372036854775807 := by omega
          have b4 : U.size + s.kind.size + 1 + (itoaB s.a).size + 1 ≤ 9223372036854775807 := by omega
          have b5 : U.size + s.kind.size + 1 + (itoaB s.a).size + 1 + (itoaB s.b).size ≤ 9223372036854775807 := by omega
          have HU := hide hU
          clear hks hia hib hUs hU
          refine wp_region_over wo.heap.size (by kernel_rfl) (by kernel_rfl) ?_; (repeat (first | go_big_quiet_step ((go_at_call 137; with_reducible first | exact over_same (qText_in s.a _ HA.out.1 HA.out.2) | exact over_same (qText_in s.b _ HB.out.1 HB.out.2))) | quiet_step ((go_at_call 137; with_reducible first | exact over_same (qText_in s.a _ HA.out.1 HA.out.2) | exact over_same (qText_in s.b _ HB.out.1 HB.out.2))))); refine wpQuiet_nil ?_; rintro W ⟨x, rfl⟩
          have hbY := over_below wo.heap.size wo x
          generalize over wo.heap.size wo x = Y at hbY ⊢
          clear q0 q1 q2
          go_wp2_with fail
          go_roundw
          case rel => exact ⟨k + 1, _, by omega, by go_num, rfl, by rw [HSN.out, HU.out]; simp [El.txt], below_next hb hbY⟩
          case measure => simp [intOf]; omega
      · obtain rfl : k = n := by omega
        have hTZ : T = ladTxt l := by
          rw [HZ.out]
          exact bytes_ext (by rw [hT, List.take_of_length_le (by rw [HL.out]; omega)])
        subst hTZ
        clear hT hTs
        go_wp2_with fail
        go_ret
        exact ⟨rfl, hb⟩
end Go.Proofs.YtnndaipnfniciaaGreatDoor
