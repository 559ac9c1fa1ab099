/- The reference's Print. -/
import Derived.Test.YtpcmflfinlkeiaaGreatDoorSRPk
namespace Go.Proofs.YtpcmflfinlkeiaaGreatDoor
open Go.RowKit Go.Shelf
set_option maxRecDepth 100000
theorem six_b {s : Sec} (h : s.Ok) : ∀ x ∈ six s, -1000000000 ≤ x ∧ x ≤ 1000000000 := by
  have h := h
  have := h.b0l; have := h.b0h; have := h.b1l; have := h.b1h; have := h.b2l; have := h.b2h; have := h.a1l; have := h.a1h; have := h.a2l; have := h.a2h; have := h.shl; have := h.shh
  intro x hx
  simp only [six, List.mem_cons, List.not_mem_nil, or_false] at hx
  rcases hx with rfl | rfl | rfl | rfl | rfl | rfl <;> omega
/-- The first j numbers of a line. -/
def lineTo (s : Sec) (j : Nat) : List UInt8 := Lib.join (((six s).take j).map Lib.itoa) [32]
theorem lineTo_all (s : Sec) : lineTo s 6 = lineOf s := rfl
theorem join_snoc (sep : List UInt8) : ∀ (l : List (List UInt8)) (x : List UInt8), l ≠ [] → Lib.join (l ++ [x]) sep = Lib.join l sep ++ sep ++ x
  | a :: l, x, _ => by simp [Lib.join_cons, Lib.joinTail]
theorem lineTo_one {s : Sec} {x : Int} (h : (six s)[0]? = some x) : lineTo s 1 = lineTo s 0 ++ Lib.itoa x := by
  simp [six] at h
  subst h
  simp [lineTo, six, Lib.join]
theorem lineTo_more {s : Sec} {j : Nat} {x : Int} (hj : 0 < j) (h : (six s)[j]? = some x) : lineTo s (j + 1) = lineTo s j ++ [32] ++ Lib.itoa x := by
  unfold lineTo
  rw [List.take_add_one, h]
  simp only [Option.toList_some, List.map_append, List.map_cons, List.map_nil]
  rw [join_snoc]
  simp [six]
  omega
theorem lineTo_len {s : Sec} (h : s.Ok) (j : Nat) : (lineTo s j).length ≤ 200 := by
  have hb := six_b h
  have hx : ∀ x ∈ six s, (Lib.itoa x).length ≤ 21 := fun x hx => by
    have := hb x hx
    have h2 := itoaB_size (n := x) ⟨by omega, by omega⟩
    rwa [bsizeL, itoaB_data] at h2
  have h0 := hx s.b0 (by simp [six])
  have h1 := hx s.b1 (by simp [six])
  have h2 := hx s.b2 (by simp [six])
  have h3 := hx s.a1 (by simp [six])
  have h4 := hx s.a2 (by simp [six])
  have h5 := hx s.sh (by simp [six])
  match j with
  | 0 | 1 | 2 | 3 | 4 | 5 => simp [lineTo, six, Lib.join] <;> omega
  | j + 6 =>
    have e : lineTo s (j + 6) = lineTo s 6 := by unfold lineTo; rw [List.take_of_length_le (by simp [six]), List.take_of_length_le (by simp [six])]
    rw [e]; simp [lineTo, six, Lib.join] <;> omega
theorem txtS_step {l : List Sec} {k : Nat} {s : Sec} (h : l[k]? = some s) : txtS (l.take (k + 1)) = txtS (l.take k) ++ (lineOf s ++ [10]) := by
  rw [List.take_add_one, h]; simp [txtS]
theorem txtS_le {l : List Sec} (h : ∀ s ∈ l, s.Ok) : (txtS l).length ≤ l.length * 201 := by
  induction l with
  | nil => simp [txtS]
  | cons s l ih =>
    have h1 := lineTo_len (h s (by simp)) 6
    rw [lineTo_all] at h1
    have h2 := ih fun t ht => h t (by simp [ht])
    simp only [txtS, List.flatMap_cons, List.length_append, List.length_cons, List.length_nil] at *
    omega
theorem secLine_le {s : Sec} (h : s.Ok) : (secLine s).length ≤ 1000 := by
  have h1 := lineTo_len h 6
  rw [lineTo_all] at h1
  show (lineOf s ++ [10]).length ≤ 1000
  rw [List.length_append]; simp; omega
theorem prTxt_eq (l : List Sec) : prTxt l = txtS l := rfl
set_option maxHeartbeats 4000000 in
theorem rPrint_ok (A : Option Addr) (n c : Nat) (l : List Sec) (w : World) (h : Reads w w.heap.size 6 A n (secs l)) (h0 : secErr l = 0) :
    Calls Tryz.prog 14 #[.slice A n c] w fun e w' => e = .returned (.string ⟨(txtS l).toArray⟩) ∧ Below w.heap.size w w' := by
  have hok := secErr_ok h0
  have hn5 : n ≤ 8 := by rw [← secs_reads_len h]; exact hok.1
  have HL := hide (secs_reads_len h)
  have HOK := hide hok.2
  clear h0 hok
  go_enter Tryz.func14, Tryz.ntmps14
  go_wp2_with fail
  go_loopw [3, 4] (fun v i wr => ∃ (k : Nat) (T : ByteArray), k ≤ n ∧ i = .int .i64 k ∧ v = .string T ∧ T.data.toList = txtS (l.take k) ∧ Below w.heap.size w wr) (fun _ i _ => n - (intOf i).toNat)
  case atStart => exact ⟨0, ⟨#[]⟩, by omega, rfl, rfl, rfl, Below.refl _ _⟩
  case round =>
    rename World => wo
    obtain ⟨k, T, hk, rfl, rfl, hT, hb⟩ := hrel
    have hTs : (txtS (l.take k)).length ≤ 1608 := by
      have h1 := txtS_le (l := l.take k) (fun x hx => HOK.out x (List.mem_of_mem_take hx))
      have h2 : (l.take k).length ≤ 8 := by rw [List.length_take]; omega
      omega
    have HT := hide hT
    have HTS := hide hTs
    by_cases hlt : k < n
    · obtain ⟨ad, s, rfl, _, hx, hc⟩ := secs_hit (carryR h hb) hlt (Nat.le_refl _)
      have hso := HOK.out s (List.mem_of_getElem? hx)
      have HX := hide hx
      have HSO := hide hso
      obtain ⟨d0, d1, d2, d3, d4, d5⟩ := hc wo (Below.refl _ _)
      clear hx hc hso hT hTs
      go_wp2_with fail
      refine (rNumbers_any s _).mono ?_
      rintro e w2 ⟨g, rfl, hg, kN, hb2⟩
      clear d0 d1 d2 d3 d4 d5
      have hb3 := below_nx hb hb2
      have hR2 : Reads w2 w2.heap.size 1 (some ⟨g, 0, none⟩) 6 (ints (six s)) := reads_block (xs := six s) kN (Nat.le_refl _) kN.lt
      go_wp2_with fail
      go_loopw [3, 6] (fun v i wr => ∃ (j : Nat) (U : ByteArray), j ≤ 6 ∧ i = .int .i64 j ∧ v = .string U ∧ Hid (U.data.toList = txtS (l.take k) ++ lineTo s j) ∧ Below w2.heap.size w2 wr) (fun _ i _ => 6 - (intOf i).toNat)
      case atStart => exact ⟨0, T, by omega, rfl, rfl, by show _ = _; rw [HT.out]; simp [lineTo, Lib.join], Below.refl _ _⟩
      case round =>
        rename World => wi
        obtain ⟨j, U, hj, rfl, rfl, HU, hbi⟩ := hrel
        have hUs : U.size ≤ 1808 := by
          have h1 := lineTo_len HSO.out j
          have h2 := HTS.out
          rw [bsizeL, HU.out, List.length_append]
          omega
        by_cases hj6 : j < 6
        · obtain ⟨ad2, x, e2, _, hx, hc⟩ := reads_at (carryR hR2 hbi) hj6
          obtain rfl := Option.some.inj e2
          have hc2 : wi.cell? ⟨g, j, none⟩ = some (.int .i64 x) := by
            rw [← hc]; congr 1; unfold Addr.add; split <;> simp_all
          clear hc
          have hxb := six_b HSO.out x (List.mem_of_getElem? hx)
          have hxs := itoaB_size (n := x) ⟨by omega, by omega⟩
          have HXX := hide hx
          have hji : (j : Int) < 6 := by omega
          clear hx e2
          by_cases hj0 : 0 < j
          · have t0 : decide (0 < (j : Int)) = true := decide_eq_true (by omega)
            have hsn : txtS (l.take k) ++ lineTo s (j + 1) = U.data.toList ++ [32] ++ Lib.itoa x := by
              rw [HU.out, lineTo_more hj0 HXX.out]; simp only [List.append_assoc]
            have HSN := hide hsn
            have b1 : U.size + 1 ≤ 9223372036854775807 := by omega
            have b2 : U.size + 1 + (itoaB x).size ≤ 9223372036854775807 := by omega
            clear hsn
            go_wp2_with fail
            refine (qText_in x _ hxb.1 hxb.2).mono ?_
            rintro e W1 ⟨rfl, rfl⟩
            go_wp2_with fail
            go_roundw
            case rel =>
              first
                | exact ⟨j + 1, _, by omega, by go_num, rfl, by show _ = _; rw [HSN.out]; simp [itoaB_data], hbi⟩
                | ((repeat (apply Exists.intro)); refine ⟨?_, rfl⟩; exact ⟨j + 1, _, by omega, by go_num, rfl, by show _ = _; rw [HSN.out]; simp [itoaB_data], hbi⟩)
            case measure => simp [intOf]; omega
          · obtain rfl : j = 0 := by omega
            have hsn : txtS (l.take k) ++ lineTo s (0 + 1) = U.data.toList ++ Lib.itoa x := by
              rw [HU.out, Nat.zero_add, lineTo_one HXX.out]; simp only [List.append_assoc]
            have HSN := hide hsn
            have b2 : U.size + (itoaB x).size ≤ 9223372036854775807 := by omega
            clear hsn
            go_wp2_with fail
            refine (qText_in x _ hxb.1 hxb.2).mono ?_
            rintro e W1 ⟨rfl, rfl⟩
            go_wp2_with fail
            go_roundw
            case rel =>
              first
                | exact ⟨0 + 1, _, by omega, by go_num, rfl, by show _ = _; rw [HSN.out]; simp [itoaB_data], hbi⟩
                | ((repeat (apply Exists.intro)); refine ⟨?_, rfl⟩; exact ⟨0 + 1, _, by omega, by go_num, rfl, by show _ = _; rw [HSN.out]; simp [itoaB_data], hbi⟩)
            case measure => simp [intOf]
        · obtain rfl : j = 6 := by omega
          have hsn : txtS (l.take (k + 1)) = U.data.toList ++ [10] := by
            rw [HU.out, lineTo_all, txtS_step HX.out]; simp only [List.append_assoc]
          have HSN := hide hsn
          have b1 : U.size + 1 ≤ 9223372036854775807 := by omega
          clear hsn
          go_wp2_with fail
          go_roundw
          case rel =>
            first
              | exact ⟨k + 1, _, by omega, by go_num, rfl, by rw [HSN.out]; simp, below_nx hb3 hbi⟩
              | ((repeat (apply Exists.intro)); refine ⟨?_, rfl⟩; exact ⟨k + 1, _, by omega, by go_num, rfl, by rw [HSN.out]; simp, below_nx hb3 hbi⟩)
          case measure => simp [intOf]; omega
    · obtain rfl : k = n := by omega
      have hTZ : T = ⟨(txtS l).toArray⟩ := bytes_ext (by rw [HT.out, List.take_of_length_le (by rw [HL.out]; omega), List.toList_toArray])
      subst hTZ
      clear hT hTs
      go_wp2_with fail
      go_ret
      exact ⟨rfl, hb⟩
end Go.Proofs.YtpcmflfinlkeiaaGreatDoor
