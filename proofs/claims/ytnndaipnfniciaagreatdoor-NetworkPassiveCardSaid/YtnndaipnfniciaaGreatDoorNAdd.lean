/- Polynomials of the program: add. -/
import Derived.Test.YtnndaipnfniciaaGreatDoorBaseV
import Derived.Deep.OwnRows
namespace Go.Proofs.YtnndaipnfniciaaGreatDoor
open Go.RowKit Go.Shelf
set_option maxRecDepth 100000

/-- out with x times the first n coefficients of b added, from place i on. -/
def addPart (out : List Int) (i : Nat) (x : Int) (b : List Int) (n : Nat) : List Int := out.mapIdx fun j y => if i ≤ j ∧ j < i + n then y + x * co b (j - i) else y
theorem addPart_len (out : List Int) (i : Nat) (x : Int) (b : List Int) (n : Nat) : (addPart out i x b n).length = out.length := by simp [addPart]
theorem addPart_zero (out : List Int) (i : Nat) (x : Int) (b : List Int) : addPart out i x b 0 = out := by
  unfold addPart
  refine List.ext_getElem? fun j => ?_
  rw [List.getElem?_mapIdx]
  cases out[j]? with
  | none => rfl
  | some y => simp only [Option.map_some]; rw [if_neg (by omega)]
theorem addPart_all (out : List Int) (i : Nat) (x : Int) (b : List Int) : addPart out i x b b.length = addRow out i x b := by
  unfold addPart addRow
  refine List.ext_getElem? fun j => ?_
  rw [List.getElem?_mapIdx, List.getElem?_mapIdx]
  cases out[j]? with
  | none => rfl
  | some y =>
    simp only [Option.map_some]
    by_cases h1 : i ≤ j
    · by_cases h2 : j < i + b.length
      · rw [if_pos ⟨h1, h2⟩, if_pos h1]
      · rw [if_neg (by omega), if_pos h1, co_far (by omega)]; simp
    · rw [if_neg (by omega), if_neg h1]
/-- Numbers of 64 bits as cells. -/
def wints (l : List Int) : List Value := ints (l.map wr)
theorem wints_len (l : List Int) : (wints l).length = l.length := by simp [wints, ints]
theorem wints_at {l : List Int} {k : Nat} (h : k < l.length) : (wints l)[k]? = some (.int .i64 (wr (co l k))) := by
  unfold wints ints
  rw [List.map_map, List.getElem?_map, List.getElem?_eq_getElem h]
  unfold co
  rw [List.getElem?_eq_getElem h]; rfl
theorem wints_set {out : List Int} {i k : Nat} {x : Int} {b : List Int} (hk : i + k < out.length) :
    (wints (addPart out i x b k)).toArray.setIfInBounds (i + k) (.int .i64 (wr (co out (i + k) + x * co b k))) = (wints (addPart out i x b (k + 1))).toArray := by
  apply Array.ext_getElem?
  intro j
  rw [Array.getElem?_setIfInBounds]
  simp only [List.getElem?_toArray, List.size_toArray]
  split
  · rename_i hj
    subst hj
    rw [wints_len, addPart_len, if_pos hk, wints_at (by rw [addPart_len]; exact hk)]
    have : co (addPart out i x b (k + 1)) (i + k) = co out (i + k) + x * co b k := by
      unfold co addPart
      rw [List.getElem?_mapIdx, List.getElem?_eq_getElem hk]
      simp only [Option.map_some, Option.getD_some]
      rw [if_pos (by omega), show i + k - i = k by omega]; rfl
    rw [this]
  · rename_i hj
    by_cases hjl : j < out.length
    · rw [wints_at (by rw [addPart_len]; exact hjl), wints_at (by rw [addPart_len]; exact hjl)]
      have : co (addPart out i x b k) j = co (addPart out i x b (k + 1)) j := by
        unfold co addPart
        rw [List.getElem?_mapIdx, List.getElem?_mapIdx, List.getElem?_eq_getElem hjl]
        simp only [Option.map_some, Option.getD_some]
        by_cases h1 : i ≤ j ∧ j < i + k
        · rw [if_pos h1, if_pos (by omega)]
        · rw [if_neg h1, if_neg (by omega)]
      rw [this]
    · rw [List.getElem?_eq_none (by rw [wints_len, addPart_len]; omega), List.getElem?_eq_none (by rw [wints_len, addPart_len]; omega)]
theorem co_addPart_at {out : List Int} {i k : Nat} {x : Int} {b : List Int} (hk : i + k < out.length) : co (addPart out i x b k) (i + k) = co out (i + k) := by
  unfold co addPart
  rw [List.getElem?_mapIdx, List.getElem?_eq_getElem hk]
  simp only [Option.map_some, Option.getD_some]
  rw [if_neg (by omega)]
theorem wr_step (o x y : Int) : wr (wr o + wr (x * y)) = wr (o + x * y) := wr_add _ _
theorem wints_in {l : List Int} (h : n1 l ≤ 9223372036854775807) : wints l = ints l := by
  unfold wints
  congr 1
  conv => rhs; rw [← List.map_id l]
  refine List.map_congr_left fun x hx => ?_
  obtain ⟨k, hk⟩ := List.getElem?_of_mem hx
  have := co_n1 l k
  rw [co_get hk] at this
  exact wr_in (by omega)
theorem splice_pad {p : List Int} {m : Nat} (_hm : p.length ≤ m) : splice (ints (List.replicate m 0)) 0 (ints p) = ints (p ++ List.replicate (m - p.length) 0) := by
  unfold splice
  simp only [ints, List.take_zero, List.nil_append, Nat.zero_add, List.length_map, List.map_append, List.map_replicate, List.drop_replicate]
theorem max2 (a b : Nat) : ∀ w, Sem.run Tryz.prog (Builtin.max_ #[3, 3] 3 #[.int .i64 (a : Int), .int .i64 (b : Int)]) w = .ok (.int .i64 ((max a b : Nat) : Int)) w := by
  intro w
  have h : ((max a b : Nat) : Int) = (if (b : Int) > (a : Int) then (b : Int) else (a : Int)) := by split <;> omega
  rw [h]; rfl
set_option maxHeartbeats 2000000 in
theorem padd_any (A0 : Option Addr) (n0 c0 : Nat) (p : List Int) (A1 : Option Addr) (na c1 : Nat) (a : List Int) (A2 : Option Addr) (nb c2 : Nat) (b : List Int) (w : World)
    (h0 : Reads w w.heap.size 1 A0 n0 (ints p)) (h1 : Reads w w.heap.size 1 A1 na (ints a)) (h2 : Reads w w.heap.size 1 A2 nb (ints b)) (l0 : n0 ≤ 100000) (l1 : na ≤ 100000) (l2 : nb ≤ 100000) (hs : n1 p + n1 a * n1 b ≤ 9223372036854775807) :
    Calls Tryz.prog 97 #[.slice A0 n0 c0, .slice A1 na c1, .slice A2 nb c2] w fun e w' => ∃ g c, e = .returned (.slice (some ⟨g, 0, none⟩) (padd p a b).length c) ∧ (padd p a b).length ≤ c ∧ w.heap.size ≤ g ∧ Reads w' w'.heap.size 1 (some ⟨g, 0, none⟩) (padd p a b).length (ints (padd p a b)) ∧ Below w.heap.size w w' := by
  obtain ⟨m, hm⟩ : ∃ m, m = max n0 (na + nb) := ⟨_, rfl⟩
  have hm2 : m ≤ 200000 := by omega
  have hmx := max2 n0 (na + nb)
  rw [← hm] at hmx
  have hmk := run_make_row' (P := Tryz.prog) 133 3 (.int .i64 0) 8 Tryz.underlying133 info_int rfl .i64 .i64 m (by omega) (by omega)
  have hcast : ((na + nb : Nat) : Int) = (na : Int) + (nb : Int) := by omega
  rw [hcast] at hmx
  have HLp := hide (reads_len h0)
  have HLa := hide (reads_len h1)
  have HLb := hide (reads_len h2)
  have HM := hide hm
  clear hm hcast
  go_enter Tryz.func97, Tryz.ntmps97
  go_upto_region 2 with (fail)
  obtain ⟨w1, e1, hb1, hz1, k1⟩ := box1 w (madeCells #[.int .i64 0] m) 3
  rw [← e1]; clear e1 hmk hmx
  rw [made_eq] at k1
  have r0 := carry h0 hb1
  clear h0
  have hmin : (ints p).length = Nat.min n0 m := by rw [ints_len, HLp.out, HM.out]; show _ = min n0 _; omega
  have hpos : 0 < (ints p).length → ∃ ad, A0 = some ad ∧ ∀ j v, (ints p)[j]? = some v → w1.cell? (ad.add j) = some v := by
    intro hp
    obtain ⟨ad, q1, _, q3⟩ := r0.2 (by rw [ints_len, HLp.out] at hp; exact hp)
    exact ⟨ad, q1, q3⟩
  have hfit : 0 + (ints p).length ≤ (ints (List.replicate m 0)).length := by rw [ints_len, HLp.out, ints_len, List.length_replicate, HM.out]; omega
  have HP := hide hpos
  have HMIN := hide hmin
  have HFIT := hide hfit
  clear hpos hmin hfit
  have hgk := k1
  go_wp2_with (refine wpList_copy_splice (o := ⟨some 23, _, _, _, _, _⟩) rfl (.tmp 21) (.tmp 22) 133 133 rfl 3 Tryz.underlying133 (by kernel_rfl) (some ⟨w.heap.size, 0, none⟩) A0 m m n0 c0 (by rfl) (by rfl) w.heap.size 0 (ints (List.replicate m 0)) 3 hgk (ints p) HMIN.out (fun hp => ⟨rfl, HP.out hp⟩) HFIT.out (ints_one _) w.heap.size w hb1 (Nat.le_refl _) ?_; intro w2 hg2 hb2)
  obtain ⟨out, hout⟩ : ∃ out, out = p ++ List.replicate (m - p.length) 0 := ⟨_, rfl⟩
  have hol : out.length = m := by rw [hout, List.length_append, List.length_replicate, HLp.out]; have := HM.out; omega
  have hon : n1 out = n1 p := by rw [hout, n1_append, n1_zeros]; rfl
  have hfin : padd p a b = trim (addRows out a b na) := by rw [hout, HM.out, ← HLa.out, ← HLb.out, ← HLp.out]; rfl
  have k2 : Blk w2 w.heap.size 3 (wints (addRows out a b 0)).toArray := by
    have := hg2.out
    rw [splice_pad (by rw [HLp.out, HM.out]; omega), ← hout] at this
    show Blk w2 w.heap.size 3 (wints out).toArray
    rw [wints_in (by rw [hon]; omega)]
    exact this
  have HOL := hide hol
  have HON := hide hon
  have HFIN := hide hfin
  have hlt2 := k2.lt
  clear hg2 hgk k1 HP HMIN HFIT r0 hol hon hfin hout
  go_loopw [26] (fun v wq => ∃ i : Nat, i ≤ na ∧ v = .int .i64 i ∧ Blk wq w.heap.size 3 (wints (addRows out a b i)).toArray ∧ Below w.heap.size w wq) (fun v _ => na - (intOf v).toNat)
  case atStart => exact ⟨0, by omega, rfl, k2, hb2⟩
  case round =>
    rename World => wo
    obtain ⟨i, hi, rfl, kr, hbr⟩ := hrel
    clear k2 hb2 hlt2
    have hsz := hbr.size
    by_cases hlt : i < na
    · obtain ⟨ad1, x, e1, hB1, hx, hcx⟩ := reads_at (h1.below hbr) hlt
      subst e1
      have HX := hide hx; clear hx
      go_wp2
      go_loopw [33] (fun v wq => ∃ k : Nat, k ≤ nb ∧ v = .int .i64 k ∧ Blk wq w.heap.size 3 (wints (addPart (addRows out a b i) i x b k)).toArray ∧ Below w.heap.size w wq) (fun v _ => nb - (intOf v).toNat)
      case atStart => exact ⟨0, by omega, rfl, by rw [addPart_zero]; exact kr, hbr⟩
      case round =>
        rename World => wq
        obtain ⟨k, hk, rfl, kq, hbq⟩ := hrel
        clear kr hbr hcx
        by_cases hlt2 : k < nb
        · obtain ⟨ad2, y, e2, hB2, hy, hcy⟩ := reads_at (h2.below hbq) hlt2
          subst e2
          have hin : i + k < (addRows out a b i).length := by rw [addRows_len, HOL.out, HM.out]; omega
          have hcell : wq.cell? ⟨w.heap.size, i + k, none⟩ = some (.int .i64 (wr (co (addRows out a b i) (i + k)))) := by
            rw [kq.cell, List.getElem?_toArray, wints_at (by rw [addPart_len]; exact hin), co_addPart_at hin]
          have hfro := kq.frozen (i + k)
          have HY := hide hy; clear hy
          have hin2 : i + k < m := by rw [addRows_len, HOL.out] at hin; exact hin
          have hqlt := kq.lt
          clear h1 h2
          go_wp2
          go_roundw
          case rel =>
            refine ⟨k + 1, by omega, by go_num, ?_, below_set hbq (Nat.le_refl _) _⟩
            have e : wrap64 (wr (co (addRows out a b i) (i + k)) + wrap64 (x * y)) = wr (co (addRows out a b i) (i + k) + x * co b k) := by rw [co_get HY.out, wr_is, wr_is, wr_step]
            rw [e]
            have := kq.set_ (i + k) (.int .i64 (wr (co (addRows out a b i) (i + k) + x * co b k)))
            rwa [wints_set hin] at this
          case measure => simp [intOf]; omega
        · obtain rfl : k = nb := by omega
          have kn : Blk wq w.heap.size 3 (wints (addRows out a b (i + 1))).toArray := by
            show Blk wq w.heap.size 3 (wints (addRow (addRows out a b i) i (co a i) b)).toArray
            rw [co_get HX.out, ← addPart_all, HLb.out]
            exact kq
          go_wp2
          go_roundw
          case rel => exact ⟨i + 1, by omega, by go_num, kn, hbq⟩
          case measure => simp [intOf]; omega
    · obtain rfl : i = na := by omega
      have hfr : n1 (addRows out a b i) ≤ 9223372036854775807 := by
        have := n1_addRows out a b i
        rw [← HLa.out, List.take_length, HLa.out, HON.out] at this
        omega
      rw [wints_in hfr] at kr
      have hlen : (addRows out a b i).length = m := by rw [addRows_len, HOL.out]
      have hrd := blkR (n := m) kr (by rw [hlen])
      have HLEN := hide hlen
      clear hfr h1 h2 hlen
      go_wp2_with fail
      refine (trimmed_any _ m m _ (addRows out a b i) _ hrd (Nat.le_refl _) (by omega)).mono ?_
      rintro e W' ⟨rfl, rfl⟩
      go_wp2_with fail
      go_ret
      have hle := trim_len (addRows out a b i)
      rw [HLEN.out] at hle
      rw [HFIN.out]
      have := reads_take hrd hle
      have e : (addRows out a b i).take (trim (addRows out a b i)).length = trim (addRows out a b i) := trim_isT _
      rw [e] at this
      exact ⟨_, _, rfl, hle, Nat.le_refl _, this, hbr⟩
end Go.Proofs.YtnndaipnfniciaaGreatDoor
