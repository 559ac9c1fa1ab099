/- The contract of Cascade. -/
import Derived.Test.YtlaaajkehjoffaaDoorCasc
import Derived.Test.YtlaaajkehjoffaaDoorBaseC
import Derived.Laws.CopyOwn
namespace Go.Proofs.YtlaaajkehjoffaaDoor
open Go.RowKit Go.Shelf
set_option maxRecDepth 100000

def cascErr (l : List Sec) (xs : List Int) : Int := fnz [secErr l, sigErr xs]
theorem carry' {w w' : World} {size n : Nat} {A : Option Addr} {xs : List Value} (h : Reads w w.heap.size size A n xs) (hb : Below w.heap.size w w') : Reads w' w'.heap.size size A n xs := (h.below hb).more hb.size
set_option maxHeartbeats 1000000 in
theorem Cascade_bad (A : Option Addr) (n c : Nat) (l : List Sec) (A1 : Option Addr) (m c1 : Nat) (xs : List Int) (w : World) (hn : n ≤ 1000000000000) (hm : m ≤ 1000000000000)
    (h : Reads w w.heap.size 6 A n (secs l)) (hR : Reads w w.heap.size 1 A1 m (ints xs)) (he : (cascErr l xs != 0) = true) :
    Calls Tryd.prog 54 #[.slice A n c, .slice A1 m c1] w fun e w' => e = .returned (.tuple #[.slice none 0 0, .int .i64 (cascErr l xs)]) ∧ Below w.heap.size w w' := by
  have ht : (fnz [secErr l, sigErr xs] != 0) = true := he
  go_enter Tryd.func54, Tryd.ntmps54
  go_wp2_with fail
  refine (checkSections_any A n c l _ h hn).mono ?_
  rintro e w1 ⟨rfl, hb1⟩
  have hr := carry' hR hb1
  go_wp2_with fail
  refine (checkSignal_any A1 m c1 xs _ hr hm).mono ?_
  rintro e w2 ⟨rfl, hb2⟩
  have hb := below_step hb1 hb2 hb1.size
  go_wp2_with (go_at_call 64; (first | (with_reducible (refine (first_any _ _ _ _ _ _ (reads2 _ _ _ _) (by omega)).mono ?_)) | (with_reducible (refine (first_any _ _ _ _ _ _ (Reads.drew (reads2 _ _ _ _)) (by omega)).mono ?_))); rintro e W' ⟨rfl, rfl⟩)
  go_ret2
  exact ⟨rfl, (by repeat (first | exact hb | exact Below.refl _ _ | refine Below.drew ?_ | refine below_drewN ?_ _ | refine below_set ?_ (by omega) _ | refine below_new ?_ (by omega) _))⟩

theorem madeN (m : Nat) : madeCells #[.int .i64 0] m = (ints (List.replicate m 0)).toArray := made_eq m
theorem splice_all (m : Nat) {xs : List Int} (h : xs.length = m) : splice (ints (List.replicate m 0)) 0 (ints xs) = ints xs := by
  unfold splice
  simp [ints, h]

set_option maxHeartbeats 1000000 in
theorem Cascade_ok (A : Option Addr) (n c : Nat) (l : List Sec) (A1 : Option Addr) (m c1 : Nat) (xs : List Int) (w : World) (hn : n ≤ 1000000000000) (hm : m ≤ 1000000000000)
    (h : Reads w w.heap.size 6 A n (secs l)) (hR : Reads w w.heap.size 1 A1 m (ints xs)) (he : cascErr l xs = 0) :
    Calls Tryd.prog 54 #[.slice A n c, .slice A1 m c1] w fun e w' => ∃ A' c', e = .returned (.tuple #[.slice A' m c', .int .i64 0]) ∧ Reads w' w'.heap.size 1 A' m (ints (casc l xs)) ∧ Below w.heap.size w w' := by
  have ht : (fnz [secErr l, sigErr xs] != 0) = false := by rw [show fnz [secErr l, sigErr xs] = 0 from he]; rfl
  obtain ⟨h1, h2⟩ := fnz2_zero he
  have HS := hide (secErr_ok h1).2
  have HX := hide (sigErr_ok h2).2
  have HL := hide (secs_reads_len h)
  have HM := hide (reads_len hR)
  clear h1 h2 he
  have hmk := run_make_row' (P := Tryd.prog) 26 3 (.int .i64 0) 8 Tryd.underlying26 info_int rfl .i64 .i64 m (by omega) (by omega)
  have hm' : (0 : Int) ≤ (m : Int) := by omega
  go_enter Tryd.func54, Tryd.ntmps54
  go_wp2_with fail
  refine (checkSections_any A n c l _ h hn).mono ?_
  rintro e w1 ⟨rfl, hb1⟩
  have hr := carry' hR hb1
  have hs := carry' h hb1
  have HH := hide h
  clear h hR
  go_wp2_with fail
  refine (checkSignal_any A1 m c1 xs _ hr hm).mono ?_
  rintro e w2 ⟨rfl, hb2⟩
  have hb := below_step hb1 hb2 hb1.size
  have hr2 := carry' hr hb2
  have hs2 := carry' hs hb2
  clear hr hs hb1 hb2
  go_upto_region 5 with (go_at_call 64; (first | (with_reducible (refine (first_any _ _ _ _ _ _ (reads2 _ _ _ _) (by omega)).mono ?_)) | (with_reducible (refine (first_any _ _ _ _ _ _ (Reads.drew (reads2 _ _ _ _)) (by omega)).mono ?_))); rintro e W' ⟨rfl, rfl⟩)
  obtain ⟨w3, e3, hb3, hz3, _, k3⟩ := box2 w2 #[.int .i64 (secErr l), .int .i64 (sigErr xs)] (madeCells #[.int .i64 0] m) 29 3
  rw [← e3]; clear e3 hmk
  rw [made_eq] at k3
  have hr3 := carry' hr2 hb3
  have hs3 := carry' hs2 hb3
  have hb4 := below_step hb hb3 hb.size
  have hmin : (ints xs).length = Nat.min m m := by rw [ints_len, HM.out]; simp
  have hlen : m ≤ (ints (List.replicate m 0)).length := by simp [ints]
  have hgk := k3
  have hpos : 0 < (ints xs).length → ∃ ad, A1 = some ad ∧ ∀ j v, (ints xs)[j]? = some v → w3.cell? (ad.add j) = some v := by
    intro hp
    obtain ⟨ad, q1, _, q3⟩ := hr3.2 (by rw [ints_len, HM.out] at hp; exact hp)
    exact ⟨ad, q1, q3⟩
  have hfit : 0 + (ints xs).length ≤ (ints (List.replicate m 0)).length := by rw [ints_len, HM.out]; simpa using hlen
  have HP := hide hpos; clear hpos
  have HMIN := hide hmin; clear hmin
  have HFIT := hide hfit; clear hfit hlen
  have hle : w.heap.size ≤ w2.heap.size + 1 := by have := hb.size; omega
  clear hr2 hs2
  go_wp2_with (refine wpList_copy_splice (o := ⟨some 24, _, _, _, _, _⟩) rfl (.tmp 22) (.tmp 23) 26 26 rfl 3 Tryd.underlying26 (by kernel_rfl) (some ⟨w2.heap.size + 1, 0, none⟩) A1 m m m c1 (by rfl) (by rfl) (w2.heap.size + 1) 0 (ints (List.replicate m 0)) 3 hgk (ints xs) HMIN.out (fun hp => ⟨rfl, HP.out hp⟩) HFIT.out (ints_one _) w.heap.size w hb4 hle ?_; intro w4 hg4 hb5)
  have k4 : Blk w4 (w2.heap.size + 1) 3 (ints xs).toArray := by
    have := hg4.out
    rw [splice_all m HM.out] at this
    exact this
  have r4 : Reads w4 w4.heap.size 1 (some ⟨w2.heap.size + 1, 0, none⟩) m (ints xs) := by
    have := reads_block (n := m) (xs := xs) k4 (Nat.le_of_eq HM.out.symm) k4.lt
    rwa [List.take_of_length_le (Nat.le_of_eq HM.out)] at this
  have h4 := carry' HH.out hb5
  clear hg4 k4 hgk k3 hr3 hs3 hb4 HP HMIN HFIT
  go_wp2
  go_loopw [7, 27] (fun v i wr => ∃ k : Nat, k ≤ n ∧ i = .int .i64 k ∧ Below w.heap.size w wr ∧ ∃ A2 c2, v = .slice A2 m c2 ∧ Reads wr wr.heap.size 1 A2 m (ints (casc (l.take k) xs))) (fun _ i _ => n - (intOf i).toNat)
  case atStart => exact ⟨0, by omega, rfl, hb5, _, _, rfl, r4⟩
  case round =>
    obtain ⟨k, hk, rfl, hbw, A2, c2, rfl, r2⟩ := hrel
    by_cases hlt : k < n
    · obtain ⟨ad, s, rfl, _, hg, hc⟩ := secs_hit (carry' HH.out hbw) hlt (Nat.le_refl _)
      have hso := HS.out s (List.mem_of_getElem? hg)
      have HG := hide hg; clear hg
      obtain ⟨d0, d1, d2, d3, d4, d5⟩ := hc wr (Below.refl _ _)
      clear hc h4
      go_wp2_with fail
      obtain ⟨wa, ea, hba, hza, ka⟩ := box1 wr #[.int .i64 s.b0, .int .i64 s.b1, .int .i64 s.b2, .int .i64 s.a1, .int .i64 s.a2, .int .i64 s.sh] 32
      rw [← ea]; clear ea
      have ra := carry' r2 hba
      refine (from_any s St.zero _ m _ (casc (l.take k) xs) _ hso zero_ok (casc_bd _ HX.out) (by omega) ra).mono ?_
      rintro e w3 ⟨v, rfl, ho, hb3⟩
      obtain ⟨A3, c3, rfl, r3⟩ := own_slice ho
      have hbn := below_step (below_step hbw hba hbw.size) hb3 (Nat.le_trans hbw.size hba.size)
      clear d0 d1 d2 d3 d4 d5 ho hba hb3
      go_wp2
      go_roundw
      case rel => exact ⟨k + 1, by omega, by go_num, hbn, _, _, rfl, by rw [casc_succ HG.out]; exact r3⟩
      case measure => simp [intOf]; omega
    · go_wp2
      go_ret2
      obtain rfl : k = n := by omega
      rw [List.take_of_length_le (by rw [HL.out]; omega)] at r2
      exact ⟨_, _, rfl, r2, hbw⟩
end Go.Proofs.YtlaaajkehjoffaaDoor
