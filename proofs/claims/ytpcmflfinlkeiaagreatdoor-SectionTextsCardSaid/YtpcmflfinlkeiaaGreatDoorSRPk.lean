/- The reference's section, Pack, Unpack; told; SameSections. -/
import Derived.Test.YtpcmflfinlkeiaaGreatDoorSRTxt
import Derived.Test.YtpcmflfinlkeiaaGreatDoorSPrs
import Derived.Test.YtpcmflfinlkeiaaGreatDoorSTxtP
import Derived.Test.YtpcmflfinlkeiaaGreatDoorSplitD
namespace Go.Proofs.YtpcmflfinlkeiaaGreatDoor
open Go.RowKit Go.Shelf
set_option maxRecDepth 100000
theorem info_secR : (Tryz.prog.info? 50).map (fun i => (i.zero, i.size, i.bytes)) = some (some (.agg #[.int .i64 0, .int .i64 0, .int .i64 0, .int .i64 0, .int .i64 0, .int .i64 0]), 6, 48) := by kernel_rfl
theorem ints_six (s : Sec) : ints (six s) = secCells s := rfl
theorem ints_pack (l : List Sec) : ints (pack l) = secs l := by
  induction l with
  | nil => rfl
  | cons s l ih =>
    show (six s ++ pack l).map _ = secCells s ++ secs l
    rw [List.map_append]
    exact congrArg (secCells s ++ ·) ih
theorem pack_snoc {l : List Sec} {k : Nat} {x : Sec} (h : l[k]? = some x) : pack (l.take (k + 1)) = pack (l.take k) ++ six x := by
  rw [List.take_add_one, h]; simp [pack]
theorem pack_unpk : ∀ {m : Nat} {xs : List Int}, xs.length = m * 6 → pack (unpk xs) = xs
  | 0, xs, h => by
    obtain rfl : xs = [] := List.eq_nil_of_length_eq_zero (by omega)
    rfl
  | m + 1, xs, h => by
    match xs, h with
    | a :: b :: c :: d :: e :: f :: r, h =>
      have := pack_unpk (m := m) (xs := r) (by simp at h; omega)
      show six _ ++ pack (unpk r) = _
      rw [this]; rfl
    | [], h => exfalso; simp only [List.length_nil] at h; omega
    | [_], h => exfalso; simp only [List.length_cons, List.length_nil] at h; omega
    | [_, _], h => exfalso; simp only [List.length_cons, List.length_nil] at h; omega
    | [_, _, _], h => exfalso; simp only [List.length_cons, List.length_nil] at h; omega
    | [_, _, _, _], h => exfalso; simp only [List.length_cons, List.length_nil] at h; omega
    | [_, _, _, _, _], h => exfalso; simp only [List.length_cons, List.length_nil] at h; omega
theorem unpk_len {m : Nat} {xs : List Int} (h : xs.length = m * 6) : (unpk xs).length = m := by
  have h1 := pack_len (unpk xs)
  rw [pack_unpk h] at h1
  omega
theorem upk_long {xs : List Int} (h : 48 < xs.length) : upk xs = ([], 5) := by unfold upk; rw [if_pos h]
theorem upk_odd {xs : List Int} (h : ¬ 48 < xs.length) (h2 : xs.length % 6 ≠ 0) : upk xs = ([], 2) := by unfold upk; rw [if_neg h, if_pos h2]
theorem upk_good {xs : List Int} (h : ¬ 48 < xs.length) (h2 : xs.length % 6 = 0) (h3 : secErr (unpk xs) = 0) : upk xs = (unpk xs, 0) := by unfold upk; rw [if_neg h, if_neg (by omega), if_pos h3]
theorem upk_bad {xs : List Int} (h : ¬ 48 < xs.length) (h2 : xs.length % 6 = 0) (h3 : ¬ secErr (unpk xs) = 0) : upk xs = ([], secErr (unpk xs)) := by unfold upk; rw [if_neg h, if_neg (by omega), if_neg h3]
/-- The six numbers of a section in a packed list. -/
theorem six_reads {w : World} {B n k : Nat} {ad : Addr} {l : List Sec} {s : Sec} (h : Reads w B 1 (some ad) n (ints (pack l))) (hs : l[k]? = some s) : Reads w B 1 (some (ad.add (k * 6))) 6 (ints (six s)) := by
  have hk := (List.getElem?_eq_some_iff.1 hs).1
  have hn := reads_len h
  rw [pack_len] at hn
  obtain ⟨ad', he, hb, hc⟩ := h.2 (by omega)
  obtain rfl := Option.some.inj he
  refine ⟨rfl, fun _ => ⟨_, rfl, by rw [block_of_add]; exact hb, fun j u hu => ?_⟩⟩
  have hj : j < 6 := by
    have := (List.getElem?_eq_some_iff.1 hu).1
    simpa [ints, six] using this
  rw [add_of_add]
  exact hc (k * 6 + j) u (by rw [ints_pack, secs_at hs hj]; exact hu)
set_option maxHeartbeats 4000000 in
theorem rSection_any (ad : Addr) (c : Nat) (s : Sec) (w : World) (h : Reads w w.heap.size 1 (some ad) 6 (ints (six s))) :
    Calls Tryz.prog 52 #[.slice (some ad) 6 c] w fun e w' => e = .returned (.agg #[.int .i64 s.b0, .int .i64 s.b1, .int .i64 s.b2, .int .i64 s.a1, .int .i64 s.a2, .int .i64 s.sh]) ∧ Below w.heap.size w w' := by
  obtain ⟨ad', he, had, hc⟩ := h.2 (by omega)
  obtain rfl := Option.some.inj he
  have z0 : ad.add 0 = ad := by unfold Addr.add; rfl
  have q0 := hc 0 _ rfl
  have q1 := hc 1 _ rfl
  have q2 := hc 2 _ rfl
  have q3 := hc 3 _ rfl
  have q4 := hc 4 _ rfl
  have q5 := hc 5 _ rfl
  rw [z0] at q0
  clear h hc z0 he
  go_enter Tryz.func52, Tryz.ntmps52
  go_upto_region 1 with (fail)
  obtain ⟨w1, e1, hb1, hz1, kR⟩ := box1 w #[.int .i64 0, .int .i64 0, .int .i64 0, .int .i64 0, .int .i64 0, .int .i64 0] 50
  rw [← e1]; clear e1
  refine wp_region_chainE [true, true, true, true, true, true, true, true, true, true, true, true, true, true, true, true, true, true, true, false] (fun W => Apart w.heap.size w1 W) (fun _ _ h hb => h.below hb) (Apart.refl _ _) (by kernel_rfl) (by kernel_rfl) (by kernel_rfl) ?_
  apply Exists.intro
  refine ⟨fun W0 hW0 => ?_, fun W hW => ?_⟩
  · have hB0 : Below w.heap.size w W0 := hW0.to hb1 (Nat.le_refl _) hb1.size
    have d0 : ∀ x, (over W0.heap.size W0 x).cell? ad = _ := fun x => ((below_step hB0 (over_below W0.heap.size W0 x) hB0.size).cell had).trans q0
    have d1 : ∀ x, (over W0.heap.size W0 x).cell? (ad.add 1) = _ := fun x => ((below_step hB0 (over_below W0.heap.size W0 x) hB0.size).cell (by rw [block_of_add]; exact had)).trans q1
    have d2 : ∀ x, (over W0.heap.size W0 x).cell? (ad.add 2) = _ := fun x => ((below_step hB0 (over_below W0.heap.size W0 x) hB0.size).cell (by rw [block_of_add]; exact had)).trans q2
    have d3 : ∀ x, (over W0.heap.size W0 x).cell? (ad.add 3) = _ := fun x => ((below_step hB0 (over_below W0.heap.size W0 x) hB0.size).cell (by rw [block_of_add]; exact had)).trans q3
    have d4 : ∀ x, (over W0.heap.size W0 x).cell? (ad.add 4) = _ := fun x => ((below_step hB0 (over_below W0.heap.size W0 x) hB0.size).cell (by rw [block_of_add]; exact had)).trans q4
    have d5 : ∀ x, (over W0.heap.size W0 x).cell? (ad.add 5) = _ := fun x => ((below_step hB0 (over_below W0.heap.size W0 x) hB0.size).cell (by rw [block_of_add]; exact had)).trans q5
    rw [← add_off ad 1 (by decide)] at d1
    rw [← add_off ad 2 (by decide)] at d2
    rw [← add_off ad 3 (by decide)] at d3
    rw [← add_off ad 4 (by decide)] at d4
    rw [← add_off ad 5 (by decide)] at d5
    simp only [selT]
    (repeat (first | go_big_quiet_step (fail) | quiet_step (fail)))
    refine wpQuiet_nil ?_
    rfl
  · simp only [selF]
    refine chainD_cons ?_
    have kRW := carryB kR hW
    have cR := kRW.cell
    have fR := kRW.frozen
    have aW := (Apart.refl w.heap.size w1).below hW
    go_wp2_with fail
    with_reducible refine finA6 50 aW kRW ?_
    intro X aX kX
    refine LinkD.go rfl aX (fun W2 hW2 => ?_)
    refine chainD_nil ?_
    have hX := (aX.below hW2).to hb1 (Nat.le_refl _) hb1.size
    have cX := (carryB kX hW2).cell
    refine ‹∀ (a : Act) (w : World), Code.wp Tryz.prog Code.ret _ a w → _› _ _ ?_
    go_wp2_with fail
    refine bodyPost_ret (v := .agg #[.int .i64 s.b0, .int .i64 s.b1, .int .i64 s.b2, .int .i64 s.a1, .int .i64 s.a2, .int .i64 s.sh]) (by simp [results, Tryz.results52, go_sem, cX]) rfl ?_
    exact ⟨rfl, hX⟩
set_option maxHeartbeats 4000000 in
theorem rPack_any (A : Option Addr) (n c : Nat) (l : List Sec) (w : World) (h : Reads w w.heap.size 6 A n (secs l)) (hn : n ≤ 1000000) :
    Calls Tryz.prog 13 #[.slice A n c] w fun e w' => ∃ v, e = .returned v ∧ w'.ownsRow w.heap.size 3 1 v (n * 6) (ints (pack l)) ∧ Below w.heap.size w w' := by
  obtain ⟨i, hi, hz, hsize, hby⟩ := info_parts info_int
  have hl := secs_reads_len h
  have HL := hide hl; clear hl
  go_enter Tryz.func13, Tryz.ntmps13
  go_wp2_with fail
  go_loopw [3, 4] (fun v i wr => ∃ k : Nat, k ≤ n ∧ i = .int .i64 k ∧ wr.ownsRow w.heap.size 3 1 v (k * 6) (ints (pack (l.take k))) ∧ Below w.heap.size w wr) (fun _ i _ => n - (intOf i).toNat)
  case atStart => exact ⟨0, by omega, rfl, by simp [ints, pack, World.ownsRow_nil], Below.refl _ _⟩
  case round =>
    rename World => wr
    obtain ⟨k, hk, rfl, ho, hb⟩ := hrel
    by_cases hlt : k < n
    · have hr := h.below hb
      obtain ⟨ad, s, rfl, _, hx, hc⟩ := secs_hit hr hlt hb.size
      have HX := hide hx; clear hx
      have hsz := hb.size
      obtain ⟨d0, d1, d2, d3, d4, d5⟩ := hc wr (Below.refl _ _)
      clear h hr hc
      go_wp2_with fail
      refine (rNumbers_any s _).mono ?_
      rintro e w2 ⟨g, rfl, hg, kN, hb2⟩
      have ho2 := row_below ho hb2
      have hbb := below_step hb hb2 hsz
      have hR2 : Reads w2 w2.heap.size 1 (some ⟨g, 0, none⟩) 6 (ints (six s)) := reads_block (xs := six s) kN (Nat.le_refl _) kN.lt
      have A1 : k * 6 + 6 ≤ maxLen := by unfold maxLen; omega
      have A2 : (k * 6 + 6) * 8 ≤ 140737488355328 := by omega
      have hzq := hbb.size
      clear ho hb hb2 d0 d1 d2 d3 d4 d5 kN
      go_wp2_with (at_builtin; refine wpList_append_any _ rfl (.tmp 11) (.tmp 16) _ rfl w.heap.size 3 i (.int .i64 0) 1 8 Tryz.underlying23 hi hz hsize hby rfl (by decide) _ (k * 6) _ rfl ho2 w2.heap.size (some ⟨g, 0, none⟩) 6 6 (ints (six s)) rfl hR2 (ints_one _) A1 A2 hzq ?_; intro v1 w3 ho3 hg3 hq3)
      have hb3 := hbb.grown hg3 hzq fun k hk => (ho2.lt k hk).1
      go_wp2_with fail
      go_roundw
      case rel =>
        refine ⟨k + 1, by omega, by go_num, ?_, hb3⟩
        rw [pack_snoc HX.out, show (k + 1) * 6 = k * 6 + 6 by omega]
        have e1 : ints (pack (List.take k l) ++ six s) = ints (pack (List.take k l)) ++ ints (six s) := by simp [ints]
        rw [e1]
        exact ho3
      case measure => simp [intOf]; omega
    · obtain rfl : k = n := by omega
      go_wp2_with fail
      go_ret
      rw [List.take_of_length_le (by rw [HL.out]; omega)] at ho
      exact ⟨_, rfl, ho, hb⟩
set_option maxHeartbeats 4000000 in
theorem rUnpack_any (A : Option Addr) (n c : Nat) (xs : List Int) (w : World) (h : Reads w w.heap.size 1 A n (ints xs)) (hn : n ≤ 54) (hcap : n ≤ c) (hc2 : c ≤ 9223372036854775807) :
    Calls Tryz.prog 15 #[.slice A n c] w fun e w' => ∃ A' c', e = .returned (.tuple #[.slice A' (upk xs).1.length c', .int .i64 (upk xs).2]) ∧ Reads w' w'.heap.size 6 A' (upk xs).1.length (secs (upk xs).1) ∧ Below w.heap.size w w' := by
  have hl := reads_len h
  by_cases h1 : 48 < n
  · have HB := hide (upk_long (xs := xs) (by omega))
    have g1 : (48 : Int) < (n : Int) := by omega
    clear h hl
    go_enter Tryz.func15, Tryz.ntmps15
    go_wp2_with fail
    go_ret2
    refine ⟨none, 0, by rw [HB.out]; rfl, by rw [HB.out]; exact Reads.none_, Below.refl _ _⟩
  · have g1 : ¬ (48 : Int) < (n : Int) := by omega
    by_cases h2 : n % 6 = 0
    · obtain ⟨m, rfl⟩ : ∃ m, n = m * 6 := ⟨n / 6, by omega⟩
      obtain ⟨l, hL⟩ : ∃ l, l = unpk xs := ⟨_, rfl⟩
      have hp : pack l = xs := by rw [hL]; exact pack_unpk hl
      have hlm : l.length = m := by rw [hL]; exact unpk_len hl
      rw [← hp] at h
      have HU : Hid (secErr l = 0 → upk xs = (l, 0)) := fun h3 => by rw [hL] at h3 ⊢; exact upk_good (by omega) (by omega) h3
      have HV : Hid (¬ secErr l = 0 → upk xs = ([], secErr l)) := fun h3 => by rw [hL] at h3 ⊢; exact upk_bad (by omega) (by omega) h3
      have HLM := hide hlm
      have t2 : ((((m * 6 : Nat) : Int).tmod 6) != 0) = false := by
        have : ((m * 6 : Nat) : Int).tmod 6 = ((m * 6 % 6 : Nat) : Int) := rfl
        rw [this]; simp
      clear hL hp hlm hl h2
      go_enter Tryz.func15, Tryz.ntmps15
      go_wp2_with fail
      go_loopw [4, 5] (fun v i wr => ∃ k : Nat, k ≤ m ∧ i = .int .i64 ((k * 6 : Nat) : Int) ∧ wr.ownsRow w.heap.size 50 6 v k (secs (l.take k)) ∧ Below w.heap.size w wr) (fun _ i _ => m * 6 - (intOf i).toNat)
      case atStart => exact ⟨0, by omega, rfl, by simp [secs, World.ownsRow_nil], Below.refl _ _⟩
      case round =>
        rename World => wr
        obtain ⟨k, hk, rfl, ho, hb⟩ := hrel
        by_cases hlt : k < m
        · obtain ⟨s, hs⟩ : ∃ s, l[k]? = some s := ⟨_, List.getElem?_eq_getElem (by rw [HLM.out]; exact hlt)⟩
          have hr := carryR h hb
          obtain ⟨ad, rfl, _, _⟩ := hr.2 (by omega)
          have hr6 := six_reads hr hs
          have HX := hide hs; clear hs
          have hsz := hb.size
          have A1 : k + 1 ≤ maxLen := by unfold maxLen; omega
          have A2 : (k + 1) * 48 ≤ 140737488355328 := by omega
          have t3 : decide (((k * 6 : Nat) : Int) < ((m * 6 : Nat) : Int)) = true := decide_eq_true (by omega)
          have b0 : k * 6 + 6 ≤ c := by omega
          have b1 : k * 6 ≤ k * 6 + 6 := by omega
          clear h hr
          go_wp2_with fail
          refine (rSection_any (ad.add (k * 6)) _ s _ hr6).mono ?_
          rintro e w2 ⟨rfl, hb2⟩
          have ho2 := row_below ho hb2
          have hbb := below_step hb hb2 hsz
          clear ho hb hb2
          go_wp2_with (at_builtin; refine wpList_push _ rfl (.tmp 20) (.tmp 27) _ rfl w.heap.size 50 _ 6 48 Tryz.underlying22 info_secR rfl (by decide) _ k _ rfl (ho2.alloc _) w2.heap.size (secCells s) rfl rfl (cells_new w2 (secCells s) _) (one_sec _) A1 A2 (le_alloc hbb.size _) ?_; intro v1 w3 ho3 hb3)
          go_wp2_with fail
          go_roundw
          case rel => exact ⟨k + 1, by omega, by go_num, by rw [secs_take_succ HX.out]; exact ho3, (hbb.alloc hbb.size _).trans hb3⟩
          case measure => simp [intOf]; omega
        · obtain rfl : k = m := by omega
          rw [List.take_of_length_le (by rw [HLM.out]; omega)] at ho
          obtain ⟨A', c', rfl, hr⟩ := own_slice ho
          have hsz := hb.size
          have t3 : decide (((k * 6 : Nat) : Int) < ((k * 6 : Nat) : Int)) = false := decide_eq_false (by omega)
          go_wp2_with fail
          refine (rCheckSections_any A' k c' l _ hr (by omega)).mono ?_
          rintro e w2 ⟨rfl, hb2⟩
          have hbb := below_step hb hb2 hsz
          have hr2 := carryR hr hb2
          by_cases h0 : secErr l = 0
          · have HB := hide (HU.out h0)
            have t4 : (secErr l != 0) = false := by rw [h0]; rfl
            clear ho hr
            go_wp2_with fail
            go_ret2
            exact ⟨A', c', by rw [HB.out, HLM.out]; rfl, by rw [HB.out]; show Reads _ _ 6 _ l.length _; rw [HLM.out]; exact hr2, hbb⟩
          · have HB := hide (HV.out h0)
            have t4 : (secErr l != 0) = true := by simpa using h0
            clear ho hr
            go_wp2_with fail
            go_ret2
            exact ⟨none, 0, by rw [HB.out]; rfl, by rw [HB.out]; exact Reads.none_, hbb⟩
    · have HB := hide (upk_odd (xs := xs) (by omega) (by omega))
      have t2 : (((n : Int).tmod 6) != 0) = true := by
        have : (n : Int).tmod 6 = ((n % 6 : Nat) : Int) := rfl
        rw [this]; simp; omega
      clear h hl
      go_enter Tryz.func15, Tryz.ntmps15
      go_wp2_with fail
      go_ret2
      first
        | exact ⟨none, 0, by rw [HB.out]; rfl, by rw [HB.out]; exact Reads.none_, Below.refl _ _⟩
        | exact ⟨none, ⟨0, by rw [HB.out]; rfl⟩, by rw [HB.out]; exact Reads.none_, Below.refl _ _⟩
end Go.Proofs.YtpcmflfinlkeiaaGreatDoor
