/- Convolve of the program. -/
import Derived.Test.YthlnmoecmicofaaDoorNConv
namespace Go.Proofs.YthlnmoecmicofaaDoor
open Go.RowKit Go.Shelf
set_option maxRecDepth 100000
set_option maxHeartbeats 400000 in
/-- mapped, at a function of numbers that leaves memory alone. -/
theorem sMapped_any (f : Nat) (g : Int → Int) (hcf : ∀ a W, Sem.run Tryd.prog (callFunc f #[a]) W = .ok (.enter f #[a]) W) (hf : ∀ x W, Calls Tryd.prog f #[.int .i64 x] W fun r W' => r = .returned (.int .i64 (g x)) ∧ W = W')
    (A : Option Addr) (n c : Nat) (xs : List Int) (w : World) (h : Reads w w.heap.size 1 A n (ints xs)) (hn : n ≤ 1000000000000) :
    Calls Tryd.prog 105 #[.slice A n c, .func (.func f) #[] #[]] w fun r w' => ∃ A' c', r = .returned (.slice A' n c') ∧ Reads w' w'.heap.size 1 A' n (ints (xs.map g)) ∧ Below w.heap.size w w' := by
  have hl := reads_len h
  have HL := hide hl; clear hl
  have HF := hide hf; clear hf
  go_enter Tryd.func105, Tryd.ntmps105
  go_wp2
  go_loopw [5, 10] (fun v i wr => ∃ k : Nat, k ≤ n ∧ i = .int .i64 k ∧ wr.ownsRow w.heap.size 33 1 v k (ints ((xs.take k).map g)) ∧ Below w.heap.size w wr) (fun _ i _ => n - (intOf i).toNat)
  case atStart => exact ⟨0, by omega, rfl, by simp [ints, World.ownsRow_nil], Below.refl _ _⟩
  case round =>
    obtain ⟨k, hk, rfl, ho, hb⟩ := hrel
    by_cases hlt : k < n
    · have hr := h.below hb
      obtain ⟨ad, x, rfl, _, hx, hc⟩ := reads_at hr hlt
      have HX := hide hx; clear hx
      have hsz := hb.size
      have A1 : k + 1 ≤ maxLen := by unfold maxLen; omega
      have A2 : (k + 1) * 8 ≤ 140737488355328 := by omega
      clear h hr
      go_wp2_with fail
      refine (HF.out x _).mono ?_
      rintro e w' ⟨rfl, rfl⟩
      go_wp2_with (at_builtin; refine wpList_push _ rfl (.tmp 14) (.tmp 18) _ rfl w.heap.size 33 (.int .i64 0) 1 8 Tryd.underlying126 info_errno rfl (by decide) _ k _ rfl (ho.alloc _) wr.heap.size [.int .i64 (g x)] rfl rfl (cell_new1 _ _ _) (one_int _) A1 A2 (le_alloc hsz _) ?_; intro v1 w1 ho1 hb1)
      exact ⟨⟨k + 1, by omega, by go_num, by rw [map_snoc g HX.out]; exact ho1, (hb.alloc hsz _).trans hb1⟩, by simp [intOf]; omega⟩
    · go_wp2
      go_ret
      obtain rfl : k = n := by omega
      rw [List.take_of_length_le (by rw [HL.out]; omega)] at ho
      obtain ⟨A', c', rfl, hr⟩ := own_slice ho
      exact ⟨A', c', rfl, hr, hb⟩
theorem siFirst_any (A : Option Addr) (n c B : Nat) (xs : List Int) (w : World) (h : Reads w B 1 A n (ints xs)) (hn : n ≤ 1000000000000) :
    Calls Tryd.prog 93 #[.slice A n c] w fun r w' => r = .returned (.int .i64 (fnz xs)) ∧ w = w' := by
  have hl := reads_len h
  have HL := hide hl; clear hl
  go_enter Tryd.func93, Tryd.ntmps93
  go_wp2
  go_loop [7] (fun i => ∃ k : Nat, k ≤ n ∧ i = .int .i64 k ∧ zeros xs k) (fun i => n - (intOf i).toNat)
  case atStart => exact ⟨0, by omega, rfl, by intro y hy; simp at hy⟩
  case round =>
    obtain ⟨k, hk, rfl, hz⟩ := hrel
    by_cases hlt : k < n
    · obtain ⟨ad, x, rfl, _, hx, hc⟩ := reads_at h hlt
      have HX := hide hx; clear hx
      go_wp2
      · go_ret
        exact ⟨by simp; exact (fnz_hit HX.out hz ‹_›).symm, rfl⟩
      · go_round
        case rel => exact ⟨k + 1, by omega, by go_num, zeros_succ hz HX.out ‹_›⟩
        case measure => simp [intOf]; omega
    · go_wp2
      go_ret
      exact ⟨by simp; exact (zeros_end hz (by rw [HL.out]; omega)).symm, rfl⟩
def lvl (n : Int) : Int := rng n (-1048576) 1048576
def seqErr (l : List Int) : Int := if 4096 < l.length then 5 else fnz (l.map lvl)
theorem checkLevel_any (n : Int) (w : World) :
    Calls Tryd.prog 106 #[.int .i64 n] w fun r w' => r = .returned (.int .i64 (lvl n)) ∧ w = w' := by
  go_enter Tryd.func106, Tryd.ntmps106
  go_wp2_with (go_at_call 108; refine (within_si _ _ _ _).mono ?_; rintro e w' ⟨rfl, rfl⟩)
  go_ret
  exact ⟨rfl, rfl⟩
set_option maxHeartbeats 1000000 in
theorem checkSequence_any (A : Option Addr) (n c : Nat) (xs : List Int) (w : World) (h : Reads w w.heap.size 1 A n (ints xs)) (hn : n ≤ 1000000000000) :
    Calls Tryd.prog 94 #[.slice A n c] w fun r w' => r = .returned (.int .i64 (seqErr xs)) ∧ Below w.heap.size w w' := by
  have HL := hide (reads_len h)
  by_cases hm : 4096 < n
  · have g1 : (4096 : Int) < (n : Int) := by omega
    have he : seqErr xs = 5 := by unfold seqErr; rw [if_pos (by rw [HL.out]; exact hm)]
    have HE := hide he
    clear he
    go_enter Tryd.func94, Tryd.ntmps94
    go_wp2
    go_ret
    exact ⟨by rw [HE.out]; rfl, Below.refl _ _⟩
  · have g1 : ¬ (4096 : Int) < (n : Int) := by omega
    have he : seqErr xs = fnz (xs.map lvl) := by unfold seqErr; rw [if_neg (by rw [HL.out]; exact hm)]
    have HE := hide he
    clear he
    go_enter Tryd.func94, Tryd.ntmps94
    go_wp2_with fail
    refine (sMapped_any 106 lvl (fun _ _ => by kernel_rfl) checkLevel_any A n c xs w h hn).mono ?_
    rintro e w1 ⟨A1, c1, rfl, hr1, hb1⟩
    go_wp2_with (go_at_call 93; refine (siFirst_any _ _ _ _ _ _ hr1 hn).mono ?_; rintro e W' ⟨rfl, rfl⟩)
    go_ret
    exact ⟨by rw [HE.out]; rfl, hb1⟩
theorem convolved_any (A1 : Option Addr) (la c1 : Nat) (a : List Int) (A2 : Option Addr) (lb c2 : Nat) (b : List Int) (w : World) (hla : la ≤ 100000) (hlb : lb ≤ 100000) (hR1 : Reads w w.heap.size 1 A1 la (ints a)) (hR2 : Reads w w.heap.size 1 A2 lb (ints b)) (hs : n1 a * n1 b ≤ 9223372036854775807) :
    Calls Tryd.prog 99 #[.slice A1 la c1, .slice A2 lb c2] w fun e w' => ∃ g c, e = .returned (.slice (some ⟨g, 0, none⟩) (cvLen a b) c) ∧ Reads w' w'.heap.size 1 (some ⟨g, 0, none⟩) (cvLen a b) (ints (cvl a b)) ∧ w.heap.size ≤ g ∧ Below w.heap.size w w' :=
  callsIn_wide.1 (convolved_in 3 (Nat.le_refl _) A1 la c1 a A2 lb c2 b w hla hlb hR1 hR2 hs)
structure CvOk (a b : List Int) : Prop where
  ea : seqErr a = 0
  eb : seqErr b = 0
  ln : cvLen a b ≤ 4096
  ec : seqErr (cvl a b) = 0
  sz : n1 a * n1 b ≤ 9223372036854775807
theorem seq_len {a : List Int} (h : seqErr a = 0) : a.length ≤ 4096 := by
  unfold seqErr at h
  split at h
  · omega
  · omega
set_option maxHeartbeats 1000000 in
theorem convolve_ok (A1 : Option Addr) (la c1 : Nat) (a : List Int) (A2 : Option Addr) (lb c2 : Nat) (b : List Int) (w : World) (hR1 : Reads w w.heap.size 1 A1 la (ints a)) (hR2 : Reads w w.heap.size 1 A2 lb (ints b)) (hk : CvOk a b) :
    Calls Tryd.prog 70 #[.slice A1 la c1, .slice A2 lb c2, .bool false] w fun e w' => ∃ A c, e = .returned (.tuple #[.slice A (cvLen a b) c, .int .i64 0]) ∧ Reads w' w'.heap.size 1 A (cvLen a b) (ints (cvl a b)) ∧ Below w.heap.size w w' := by
  obtain ⟨ea, eb, ln, ec, sz⟩ := hk
  have hla := reads_len hR1
  have hlb := reads_len hR2
  have la4 : la ≤ 100000 := by have := seq_len ea; omega
  have lb4 : lb ≤ 100000 := by have := seq_len eb; omega
  have g1 : ¬ (4096 : Int) < ((cvLen a b : Nat) : Int) := by omega
  have HLA := hide hla
  have HLB := hide hlb
  have EA := hide ea
  have EB := hide eb
  have EC := hide ec
  clear ea eb ec hla hlb
  go_enter Tryd.func70, Tryd.ntmps70
  go_wp2_with fail
  refine (checkSequence_any A1 la c1 a _ hR1 (by omega)).mono ?_
  rintro e w1 ⟨rfl, hb1⟩
  rw [EA.out]
  go_wp2_with fail
  refine (checkSequence_any A2 lb c2 b _ (carry hR2 hb1) (by omega)).mono ?_
  rintro e w2 ⟨rfl, hb2⟩
  rw [EB.out]
  have hbw2 := below_next hb1 hb2
  go_wp2_with fail
  refine (length_any A1 la c1 a A2 lb c2 b HLA.out HLB.out la4 lb4 w2).mono ?_
  rintro e W' ⟨rfl, rfl⟩
  go_upto_region 2 with (first | (go_at_call 95; refine (when_si _ _ _).mono ?_; rintro e W' ⟨rfl, rfl⟩) | (go_at_call 93; (first | (with_reducible (refine (siFirst_any _ _ _ _ _ _ (reads3 _ _ _ _ _) (by omega)).mono ?_)) | (with_reducible (refine (siFirst_any _ _ _ _ _ _ (Reads.drew (reads3 _ _ _ _ _)) (by omega)).mono ?_))); rintro e W' ⟨rfl, rfl⟩))
  obtain ⟨w3, e3, hb3, hz3, _⟩ := box1 w2 #[.int .i64 0, .int .i64 0, .int .i64 0] 33
  rw [← e3]; clear e3
  have hbw3 := below_next hbw2 hb3
  rw [show fnz [0, 0, 0] = 0 from rfl]
  go_wp2_with fail
  refine (convolved_any A1 la c1 a A2 lb c2 b _ la4 lb4 (carry hR1 hbw3) (carry hR2 hbw3) sz).mono ?_
  rintro e w4 ⟨g, c, rfl, hr, hg, hb4⟩
  have hbw4 := below_next hbw3 hb4
  go_wp2_with fail
  refine (checkSequence_any _ _ c (cvl a b) _ hr (by omega)).mono ?_
  rintro e w5 ⟨rfl, hb5⟩
  rw [EC.out]
  have hr5 := carry hr hb5
  have hbw5 := below_next hbw4 hb5
  go_wp2_with fail
  refine bodyPost_ret (v := .tuple #[.slice (some ⟨g, 0, none⟩) (cvLen a b) c, .int .i64 0]) (by simp [results, Tryd.results70, go_sem]) rfl ?_
  exact ⟨_, _, rfl, hr5, hbw5⟩
theorem Convolve_ok (A1 : Option Addr) (la c1 : Nat) (a : List Int) (A2 : Option Addr) (lb c2 : Nat) (b : List Int) (w : World) (hR1 : Reads w w.heap.size 1 A1 la (ints a)) (hR2 : Reads w w.heap.size 1 A2 lb (ints b)) (hk : CvOk a b) :
    Calls Tryd.prog 38 #[.slice A1 la c1, .slice A2 lb c2] w fun e w' => ∃ A c, e = .returned (.tuple #[.slice A (cvLen a b) c, .int .i64 0]) ∧ Reads w' w'.heap.size 1 A (cvLen a b) (ints (cvl a b)) ∧ Below w.heap.size w w' := by
  go_enter Tryd.func38, Tryd.ntmps38
  go_wp2_with fail
  refine (convolve_ok A1 la c1 a A2 lb c2 b _ hR1 hR2 hk).mono ?_
  rintro e w1 ⟨A, c, rfl, hr, hb⟩
  go_wp2_with fail
  refine bodyPost_ret (v := .tuple #[.slice A (cvLen a b) c, .int .i64 0]) (by simp [results, Tryd.results38, go_sem]) rfl ?_
  exact ⟨_, _, rfl, hr, hb⟩
end Go.Proofs.YthlnmoecmicofaaDoor
