/- The program's Unpack. -/
import Derived.Test.YtpcmflfinlkeiaaGreatDoorSRPk
import Derived.Test.YtpcmflfinlkeiaaGreatDoorDelay
namespace Go.Proofs.YtpcmflfinlkeiaaGreatDoor
open Go.RowKit Go.Shelf
set_option maxRecDepth 100000
/-- What Unpack says. -/
def UpPost (xs : List Int) (w : World) (e : Ending) (w' : World) : Prop := ∃ A' c', e = .returned (.tuple #[.slice A' (upk xs).1.length c', .int .i64 (upk xs).2]) ∧ Reads w' w'.heap.size 6 A' (upk xs).1.length (secs (upk xs).1) ∧ Below w.heap.size w w'
theorem upPost_bad {xs : List Int} {w w' : World} {e : Ending} {E : Int} (h : upk xs = ([], E)) (he : e = .returned (.tuple #[.slice none 0 0, .int .i64 E])) (hb : Below w.heap.size w w') : UpPost xs w e w' := by
  unfold UpPost
  rw [h]
  exact ⟨none, 0, he, Reads.none_, hb⟩
theorem upPost_ok {xs : List Int} {w w' : World} {e : Ending} {L : List Sec} {n c : Nat} {A : Option Addr} (h : upk xs = (L, 0)) (hn : L.length = n) (he : e = .returned (.tuple #[.slice A n c, .int .i64 0])) (hR : Reads w' w'.heap.size 6 A n (secs L)) (hb : Below w.heap.size w w') : UpPost xs w e w' := by
  unfold UpPost
  rw [h]
  simp only
  rw [hn]
  exact ⟨A, c, he, hR, hb⟩
set_option maxHeartbeats 4000000 in
theorem Unpack_tot (A : Option Addr) (n c : Nat) (xs : List Int) (w : World) (h : Reads w w.heap.size 1 A n (ints xs)) (hn : n ≤ 1000000) (hcap : n ≤ c) (hc2 : c ≤ 9223372036854775807) :
    Calls Tryz.prog 8 #[.slice A n c] w (UpPost xs w) := by
  have hl := reads_len h
  by_cases h1 : 48 < n
  · have HB := hide (upk_long (xs := xs) (by omega))
    have g1 : (48 : Int) < (n : Int) := by omega
    have hf : fnz [5, if (n : Int) % 6 = 0 then 0 else 2] = 5 := by split <;> rfl
    have HF := hide hf
    clear h hl hf
    go_enter Tryz.func8, Tryz.ntmps8
    go_upto_region 2 with (first | (go_at_call 39; refine (when_any _ _ _).mono ?_; rintro e W' ⟨rfl, rfl⟩) | (go_at_call 38; (first | (with_reducible (refine (first_any _ _ _ _ _ _ (reads2 _ _ _ _) (by omega)).mono ?_)) | (with_reducible (refine (first_any _ _ _ _ _ _ (Reads.drew (reads2 _ _ _ _)) (by omega)).mono ?_))); rintro e W' ⟨rfl, rfl⟩))
    obtain ⟨w1, e1, hb1, hz1, _⟩ := box1 w #[.int .i64 5, .int .i64 (if (n : Int) % 6 = 0 then 0 else 2)] 25
    rw [← e1]; clear e1
    rw [HF.out]
    go_wp2_with fail
    all_goals
      go_ret2
      exact upPost_bad HB.out rfl hb1
  · have g1 : ¬ (48 : Int) < (n : Int) := by omega
    by_cases h2 : n % 6 = 0
    · obtain ⟨m, rfl⟩ : ∃ m, n = m * 6 := ⟨n / 6, by omega⟩
      obtain ⟨l, hL⟩ : ∃ l, l = unpk xs := ⟨_, rfl⟩
      have hp : pack l = xs := by rw [hL]; exact pack_unpk hl
      have hlm : l.length = m := by rw [hL]; exact unpk_len hl
      rw [← hp] at h
      have HU : Hid (secErr l = 0 → upk xs = (l, 0)) := fun h3 => by rw [hL] at h3 ⊢; exact upk_good (by omega) (by omega) h3
      have HV : Hid (¬ secErr l = 0 → upk xs = ([], secErr l)) := fun h3 => by rw [hL] at h3 ⊢; exact upk_bad (by omega) (by omega) h3
      have HLM := hide hlm
      have t2 : ((((m * 6 : Nat) : Int).tmod 6) != 0) = false := by
        have : ((m * 6 : Nat) : Int).tmod 6 = ((m * 6 % 6 : Nat) : Int) := rfl
        rw [this]; simp
      have hat : ∀ a c w, (Instr.arrayAt 79 (.slice a 6 c)).run Tryz.prog w = .ok (.pointer a) w := fun a c w => run_arrayAt w 79 _ 6 a 6 c Tryz.underlying79 (by decide)
      have hIN := h
      clear hL hp hlm hl h2 h
      go_enter Tryz.func8, Tryz.ntmps8
      go_upto_region 2 with (first | (go_at_call 39; refine (when_any _ _ _).mono ?_; rintro e W' ⟨rfl, rfl⟩) | (go_at_call 38; (first | (with_reducible (refine (first_any _ _ _ _ _ _ (reads2 _ _ _ _) (by omega)).mono ?_)) | (with_reducible (refine (first_any _ _ _ _ _ _ (Reads.drew (reads2 _ _ _ _)) (by omega)).mono ?_))); rintro e W' ⟨rfl, rfl⟩))
      obtain ⟨w1, e1, hb1, hz1, _⟩ := box1 w #[.int .i64 0, .int .i64 0] 25
      rw [← e1]; clear e1
      rw [show fnz [0, 0] = 0 from rfl]
      go_wp2_with fail
      go_loopw [5, 6] (fun v i wr => ∃ k : Nat, k ≤ m ∧ i = .int .i64 ((k * 6 : Nat) : Int) ∧ wr.ownsRow w.heap.size 53 6 v k (secs (l.take k)) ∧ Below w.heap.size w wr) (fun _ i _ => m * 6 - (intOf i).toNat)
      case atStart => exact ⟨0, by omega, rfl, by simp [secs, World.ownsRow_nil], hb1⟩
      case round =>
        rename World => wr
        obtain ⟨k, hk, rfl, ho, hb⟩ := hrel
        clear hb1 hz1
        by_cases hlt : k < m
        · obtain ⟨s, hs⟩ : ∃ s, l[k]? = some s := ⟨_, List.getElem?_eq_getElem (by rw [HLM.out]; exact hlt)⟩
          have hr := carryR hIN hb
          obtain ⟨ad, rfl, had, _⟩ := hr.2 (by omega)
          have hr6 := six_reads hr hs
          have HX := hide hs; clear hs
          have hsz := hb.size
          have A1 : k + 1 ≤ maxLen := by unfold maxLen; omega
          have A2 : (k + 1) * 48 ≤ 140737488355328 := by omega
          have t3 : decide (((k * 6 : Nat) : Int) < ((m * 6 : Nat) : Int)) = true := decide_eq_true (by omega)
          have b0 : k * 6 + 6 ≤ c := by omega
          have b1 : k * 6 ≤ k * 6 + 6 := by omega
          obtain ⟨ad2, e2, _, hc⟩ := hr6.2 (by omega)
          obtain rfl := Option.some.inj e2
          have z0 : (ad.add (k * 6)).add 0 = ad.add (k * 6) := rfl
          have q0 := hc 0 _ rfl
          have q1 := hc 1 _ rfl
          have q2 := hc 2 _ rfl
          have q3 := hc 3 _ rfl
          have q4 := hc 4 _ rfl
          have q5 := hc 5 _ rfl
          rw [z0] at q0
          rw [← add_off _ 1 (by decide)] at q1
          rw [← add_off _ 2 (by decide)] at q2
          rw [← add_off _ 3 (by decide)] at q3
          rw [← add_off _ 4 (by decide)] at q4
          rw [← add_off _ 5 (by decide)] at q5
          clear hIN hr hr6 hc e2 z0
          go_wp2_with fail
          refine (of_any _ _ _ _ _ _ _).mono ?_
          rintro e w2 ⟨rfl, hb2⟩
          have ho2 := row_below ho hb2
          have hbb := below_step hb hb2 hsz
          clear ho hb hb2 q0 q1 q2 q3 q4 q5
          go_wp2_with (at_builtin; refine wpList_push _ rfl (.tmp 28) (.tmp 37) _ rfl w.heap.size 53 _ 6 48 Tryz.underlying28 info_sec rfl (by decide) _ k _ rfl (ho2.alloc _) w2.heap.size (secCells s) rfl rfl (cells_new w2 (secCells s) _) (one_sec _) A1 A2 (le_alloc hbb.size _) ?_; intro v1 w3 ho3 hb3)
          go_wp2_with fail
          go_roundw
          case rel => exact ⟨k + 1, by omega, by go_num, by rw [secs_take_succ HX.out]; exact ho3, (hbb.alloc hbb.size _).trans hb3⟩
          case measure => simp [intOf]; omega
        · obtain rfl : k = m := by omega
          rw [List.take_of_length_le (by rw [HLM.out]; omega)] at ho
          obtain ⟨A', c', rfl, hr⟩ := own_slice ho
          have hsz := hb.size
          have t3 : decide (((k * 6 : Nat) : Int) < ((k * 6 : Nat) : Int)) = false := decide_eq_false (by omega)
          go_wp2_with fail
          refine (checkSections_any A' k c' l _ hr (by omega)).mono ?_
          rintro e w2 ⟨rfl, hb2⟩
          have hbb := below_step hb hb2 hsz
          have hr2 := carryR hr hb2
          by_cases h0 : secErr l = 0
          · have HB := hide (HU.out h0)
            have t4 : (secErr l != 0) = false := by rw [h0]; rfl
            clear ho hr
            go_wp2_with fail
            go_ret2
            exact upPost_ok HB.out HLM.out rfl hr2 hbb
          · have HB := hide (HV.out h0)
            have t4 : (secErr l != 0) = true := by simpa using h0
            clear ho hr
            go_wp2_with fail
            go_ret2
            exact upPost_bad HB.out rfl hbb
    · have HB := hide (upk_odd (xs := xs) (by omega) (by omega))
      have t2 : (((n : Int).tmod 6) != 0) = true := by
        have : (n : Int).tmod 6 = ((n % 6 : Nat) : Int) := rfl
        rw [this]; simp; omega
      clear h hl
      go_enter Tryz.func8, Tryz.ntmps8
      go_upto_region 2 with (first | (go_at_call 39; refine (when_any _ _ _).mono ?_; rintro e W' ⟨rfl, rfl⟩) | (go_at_call 38; (first | (with_reducible (refine (first_any _ _ _ _ _ _ (reads2 _ _ _ _) (by omega)).mono ?_)) | (with_reducible (refine (first_any _ _ _ _ _ _ (Reads.drew (reads2 _ _ _ _)) (by omega)).mono ?_))); rintro e W' ⟨rfl, rfl⟩))
      obtain ⟨w1, e1, hb1, hz1, _⟩ := box1 w #[.int .i64 0, .int .i64 2] 25
      rw [← e1]; clear e1
      rw [show fnz [0, 2] = 2 from rfl]
      go_wp2_with fail
      go_ret2
      exact upPost_bad HB.out rfl hb1
end Go.Proofs.YtpcmflfinlkeiaaGreatDoor
