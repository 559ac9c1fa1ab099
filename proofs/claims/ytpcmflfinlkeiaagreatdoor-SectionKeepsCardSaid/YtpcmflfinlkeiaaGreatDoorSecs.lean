/- Lists of sections in memory; mapped at sections; checkSections of both. -/
import Derived.Test.YtpcmflfinlkeiaaGreatDoorBaseB
namespace Go.Proofs.YtpcmflfinlkeiaaGreatDoor
open Go.RowKit Go.Shelf
set_option maxRecDepth 100000

def secCells (s : Sec) : List Value := [.int .i64 s.b0, .int .i64 s.b1, .int .i64 s.b2, .int .i64 s.a1, .int .i64 s.a2, .int .i64 s.sh]
def secs (l : List Sec) : List Value := l.flatMap secCells
theorem secs_len (l : List Sec) : (secs l).length = l.length * 6 := by
  induction l with
  | nil => rfl
  | cons s l ih => simp only [secs, List.flatMap_cons, List.length_append, List.length_cons] at *; rw [ih]; simp [secCells]; omega
theorem secs_snoc (l : List Sec) (s : Sec) : secs (l ++ [s]) = secs l ++ secCells s := by simp [secs]
theorem secs_at {l : List Sec} {k j : Nat} {s : Sec} (h : l[k]? = some s) (hj : j < 6) : (secs l)[k * 6 + j]? = (secCells s)[j]? := by
  induction l generalizing k with
  | nil => simp at h
  | cons a l ih =>
    show (secCells a ++ secs l)[k * 6 + j]? = _
    cases k with
    | zero =>
      simp at h
      subst h
      rw [List.getElem?_append_left (by simp [secCells]; omega)]
      congr 1; omega
    | succ k =>
      rw [List.getElem?_append_right (by simp [secCells]; omega)]
      rw [← ih (k := k) (by simpa using h)]
      congr 1
      simp [secCells]; omega
theorem one_sec (s : Sec) : ∀ u ∈ secCells s, u.oneCell' = true := by intro u hu; simp [secCells] at hu; rcases hu with rfl | rfl | rfl | rfl | rfl | rfl <;> rfl
theorem secs_reads_len {w : World} {B n : Nat} {A : Option Addr} {l : List Sec} (h : Reads w B 6 A n (secs l)) : l.length = n := by
  have := h.1
  rw [secs_len] at this
  omega
theorem add_off (a : Addr) (j : Nat) (hj : 1 ≤ j) : (⟨a.block, a.off + j, none⟩ : Addr) = a.add j := by unfold Addr.add; rw [if_neg (by omega)]
/-- A section of a list in memory. -/
theorem secs_hit {w : World} {B n k : Nat} {A : Option Addr} {l : List Sec} (h : Reads w B 6 A n (secs l)) (hk : k < n) (hB : B ≤ w.heap.size) :
    ∃ ad s, A = some ad ∧ ad.block < B ∧ l[k]? = some s ∧ ∀ W, Below w.heap.size w W → W.cell? (ad.add (k * 6)) = some (.int .i64 s.b0) ∧ W.cell? ⟨(ad.add (k * 6)).block, (ad.add (k * 6)).off + 1, none⟩ = some (.int .i64 s.b1) ∧ W.cell? ⟨(ad.add (k * 6)).block, (ad.add (k * 6)).off + 2, none⟩ = some (.int .i64 s.b2) ∧ W.cell? ⟨(ad.add (k * 6)).block, (ad.add (k * 6)).off + 3, none⟩ = some (.int .i64 s.a1) ∧ W.cell? ⟨(ad.add (k * 6)).block, (ad.add (k * 6)).off + 4, none⟩ = some (.int .i64 s.a2) ∧ W.cell? ⟨(ad.add (k * 6)).block, (ad.add (k * 6)).off + 5, none⟩ = some (.int .i64 s.sh) := by
  obtain ⟨ad, h1, h2, h3⟩ := h.2 (by omega)
  have hl := secs_reads_len h
  have hs : l[k]? = some (l[k]'(by omega)) := List.getElem?_eq_getElem (by omega)
  refine ⟨ad, _, h1, h2, hs, fun W hW => ?_⟩
  have go : ∀ j v, j < 6 → (secCells (l[k]'(by omega)))[j]? = some v → W.cell? (ad.add (k * 6 + j)) = some v := fun j v hj hv => (hW.cell (p := ad.add (k * 6 + j)) (by rw [block_of_add]; omega)).trans (h3 _ _ ((secs_at hs hj).trans hv))
  have go' : ∀ j v, j < 6 → 1 ≤ j → (secCells (l[k]'(by omega)))[j]? = some v → W.cell? ⟨(ad.add (k * 6)).block, (ad.add (k * 6)).off + j, none⟩ = some v := fun j v hj h1 hv => by rw [add_off _ _ h1, add_of_add]; exact go j v hj hv
  exact ⟨go 0 _ (by omega) rfl, go' 1 _ (by omega) (by omega) rfl, go' 2 _ (by omega) (by omega) rfl, go' 3 _ (by omega) (by omega) rfl, go' 4 _ (by omega) (by omega) rfl, go' 5 _ (by omega) (by omega) rfl⟩

/-- The errors of sections. -/
def secErr (l : List Sec) : Int := if 8 < l.length then 5 else if l.all Sec.okB then 0 else 3
theorem serr_bools (l : List Sec) : fnz (l.map Sec.err) = if l.all Sec.okB then 0 else 3 := by
  have := fnz_bools (l.map Sec.okB)
  rw [List.map_map] at this
  rw [show Sec.err = (fun b => if b = true then 0 else 3) ∘ Sec.okB from rfl, this]
  simp
theorem sec_errs_eq (l : List Sec) : fnz [if 8 < l.length then 5 else 0, fnz (l.map Sec.err)] = secErr l := by
  rw [serr_bools]
  unfold secErr
  by_cases h : 8 < l.length
  · simp [fnz, h]
  · by_cases h2 : l.all Sec.okB <;> simp [fnz, h, h2]
theorem secErr_ok {l : List Sec} (h : secErr l = 0) : l.length ≤ 8 ∧ ∀ s ∈ l, s.Ok := by
  unfold secErr at h
  split at h
  · omega
  · split at h
    · rename_i h1
      exact ⟨by omega, fun s hs => Sec.ok_iff.1 (List.all_eq_true.1 h1 s hs)⟩
    · omega

theorem smap_snoc {l : List Sec} {k : Nat} {x : Sec} (h : l[k]? = some x) : ints ((l.take (k + 1)).map Sec.err) = ints ((l.take k).map Sec.err) ++ [.int .i64 x.err] := by
  rw [List.take_add_one, h]; simp [ints]

set_option maxHeartbeats 1000000 in
theorem mappedSec_any (A : Option Addr) (n c : Nat) (l : List Sec) (w : World) (h : Reads w w.heap.size 6 A n (secs l)) (hn : n ≤ 1000000000000) :
    Calls Tryz.prog 72 #[.slice A n c, .func (.func 56) #[] #[]] w fun r w' => ∃ A' c', r = .returned (.slice A' n c') ∧ Reads w' w'.heap.size 1 A' n (ints (l.map Sec.err)) ∧ Below w.heap.size w w' := by
  have hl := secs_reads_len h
  have HL := hide hl; clear hl
  go_enter Tryz.func72, Tryz.ntmps72
  go_wp2
  go_loopw [5, 10] (fun v i wr => ∃ k : Nat, k ≤ n ∧ i = .int .i64 k ∧ wr.ownsRow w.heap.size 25 1 v k (ints ((l.take k).map Sec.err)) ∧ Below w.heap.size w wr) (fun _ i _ => n - (intOf i).toNat)
  case atStart => exact ⟨0, by omega, rfl, by simp [ints, World.ownsRow_nil], Below.refl _ _⟩
  case round =>
    obtain ⟨k, hk, rfl, ho, hb⟩ := hrel
    by_cases hlt : k < n
    · have hr := h.below hb
      obtain ⟨ad, s, rfl, _, hx, hc⟩ := secs_hit hr hlt hb.size
      have HX := hide hx; clear hx
      have hsz := hb.size
      have A1 : k + 1 ≤ maxLen := by unfold maxLen; omega
      have A2 : (k + 1) * 8 ≤ 140737488355328 := by omega
      obtain ⟨d0, d1, d2, d3, d4, d5⟩ := hc wr (Below.refl _ _)
      clear h hr hc
      go_wp2_with fail
      refine (checkSection_any s _).mono ?_
      rintro e w2 ⟨rfl, hb2⟩
      have ho2 := row_below (ho.alloc (.cells #[.int .i64 s.b0, .int .i64 s.b1, .int .i64 s.b2, .int .i64 s.a1, .int .i64 s.a2, .int .i64 s.sh] 53)) hb2
      have hbb : Below w.heap.size w w2 := (hb.alloc hsz _).trans (hb2.mono (by simp; omega))
      clear ho hb hb2 d0 d1 d2 d3 d4 d5
      go_wp2_with (at_builtin; refine wpList_push _ rfl (.tmp 14) (.tmp 18) _ rfl w.heap.size 25 (.int .i64 0) 1 8 Tryz.underlying132 info_errno rfl (by decide) _ k _ rfl (ho2.alloc _) w2.heap.size [.int .i64 s.err] rfl rfl (cell_new1 _ _ _) (one_int _) A1 A2 (le_alloc hbb.size _) ?_; intro v1 w1 ho1 hb1)
      exact ⟨⟨k + 1, by omega, by go_num, by rw [smap_snoc HX.out]; exact ho1, (hbb.alloc hbb.size _).trans hb1⟩, by simp [intOf]; omega⟩
    · go_wp2
      go_ret
      obtain rfl : k = n := by omega
      rw [List.take_of_length_le (by rw [HL.out]; omega)] at ho
      obtain ⟨A', c', rfl, hr⟩ := own_slice ho
      exact ⟨A', c', rfl, hr, hb⟩

theorem checkSections_any (A : Option Addr) (n c : Nat) (l : List Sec) (w : World) (hR : Reads w w.heap.size 6 A n (secs l)) (hn : n ≤ 1000000000000) :
    Calls Tryz.prog 33 #[.slice A n c] w fun r w' => r = .returned (.int .i64 (secErr l)) ∧ Below w.heap.size w w' := by
  have hl := secs_reads_len hR
  have HL := hide hl; clear hl
  go_enter Tryz.func33, Tryz.ntmps33
  go_wp2_with (first
    | (go_at_call 39; refine (when_any _ _ _).mono ?_; rintro e w' ⟨rfl, rfl⟩)
    | (go_at_call 72; refine (mappedSec_any _ _ _ _ _ hR hn).mono ?_; rintro e w2 ⟨A1, c1, rfl, hR1, hb1⟩)
    | (go_at_call 38; with_reducible (refine (first_any _ _ _ _ _ _ hR1 hn).mono ?_); rintro e W' ⟨rfl, rfl⟩)
    | (go_at_call 38; with_reducible (refine (first_any _ _ _ _ _ _ (reads2 _ _ _ _) (by omega)).mono ?_); rintro e W' ⟨rfl, rfl⟩))
  all_goals
    have hc : (8 : Int) < n ∨ (n : Int) ≤ 8 := by omega
    go_ret
    exact ⟨by simp; rw [← sec_errs_eq, HL.out]; (first | rw [if_pos (by omega)] | rw [if_neg (by omega)]), (by repeat (first | exact hb1 | exact Below.refl _ _ | refine Below.drew ?_ | refine below_drewN ?_ _ | refine below_set ?_ (by omega) _ | refine below_new ?_ (by omega) _))⟩

/-- What came ahead of place k is valid. -/
def secsOk (l : List Sec) (k : Nat) : Prop := ∀ y ∈ l.take k, y.err = 0
theorem secsOk_succ {l : List Sec} {k : Nat} {x : Sec} (h : secsOk l k) (hk : l[k]? = some x) (hx : (x.err != 0) = false) : secsOk l (k + 1) := by
  intro y hy
  rw [List.take_add_one, hk] at hy
  simp only [Option.toList_some, List.mem_append, List.mem_singleton] at hy
  rcases hy with hy | rfl
  · exact h y hy
  · simpa using hx
theorem sec_two (s : Sec) : s.err = 0 ∨ s.err = 3 := by unfold Sec.err; split <;> simp
theorem secs_bad {l : List Sec} {k : Nat} {x : Sec} (hl : l.length ≤ 8) (hk : l[k]? = some x) (hx : (x.err != 0) = true) : x.err = secErr l := by
  have h3 : x.err = 3 := by rcases sec_two x with h | h <;> simp_all
  have hb : x.okB = false := by
    cases h : x.okB
    · rfl
    · unfold Sec.err at h3; rw [h] at h3; simp at h3
  have : l.all Sec.okB = false := by
    rw [List.all_eq_false]
    exact ⟨x, List.mem_of_getElem? hk, by simp [hb]⟩
  rw [h3]; unfold secErr; rw [if_neg (by omega), this]; rfl
theorem secs_end {l : List Sec} {k : Nat} (hl : l.length ≤ 8) (hk : l.length ≤ k) (h : secsOk l k) : secErr l = 0 := by
  unfold secErr
  have : l.all Sec.okB = true := List.all_eq_true.2 fun x hx => Sec.ok_iff.2 (Sec.err_ok (h x (by rw [List.take_of_length_le hk]; exact hx)))
  rw [if_neg (by omega), if_pos this]

set_option maxHeartbeats 400000 in
theorem rCheckSections_any (A : Option Addr) (n c : Nat) (l : List Sec) (w : World) (h : Reads w w.heap.size 6 A n (secs l)) (hn : n ≤ 1000000000000) :
    Calls Tryz.prog 12 #[.slice A n c] w fun r w' => r = .returned (.int .i64 (secErr l)) ∧ Below w.heap.size w w' := by
  have hl := secs_reads_len h
  by_cases hm : n ≤ 8
  · have HL := hide hl; clear hl
    go_enter Tryz.func12, Tryz.ntmps12
    go_wp2
    go_loopw [3] (fun i wr => ∃ k : Nat, k ≤ n ∧ i = .int .i64 k ∧ secsOk l k ∧ Below w.heap.size w wr) (fun i _ => n - (intOf i).toNat)
    case atStart => exact ⟨0, by omega, rfl, by intro y hy; simp at hy, Below.refl _ _⟩
    case round =>
      obtain ⟨k, hk, rfl, hz, hb⟩ := hrel
      by_cases hlt : k < n
      · obtain ⟨ad, s, rfl, _, hx, hc⟩ := secs_hit (h.below hb) hlt hb.size
        have HX := hide hx; clear hx
        obtain ⟨d0, d1, d2, d3, d4, d5⟩ := hc wr (Below.refl _ _)
        clear hc h
        go_wp2_with (go_at_call 49; refine (rCheckSection_any s _).mono ?_; rintro e w2 ⟨rfl, hb2⟩)
        · go_ret
          exact ⟨by simp; exact secs_bad (by have := HL.out; omega) HX.out ‹_›, below_step hb hb2 hb.size⟩
        · go_roundw
          case rel => exact ⟨k + 1, by omega, by go_num, secsOk_succ hz HX.out ‹_›, below_step hb hb2 hb.size⟩
          case measure => simp [intOf]; omega
      · go_wp2
        go_ret
        exact ⟨by simp; exact (secs_end (by have := HL.out; omega) (by rw [HL.out]; omega) hz).symm, hb⟩
  · have he : secErr l = 5 := by unfold secErr; rw [if_pos (by omega)]
    have HE := hide he; clear he hl
    go_enter Tryz.func12, Tryz.ntmps12
    go_wp2
    go_ret
    exact ⟨by simp [HE.out], Below.refl _ _⟩

theorem info_sec : (Tryz.prog.info? 53).map (fun i => (i.zero, i.size, i.bytes)) = some (some (.agg #[.int .i64 0, .int .i64 0, .int .i64 0, .int .i64 0, .int .i64 0, .int .i64 0]), 6, 48) := by kernel_rfl
theorem secs_take_succ {l : List Sec} {k : Nat} {x : Sec} (h : l[k]? = some x) : secs (l.take (k + 1)) = secs (l.take k) ++ secCells x := by
  rw [List.take_add_one, h]; exact secs_snoc _ _

theorem sec_new2 (w : World) (o : Obj) (s : Sec) (t : TypeId) : ∀ j u, (secCells s)[j]? = some u → ((w.alloc o).alloc (.cells #[.int .i64 s.b0, .int .i64 s.b1, .int .i64 s.b2, .int .i64 s.a1, .int .i64 s.a2, .int .i64 s.sh] t)).cell? ⟨w.heap.size + 1, j, none⟩ = some u := by
  intro j u hu
  have := cells_new (w.alloc o) (secCells s) t j u hu
  rwa [World.size_alloc] at this

set_option maxHeartbeats 1000000 in
theorem given_any (A : Option Addr) (n c : Nat) (l : List Sec) (w : World) (h : Reads w w.heap.size 6 A n (secs l)) (hn : n ≤ 1000000) :
    Calls Tryz.prog 7 #[.slice A n c] w fun r w' => ∃ v, r = .returned v ∧ w'.ownsRow w.heap.size 53 6 v n (secs l) ∧ Below w.heap.size w w' := by
  have hl := secs_reads_len h
  have HL := hide hl; clear hl
  go_enter Tryz.func7, Tryz.ntmps7
  go_wp2
  go_loopw [3, 8] (fun v i wr => ∃ k : Nat, k ≤ n ∧ i = .int .i64 k ∧ wr.ownsRow w.heap.size 53 6 v k (secs (l.take k)) ∧ Below w.heap.size w wr) (fun _ i _ => n - (intOf i).toNat)
  case atStart => exact ⟨0, by omega, rfl, by simp [secs, World.ownsRow_nil], Below.refl _ _⟩
  case round =>
    obtain ⟨k, hk, rfl, ho, hb⟩ := hrel
    by_cases hlt : k < n
    · have hr := h.below hb
      obtain ⟨ad, s, rfl, _, hx, hc⟩ := secs_hit hr hlt hb.size
      have HX := hide hx; clear hx
      have hsz := hb.size
      have A1 : k + 1 ≤ maxLen := by unfold maxLen; omega
      have A2 : (k + 1) * 48 ≤ 140737488355328 := by omega
      obtain ⟨d0, d1, d2, d3, d4, d5⟩ := hc wr (Below.refl _ _)
      clear h hr hc
      go_wp2_with (at_builtin; refine wpList_push _ rfl (.tmp 12) (.tmp 14) _ rfl w.heap.size 53 _ 6 48 Tryz.underlying28 info_sec rfl (by decide) _ k _ rfl ((ho.alloc _).alloc _) (wr.heap.size + 1) (secCells s) rfl rfl (sec_new2 _ _ _ _) (one_sec _) A1 A2 (le_alloc (le_alloc hsz _) _) ?_; intro v1 w1 ho1 hb1)
      exact ⟨⟨k + 1, by omega, by go_num, by rw [secs_take_succ HX.out]; exact ho1, ((hb.alloc hsz _).alloc (le_alloc hsz _) _).trans hb1⟩, by simp [intOf]; omega⟩
    · go_wp2
      go_ret
      obtain rfl : k = n := by omega
      rw [List.take_of_length_le (by rw [HL.out]; omega)] at ho
      exact ⟨_, rfl, ho, hb⟩

theorem row_empty (w : World) (e : TypeId) (size : Nat) : (w.alloc (.cells #[] e)).ownsRow w.heap.size e size (.slice (some ⟨w.heap.size, 0, none⟩) 0 0) 0 [] :=
  ⟨by simp, .inr ⟨w.heap.size, 0, #[], rfl, Nat.le_refl _, heap_alloc_new w _, Nat.le_refl _, by unfold maxLen; omega, by simp, by simp⟩⟩

theorem ints_any (A : Option Addr) (n c : Nat) (xs : List Int) (w : World) (h : Reads w w.heap.size 1 A n (ints xs)) (hn : n ≤ 1000000000000) :
    Calls Tryz.prog 9 #[.slice A n c] w fun r w' => ∃ v, r = .returned v ∧ w'.ownsRow w.heap.size 3 1 v n (ints xs) ∧ Below w.heap.size w w' := by
  obtain ⟨i, hi, hz, hsize, hby⟩ := info_parts info_int
  have h1 := h.alloc (Nat.le_refl _) (.cells #[] 3)
  have A1 : 0 + n ≤ maxLen := by unfold maxLen; omega
  have A2 : (0 + n) * 8 ≤ 140737488355328 := by omega
  go_enter Tryz.func9, Tryz.ntmps9
  go_wp2_with (at_builtin; refine wpList_append_any _ rfl (.tmp 3) (.tmp 4) _ rfl w.heap.size 3 i (.int .i64 0) 1 8 Tryz.underlying23 hi hz hsize hby rfl (by decide) _ 0 [] rfl (row_empty w _ _) w.heap.size A n c (ints xs) rfl h1 (ints_one _) A1 A2 (by simp) ?_; intro v1 w1 ho1 hg1 hq1)
  go_ret
  refine ⟨_, rfl, by simpa using ho1, ?_⟩
  refine ((Below.refl w.heap.size w).alloc (Nat.le_refl _) (.cells #[] 3)).grown hg1 (by simp) fun k hk => ?_
  cases hk
  exact Nat.le_refl _
end Go.Proofs.YtpcmflfinlkeiaaGreatDoor
