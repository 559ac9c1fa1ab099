/- The checks of sources, of the program and of the reference. mapped at functions from sources to sources. Eight complex integers in memory, and as one value. Stores of whole structs and arrays into blocks of one's own: printed by a program. Stores into a list of sources of one's own; copies. -/
import Derived.Test.YtcihiglpahhboaaGreatDoorBaseF
import Derived.Test.YtcihiglpahhboaaGreatDoorPlainA
namespace Go.Proofs.YtcihiglpahhboaaGreatDoor
open Go.RowKit
set_option maxRecDepth 100000

theorem errs_eq (l : List Src) : fnz [if 16 < l.length then 5 else 0, fnz (l.map Src.err)] = lstErr l := by
  unfold lstErr
  by_cases h : 16 < l.length
  · simp [fnz, h]
  · simp only [h, if_false, fnz, if_true]
    split <;> simp_all
theorem check_any (s : Src) (w : World) :
    Calls Tryz.prog 112 #[.agg #[.int .i64 s.x, .int .i64 s.y, .int .i64 s.g, .int .i64 s.p]] w fun r w' => r = .returned (.int .i64 s.err) ∧ Below w.heap.size w w' := by
  go_enter Tryz.func112, Tryz.ntmps112
  go_wp2
  obtain ⟨w1, e1, hb0, hz, k0⟩ := box1 w #[.int .i64 s.x, .int .i64 s.y, .int .i64 s.g, .int .i64 s.p] 60
  rw [← e1]; clear e1
  have c0 : ∀ i W, Below w1.heap.size w1 W → W.cell? ⟨w.heap.size, i, none⟩ = (#[.int .i64 s.x, .int .i64 s.y, .int .i64 s.g, .int .i64 s.p] : Array Value)[i]? := fun i W h => (k0.below h (by omega)).cell i
  go_region_held3 (fun W => Below w1.heap.size w1 W) (first | exact (Below.refl _ _).drew | (with_reducible assumption) | exact below_new ‹Below w1.heap.size w1 _› (Nat.le_refl _) _ | (refine below_set (below_set (below_set (below_set (by assumption) (by omega) _) (by omega) _) (by omega) _) (by omega) _)) (first
    | (go_at_call 86; with_reducible (refine (first_any _ _ _ _ _ _ (Reads.drew (reads4 _ _ _ _ _ _)) (by omega)).mono ?_); rintro e W' ⟨rfl, rfl⟩)
    | (go_at_call 90; refine (checkPlace_any _ _).mono ?_; rintro e W' ⟨rfl, rfl⟩)
    | (go_at_call 89; refine (within_any _ _ _ _).mono ?_; rintro e W' ⟨rfl, rfl⟩))
  go_wp2
  go_ret
  exact ⟨rfl, hb0.trans (‹Below w1.heap.size w1 _›.mono (by omega))⟩
theorem rCheckSource_any (s : Src) (w : World) :
    Calls Tryz.prog 58 #[.agg #[.int .i64 s.x, .int .i64 s.y, .int .i64 s.g, .int .i64 s.p]] w fun r w' => r = .returned (.int .i64 s.err) ∧ Below w.heap.size w w' := by
  go_enter Tryz.func58, Tryz.ntmps58
  go_wp2
  obtain ⟨w1, e1, hb0, hz, k0⟩ := box1 w #[.int .i64 s.x, .int .i64 s.y, .int .i64 s.g, .int .i64 s.p] 78
  rw [← e1]; clear e1
  have c0 : ∀ i W, Below w1.heap.size w1 W → W.cell? ⟨w.heap.size, i, none⟩ = (#[.int .i64 s.x, .int .i64 s.y, .int .i64 s.g, .int .i64 s.p] : Array Value)[i]? := fun i W h => (k0.below h (by omega)).cell i
  go_region_held3 (fun W => Below w1.heap.size w1 W) (first | exact (Below.refl _ _).drew | (with_reducible assumption) | exact below_new ‹Below w1.heap.size w1 _› (Nat.le_refl _) _ | (refine below_set (below_set (below_set (below_set (by assumption) (by omega) _) (by omega) _) (by omega) _) (by omega) _)) (first
    | (go_at_call 22; with_reducible (refine (rFirst_any _ _ _ _ _ _ (Reads.drew (reads4 _ _ _ _ _ _)) (by omega)).mono ?_); rintro e W' ⟨rfl, rfl⟩)
    | (go_at_call 68; refine (rCheckPlace_any _ _).mono ?_; rintro e W' ⟨rfl, rfl⟩)
    | (go_at_call 91; refine (checkRange_any _ _ _ _).mono ?_; rintro e W' ⟨rfl, rfl⟩))
  go_wp2
  go_ret
  exact ⟨rfl, hb0.trans (‹Below w1.heap.size w1 _›.mono (by omega))⟩
theorem smap_snoc {l : List Src} {k : Nat} {x : Src} (h : l[k]? = some x) : ints ((l.take (k + 1)).map Src.err) = ints ((l.take k).map Src.err) ++ [.int .i64 x.err] := by
  rw [List.take_add_one, h]; simp [ints]
set_option maxHeartbeats 1000000 in
theorem mappedErr_any (A : Option Addr) (n c : Nat) (l : List Src) (w : World) (h : Reads w w.heap.size 4 A n (srcs l)) (hn : n ≤ 1000000000000) :
    Calls Tryz.prog 113 #[.slice A n c, .func (.func 112) #[] #[]] w fun r w' => ∃ A' c', r = .returned (.slice A' n c') ∧ Reads w' w'.heap.size 1 A' n (ints (l.map Src.err)) ∧ Below w.heap.size w w' := by
  have HL := hide (srcs_reads_len h)
  go_enter Tryz.func113, Tryz.ntmps113
  go_wp2
  go_loopw [5, 10] (fun v i wr => ∃ k : Nat, k ≤ n ∧ i = .int .i64 k ∧ wr.ownsRow w.heap.size 27 1 v k (ints ((l.take k).map Src.err)) ∧ Below w.heap.size w wr) (fun _ i _ => n - (intOf i).toNat)
  case atStart => exact ⟨0, by omega, rfl, by simp [ints, World.ownsRow_nil], Below.refl _ _⟩
  case round =>
    obtain ⟨k, hk, rfl, ho, hb⟩ := hrel
    by_cases hlt : k < n
    · have hr := h.below hb
      obtain ⟨ad, s, rfl, _, hx, hc⟩ := src_hit hr hlt hb.size
      have HX := hide hx; clear hx
      have hsz := hb.size
      have A1 : k + 1 ≤ maxLen := by unfold maxLen; omega
      have A2 : (k + 1) * 8 ≤ 140737488355328 := by omega
      obtain ⟨d0, d1, d2, d3⟩ := hc wr (Below.refl _ _)
      clear h hr hc
      go_wp2_with fail
      refine (check_any s _).mono ?_
      rintro e w2 ⟨rfl, hb2⟩
      have ho2 := row_below (ho.alloc (.cells #[.int .i64 s.x, .int .i64 s.y, .int .i64 s.g, .int .i64 s.p] 60)) hb2
      have hbb : Below w.heap.size w w2 := (hb.alloc hsz _).trans (hb2.mono (by simp; omega))
      clear ho hb hb2 d0 d1 d2 d3
      go_wp2_with (at_builtin; refine wpList_push _ rfl (.tmp 14) (.tmp 18) _ rfl w.heap.size 27 (.int .i64 0) 1 8 Tryz.underlying157 info_errno rfl (by decide) _ k _ rfl (ho2.alloc _) w2.heap.size [.int .i64 s.err] rfl rfl (cell_new1 _ _ _) (one_int _) A1 A2 (le_alloc hbb.size _) ?_; intro v1 w1 ho1 hb1)
      exact ⟨⟨k + 1, by omega, by go_num, by rw [smap_snoc HX.out]; exact ho1, (hbb.alloc hbb.size _).trans hb1⟩, by simp [intOf]; omega⟩
    · go_wp2
      go_ret
      obtain rfl : k = n := by omega
      rw [List.take_of_length_le (by rw [HL.out]; omega)] at ho
      obtain ⟨A', c', rfl, hr⟩ := own_slice ho
      exact ⟨A', c', rfl, hr, hb⟩
theorem CheckSources_any (A : Option Addr) (n c : Nat) (l : List Src) (w : World) (hR : Reads w w.heap.size 4 A n (srcs l)) (hn : n ≤ 1000000000000) :
    Calls Tryz.prog 62 #[.slice A n c] w fun r w' => r = .returned (.int .i64 (lstErr l)) ∧ Below w.heap.size w w' := by
  have HL := hide (srcs_reads_len hR)
  go_enter Tryz.func62, Tryz.ntmps62
  go_wp2_with (first
    | (go_at_call 103; refine (when_any _ _ _).mono ?_; rintro e w' ⟨rfl, rfl⟩)
    | (go_at_call 113; refine (mappedErr_any _ _ _ _ _ hR hn).mono ?_; rintro e w2 ⟨A1, c1, rfl, hR1, hb1⟩)
    | (go_at_call 86; with_reducible (refine (first_any _ _ _ _ _ _ hR1 hn).mono ?_); rintro e W' ⟨rfl, rfl⟩)
    | (go_at_call 86; with_reducible (refine (first_any _ _ _ _ _ _ (reads2 _ _ _ _) (by omega)).mono ?_); rintro e W' ⟨rfl, rfl⟩))
  all_goals
    have hc : (16 : Int) < n ∨ (n : Int) ≤ 16 := by omega
    go_ret
    exact ⟨by simp; rw [← errs_eq, HL.out]; (first | rw [if_pos (by omega)] | rw [if_neg (by omega)]), (by repeat (first | exact hb1 | exact Below.refl _ _ | refine Below.drew ?_ | refine below_drewN ?_ _ | refine below_set ?_ (by omega) _ | refine below_new ?_ (by omega) _))⟩
/-- What came ahead of place k is valid. -/
def srcsOk (l : List Src) (k : Nat) : Prop := ∀ y ∈ l.take k, y.err = 0
theorem srcsOk_succ {l : List Src} {k : Nat} {x : Src} (h : srcsOk l k) (hk : l[k]? = some x) (hx : (x.err != 0) = false) : srcsOk l (k + 1) := by
  intro y hy
  rw [List.take_add_one, hk] at hy
  simp only [Option.toList_some, List.mem_append, List.mem_singleton] at hy
  rcases hy with hy | rfl
  · exact h y hy
  · simpa using hx
theorem srcs_bad {l : List Src} {k : Nat} {x : Src} (hl : l.length ≤ 16) (hk : l[k]? = some x) (hz : srcsOk l k) (hx : (x.err != 0) = true) : x.err = lstErr l := by
  unfold lstErr
  rw [if_neg (by omega)]
  refine (fnz_hit (k := k) (by rw [List.getElem?_map, hk]; rfl) (fun e he => ?_) hx).symm
  rw [← List.map_take] at he
  obtain ⟨y, hy, rfl⟩ := List.mem_map.1 he
  exact hz y hy
theorem srcs_end {l : List Src} {k : Nat} (hl : l.length ≤ 16) (hk : l.length ≤ k) (h : srcsOk l k) : lstErr l = 0 := by
  unfold lstErr
  rw [if_neg (by omega), fnz_zero]
  intro e he
  obtain ⟨x, hx, rfl⟩ := List.mem_map.1 he
  exact h x (by rw [List.take_of_length_le hk]; exact hx)
set_option maxHeartbeats 400000 in
theorem rCheckSources_any (A : Option Addr) (n c : Nat) (l : List Src) (w : World) (h : Reads w w.heap.size 4 A n (srcs l)) (hn : n ≤ 1000000000000) :
    Calls Tryz.prog 23 #[.slice A n c] w fun r w' => r = .returned (.int .i64 (lstErr l)) ∧ Below w.heap.size w w' := by
  have hl := srcs_reads_len h
  by_cases hm : n ≤ 16
  · have HL := hide hl; clear hl
    have g1 : ¬ (16 : Int) < (n : Int) := by omega
    go_enter Tryz.func23, Tryz.ntmps23
    go_wp2
    go_loopw [3] (fun i wr => ∃ k : Nat, k ≤ n ∧ i = .int .i64 k ∧ srcsOk l k ∧ Below w.heap.size w wr) (fun i _ => n - (intOf i).toNat)
    case atStart => exact ⟨0, by omega, rfl, by intro y hy; simp at hy, Below.refl _ _⟩
    case round =>
      obtain ⟨k, hk, rfl, hz, hb⟩ := hrel
      by_cases hlt : k < n
      · obtain ⟨ad, s, rfl, _, hx, hc⟩ := src_hit (h.below hb) hlt hb.size
        have HX := hide hx; clear hx
        obtain ⟨d0, d1, d2, d3⟩ := hc wr (Below.refl _ _)
        clear hc h
        go_wp2_with (go_at_call 58; refine (rCheckSource_any s _).mono ?_; rintro e w2 ⟨rfl, hb2⟩)
        · go_ret
          exact ⟨by simp; exact srcs_bad (by have := HL.out; omega) HX.out hz ‹_›, below_step hb hb2 hb.size⟩
        · go_roundw
          case rel => exact ⟨k + 1, by omega, by go_num, srcsOk_succ hz HX.out ‹_›, below_step hb hb2 hb.size⟩
          case measure => simp [intOf]; omega
      · go_wp2
        go_ret
        exact ⟨by simp; exact (srcs_end (by have := HL.out; omega) (by rw [HL.out]; omega) hz).symm, hb⟩
  · have hz : lstErr l = 5 := by unfold lstErr; rw [if_pos (by omega)]
    have HZ := hide hz
    have g1 : (16 : Int) < (n : Int) := by omega
    clear hl hz
    go_enter Tryz.func23, Tryz.ntmps23
    go_wp2
    go_ret
    exact ⟨by rw [HZ.out]; rfl, Below.refl _ _⟩
end Go.Proofs.YtcihiglpahhboaaGreatDoor

namespace Go.Proofs.YtcihiglpahhboaaGreatDoor
open Go.RowKit
set_option maxRecDepth 100000
theorem srcs_map_step (g : Src → Src) {l : List Src} {k : Nat} {s : Src} (h : l[k]? = some s) : srcs ((l.take (k + 1)).map g) = srcs ((l.take k).map g) ++ srcCells (g s) := by
  rw [src_take h]; simp [srcs]
set_option maxHeartbeats 2000000 in
theorem mapS0_own  (f : Nat) (g : Src → Src) (hcf : ∀ a W, Sem.run Tryz.prog (callFunc f #[a]) W = .ok (.enter f #[a]) W) (A : Option Addr) (n c : Nat) (l : List Src) (w : World) (h : Reads w w.heap.size 4 A n (srcs l)) (hn : n ≤ 1000000000000)
    (hf : ∀ s W, s ∈ l → Below w.heap.size w W → Calls Tryz.prog f #[.agg #[.int .i64 s.x, .int .i64 s.y, .int .i64 s.g, .int .i64 s.p]] W fun r W' => r = .returned (.agg #[.int .i64 (g s).x, .int .i64 (g s).y, .int .i64 (g s).g, .int .i64 (g s).p]) ∧ Below W.heap.size W W') :
    Calls Tryz.prog 98 #[.slice A n c, .func (.func f) #[] #[]] w fun r w' => ∃ v, r = .returned v ∧ w'.ownsRow w.heap.size 60 4 v n (srcs (l.map g)) ∧ Below w.heap.size w w' := by
  have HL := hide (srcs_reads_len h)
  have HF := hide hf
  clear hf
  go_enter Tryz.func98, Tryz.ntmps98
  go_wp2
  go_loopw [5, 10] (fun v i wr => ∃ k : Nat, k ≤ n ∧ i = .int .i64 k ∧ wr.ownsRow w.heap.size 60 4 v k (srcs ((l.take k).map g)) ∧ Below w.heap.size w wr) (fun _ i _ => n - (intOf i).toNat)
  case atStart => exact ⟨0, by omega, rfl, by simp [srcs, World.ownsRow_nil], Below.refl _ _⟩
  case round =>
    rename World => wo
    obtain ⟨k, hk, rfl, ho, hb⟩ := hrel
    by_cases hlt : k < n
    · have hr := h.below hb
      obtain ⟨ad, s, rfl, _, hx, hc⟩ := src_hit hr hlt hb.size
      have HX := hide hx; clear hx
      have hsz := hb.size
      have A1 : k + 1 ≤ maxLen := by unfold maxLen; omega
      have A2 : (k + 1) * 32 ≤ 140737488355328 := by omega
      obtain ⟨d0, d1, d2, d3⟩ := hc wo (Below.refl _ _)
      clear h hr hc
      go_wp2_with fail
      refine (HF.out s _ (List.mem_of_getElem? HX.out) (hb.alloc hsz _)).mono ?_
      rintro e w2 ⟨rfl, hb2⟩
      have ho2 := row_below (ho.alloc (.cells #[.int .i64 s.x, .int .i64 s.y, .int .i64 s.g, .int .i64 s.p] 60)) hb2
      have hbb : Below w.heap.size w w2 := (hb.alloc hsz _).trans (hb2.mono (by simp; omega))
      clear ho hb hb2 d0 d1 d2 d3
      go_wp2_with (at_builtin; refine wpList_push _ rfl (.tmp 14) (.tmp 18) _ rfl w.heap.size 60 _ 4 32 Tryz.underlying26 info_src rfl (by decide) _ k _ rfl (ho2.alloc _) w2.heap.size (srcCells (g s)) rfl rfl (src_new1 _ _ _) (one_src _) A1 A2 (le_alloc hbb.size _) ?_; intro v1 w1 ho1 hb1)
      exact ⟨⟨k + 1, by omega, by go_num, by rw [srcs_map_step g HX.out]; exact ho1, (hbb.alloc hbb.size _).trans hb1⟩, by simp [intOf]; omega⟩
    · go_wp2
      go_ret
      obtain rfl : k = n := by omega
      rw [List.take_of_length_le (by rw [HL.out]; omega)] at ho
      exact ⟨_, rfl, ho, hb⟩
theorem mapS0  (f : Nat) (g : Src → Src) (hcf : ∀ a W, Sem.run Tryz.prog (callFunc f #[a]) W = .ok (.enter f #[a]) W) (A : Option Addr) (n c : Nat) (l : List Src) (w : World) (h : Reads w w.heap.size 4 A n (srcs l)) (hn : n ≤ 1000000000000)
    (hf : ∀ s W, s ∈ l → Below w.heap.size w W → Calls Tryz.prog f #[.agg #[.int .i64 s.x, .int .i64 s.y, .int .i64 s.g, .int .i64 s.p]] W fun r W' => r = .returned (.agg #[.int .i64 (g s).x, .int .i64 (g s).y, .int .i64 (g s).g, .int .i64 (g s).p]) ∧ Below W.heap.size W W') :
    Calls Tryz.prog 98 #[.slice A n c, .func (.func f) #[] #[]] w fun r w' => ∃ A' c', r = .returned (.slice A' n c') ∧ Reads w' w'.heap.size 4 A' n (srcs (l.map g)) ∧ Below w.heap.size w w' :=
  (mapS0_own  f g hcf A n c l w h hn hf).mono fun _ _ ⟨v, he, ho, hb⟩ => by
    obtain ⟨A', c', rfl, hr⟩ := own_slice ho
    exact ⟨A', c', he, hr, hb⟩
set_option maxHeartbeats 2000000 in
theorem mapS1_own (p : Value) (f : Nat) (g : Src → Src) (hcf : ∀ a W, Sem.run Tryz.prog (callFunc f #[a, p]) W = .ok (.enter f #[a, p]) W) (A : Option Addr) (n c : Nat) (l : List Src) (w : World) (h : Reads w w.heap.size 4 A n (srcs l)) (hn : n ≤ 1000000000000)
    (hf : ∀ s W, s ∈ l → Below w.heap.size w W → Calls Tryz.prog f #[.agg #[.int .i64 s.x, .int .i64 s.y, .int .i64 s.g, .int .i64 s.p], p] W fun r W' => r = .returned (.agg #[.int .i64 (g s).x, .int .i64 (g s).y, .int .i64 (g s).g, .int .i64 (g s).p]) ∧ Below W.heap.size W W') :
    Calls Tryz.prog 98 #[.slice A n c, .func (.func f) #[] #[p]] w fun r w' => ∃ v, r = .returned v ∧ w'.ownsRow w.heap.size 60 4 v n (srcs (l.map g)) ∧ Below w.heap.size w w' := by
  have HL := hide (srcs_reads_len h)
  have HF := hide hf
  clear hf
  go_enter Tryz.func98, Tryz.ntmps98
  go_wp2
  go_loopw [5, 10] (fun v i wr => ∃ k : Nat, k ≤ n ∧ i = .int .i64 k ∧ wr.ownsRow w.heap.size 60 4 v k (srcs ((l.take k).map g)) ∧ Below w.heap.size w wr) (fun _ i _ => n - (intOf i).toNat)
  case atStart => exact ⟨0, by omega, rfl, by simp [srcs, World.ownsRow_nil], Below.refl _ _⟩
  case round =>
    rename World => wo
    obtain ⟨k, hk, rfl, ho, hb⟩ := hrel
    by_cases hlt : k < n
    · have hr := h.below hb
      obtain ⟨ad, s, rfl, _, hx, hc⟩ := src_hit hr hlt hb.size
      have HX := hide hx; clear hx
      have hsz := hb.size
      have A1 : k + 1 ≤ maxLen := by unfold maxLen; omega
      have A2 : (k + 1) * 32 ≤ 140737488355328 := by omega
      obtain ⟨d0, d1, d2, d3⟩ := hc wo (Below.refl _ _)
      clear h hr hc
      go_wp2_with fail
      refine (HF.out s _ (List.mem_of_getElem? HX.out) (hb.alloc hsz _)).mono ?_
      rintro e w2 ⟨rfl, hb2⟩
      have ho2 := row_below (ho.alloc (.cells #[.int .i64 s.x, .int .i64 s.y, .int .i64 s.g, .int .i64 s.p] 60)) hb2
      have hbb : Below w.heap.size w w2 := (hb.alloc hsz _).trans (hb2.mono (by simp; omega))
      clear ho hb hb2 d0 d1 d2 d3
      go_wp2_with (at_builtin; refine wpList_push _ rfl (.tmp 14) (.tmp 18) _ rfl w.heap.size 60 _ 4 32 Tryz.underlying26 info_src rfl (by decide) _ k _ rfl (ho2.alloc _) w2.heap.size (srcCells (g s)) rfl rfl (src_new1 _ _ _) (one_src _) A1 A2 (le_alloc hbb.size _) ?_; intro v1 w1 ho1 hb1)
      exact ⟨⟨k + 1, by omega, by go_num, by rw [srcs_map_step g HX.out]; exact ho1, (hbb.alloc hbb.size _).trans hb1⟩, by simp [intOf]; omega⟩
    · go_wp2
      go_ret
      obtain rfl : k = n := by omega
      rw [List.take_of_length_le (by rw [HL.out]; omega)] at ho
      exact ⟨_, rfl, ho, hb⟩
theorem mapS1 (p : Value) (f : Nat) (g : Src → Src) (hcf : ∀ a W, Sem.run Tryz.prog (callFunc f #[a, p]) W = .ok (.enter f #[a, p]) W) (A : Option Addr) (n c : Nat) (l : List Src) (w : World) (h : Reads w w.heap.size 4 A n (srcs l)) (hn : n ≤ 1000000000000)
    (hf : ∀ s W, s ∈ l → Below w.heap.size w W → Calls Tryz.prog f #[.agg #[.int .i64 s.x, .int .i64 s.y, .int .i64 s.g, .int .i64 s.p], p] W fun r W' => r = .returned (.agg #[.int .i64 (g s).x, .int .i64 (g s).y, .int .i64 (g s).g, .int .i64 (g s).p]) ∧ Below W.heap.size W W') :
    Calls Tryz.prog 98 #[.slice A n c, .func (.func f) #[] #[p]] w fun r w' => ∃ A' c', r = .returned (.slice A' n c') ∧ Reads w' w'.heap.size 4 A' n (srcs (l.map g)) ∧ Below w.heap.size w w' :=
  (mapS1_own p f g hcf A n c l w h hn hf).mono fun _ _ ⟨v, he, ho, hb⟩ => by
    obtain ⟨A', c', rfl, hr⟩ := own_slice ho
    exact ⟨A', c', he, hr, hb⟩
set_option maxHeartbeats 2000000 in
theorem mapS2_own (p q : Value) (f : Nat) (g : Src → Src) (hcf : ∀ a W, Sem.run Tryz.prog (callFunc f #[a, p, q]) W = .ok (.enter f #[a, p, q]) W) (A : Option Addr) (n c : Nat) (l : List Src) (w : World) (h : Reads w w.heap.size 4 A n (srcs l)) (hn : n ≤ 1000000000000)
    (hf : ∀ s W, s ∈ l → Below w.heap.size w W → Calls Tryz.prog f #[.agg #[.int .i64 s.x, .int .i64 s.y, .int .i64 s.g, .int .i64 s.p], p, q] W fun r W' => r = .returned (.agg #[.int .i64 (g s).x, .int .i64 (g s).y, .int .i64 (g s).g, .int .i64 (g s).p]) ∧ Below W.heap.size W W') :
    Calls Tryz.prog 98 #[.slice A n c, .func (.func f) #[] #[p, q]] w fun r w' => ∃ v, r = .returned v ∧ w'.ownsRow w.heap.size 60 4 v n (srcs (l.map g)) ∧ Below w.heap.size w w' := by
  have HL := hide (srcs_reads_len h)
  have HF := hide hf
  clear hf
  go_enter Tryz.func98, Tryz.ntmps98
  go_wp2
  go_loopw [5, 10] (fun v i wr => ∃ k : Nat, k ≤ n ∧ i = .int .i64 k ∧ wr.ownsRow w.heap.size 60 4 v k (srcs ((l.take k).map g)) ∧ Below w.heap.size w wr) (fun _ i _ => n - (intOf i).toNat)
  case atStart => exact ⟨0, by omega, rfl, by simp [srcs, World.ownsRow_nil], Below.refl _ _⟩
  case round =>
    rename World => wo
    obtain ⟨k, hk, rfl, ho, hb⟩ := hrel
    by_cases hlt : k < n
    · have hr := h.below hb
      obtain ⟨ad, s, rfl, _, hx, hc⟩ := src_hit hr hlt hb.size
      have HX := hide hx; clear hx
      have hsz := hb.size
      have A1 : k + 1 ≤ maxLen := by unfold maxLen; omega
      have A2 : (k + 1) * 32 ≤ 140737488355328 := by omega
      obtain ⟨d0, d1, d2, d3⟩ := hc wo (Below.refl _ _)
      clear h hr hc
      go_wp2_with fail
      refine (HF.out s _ (List.mem_of_getElem? HX.out) (hb.alloc hsz _)).mono ?_
      rintro e w2 ⟨rfl, hb2⟩
      have ho2 := row_below (ho.alloc (.cells #[.int .i64 s.x, .int .i64 s.y, .int .i64 s.g, .int .i64 s.p] 60)) hb2
      have hbb : Below w.heap.size w w2 := (hb.alloc hsz _).trans (hb2.mono (by simp; omega))
      clear ho hb hb2 d0 d1 d2 d3
      go_wp2_with (at_builtin; refine wpList_push _ rfl (.tmp 14) (.tmp 18) _ rfl w.heap.size 60 _ 4 32 Tryz.underlying26 info_src rfl (by decide) _ k _ rfl (ho2.alloc _) w2.heap.size (srcCells (g s)) rfl rfl (src_new1 _ _ _) (one_src _) A1 A2 (le_alloc hbb.size _) ?_; intro v1 w1 ho1 hb1)
      exact ⟨⟨k + 1, by omega, by go_num, by rw [srcs_map_step g HX.out]; exact ho1, (hbb.alloc hbb.size _).trans hb1⟩, by simp [intOf]; omega⟩
    · go_wp2
      go_ret
      obtain rfl : k = n := by omega
      rw [List.take_of_length_le (by rw [HL.out]; omega)] at ho
      exact ⟨_, rfl, ho, hb⟩
theorem mapS2 (p q : Value) (f : Nat) (g : Src → Src) (hcf : ∀ a W, Sem.run Tryz.prog (callFunc f #[a, p, q]) W = .ok (.enter f #[a, p, q]) W) (A : Option Addr) (n c : Nat) (l : List Src) (w : World) (h : Reads w w.heap.size 4 A n (srcs l)) (hn : n ≤ 1000000000000)
    (hf : ∀ s W, s ∈ l → Below w.heap.size w W → Calls Tryz.prog f #[.agg #[.int .i64 s.x, .int .i64 s.y, .int .i64 s.g, .int .i64 s.p], p, q] W fun r W' => r = .returned (.agg #[.int .i64 (g s).x, .int .i64 (g s).y, .int .i64 (g s).g, .int .i64 (g s).p]) ∧ Below W.heap.size W W') :
    Calls Tryz.prog 98 #[.slice A n c, .func (.func f) #[] #[p, q]] w fun r w' => ∃ A' c', r = .returned (.slice A' n c') ∧ Reads w' w'.heap.size 4 A' n (srcs (l.map g)) ∧ Below w.heap.size w w' :=
  (mapS2_own p q f g hcf A n c l w h hn hf).mono fun _ _ ⟨v, he, ho, hb⟩ => by
    obtain ⟨A', c', rfl, hr⟩ := own_slice ho
    exact ⟨A', c', he, hr, hb⟩
end Go.Proofs.YtcihiglpahhboaaGreatDoor

namespace Go.Proofs.YtcihiglpahhboaaGreatDoor
open Go.RowKit
set_option maxRecDepth 100000

theorem lt8' {k : Nat} (h : k < 8) : k = 0 ∨ k = 1 ∨ k = 2 ∨ k = 3 ∨ k = 4 ∨ k = 5 ∨ k = 6 ∨ k = 7 := by omega
/-- The cells of eight complex integers, of which k are there. -/
def pcs (f : Nat → G) (k : Nat) : List Value := (List.range 8).flatMap fun j => if j < k then [.int .i64 (f j).re, .int .i64 (f j).im] else [.int .i64 0, .int .i64 0]
theorem pcs_zero (f : Nat → G) : (pcs f 0).toArray = #[.int .i64 0, .int .i64 0, .int .i64 0, .int .i64 0, .int .i64 0, .int .i64 0, .int .i64 0, .int .i64 0, .int .i64 0, .int .i64 0, .int .i64 0, .int .i64 0, .int .i64 0, .int .i64 0, .int .i64 0, .int .i64 0] := rfl
theorem pcs_all (f : Nat → G) : (pcs f 8).toArray = #[.int .i64 (f 0).re, .int .i64 (f 0).im, .int .i64 (f 1).re, .int .i64 (f 1).im, .int .i64 (f 2).re, .int .i64 (f 2).im, .int .i64 (f 3).re, .int .i64 (f 3).im, .int .i64 (f 4).re, .int .i64 (f 4).im, .int .i64 (f 5).re, .int .i64 (f 5).im, .int .i64 (f 6).re, .int .i64 (f 6).im, .int .i64 (f 7).re, .int .i64 (f 7).im] := rfl
theorem pcs_len (f : Nat → G) (k : Nat) : (pcs f k).length = 16 := by
  unfold pcs
  rw [List.length_flatMap]
  have : ∀ j : Nat, (if j < k then [Value.int .i64 (f j).re, .int .i64 (f j).im] else [.int .i64 0, .int .i64 0]).length = 2 := fun j => by split <;> rfl
  simp only [this]
  rfl
/-- One of them is stored. -/
theorem pcs_set {W : World} {g : Nat} {t : TypeId} {f : Nat → G} {k : Nat} (hk : k < 8) (h : Blk W g t (pcs f k).toArray) :
    Blk ((W.setCell ⟨g, k * 2, none⟩ (.int .i64 (f k).re)).setCell ⟨g, k * 2 + 1, none⟩ (.int .i64 (f k).im)) g t (pcs f (k + 1)).toArray := by
  have := (h.set_ (k * 2) (.int .i64 (f k).re)).set_ (k * 2 + 1) (.int .i64 (f k).im)
  rcases lt8' hk with rfl | rfl | rfl | rfl | rfl | rfl | rfl | rfl <;> exact this
theorem pcs_blk {W : World} {g : Nat} {t : TypeId} {f : Nat → G} {k : Nat} (hk : k < 8) (h : Blk W g t #[.int .i64 (f 0).re, .int .i64 (f 0).im, .int .i64 (f 1).re, .int .i64 (f 1).im, .int .i64 (f 2).re, .int .i64 (f 2).im, .int .i64 (f 3).re, .int .i64 (f 3).im, .int .i64 (f 4).re, .int .i64 (f 4).im, .int .i64 (f 5).re, .int .i64 (f 5).im, .int .i64 (f 6).re, .int .i64 (f 6).im, .int .i64 (f 7).re, .int .i64 (f 7).im]) : W.cell? ⟨g, k * 2, none⟩ = some (.int .i64 (f k).re) ∧ W.cell? ⟨g, k * 2 + 1, none⟩ = some (.int .i64 (f k).im) := by
  rcases lt8' hk with rfl | rfl | rfl | rfl | rfl | rfl | rfl | rfl <;> exact ⟨h.cell _, h.cell _⟩
/-- One of a value of eight. -/
theorem pat_index (f : Nat → G) {k : Nat} (hk : k < 8) (W : World) : (Instr.index 55 (.agg #[.int .i64 (f 0).re, .int .i64 (f 0).im, .int .i64 (f 1).re, .int .i64 (f 1).im, .int .i64 (f 2).re, .int .i64 (f 2).im, .int .i64 (f 3).re, .int .i64 (f 3).im, .int .i64 (f 4).re, .int .i64 (f 4).im, .int .i64 (f 5).re, .int .i64 (f 5).im, .int .i64 (f 6).re, .int .i64 (f 6).im, .int .i64 (f 7).re, .int .i64 (f 7).im]) (.int .i64 (k : Int))).run Tryz.prog W = .ok (.agg #[.int .i64 (f k).re, .int .i64 (f k).im]) W := by
  rcases lt8' hk with rfl | rfl | rfl | rfl | rfl | rfl | rfl | rfl <;> kernel_rfl
/-- Eight numbers as a value. -/
structure Au where
  a0 : Int
  a1 : Int
  a2 : Int
  a3 : Int
  a4 : Int
  a5 : Int
  a6 : Int
  a7 : Int
def Au.l (a : Au) : List Int := [a.a0, a.a1, a.a2, a.a3, a.a4, a.a5, a.a6, a.a7]
theorem au_index (a : Au) {k : Nat} (hk : k < 8) (W : World) : (Instr.index 64 (.agg #[.int .i64 a.a0, .int .i64 a.a1, .int .i64 a.a2, .int .i64 a.a3, .int .i64 a.a4, .int .i64 a.a5, .int .i64 a.a6, .int .i64 a.a7]) (.int .i64 (k : Int))).run Tryz.prog W = .ok (.int .i64 (a.l.getD k 0)) W := by
  rcases lt8' hk with rfl | rfl | rfl | rfl | rfl | rfl | rfl | rfl <;> kernel_rfl
end Go.Proofs.YtcihiglpahhboaaGreatDoor

namespace Go.Proofs.YtcihiglpahhboaaGreatDoor
open Go.RowKit
set_option maxRecDepth 100000
theorem sets4 (w : World) (b : Nat) (t : TypeId) (c0 c1 c2 c3 u0 u1 u2 u3 : Value) (hk : Blk w b t #[c0, c1, c2, c3]) :
    ∃ w1, w1 = ((((w.setCell ⟨b, 0, none⟩ u0).setCell ⟨b, 1, none⟩ u1).setCell ⟨b, 2, none⟩ u2).setCell ⟨b, 3, none⟩ u3) ∧ Blk w1 b t #[u0, u1, u2, u3] ∧ w1.heap.size = w.heap.size ∧ (∀ g t' cs', g ≠ b → Blk w g t' cs' → Blk w1 g t' cs') ∧ (∀ B v, B ≤ b → Below B v w → Below B v w1) := by
  have k := ((((hk.set_ 0 u0).set_ 1 u1).set_ 2 u2).set_ 3 u3)
  refine ⟨_, rfl, by simpa using k, by simp [World.setCell], fun g t' cs' hg h => ?_, fun B v hB h => ?_⟩
  · exact ((((h.far (p := ⟨b, 0, none⟩) hg _).far (p := ⟨b, 1, none⟩) hg _).far (p := ⟨b, 2, none⟩) hg _).far (p := ⟨b, 3, none⟩) hg _)
  · exact (below_set (below_set (below_set (below_set h hB _) hB _) hB _) hB _)
theorem fins4 {Q : World → Prop} {B : Nat} {v w : World} {b : Nat} {c0 c1 c2 c3 u0 u1 u2 u3 : Value} (t : TypeId) (hB : Below B v w) (hg : B ≤ b) (hk : Blk w b t #[c0, c1, c2, c3]) (h : ∀ X, Below B v X → Blk X b t #[u0, u1, u2, u3] → Q X) :
    Q ((((w.setCell ⟨b, 0, none⟩ u0).setCell ⟨b, 1, none⟩ u1).setCell ⟨b, 2, none⟩ u2).setCell ⟨b, 3, none⟩ u3) := by
  obtain ⟨w1, e1, k, _, _, hb⟩ := sets4 w b t c0 c1 c2 c3 u0 u1 u2 u3 hk
  rw [← e1]
  exact h _ (hb B v hg hB) k
theorem sets8 (w : World) (b : Nat) (t : TypeId) (c0 c1 c2 c3 c4 c5 c6 c7 u0 u1 u2 u3 u4 u5 u6 u7 : Value) (hk : Blk w b t #[c0, c1, c2, c3, c4, c5, c6, c7]) :
    ∃ w1, w1 = ((((((((w.setCell ⟨b, 0, none⟩ u0).setCell ⟨b, 1, none⟩ u1).setCell ⟨b, 2, none⟩ u2).setCell ⟨b, 3, none⟩ u3).setCell ⟨b, 4, none⟩ u4).setCell ⟨b, 5, none⟩ u5).setCell ⟨b, 6, none⟩ u6).setCell ⟨b, 7, none⟩ u7) ∧ Blk w1 b t #[u0, u1, u2, u3, u4, u5, u6, u7] ∧ w1.heap.size = w.heap.size ∧ (∀ g t' cs', g ≠ b → Blk w g t' cs' → Blk w1 g t' cs') ∧ (∀ B v, B ≤ b → Below B v w → Below B v w1) := by
  have k := ((((((((hk.set_ 0 u0).set_ 1 u1).set_ 2 u2).set_ 3 u3).set_ 4 u4).set_ 5 u5).set_ 6 u6).set_ 7 u7)
  refine ⟨_, rfl, by simpa using k, by simp [World.setCell], fun g t' cs' hg h => ?_, fun B v hB h => ?_⟩
  · exact ((((((((h.far (p := ⟨b, 0, none⟩) hg _).far (p := ⟨b, 1, none⟩) hg _).far (p := ⟨b, 2, none⟩) hg _).far (p := ⟨b, 3, none⟩) hg _).far (p := ⟨b, 4, none⟩) hg _).far (p := ⟨b, 5, none⟩) hg _).far (p := ⟨b, 6, none⟩) hg _).far (p := ⟨b, 7, none⟩) hg _)
  · exact (below_set (below_set (below_set (below_set (below_set (below_set (below_set (below_set h hB _) hB _) hB _) hB _) hB _) hB _) hB _) hB _)
theorem fins8 {Q : World → Prop} {B : Nat} {v w : World} {b : Nat} {c0 c1 c2 c3 c4 c5 c6 c7 u0 u1 u2 u3 u4 u5 u6 u7 : Value} (t : TypeId) (hB : Below B v w) (hg : B ≤ b) (hk : Blk w b t #[c0, c1, c2, c3, c4, c5, c6, c7]) (h : ∀ X, Below B v X → Blk X b t #[u0, u1, u2, u3, u4, u5, u6, u7] → Q X) :
    Q ((((((((w.setCell ⟨b, 0, none⟩ u0).setCell ⟨b, 1, none⟩ u1).setCell ⟨b, 2, none⟩ u2).setCell ⟨b, 3, none⟩ u3).setCell ⟨b, 4, none⟩ u4).setCell ⟨b, 5, none⟩ u5).setCell ⟨b, 6, none⟩ u6).setCell ⟨b, 7, none⟩ u7) := by
  obtain ⟨w1, e1, k, _, _, hb⟩ := sets8 w b t c0 c1 c2 c3 c4 c5 c6 c7 u0 u1 u2 u3 u4 u5 u6 u7 hk
  rw [← e1]
  exact h _ (hb B v hg hB) k
theorem sets16 (w : World) (b : Nat) (t : TypeId) (c0 c1 c2 c3 c4 c5 c6 c7 c8 c9 c10 c11 c12 c13 c14 c15 u0 u1 u2 u3 u4 u5 u6 u7 u8 u9 u10 u11 u12 u13 u14 u15 : Value) (hk : Blk w b t #[c0, c1, c2, c3, c4, c5, c6, c7, c8, c9, c10, c11, c12, c13, c14, c15]) :
    ∃ w1, w1 = ((((((((((((((((w.setCell ⟨b, 0, none⟩ u0).setCell ⟨b, 1, none⟩ u1).setCell ⟨b, 2, none⟩ u2).setCell ⟨b, 3, none⟩ u3).setCell ⟨b, 4, none⟩ u4).setCell ⟨b, 5, none⟩ u5).setCell ⟨b, 6, none⟩ u6).setCell ⟨b, 7, none⟩ u7).setCell ⟨b, 8, none⟩ u8).setCell ⟨b, 9, none⟩ u9).setCell ⟨b, 10, none⟩ u10).setCell ⟨b, 11, none⟩ u11).setCell ⟨b, 12, none⟩ u12).setCell ⟨b, 13, none⟩ u13).setCell ⟨b, 14, none⟩ u14).setCell ⟨b, 15, none⟩ u15) ∧ Blk w1 b t #[u0, u1, u2, u3, u4, u5, u6, u7, u8, u9, u10, u11, u12, u13, u14, u15] ∧ w1.heap.size = w.heap.size ∧ (∀ g t' cs', g ≠ b → Blk w g t' cs' → Blk w1 g t' cs') ∧ (∀ B v, B ≤ b → Below B v w → Below B v w1) := by
  have k := ((((((((((((((((hk.set_ 0 u0).set_ 1 u1).set_ 2 u2).set_ 3 u3).set_ 4 u4).set_ 5 u5).set_ 6 u6).set_ 7 u7).set_ 8 u8).set_ 9 u9).set_ 10 u10).set_ 11 u11).set_ 12 u12).set_ 13 u13).set_ 14 u14).set_ 15 u15)
  refine ⟨_, rfl, by simpa using k, by simp [World.setCell], fun g t' cs' hg h => ?_, fun B v hB h => ?_⟩
  · exact ((((((((((((((((h.far (p := ⟨b, 0, none⟩) hg _).far (p := ⟨b, 1, none⟩) hg _).far (p := ⟨b, 2, none⟩) hg _).far (p := ⟨b, 3, none⟩) hg _).far (p := ⟨b, 4, none⟩) hg _).far (p := ⟨b, 5, none⟩) hg _).far (p := ⟨b, 6, none⟩) hg _).far (p := ⟨b, 7, none⟩) hg _).far (p := ⟨b, 8, none⟩) hg _).far (p := ⟨b, 9, none⟩) hg _).far (p := ⟨b, 10, none⟩) hg _).far (p := ⟨b, 11, none⟩) hg _).far (p := ⟨b, 12, none⟩) hg _).far (p := ⟨b, 13, none⟩) hg _).far (p := ⟨b, 14, none⟩) hg _).far (p := ⟨b, 15, none⟩) hg _)
  · exact (below_set (below_set (below_set (below_set (below_set (below_set (below_set (below_set (below_set (below_set (below_set (below_set (below_set (below_set (below_set (below_set h hB _) hB _) hB _) hB _) hB _) hB _) hB _) hB _) hB _) hB _) hB _) hB _) hB _) hB _) hB _) hB _)
theorem fins16 {Q : World → Prop} {B : Nat} {v w : World} {b : Nat} {c0 c1 c2 c3 c4 c5 c6 c7 c8 c9 c10 c11 c12 c13 c14 c15 u0 u1 u2 u3 u4 u5 u6 u7 u8 u9 u10 u11 u12 u13 u14 u15 : Value} (t : TypeId) (hB : Below B v w) (hg : B ≤ b) (hk : Blk w b t #[c0, c1, c2, c3, c4, c5, c6, c7, c8, c9, c10, c11, c12, c13, c14, c15]) (h : ∀ X, Below B v X → Blk X b t #[u0, u1, u2, u3, u4, u5, u6, u7, u8, u9, u10, u11, u12, u13, u14, u15] → Q X) :
    Q ((((((((((((((((w.setCell ⟨b, 0, none⟩ u0).setCell ⟨b, 1, none⟩ u1).setCell ⟨b, 2, none⟩ u2).setCell ⟨b, 3, none⟩ u3).setCell ⟨b, 4, none⟩ u4).setCell ⟨b, 5, none⟩ u5).setCell ⟨b, 6, none⟩ u6).setCell ⟨b, 7, none⟩ u7).setCell ⟨b, 8, none⟩ u8).setCell ⟨b, 9, none⟩ u9).setCell ⟨b, 10, none⟩ u10).setCell ⟨b, 11, none⟩ u11).setCell ⟨b, 12, none⟩ u12).setCell ⟨b, 13, none⟩ u13).setCell ⟨b, 14, none⟩ u14).setCell ⟨b, 15, none⟩ u15) := by
  obtain ⟨w1, e1, k, _, _, hb⟩ := sets16 w b t c0 c1 c2 c3 c4 c5 c6 c7 c8 c9 c10 c11 c12 c13 c14 c15 u0 u1 u2 u3 u4 u5 u6 u7 u8 u9 u10 u11 u12 u13 u14 u15 hk
  rw [← e1]
  exact h _ (hb B v hg hB) k
end Go.Proofs.YtcihiglpahhboaaGreatDoor

namespace Go.Proofs.YtcihiglpahhboaaGreatDoor
open Go.RowKit
set_option maxRecDepth 100000
theorem srcs_cons (a : Src) (L : List Src) : srcs (a :: L) = srcCells a ++ srcs L := by simp [srcs]
theorem srcs_set {L : List Src} {i j : Nat} {s s' : Src} {v : Value} (h : L[i]? = some s) (hj : j < 4) (hs : (srcCells s).set j v = srcCells s') : (srcs L).set (i * 4 + j) v = srcs (L.set i s') := by
  induction L generalizing i with
  | nil => simp at h
  | cons a L ih =>
    cases i with
    | zero =>
      simp at h
      subst h
      rw [srcs_cons, List.set_cons_zero, srcs_cons, Nat.zero_mul, Nat.zero_add, List.set_append_left _ _ (by simp [srcCells]; omega), hs]
    | succ i =>
      rw [srcs_cons, List.set_cons_succ, srcs_cons, List.set_append_right _ _ (by simp [srcCells]; omega), ← ih (i := i) (by simpa using h)]
      congr 2
      simp [srcCells]; omega
theorem blk_src {W : World} {g : Nat} {t : TypeId} {L : List Src} {i j : Nat} {s s' : Src} {v : Value} (hk : Blk W g t (srcs L).toArray) (h : L[i]? = some s) (hj : j < 4) (hs : (srcCells s).set j v = srcCells s') :
    Blk (W.setCell ⟨g, i * 4 + j, none⟩ v) g t (srcs (L.set i s')).toArray := by
  have := hk.set_ (i * 4 + j) v
  rw [← srcs_set h hj hs]
  simpa using this
theorem blk_src0 {W : World} {g : Nat} {t : TypeId} {L : List Src} {i : Nat} {s s' : Src} {v : Value} (hk : Blk W g t (srcs L).toArray) (h : L[i]? = some s) (hs : (srcCells s).set 0 v = srcCells s') :
    Blk (W.setCell ⟨g, i * 4, none⟩ v) g t (srcs (L.set i s')).toArray := blk_src (j := 0) hk h (by omega) hs
/-- A source in a block of one's own. -/
theorem blk_hit {W : World} {g : Nat} {t : TypeId} {L : List Src} {i : Nat} {s : Src} (hk : Blk W g t (srcs L).toArray) (h : L[i]? = some s) :
    W.cell? ⟨g, i * 4, none⟩ = some (.int .i64 s.x) ∧ W.cell? ⟨g, i * 4 + 1, none⟩ = some (.int .i64 s.y) ∧ W.cell? ⟨g, i * 4 + 2, none⟩ = some (.int .i64 s.g) ∧ W.cell? ⟨g, i * 4 + 3, none⟩ = some (.int .i64 s.p) := by
  have go : ∀ j v, j < 4 → (srcCells s)[j]? = some v → W.cell? ⟨g, i * 4 + j, none⟩ = some v := fun j v hj hv => by
    rw [hk.cell, List.getElem?_toArray, srcs_at h hj]; exact hv
  exact ⟨go 0 _ (by omega) rfl, go 1 _ (by omega) rfl, go 2 _ (by omega) rfl, go 3 _ (by omega) rfl⟩
theorem blk_srcS {W : World} {g : Nat} {t : TypeId} {L : List Src} {sp : List Value} {i j : Nat} {s s' : Src} {v : Value} (hk : Blk W g t (srcs L ++ sp).toArray) (h : L[i]? = some s) (hj : j < 4) (hs : (srcCells s).set j v = srcCells s') :
    Blk (W.setCell ⟨g, i * 4 + j, none⟩ v) g t (srcs (L.set i s') ++ sp).toArray := by
  have := hk.set_ (i * 4 + j) v
  have hi := (List.getElem?_eq_some_iff.1 h).1
  rw [← srcs_set h hj hs, ← List.set_append_left _ _ (by rw [srcs_len]; omega)]
  simpa using this
theorem blk_hitS {W : World} {g : Nat} {t : TypeId} {L : List Src} {sp : List Value} {i : Nat} {s : Src} (hk : Blk W g t (srcs L ++ sp).toArray) (h : L[i]? = some s) :
    W.cell? ⟨g, i * 4, none⟩ = some (.int .i64 s.x) ∧ W.cell? ⟨g, i * 4 + 1, none⟩ = some (.int .i64 s.y) ∧ W.cell? ⟨g, i * 4 + 2, none⟩ = some (.int .i64 s.g) ∧ W.cell? ⟨g, i * 4 + 3, none⟩ = some (.int .i64 s.p) := by
  have hi := (List.getElem?_eq_some_iff.1 h).1
  have go : ∀ j v, j < 4 → (srcCells s)[j]? = some v → W.cell? ⟨g, i * 4 + j, none⟩ = some v := fun j v hj hv => by
    rw [hk.cell, List.getElem?_toArray, List.getElem?_append_left (by rw [srcs_len]; omega), srcs_at h hj]; exact hv
  exact ⟨go 0 _ (by omega) rfl, go 1 _ (by omega) rfl, go 2 _ (by omega) rfl, go 3 _ (by omega) rfl⟩
/-- The first i of one list, the others of another. -/
def mix (a b : List Src) (i : Nat) : List Src := a.take i ++ b.drop i
theorem mix_zero (a b : List Src) : mix a b 0 = b := by simp [mix]
theorem mix_len {a b : List Src} (h : a.length = b.length) (i : Nat) : (mix a b i).length = b.length := by unfold mix; simp; omega
theorem mix_all {a b : List Src} {i : Nat} (h : a.length = b.length) (hi : b.length ≤ i) : mix a b i = a := by unfold mix; rw [List.take_of_length_le (by omega), List.drop_eq_nil_of_le hi, List.append_nil]
theorem mix_at {a b : List Src} (h : a.length = b.length) (i j : Nat) : (mix a b i)[j]? = if j < i then a[j]? else b[j]? := by
  unfold mix
  rw [List.getElem?_append, List.length_take]
  by_cases hj : j < i
  · rw [if_pos hj]
    by_cases hl : j < a.length
    · rw [if_pos (by omega), List.getElem?_take, if_pos hj]
    · rw [if_neg (by omega), List.getElem?_drop, List.getElem?_eq_none (by omega), List.getElem?_eq_none (by omega)]
  · rw [if_neg hj]
    by_cases hl : i ≤ a.length
    · rw [if_neg (by omega), List.getElem?_drop]
      congr 1; omega
    · rw [if_neg (by omega), List.getElem?_drop, List.getElem?_eq_none (by omega), List.getElem?_eq_none (by omega)]
theorem mix_step {a b : List Src} (h : a.length = b.length) {i : Nat} {s : Src} (hs : a[i]? = some s) : (mix a b i).set i s = mix a b (i + 1) := by
  apply List.ext_getElem?
  intro j
  rw [mix_at h, List.getElem?_set, mix_at h, mix_len h]
  have hi : i < a.length := (List.getElem?_eq_some_iff.1 hs).1
  by_cases hj : i = j
  · subst hj
    rw [if_pos rfl, if_pos (by omega), if_pos (by omega), hs]
  · rw [if_neg hj]
    by_cases h2 : j < i
    · rw [if_pos h2, if_pos (by omega)]
    · rw [if_neg h2, if_neg (by omega)]
/-- The last of one list, from i on, the first of another. -/
theorem mix_back {a b : List Src} (h : a.length = b.length) {i : Nat} {s : Src} (hs : b[i]? = some s) : (mix a b (i + 1)).set i s = mix a b i := by
  apply List.ext_getElem?
  intro j
  rw [mix_at h, List.getElem?_set, mix_at h, mix_len h]
  have hi : i < b.length := (List.getElem?_eq_some_iff.1 hs).1
  by_cases hj : i = j
  · subst hj
    rw [if_pos rfl, if_pos (by omega), if_neg (by omega), hs]
  · rw [if_neg hj]
    by_cases h2 : j < i
    · rw [if_pos h2, if_pos (by omega)]
    · rw [if_neg h2, if_neg (by omega)]
end Go.Proofs.YtcihiglpahhboaaGreatDoor
