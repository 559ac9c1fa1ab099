/- The laws' own functions: copies of ladders; how great the parts of complex integers are. -/
import Derived.Test.YthlnmoecmicofaaDoorNLad
namespace Go.Proofs.YthlnmoecmicofaaDoor
open Go.RowKit Go.Shelf
set_option maxRecDepth 100000

theorem info_el : (Tryd.prog.info? 62).map (fun i => (i.zero, i.size, i.bytes)) = some (some (.agg #[.string { data := #[] }, .int .i64 0, .int .i64 0]), 3, 32) := by kernel_rfl
theorem els_take_succ {l : List El} {k : Nat} {x : El} (h : l[k]? = some x) : els (l.take (k + 1)) = els (l.take k) ++ elCells x := by
  rw [List.take_add_one, h]; exact els_snoc _ _
theorem el_new2 (w : World) (o : Obj) (s : El) (t : TypeId) : ∀ j u, (elCells s)[j]? = some u → ((w.alloc o).alloc (.cells #[.string s.kind, .int .i64 s.a, .int .i64 s.b] t)).cell? ⟨w.heap.size + 1, j, none⟩ = some u := by
  intro j u hu
  have := cells_new (w.alloc o) (elCells s) t j u hu
  rwa [World.size_alloc] at this
set_option maxHeartbeats 1000000 in
theorem spiEls_any (A : Option Addr) (n c : Nat) (l : List El) (w : World) (h : Reads w w.heap.size 3 A n (els l)) (hn : n ≤ 1000000) :
    Calls Tryd.prog 13 #[.slice A n c] w fun r w' => ∃ v, r = .returned v ∧ w'.ownsRow w.heap.size 62 3 v n (els l) ∧ Below w.heap.size w w' := by
  have hl := els_reads_len h
  have HL := hide hl; clear hl
  go_enter Tryd.func13, Tryd.ntmps13
  go_wp2
  go_loopw [3, 8] (fun v i wr => ∃ k : Nat, k ≤ n ∧ i = .int .i64 k ∧ wr.ownsRow w.heap.size 62 3 v k (els (l.take k)) ∧ Below w.heap.size w wr) (fun _ i _ => n - (intOf i).toNat)
  case atStart => exact ⟨0, by omega, rfl, by simp [els, World.ownsRow_nil], Below.refl _ _⟩
  case round =>
    obtain ⟨k, hk, rfl, ho, hb⟩ := hrel
    by_cases hlt : k < n
    · have hr := h.below hb
      obtain ⟨ad, s, rfl, _, hx, hc⟩ := els_hit hr hlt hb.size
      have HX := hide hx; clear hx
      have hsz := hb.size
      have A1 : k + 1 ≤ maxLen := by unfold maxLen; omega
      have A2 : (k + 1) * 32 ≤ 140737488355328 := by omega
      obtain ⟨d0, d1, d2⟩ := hc wr (Below.refl _ _)
      clear h hr hc
      go_wp2_with (at_builtin; refine wpList_push _ rfl (.tmp 12) (.tmp 14) _ rfl w.heap.size 62 _ 3 32 Tryd.underlying41 info_el rfl (by decide) _ k _ rfl ((ho.alloc _).alloc _) (wr.heap.size + 1) (elCells s) rfl rfl (el_new2 _ _ _ _) (one_el _) A1 A2 (le_alloc (le_alloc hsz _) _) ?_; intro v1 w1 ho1 hb1)
      exact ⟨⟨k + 1, by omega, by go_num, by rw [els_take_succ HX.out]; exact ho1, ((hb.alloc hsz _).alloc (le_alloc hsz _) _).trans hb1⟩, by simp [intOf]; omega⟩
    · go_wp2
      go_ret
      obtain rfl : k = n := by omega
      rw [List.take_of_length_le (by rw [HL.out]; omega)] at ho
      exact ⟨_, rfl, ho, hb⟩
theorem spiEls_lad (A : Option Addr) (n c : Nat) (l : List El) (w : World) (h : Reads w w.heap.size 3 A n (els l)) (hn : n ≤ 1000000) :
    Calls Tryd.prog 13 #[.slice A n c] w fun r w' => ∃ A' c', r = .returned (.slice A' n c') ∧ Reads w' w'.heap.size 3 A' n (els l) ∧ Below w.heap.size w w' :=
  (spiEls_any A n c l w h hn).mono fun _ _ ⟨_, hr, ho, hb⟩ => by
    obtain ⟨A', c', rfl, hR⟩ := own_slice ho
    exact ⟨A', c', hr, hR, hb⟩
set_option maxHeartbeats 1000000 in
theorem dustLad_any (A : Option Addr) (n c : Nat) (l : List El) (w : World) (h : Reads w w.heap.size 3 A n (els l)) (hn : n ≤ 1000000) :
    Calls Tryd.prog 24 #[.slice A n c] w fun r w' => ∃ v, r = .returned v ∧ w'.ownsRow w.heap.size 62 3 v n (els l) ∧ Below w.heap.size w w' := by
  have hl := els_reads_len h
  have HL := hide hl; clear hl
  go_enter Tryd.func24, Tryd.ntmps24
  go_wp2
  go_loopw [3, 8] (fun v i wr => ∃ k : Nat, k ≤ n ∧ i = .int .i64 k ∧ wr.ownsRow w.heap.size 62 3 v k (els (l.take k)) ∧ Below w.heap.size w wr) (fun _ i _ => n - (intOf i).toNat)
  case atStart => exact ⟨0, by omega, rfl, by simp [els, World.ownsRow_nil], Below.refl _ _⟩
  case round =>
    obtain ⟨k, hk, rfl, ho, hb⟩ := hrel
    by_cases hlt : k < n
    · have hr := h.below hb
      obtain ⟨ad, s, rfl, _, hx, hc⟩ := els_hit hr hlt hb.size
      have HX := hide hx; clear hx
      have hsz := hb.size
      have A1 : k + 1 ≤ maxLen := by unfold maxLen; omega
      have A2 : (k + 1) * 32 ≤ 140737488355328 := by omega
      obtain ⟨d0, d1, d2⟩ := hc wr (Below.refl _ _)
      clear h hr hc
      go_wp2_with (at_builtin; refine wpList_push _ rfl (.tmp 12) (.tmp 14) _ rfl w.heap.size 62 _ 3 32 Tryd.underlying41 info_el rfl (by decide) _ k _ rfl ((ho.alloc _).alloc _) (wr.heap.size + 1) (elCells s) rfl rfl (el_new2 _ _ _ _) (one_el _) A1 A2 (le_alloc (le_alloc hsz _) _) ?_; intro v1 w1 ho1 hb1)
      exact ⟨⟨k + 1, by omega, by go_num, by rw [els_take_succ HX.out]; exact ho1, ((hb.alloc hsz _).alloc (le_alloc hsz _) _).trans hb1⟩, by simp [intOf]; omega⟩
    · go_wp2
      go_ret
      obtain rfl : k = n := by omega
      rw [List.take_of_length_le (by rw [HL.out]; omega)] at ho
      exact ⟨_, rfl, ho, hb⟩
theorem dustLad_lad (A : Option Addr) (n c : Nat) (l : List El) (w : World) (h : Reads w w.heap.size 3 A n (els l)) (hn : n ≤ 1000000) :
    Calls Tryd.prog 24 #[.slice A n c] w fun r w' => ∃ A' c', r = .returned (.slice A' n c') ∧ Reads w' w'.heap.size 3 A' n (els l) ∧ Below w.heap.size w w' :=
  (dustLad_any A n c l w h hn).mono fun _ _ ⟨_, hr, ho, hb⟩ => by
    obtain ⟨A', c', rfl, hR⟩ := own_slice ho
    exact ⟨A', c', hr, hR, hb⟩

/-! ### Complex integers in memory -/
def gCells (z : G) : List Value := [.int .i64 z.re, .int .i64 z.im]
def gs (l : List G) : List Value := l.flatMap gCells
theorem gs_len (l : List G) : (gs l).length = l.length * 2 := by
  induction l with
  | nil => rfl
  | cons s l ih => simp only [gs, List.flatMap_cons, List.length_append, List.length_cons] at *; rw [ih]; simp [gCells]; omega
theorem gs_at {l : List G} {k j : Nat} {s : G} (h : l[k]? = some s) (hj : j < 2) : (gs l)[k * 2 + j]? = (gCells s)[j]? := by
  induction l generalizing k with
  | nil => simp at h
  | cons a l ih =>
    show (gCells a ++ gs l)[k * 2 + j]? = _
    cases k with
    | zero =>
      simp at h
      subst h
      rw [List.getElem?_append_left (by simp [gCells]; omega)]
      congr 1; omega
    | succ k =>
      rw [List.getElem?_append_right (by simp [gCells]; omega)]
      rw [← ih (k := k) (by simpa using h)]
      congr 1
      simp [gCells]; omega
theorem gs_reads_len {w : World} {B n : Nat} {A : Option Addr} {l : List G} (h : Reads w B 2 A n (gs l)) : l.length = n := by
  have := h.1
  rw [gs_len] at this
  omega
theorem gs_hit {w : World} {B n k : Nat} {A : Option Addr} {l : List G} (h : Reads w B 2 A n (gs l)) (hk : k < n) (hB : B ≤ w.heap.size) :
    ∃ ad s, A = some ad ∧ ad.block < B ∧ l[k]? = some s ∧ ∀ W, Below w.heap.size w W → W.cell? (ad.add (k * 2)) = some (.int .i64 s.re) ∧ W.cell? ⟨(ad.add (k * 2)).block, (ad.add (k * 2)).off + 1, none⟩ = some (.int .i64 s.im) := by
  obtain ⟨ad, h1, h2, h3⟩ := h.2 (by omega)
  have hl := gs_reads_len h
  have hs : l[k]? = some (l[k]'(by omega)) := List.getElem?_eq_getElem (by omega)
  refine ⟨ad, _, h1, h2, hs, fun W hW => ?_⟩
  have go : ∀ j v, j < 2 → (gCells (l[k]'(by omega)))[j]? = some v → W.cell? (ad.add (k * 2 + j)) = some v := fun j v hj hv => (hW.cell (p := ad.add (k * 2 + j)) (by rw [block_of_add]; omega)).trans (h3 _ _ ((gs_at hs hj).trans hv))
  have go' : ∀ j v, j < 2 → 1 ≤ j → (gCells (l[k]'(by omega)))[j]? = some v → W.cell? ⟨(ad.add (k * 2)).block, (ad.add (k * 2)).off + j, none⟩ = some v := fun j v hj h1 hv => by rw [add_off _ _ h1, add_of_add]; exact go j v hj hv
  exact ⟨go 0 _ (by omega) rfl, go' 1 _ (by omega) (by omega) rfl⟩
theorem blkG {w : World} {g : Nat} {t : TypeId} {l : List G} {n : Nat} (h : Blk w g t (gs l).toArray) (hn : n = l.length) : Reads w w.heap.size 2 (some ⟨g, 0, none⟩) n (gs l) := by
  refine ⟨by rw [gs_len]; omega, fun _ => ⟨_, rfl, h.lt, fun j u hu => ?_⟩⟩
  have : (⟨g, 0, none⟩ : Addr).add j = ⟨g, j, none⟩ := by unfold Addr.add; split <;> simp_all
  rw [this, h.cell]
  simpa using hu
/-- Its parts are at most n. -/
def G.inR (z : G) (n : Int) : Prop := -n ≤ z.re ∧ z.re ≤ n ∧ -n ≤ z.im ∧ z.im ≤ n
instance (z : G) (n : Int) : Decidable (z.inR n) := inferInstanceAs (Decidable (_ ∧ _))
def roomB (n : Int) (l : List G) : Bool := l.all fun z => decide (z.inR n)
theorem roomB_iff {n : Int} {l : List G} : roomB n l = true ↔ ∀ z ∈ l, z.inR n := by simp [roomB]
theorem G.inR_of {z : G} {n : Nat} (h : z.nrm ≤ n) : z.inR n := by have := G.nrm_le h; exact ⟨this.1, this.2.1, this.2.2.1, this.2.2.2⟩
theorem spiMax (a b c d : Int) : ∃ X : Int, (∀ w, Sem.run Tryd.prog (Builtin.max_ #[3, 3, 3, 3] 3 #[.int .i64 a, .int .i64 b, .int .i64 c, .int .i64 d]) w = .ok (.int .i64 X) w) ∧ (X = a ∨ X = b ∨ X = c ∨ X = d) ∧ a ≤ X ∧ b ≤ X ∧ c ≤ X ∧ d ≤ X :=
  ⟨(if d > (if c > (if b > a then b else a) then c else (if b > a then b else a)) then d else (if c > (if b > a then b else a) then c else (if b > a then b else a))), fun _ => rfl, by omega⟩
theorem spiMin (a b : Int) : ∃ X : Int, (∀ w, Sem.run Tryd.prog (Builtin.min_ #[3, 3] 3 #[.int .i64 a, .int .i64 b]) w = .ok (.int .i64 X) w) ∧ (X = a ∨ X = b) ∧ X ≤ a ∧ X ≤ b :=
  ⟨(if b < a then b else a), fun _ => rfl, by omega⟩
set_option maxHeartbeats 1000000 in
theorem room13_any (A : Option Addr) (n c : Nat) (l : List G) (w : World) (h : Reads w w.heap.size 2 A n (gs l)) (hn : n ≤ 1000000) (hB : ∀ z ∈ l, z.nrm ≤ 4611686018427387904) :
    Calls Tryd.prog 16 #[.int .i64 13, .slice A n c] w fun r w' => r = .returned (.bool (roomB 8192 l)) ∧ Below w.heap.size w w' := by
  have hl := gs_reads_len h
  have HL := hide hl; clear hl
  go_enter Tryd.func16, Tryd.ntmps16
  go_wp2
  go_loopw [9] (fun i wr => ∃ k : Nat, k ≤ n ∧ i = .int .i64 k ∧ (∀ z ∈ l.take k, z.inR 8192) ∧ Below w.heap.size w wr) (fun i _ => n - (intOf i).toNat)
  case atStart => exact ⟨0, by omega, rfl, by simp, Below.refl _ _⟩
  case round =>
    obtain ⟨k, hk, rfl, hz, hb⟩ := hrel
    have HZ := hide hz; clear hz
    by_cases hlt : k < n
    · obtain ⟨ad, z, rfl, _, hx, hc⟩ := gs_hit (h.below hb) hlt hb.size
      obtain ⟨d0, d1⟩ := hc wr (Below.refl _ _)
      have hzn := G.nrm_le (hB z (List.mem_of_getElem? hx))
      have HX := hide hx
      clear hx hc
      go_upto_region 4 with (fail)
      obtain ⟨w1, e1, hb1, hz1, k1⟩ := box1 wr #[.int .i64 z.re, .int .i64 z.im] 30
      rw [← e1]; clear e1 d0 d1
      have hbw := below_next hb hb1
      have c0 := over_blk k1 k1.lt
      have n1 : IntKind.i64.wrap (-z.re) = -z.re := IntWalk.i64_in _ (by omega)
      have n2 : IntKind.i64.wrap (-z.im) = -z.im := IntWalk.i64_in _ (by omega)
      obtain ⟨X4, rX, hX0, hX1⟩ := spiMax z.re (-z.re) z.im (-z.im)
      obtain ⟨N2, rN, hN0, hN1⟩ := spiMin z.re z.im
      by_cases p1 : 8192 < X4
      · have HN : Hid (¬ z.inR 8192) := fun q => by have := q.1; have := q.2.1; have := q.2.2.1; have := q.2.2.2; omega
        have HF : Hid (roomB 8192 l = false) := Bool.eq_false_iff.2 fun e => HN.out (roomB_iff.1 e z (List.mem_of_getElem? HX.out))
        have t1 : decide (8192 < X4) = true := decide_eq_true p1
        clear hX0 hX1 hN0 hN1 hzn p1
        refine wp_region_over w1.heap.size (by kernel_rfl) (by kernel_rfl) ?_; (repeat (first | go_big_quiet_step (fail) | quiet_step (fail))); refine wpQuiet_nil ?_; rintro W ⟨x, rfl⟩
        go_wp2
        go_ret
        exact ⟨by rw [HF.out]; rfl, below_next hbw (over_below _ _ _)⟩
      · have t1 : decide (8192 < X4) = false := decide_eq_false p1
        by_cases p2 : N2 < -8192
        · have HN : Hid (¬ z.inR 8192) := fun q => by have := q.1; have := q.2.1; have := q.2.2.1; have := q.2.2.2; omega
          have HF : Hid (roomB 8192 l = false) := Bool.eq_false_iff.2 fun e => HN.out (roomB_iff.1 e z (List.mem_of_getElem? HX.out))
          have t2 : decide (N2 < -8192) = true := decide_eq_true p2
          clear hX0 hX1 hN0 hN1 hzn p1 p2
          refine wp_region_over w1.heap.size (by kernel_rfl) (by kernel_rfl) ?_; (repeat (first | go_big_quiet_step (fail) | quiet_step (fail))); refine wpQuiet_nil ?_; rintro W ⟨x, rfl⟩
          go_wp2
          go_ret
          exact ⟨by rw [HF.out]; rfl, below_next hbw (over_below _ _ _)⟩
        · have HN : Hid (z.inR 8192) := ⟨by omega, by omega, by omega, by omega⟩
          have t2 : decide (N2 < -8192) = false := decide_eq_false p2
          clear hX0 hX1 hN0 hN1 hzn p1 p2
          refine wp_region_over w1.heap.size (by kernel_rfl) (by kernel_rfl) ?_; (repeat (first | go_big_quiet_step (fail) | quiet_step (fail))); refine wpQuiet_nil ?_; rintro W ⟨x, rfl⟩
          go_wp2
          go_roundw
          case rel =>
            refine ⟨k + 1, by omega, by go_num, fun y hy => ?_, below_next hbw (over_below _ _ _)⟩
            rw [List.take_add_one, HX.out] at hy
            simp at hy
            rcases hy with hy | rfl
            · exact HZ.out y hy
            · exact HN.out
          case measure => simp [intOf]; omega
    · have HF : Hid (roomB 8192 l = true) := roomB_iff.2 (by
        have := HZ.out
        rwa [List.take_of_length_le (by rw [HL.out]; omega)] at this)
      go_wp2
      go_ret
      exact ⟨by rw [HF.out]; rfl, hb⟩
set_option maxHeartbeats 1000000 in
theorem room15_any (A : Option Addr) (n c : Nat) (l : List G) (w : World) (h : Reads w w.heap.size 2 A n (gs l)) (hn : n ≤ 1000000) (hB : ∀ z ∈ l, z.nrm ≤ 4611686018427387904) :
    Calls Tryd.prog 16 #[.int .i64 15, .slice A n c] w fun r w' => r = .returned (.bool (roomB 32768 l)) ∧ Below w.heap.size w w' := by
  have hl := gs_reads_len h
  have HL := hide hl; clear hl
  go_enter Tryd.func16, Tryd.ntmps16
  go_wp2
  go_loopw [9] (fun i wr => ∃ k : Nat, k ≤ n ∧ i = .int .i64 k ∧ (∀ z ∈ l.take k, z.inR 32768) ∧ Below w.heap.size w wr) (fun i _ => n - (intOf i).toNat)
  case atStart => exact ⟨0, by omega, rfl, by simp, Below.refl _ _⟩
  case round =>
    obtain ⟨k, hk, rfl, hz, hb⟩ := hrel
    have HZ := hide hz; clear hz
    by_cases hlt : k < n
    · obtain ⟨ad, z, rfl, _, hx, hc⟩ := gs_hit (h.below hb) hlt hb.size
      obtain ⟨d0, d1⟩ := hc wr (Below.refl _ _)
      have hzn := G.nrm_le (hB z (List.mem_of_getElem? hx))
      have HX := hide hx
      clear hx hc
      go_upto_region 4 with (fail)
      obtain ⟨w1, e1, hb1, hz1, k1⟩ := box1 wr #[.int .i64 z.re, .int .i64 z.im] 30
      rw [← e1]; clear e1 d0 d1
      have hbw := below_next hb hb1
      have c0 := over_blk k1 k1.lt
      have n1 : IntKind.i64.wrap (-z.re) = -z.re := IntWalk.i64_in _ (by omega)
      have n2 : IntKind.i64.wrap (-z.im) = -z.im := IntWalk.i64_in _ (by omega)
      obtain ⟨X4, rX, hX0, hX1⟩ := spiMax z.re (-z.re) z.im (-z.im)
      obtain ⟨N2, rN, hN0, hN1⟩ := spiMin z.re z.im
      by_cases p1 : 32768 < X4
      · have HN : Hid (¬ z.inR 32768) := fun q => by have := q.1; have := q.2.1; have := q.2.2.1; have := q.2.2.2; omega
        have HF : Hid (roomB 32768 l = false) := Bool.eq_false_iff.2 fun e => HN.out (roomB_iff.1 e z (List.mem_of_getElem? HX.out))
        have t1 : decide (32768 < X4) = true := decide_eq_true p1
        clear hX0 hX1 hN0 hN1 hzn p1
        refine wp_region_over w1.heap.size (by kernel_rfl) (by kernel_rfl) ?_; (repeat (first | go_big_quiet_step (fail) | quiet_step (fail))); refine wpQuiet_nil ?_; rintro W ⟨x, rfl⟩
        go_wp2
        go_ret
        exact ⟨by rw [HF.out]; rfl, below_next hbw (over_below _ _ _)⟩
      · have t1 : decide (32768 < X4) = false := decide_eq_false p1
        by_cases p2 : N2 < -32768
        · have HN : Hid (¬ z.inR 32768) := fun q => by have := q.1; have := q.2.1; have := q.2.2.1; have := q.2.2.2; omega
          have HF : Hid (roomB 32768 l = false) := Bool.eq_false_iff.2 fun e => HN.out (roomB_iff.1 e z (List.mem_of_getElem? HX.out))
          have t2 : decide (N2 < -32768) = true := decide_eq_true p2
          clear hX0 hX1 hN0 hN1 hzn p1 p2
          refine wp_region_over w1.heap.size (by kernel_rfl) (by kernel_rfl) ?_; (repeat (first | go_big_quiet_step (fail) | quiet_step (fail))); refine wpQuiet_nil ?_; rintro W ⟨x, rfl⟩
          go_wp2
          go_ret
          exact ⟨by rw [HF.out]; rfl, below_next hbw (over_below _ _ _)⟩
        · have HN : Hid (z.inR 32768) := ⟨by omega, by omega, by omega, by omega⟩
          have t2 : decide (N2 < -32768) = false := decide_eq_false p2
          clear hX0 hX1 hN0 hN1 hzn p1 p2
          refine wp_region_over w1.heap.size (by kernel_rfl) (by kernel_rfl) ?_; (repeat (first | go_big_quiet_step (fail) | quiet_step (fail))); refine wpQuiet_nil ?_; rintro W ⟨x, rfl⟩
          go_wp2
          go_roundw
          case rel =>
            refine ⟨k + 1, by omega, by go_num, fun y hy => ?_, below_next hbw (over_below _ _ _)⟩
            rw [List.take_add_one, HX.out] at hy
            simp at hy
            rcases hy with hy | rfl
            · exact HZ.out y hy
            · exact HN.out
          case measure => simp [intOf]; omega
    · have HF : Hid (roomB 32768 l = true) := roomB_iff.2 (by
        have := HZ.out
        rwa [List.take_of_length_le (by rw [HL.out]; omega)] at this)
      go_wp2
      go_ret
      exact ⟨by rw [HF.out]; rfl, hb⟩
end Go.Proofs.YthlnmoecmicofaaDoor
