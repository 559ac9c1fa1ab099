/- The reference's Impulse and Cascade. -/
import Derived.Test.YtlaaajkehjoffaaDoorSecs
import Derived.Test.YtlaaajkehjoffaaDoorBaseC
import Derived.Test.YtlaaajkehjoffaaDoorImpulse
namespace Go.Proofs.YtlaaajkehjoffaaDoor
open Go.RowKit Go.Shelf
set_option maxRecDepth 100000

set_option maxHeartbeats 1000000 in
theorem rImpulse_any (s : Sec) (a : Int) (n : Nat) (w : World) (hs : s.Ok) (ha : -32767 ≤ a ∧ a ≤ 32767) (hn : n ≤ 4096) :
    Calls Tryd.prog 57 #[.agg #[.int .i64 s.b0, .int .i64 s.b1, .int .i64 s.b2, .int .i64 s.a1, .int .i64 s.a2, .int .i64 s.sh], .int .i64 a, .int .i64 (n : Int)] w fun e w' => ∃ v, e = .returned v ∧ w'.ownsRow w.heap.size 3 1 v n (ints (s.outs St.zero (pulse a n))) ∧ Below w.heap.size w w' := by
  have hn' : (0 : Int) ≤ (n : Int) := by omega
  have hmk := run_make_row' (P := Tryd.prog) 26 3 (.int .i64 0) 8 Tryd.underlying26 info_int rfl .i64 .i64 n (by omega) (by omega)
  by_cases h0 : n = 0
  · subst h0
    have hmk0 : ∀ W, Sem.run Tryd.prog (Instr.makeSlice 26 (.int .i64 0) (.int .i64 0)) W = .ok (.slice (some ⟨W.heap.size, 0, none⟩) 0 0) (W.alloc (.cells (madeCells #[.int .i64 0] 0) 3)) := fun W => hmk W
    have hlt : ¬ ((0 : Int) < ((0 : Nat) : Int)) := by simp
    clear hmk
    go_enter Tryd.func57, Tryd.ntmps57
    go_wp2_with fail
    obtain ⟨w1, e1, hb1, hz1, k0, k1⟩ := box2 w #[.int .i64 s.b0, .int .i64 s.b1, .int .i64 s.b2, .int .i64 s.a1, .int .i64 s.a2, .int .i64 s.sh] (madeCells #[.int .i64 0] 0) 23 3
    rw [← e1]; clear e1
    have hr : Reads w1 w1.heap.size 1 (some ⟨w.heap.size + 1, 0, none⟩) 0 (ints (pulse a 0)) := ⟨by simp [ints, pulse], fun h => absurd h (by omega)⟩
    refine (rRun_any s _ 0 _ (pulse a 0) _ hs (pulse_bd ha 0) (by omega) hr).mono ?_
    rintro e w2 ⟨v, rfl, ho, hb2⟩
    go_wp2
    go_ret
    exact ⟨v, rfl, ho.weaken hb1.size, below_step hb1 hb2 hb1.size⟩
  · have hp : (0 : Int) < (n : Int) := by omega
    go_enter Tryd.func57, Tryd.ntmps57
    go_upto_region 2 with (fail)
    obtain ⟨w1, e1, hb1, hz1, k0, k1⟩ := box2 w #[.int .i64 s.b0, .int .i64 s.b1, .int .i64 s.b2, .int .i64 s.a1, .int .i64 s.a2, .int .i64 s.sh] (madeCells #[.int .i64 0] n) 23 3
    rw [← e1]; clear e1
    rw [made_eq] at k1
    have c0 := k0.cell
    have c1 : w1.cell? ⟨w.heap.size + 1, 0, none⟩ = some (.int .i64 0) := (k1.cell 0).trans (rep0 (by omega))
    have f1 := k1.frozen 0
    have l1 := k1.lt
    have l0 := k0.lt
    clear hmk
    go_wp2_with fail
    have hk := k1.set_ 0 (.int .i64 a)
    rw [pulse_set (by omega)] at hk
    have hbs : Below w.heap.size w (w1.setCell ⟨w.heap.size + 1, 0, none⟩ (.int .i64 a)) := below_set hb1 (by omega) _
    have hr : Reads (w1.setCell ⟨w.heap.size + 1, 0, none⟩ (.int .i64 a)) (w1.setCell ⟨w.heap.size + 1, 0, none⟩ (.int .i64 a)).heap.size 1 (some ⟨w.heap.size + 1, 0, none⟩) n (ints (pulse a n)) := by
      have := reads_block (n := n) (xs := pulse a n) hk (by rw [pulse_len]; omega) hk.lt
      rwa [List.take_of_length_le (by rw [pulse_len]; omega)] at this
    refine (rRun_any s _ n _ (pulse a n) _ hs (pulse_bd ha n) (by omega) hr).mono ?_
    rintro e w2 ⟨v, rfl, ho, hb2⟩
    go_wp2
    go_ret
    exact ⟨v, rfl, ho.weaken hbs.size, below_step hbs hb2 hbs.size⟩

/-- A signal through sections, one behind another. -/
def casc (l : List Sec) (xs : List Int) : List Int := l.foldl (fun out s => s.outs St.zero out) xs
theorem casc_succ {l : List Sec} {k : Nat} {s : Sec} (h : l[k]? = some s) (xs : List Int) : casc (l.take (k + 1)) xs = s.outs St.zero (casc (l.take k) xs) := by
  unfold casc
  rw [List.take_add_one, h, List.foldl_append]; rfl
theorem casc_len (l : List Sec) : ∀ xs, (casc l xs).length = xs.length := by
  induction l with
  | nil => intro xs; rfl
  | cons a t ih => intro xs; show (casc t _).length = _; rw [ih, outs_len]
theorem casc_bd (l : List Sec) : ∀ {xs : List Int}, (∀ x ∈ xs, -32767 ≤ x ∧ x ≤ 32767) → ∀ x ∈ casc l xs, -32767 ≤ x ∧ x ≤ 32767 := by
  induction l with
  | nil => intro xs h; exact h
  | cons a t ih => intro xs _; exact ih outs_bd

set_option maxHeartbeats 1000000 in
theorem rCascade_any (A : Option Addr) (n c : Nat) (l : List Sec) (A1 : Option Addr) (m c1 : Nat) (xs : List Int) (w : World) (hs : ∀ s ∈ l, s.Ok) (hx : ∀ x ∈ xs, -32767 ≤ x ∧ x ≤ 32767) (hn : n ≤ 1000000000000) (hm : m ≤ 1000000000000)
    (h : Reads w w.heap.size 6 A n (secs l)) (hR : Reads w w.heap.size 1 A1 m (ints xs)) :
    Calls Tryd.prog 58 #[.slice A n c, .slice A1 m c1] w fun e w' => ∃ A' c', e = .returned (.slice A' m c') ∧ Reads w' w'.heap.size 1 A' m (ints (casc l xs)) ∧ Below w.heap.size w w' := by
  obtain ⟨i, hi, hz, hsize, hby⟩ := info_parts info_int
  have h1 := hR.alloc (Nat.le_refl _) (.cells #[] 3)
  have B1 : 0 + m ≤ maxLen := by unfold maxLen; omega
  have B2 : (0 + m) * 8 ≤ 140737488355328 := by omega
  have HL := hide (secs_reads_len h)
  have HS := hide hs
  have HX := hide hx
  clear hs hx
  go_enter Tryd.func58, Tryd.ntmps58
  go_wp2_with (at_builtin; refine wpList_append_any _ rfl (.tmp 7) (.tmp 8) _ rfl w.heap.size 3 i (.int .i64 0) 1 8 Tryd.underlying26 hi hz hsize hby rfl (by decide) _ 0 [] rfl (row_empty w _ _) w.heap.size A1 m c1 (ints xs) rfl h1 (ints_one _) B1 B2 (by simp) ?_; intro v1 w1 ho1 hg1 hq1)
  have hb1 : Below w.heap.size w w1 := ((Below.refl w.heap.size w).alloc (Nat.le_refl _) (.cells #[] 3)).grown hg1 (by simp) fun k hk => by cases hk; exact Nat.le_refl _
  obtain ⟨A2, c2, rfl, r2⟩ : ∃ A2 c2, v1 = .slice A2 m c2 ∧ Reads w1 w1.heap.size 1 A2 m (ints xs) := by
    have := own_slice ho1
    simpa using this
  clear h1 ho1 hg1 hq1 hi hz hsize hby hR
  go_loopw [5, 6] (fun v i wr => ∃ k : Nat, k ≤ n ∧ i = .int .i64 k ∧ Below w.heap.size w wr ∧ ∃ A2 c2, v = .slice A2 m c2 ∧ Reads wr wr.heap.size 1 A2 m (ints (casc (l.take k) xs))) (fun _ i _ => n - (intOf i).toNat)
  case atStart => exact ⟨0, by omega, rfl, hb1, _, _, rfl, r2⟩
  case round =>
    obtain ⟨k, hk, rfl, hb, A2, c2, rfl, r2⟩ := hrel
    by_cases hlt : k < n
    · obtain ⟨ad, s, rfl, _, hg, hc⟩ := secs_hit (h.below hb) hlt hb.size
      have hso := HS.out s (List.mem_of_getElem? hg)
      have HG := hide hg; clear hg
      obtain ⟨d0, d1, d2, d3, d4, d5⟩ := hc wr (Below.refl _ _)
      clear hc h
      go_wp2_with (go_at_call 24; refine (rRun_any s _ m _ (casc (l.take k) xs) _ hso (casc_bd _ HX.out) (by omega) r2).mono ?_; rintro e w3 ⟨v, rfl, ho, hb3⟩; obtain ⟨A3, c3, rfl, r3⟩ := own_slice ho)
      go_roundw
      case rel => exact ⟨k + 1, by omega, by go_num, below_step hb hb3 hb.size, _, _, rfl, by rw [casc_succ HG.out]; exact r3⟩
      case measure => simp [intOf]; omega
    · go_wp2
      go_ret
      obtain rfl : k = n := by omega
      rw [List.take_of_length_le (by rw [HL.out]; omega)] at r2
      exact ⟨_, _, rfl, r2, hb⟩
end Go.Proofs.YtlaaajkehjoffaaDoor
