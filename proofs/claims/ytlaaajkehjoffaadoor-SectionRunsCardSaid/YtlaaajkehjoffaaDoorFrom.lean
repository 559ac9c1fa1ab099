/- The contract of from: the outputs of a signal, and the state behind it. -/
import Derived.Test.YtlaaajkehjoffaaDoorOutputs
import Derived.Deep.RegionHeld3
namespace Go.Proofs.YtlaaajkehjoffaaDoor
open Go.RowKit Go.Shelf
set_option maxRecDepth 100000
attribute [local go_sem] Oper.semAt_some

/-- The invariant of the loop in from. -/
def FromI (w : World) (y : St) (pre : List (Int × St)) (W : World) : Prop :=
  (∃ v, Blk W (w.heap.size + 3) 26 #[v] ∧ W.ownsRow w.heap.size 3 1 v pre.length (ints (pre.map (·.1)))) ∧ Blk W (w.heap.size + 1) 34 #[.int .i64 (lastSt y pre).x1, .int .i64 (lastSt y pre).x2, .int .i64 (lastSt y pre).y1, .int .i64 (lastSt y pre).y2] ∧ Blk W (w.heap.size + 2) 34 #[.int .i64 0, .int .i64 0, .int .i64 0, .int .i64 0] ∧ Below w.heap.size w W

theorem fromI_hush {w : World} {y : St} {nC : Nat} (hC : w.heap.size ≤ nC) {T : List TypeId} (hT : T.contains 26 = false) (hT2 : T.contains 3 = false) (s : List (Int × St)) (A B : World) (h : FromI w y s A) (hh : Hush T (w.heap.size + 4) nC A B) : FromI w y s B := by
  obtain ⟨⟨v, h1, h2⟩, h3, h4, h5⟩ := h
  exact ⟨⟨v, hh.blk h1 (fun _ => hT), hh.row h2 hT2⟩, hh.blk h3 (fun h => by omega), hh.blk h4 (fun h => by omega), hh.below h5 (by omega) hC (Nat.le_refl _)⟩

set_option maxHeartbeats 2000000 in
theorem from_in (n : Nat) (hn : 3 ≤ n) (s : Sec) (y : St) (A : Option Addr) (m c : Nat) (xs : List Int) (w : World) (hs : s.Ok) (hy : y.Ok) (hx : ∀ x ∈ xs, -32767 ≤ x ∧ x ≤ 32767) (hm : m ≤ 1000000000000) (hR : Reads w w.heap.size 1 A m (ints xs)) :
    CallsIn Fence.wide n Tryd.prog 66 #[.agg #[.int .i64 s.b0, .int .i64 s.b1, .int .i64 s.b2, .int .i64 s.a1, .int .i64 s.a2, .int .i64 s.sh], .agg #[.int .i64 y.x1, .int .i64 y.x2, .int .i64 y.y1, .int .i64 y.y2], .slice A m c] w fun e w' => ∃ v, e = .returned (.tuple #[v, .agg #[.int .i64 (s.after y xs).x1, .int .i64 (s.after y xs).x2, .int .i64 (s.after y xs).y1, .int .i64 (s.after y xs).y2]]) ∧ w'.ownsRow w.heap.size 3 1 v m (ints (s.outs y xs)) ∧ Below w.heap.size w w' := by
  refine callsIn_of_wp_marks Tryd.func66 rfl trivial ?_ rfl
  simp only [Tryd.ntmps66, List.size_toArray, List.length_cons, List.length_nil, Nat.reduceAdd, Nat.reduceSub, Array.replicate_succ, Array.replicate_zero, List.push_toArray, List.append_toArray, List.nil_append, List.cons_append]
  gi_wp2_with fail
  obtain ⟨w1, e1, hb1, hz1, k0, k1, k2, k3⟩ := box4 w #[.int .i64 s.b0, .int .i64 s.b1, .int .i64 s.b2, .int .i64 s.a1, .int .i64 s.a2, .int .i64 s.sh] #[.int .i64 y.x1, .int .i64 y.x2, .int .i64 y.y1, .int .i64 y.y2] #[.int .i64 0, .int .i64 0, .int .i64 0, .int .i64 0] #[.slice none 0 0] 32 34 34 26
  rw [← e1]
  have hs1 : w1.heap.size = w.heap.size + 4 := by rw [e1]; simp
  clear e1
  refine ⟨trivial, fun _ => by omega, ?_⟩
  refine (outputs_in (n - 1) s y A m c _).mono ?_
  rintro e w2 ⟨rfl, hb2, hz2, q0, q1, q2⟩
  have hbb : Below w.heap.size w w2 := below_step hb1 hb2 (by omega)
  have HS1 := hide hs1; clear hs1
  have hI0 : FromI w y [] w2 := ⟨⟨_, k3.below hb2 (by have := HS1.out; omega), by simpa [ints] using World.ownsRow_nil w2 _ _ _⟩, k1.below hb2 (by omega), k2.below hb2 (by omega), hbb⟩
  gi_wp2
  refine wpIn_rangeAll (by omega) (gf := 97) (lb := #[.pointer (some ⟨w1.heap.size + 1, 0, none⟩), .pointer (some ⟨w1.heap.size + 2, 0, none⟩), .pointer (some ⟨w1.heap.size, 0, none⟩)]) rfl (enters_of Tryd.func97 (by kernel_rfl) rfl)
    (outputs_all (n - 1) (by omega) _ _ _ w.heap.size (w.heap.size + 4) s y A m c xs hs hy hx hm w2 q1 q2 q0 (by omega) (hR.below hbb) hbb.size (by omega)) hbb.size (fun _ => rfl)
    (FromI w y) (fun s A B h hh => fromI_hush hbb.size rfl rfl s A B h hh) hI0
    (fun pre p b W => FromI w y pre W ∧ ∃ Bn, w.heap.size + 4 ≤ Bn ∧ Blk W Bn 34 #[.int .i64 p.2.x1, .int .i64 p.2.x2, .int .i64 p.2.y1, .int .i64 p.2.y2] ∧ b = { tmps := #[.agg #[.int .i64 s.b0, .int .i64 s.b1, .int .i64 s.b2, .int .i64 s.a1, .int .i64 s.a2, .int .i64 s.sh], .agg #[.int .i64 y.x1, .int .i64 y.x2, .int .i64 y.y1, .int .i64 y.y2], .slice A m c, .pointer (some ⟨w.heap.size, 0, none⟩), .pointer (some ⟨w.heap.size + 1, 0, none⟩), undef, .slice none 0 0, .pointer (some ⟨w.heap.size + 1 + 1, 0, none⟩), .pointer (some ⟨w.heap.size + 1 + 1 + 1, 0, none⟩), .int .i64 p.1, .pointer (some ⟨Bn, 0, none⟩), .agg #[.int .i64 s.b0, .int .i64 s.b1, .int .i64 s.b2, .int .i64 s.a1, .int .i64 s.a2, .int .i64 s.sh], .agg #[.int .i64 y.x1, .int .i64 y.x2, .int .i64 y.y1, .int .i64 y.y2], .slice A m c, .func (.func 97) #[] #[.pointer (some ⟨w1.heap.size + 1, 0, none⟩), .pointer (some ⟨w1.heap.size + 2, 0, none⟩), .pointer (some ⟨w1.heap.size, 0, none⟩)], .int .i64 p.1, .agg #[.int .i64 p.2.x1, .int .i64 p.2.x2, .int .i64 p.2.y1, .int .i64 p.2.y2], undef, undef, undef, undef, undef, undef, undef], defers := [] })
    (fun pre p b A B h hh => ⟨fromI_hush hbb.size rfl rfl _ _ _ h.1 hh, by obtain ⟨_, Bn, h1, h2, h3⟩ := h; exact ⟨Bn, h1, hh.blk h2 (fun _ => rfl), h3⟩⟩)
    ?assign ?body ?done
  case assign =>
    intro l pre p W hW hI hnx
    have hIs := hI
    obtain ⟨⟨v, h1, h2⟩, h3, h4, h5⟩ := hI
    gi_wp2
    have hn4 := h5.size
    exact ⟨Kept.alloc W h5.size _, fromI_hush (nC := w.heap.size) (Nat.le_refl _) (T := []) rfl rfl _ _ _ hIs (hush_alloc (Hush.refl _ _ _ _) _), W.heap.size, by omega, Blk.new _ _ _, rfl⟩
  case body =>
    rintro l pre p b W hW ⟨⟨⟨v, h1, h2⟩, h3, h4, h5⟩, Bn, hBn, kB, rfl⟩ ⟨k, x, hxk, hpre, hp⟩
    have hlen : pre.length < m := by
      have hl := reads_len hR
      have : k < xs.length := (List.getElem?_eq_some_iff.1 hxk).1
      rw [hpre, trace_len, List.length_take]
      omega
    have c1 := h1.cell
    have f1 := h1.frozen
    have c3 := h3.cell
    have f3 := h3.frozen
    have cB := kB.cell
    have l1 := h1.lt
    have l3 := h3.lt
    have lB := kB.lt
    have hn4 := h5.size
    have A1 : pre.length + 1 ≤ maxLen := by unfold maxLen; omega
    have A2 : (pre.length + 1) * 8 ≤ 140737488355328 := by omega
    clear hxk hpre hp HS1
    gi_wp2_with (gi_at_builtin; refine wpListIn_push _ rfl (.tmp 17) (.tmp 19) _ rfl w.heap.size 3 (.int .i64 0) 1 8 Tryd.underlying26 info_int rfl (by decide) _ _ _ rfl (h2.alloc _) W.heap.size [.int .i64 p.1] rfl rfl (cell_new1 _ _ _) (one_int _) A1 A2 (le_alloc hn4 _) ?_; intro g1 d1 w3 ho1 hg1; have b1 := grown_blk (h2.alloc _) hg1 (h1.alloc _) (by decide); have b3 := grown_blk (h2.alloc _) hg1 (h3.alloc _) (by decide); have b4 := grown_blk (h2.alloc _) hg1 (h4.alloc _) (by decide); have bB := grown_blk (h2.alloc _) hg1 (kB.alloc _) (by decide); have c1' := b1.cell; have f1' := b1.frozen; have c3' := b3.cell; have f3' := b3.frozen; have cB' := bB.cell)
    have b1' := b1.set_ 0 (.slice (some ⟨g1, 0, none⟩) (pre.length + 1) d1)
    have n1 : w.heap.size + 1 ≠ w.heap.size + 3 := by omega
    have n2 : w.heap.size + 2 ≠ w.heap.size + 3 := by omega
    have b3' := b3.far (p := ⟨w.heap.size + 3, 0, none⟩) n1 (.slice (some ⟨g1, 0, none⟩) (pre.length + 1) d1)
    have b4' := b4.far (p := ⟨w.heap.size + 3, 0, none⟩) n2 (.slice (some ⟨g1, 0, none⟩) (pre.length + 1) d1)
    have r3' := ownsRow_setCell_other ho1 (a := ⟨w.heap.size + 3, 0, none⟩) (own_blk_ne ho1 b1 (by decide)) (.slice (some ⟨g1, 0, none⟩) (pre.length + 1) d1)
    have y1 := Kept.alloc (T := ownT) (n1 := w.heap.size + 4) W hn4 (.cells #[.int .i64 p.1] 3)
    have y2 := Kept.row (T := ownT) (n0 := w.heap.size) (n1 := w.heap.size + 4) (h2.alloc (.cells #[.int .i64 p.1] 3)) rfl (Nat.le_refl _) (le_alloc hn4 _) hg1
    have y3 := Kept.set (T := ownT) (n0 := w.heap.size) (n1 := w.heap.size + 4) (i := 0) b1 (by omega) (fun _ => rfl) (.slice (some ⟨g1, 0, none⟩) (pre.length + 1) d1)
    obtain ⟨w5, e5, k5, z5, o5, bb5, hh5, kk5, rr5⟩ := set4 (w3.setCell ⟨w.heap.size + 3, 0, none⟩ (.slice (some ⟨g1, 0, none⟩) (pre.length + 1) d1)) (w.heap.size + 1) 34 _ _ _ _ (.int .i64 p.2.x1) (.int .i64 p.2.x2) (.int .i64 p.2.y1) (.int .i64 p.2.y2) b3'
    have y4 := kk5 ownT w.heap.size (w.heap.size + 4) (by omega) (fun h => by omega)
    have yy := ((y1.trans y2).trans y3).trans y4
    show Kept ownT w.heap.size (w.heap.size + 4) W _ ∧ FromI w y (pre ++ [p]) _
    rw [← e5]
    refine ⟨yy, ⟨_, o5 _ _ _ (by omega) b1', ?_⟩, ?_, o5 _ _ _ (by omega) b4', h5.trans yy.below⟩
    · have := rr5 _ _ _ _ _ _ (by decide) r3'
      rw [List.length_append, List.map_append, List.length_singleton]
      simpa [ints] using this
    · rw [lastSt_snoc]; exact k5
  case done =>
    rintro D ys W hD rfl ⟨⟨v, h1, h2⟩, h3, h4, h5⟩ hK
    rw [lastSt_trace] at h3
    have c1 := h1.cell
    have c3 := h3.cell
    have c4 := h4.cell
    have f4 := h4.frozen
    gi_wp2
    gi_region
    obtain ⟨w5, e5, k5, z5, o5, bb5, hh5, kk5, rr5⟩ := set4 W (w.heap.size + 2) 34 _ _ _ _ (.int .i64 (s.after y xs).x1) (.int .i64 (s.after y xs).x2) (.int .i64 (s.after y xs).y1) (.int .i64 (s.after y xs).y2) h4
    have hK5 := (kk5 [] 0 0 (Nat.zero_le _) (fun _ => rfl)).others.same D _ hK rfl
    have hb5 := h5.trans (bb5 w.heap.size (by omega))
    have r5 := rr5 _ _ _ _ _ _ (by decide) h2
    have ne : w.heap.size + 2 ≠ D := by
      rintro rfl
      unfold Blk at k5
      rw [k5] at hK5
      cases hK5
    rw [← e5]
    clear e5
    gi_wp2
    refine ⟨by simp, .inl ⟨_, _, rfl, run_takeDeferred (w := w5.drew) hK5, ?_⟩⟩
    have k6 : Blk (w5.drew.putObj D (.deferred none)) (w.heap.size + 2) 34 #[.int .i64 (s.after y xs).x1, .int .i64 (s.after y xs).x2, .int .i64 (s.after y xs).y1, .int .i64 (s.after y xs).y2] := (World.putObj_heap_other ne).trans k5
    have c6 := k6.cell
    refine ⟨.tuple #[v, .agg #[.int .i64 (s.after y xs).x1, .int .i64 (s.after y xs).x2, .int .i64 (s.after y xs).y1, .int .i64 (s.after y xs).y2]], by simp [results, Tryd.results66, go_sem, c6], v, rfl, ?_, ?_⟩
    · have := ownsRow_putObj (W := w5.drew) r5 (.deferred none) hK5 rfl
      rw [trace_len, show xs.length = m from reads_len hR] at this
      exact this
    · exact (hb5.drew).trans (belowK_b (w := w) (Nat.le_refl _) w5.drew D _ _ (by have := hbb.size; omega) hK5 rfl rfl)
  
theorem from_any (s : Sec) (y : St) (A : Option Addr) (m c : Nat) (xs : List Int) (w : World) (hs : s.Ok) (hy : y.Ok) (hx : ∀ x ∈ xs, -32767 ≤ x ∧ x ≤ 32767) (hm : m ≤ 1000000000000) (hR : Reads w w.heap.size 1 A m (ints xs)) :
    Calls Tryd.prog 66 #[.agg #[.int .i64 s.b0, .int .i64 s.b1, .int .i64 s.b2, .int .i64 s.a1, .int .i64 s.a2, .int .i64 s.sh], .agg #[.int .i64 y.x1, .int .i64 y.x2, .int .i64 y.y1, .int .i64 y.y2], .slice A m c] w fun e w' => ∃ v, e = .returned (.tuple #[v, .agg #[.int .i64 (s.after y xs).x1, .int .i64 (s.after y xs).x2, .int .i64 (s.after y xs).y1, .int .i64 (s.after y xs).y2]]) ∧ w'.ownsRow w.heap.size 3 1 v m (ints (s.outs y xs)) ∧ Below w.heap.size w w' :=
  callsIn_wide.1 (from_in 3 (Nat.le_refl _) s y A m c xs w hs hy hx hm hR)
end Go.Proofs.YtlaaajkehjoffaaDoor
