/- The pressure of sources in a direction. -/
import Derived.Test.YtcihiglpahhboaaGreatDoorAPress
namespace Go.Proofs.YtcihiglpahhboaaGreatDoor
open Go.RowKit Go.Shelf
set_option maxRecDepth 100000
attribute [local go_sem] Oper.semAt_some
def PrI (w : World) (d : Nat) (pre : List Src) (W : World) : Prop :=
  Blk W w.heap.size 54 #[.int .i64 0, .int .i64 0] ∧ Blk W (w.heap.size + 1) 54 #[.int .i64 (prs pre d).re, .int .i64 (prs pre d).im] ∧ Below w.heap.size w W
theorem prI_hush {T : List TypeId} (hT : T.contains 54 = false) {w : World} {d n1 nC : Nat} (hC : w.heap.size ≤ nC) (h1 : w.heap.size ≤ n1) (s : List Src) (A B : World) (h : PrI w d s A) (hh : Hush T n1 nC A B) : PrI w d s B := by
  obtain ⟨x, y, z⟩ := h
  exact ⟨hh.blk x (fun _ => hT), hh.blk y (fun _ => hT), hh.below z h1 hC (Nat.le_refl _)⟩
theorem Kept.of_below {T : List TypeId} {n0 n1 : Nat} {W W' : World} (hb : Below W.heap.size W W') (hn : n0 ≤ W.heap.size) : Kept T n0 n1 W W' :=
  ⟨hb.mono hn, ⟨hb.size, fun k _ h _ => (hb.block k (Array.getElem?_eq_some_iff.1 h).1).trans h⟩, fun k _ _ h _ => (hb.block k (Array.getElem?_eq_some_iff.1 h).1).trans h⟩
theorem kept2 {T : List TypeId} {n0 n1 : Nat} {W : World} {b : Nat} {t : TypeId} {c0 c1 : Value} (hk : Blk W b t #[c0, c1]) (hn : n0 ≤ b) (ht : T.contains t = false) (u0 u1 : Value) :
    Kept T n0 n1 W ((W.setCell ⟨b, 0, none⟩ u0).setCell ⟨b, 1, none⟩ u1) :=
  (Kept.set hk hn (fun _ => ht) u0).trans (Kept.set (hk.set_ 0 u0) hn (fun _ => ht) u1)
theorem plus_prs (pre : List Src) (s : Src) (d : Nat) (h : ∀ x ∈ pre ++ [s], x.Ok) (hl : pre.length < 1000) (w : World) :
    Calls Tryz.prog 129 #[.agg #[.int .i64 (prs pre d).re, .int .i64 (prs pre d).im], .agg #[.int .i64 (snd s d).re, .int .i64 (snd s d).im]] w fun e w' => e = .returned (.agg #[.int .i64 (prs (pre ++ [s]) d).re, .int .i64 (prs (pre ++ [s]) d).im]) ∧ Below w.heap.size w w' := by
  have := plus_any (prs pre d) (snd s d) w
  have hn := prs_nrm h d
  rw [List.length_append] at hn
  rw [prs_snoc] at hn ⊢
  rw [G.w_in (by simp at hn; omega)] at this
  exact this
set_option maxHeartbeats 4000000 in
theorem pressure_in (n : Nat) (hn : 3 ≤ n) (A : Option Addr) (m c : Nat) (l : List Src) (d : Nat) (w : World) (hd : d < 8) (hok : LOk l) (hR : Reads w w.heap.size 4 A m (srcs l)) (hV : Vr w) :
    CallsIn Fence.wide n Tryz.prog 108 #[.slice A m c, .int .i64 (d : Int)] w fun e w' => e = .returned (.agg #[.int .i64 (prs l d).re, .int .i64 (prs l d).im]) ∧ Below w.heap.size w w' := by
  have hm := srcs_reads_len hR
  have hl16 := hok.len
  refine callsIn_of_wp_marks Tryz.func108 rfl trivial ?_ rfl
  simp only [Tryz.ntmps108, List.size_toArray, List.length_cons, List.length_nil, Nat.reduceAdd, Nat.reduceSub, Array.replicate_succ, Array.replicate_zero, List.push_toArray, List.append_toArray, List.nil_append, List.cons_append]
  gi_upto_region 2 with (fail)
  obtain ⟨w1, e1, hb1, hz1, k0, k1⟩ := box2 w #[.int .i64 0, .int .i64 0] #[.int .i64 0, .int .i64 0] 54 54
  rw [← e1]; clear e1
  gi_wp2
  refine ⟨trivial, fun _ => by omega, ?_⟩
  refine (sounds_in (n - 1) A m c d w1).mono ?_
  rintro e w3 ⟨rfl, hb3, hz3, q0, q1⟩
  have hbb : Below w.heap.size w w3 := below_next hb1 hb3
  have hI0 : PrI w d [] w3 := ⟨carryK k0 hb3, carryK k1 hb3, hbb⟩
  clear k0 k1
  gi_wp2
  refine wpIn_rangeAll (by omega) (gf := 150) (lb := #[.pointer (some ⟨w1.heap.size, 0, none⟩), .pointer (some ⟨w1.heap.size + 1, 0, none⟩)]) rfl (enters_of Tryz.func150 (by kernel_rfl) rfl)
    (sounds_all (n - 1) (by omega) _ _ w.heap.size w1.heap.size A m c l d hd hok.all (by omega) w3 q0 q1 (by omega) (hR.below hbb) (hV.carry hbb) hV.glo hbb.size hb3.size) hbb.size (fun _ => rfl)
    (PrI w d) (fun s A B h hh => prI_hush rfl hbb.size hb1.size s A B h hh) hI0
    (fun pre x bb W => PrI w d pre W ∧ ∃ Bz, w1.heap.size ≤ Bz ∧ Blk W Bz 54 #[.int .i64 (snd x d).re, .int .i64 (snd x d).im] ∧ bb = { tmps := #[.slice A m c, .int .i64 d, undef, undef, .pointer (some ⟨w.heap.size, 0, none⟩), .pointer (some ⟨w.heap.size + 1, 0, none⟩), .pointer (some ⟨Bz, 0, none⟩), .slice A m c, .int .i64 d, .func (.func 150) #[] #[.pointer (some ⟨w1.heap.size, 0, none⟩), .pointer (some ⟨w1.heap.size + 1, 0, none⟩)], .agg #[.int .i64 (snd x d).re, .int .i64 (snd x d).im], undef, undef, undef, undef], defers := [] })
    (fun pre x bb A B h hh => ⟨prI_hush rfl hbb.size hb1.size _ _ _ h.1 hh, by obtain ⟨_, Bz, h1, h2, h3⟩ := h; exact ⟨Bz, h1, hh.blk h2 (fun _ => rfl), h3⟩⟩)
    ?assign ?body ?done
  case assign =>
    intro lp pre x W hW hI hnx
    have hIs := hI.2.2.size
    unfold encG
    gi_wp2
    exact ⟨Kept.alloc W hIs _, prI_hush (T := []) (n1 := w.heap.size) (nC := W.heap.size) rfl hIs (Nat.le_refl _) _ _ _ hI (hush_alloc (Hush.refl _ _ _ _) _), W.heap.size, by have := hb3.size; omega, Blk.new _ _ _, rfl⟩
  case body =>
    rintro lp pre x bb W hW ⟨⟨h1, h2, h3⟩, Bz, hBz, kz, rfl⟩ ⟨k, hpre, hxk⟩
    have c2 := h2.cell
    have cz := kz.cell
    have hkl : k < l.length := (List.getElem?_eq_some_iff.1 hxk).1
    have hpx : ∀ y ∈ pre ++ [x], y.Ok := by
      intro y hy
      rcases List.mem_append.1 hy with h | h
      · rw [hpre] at h; exact hok.all y (List.mem_of_mem_take h)
      · rw [List.mem_singleton] at h; subst h; exact hok.all y (List.mem_of_getElem? hxk)
    have hpl : pre.length < 1000 := by rw [hpre, List.length_take]; omega
    have HP := hide hpx
    clear hpx hpre hxk
    gi_wp2_with (refine ⟨trivial, fun h => absurd h (by decide), ?_⟩; gi_at_call 129; refine (CallsIn.inRound lp (callsIn_wide.2 (plus_prs pre x d HP.out hpl _))).mono ?_; rintro e W5 ⟨rfl, hb5⟩; have y2 := carryK h2 hb5; have cD := y2.cell; have fD := y2.frozen)
    exact ⟨(Kept.of_below hb5 h3.size).trans (kept2 y2 (by omega) rfl _ _), far2 (carryK h1 hb5) (by omega), blk2 y2, below2 (below_step h3 hb5 h3.size) (by omega)⟩
  case done =>
    rintro D ys W hD rfl ⟨h1, h2, h3⟩ hK
    have c1 := h1.cell
    have f1 := h1.frozen
    have c2 := h2.cell
    have zk := kept2 (T := []) (n0 := 0) (n1 := 0) h1 (Nat.zero_le _) rfl (.int .i64 (prs ys d).re) (.int .i64 (prs ys d).im)
    have hKZ := zk.others.same D _ hK rfl
    have v1 := blk2 (u0 := .int .i64 (prs ys d).re) (u1 := .int .i64 (prs ys d).im) h1
    have vb := below2 (u0 := .int .i64 (prs ys d).re) (u1 := .int .i64 (prs ys d).im) h3 (Nat.le_refl w.heap.size)
    obtain ⟨V, eV⟩ : ∃ V, V = (W.setCell ⟨w.heap.size, 0, none⟩ (.int .i64 (prs ys d).re)).setCell ⟨w.heap.size, 1, none⟩ (.int .i64 (prs ys d).im) := ⟨_, rfl⟩
    rw [← eV] at hKZ v1 vb
    have ne0 : w.heap.size ≠ D := by
      rintro rfl
      unfold Blk at v1
      rw [v1] at hKZ
      cases hKZ
    gi_wp2
    rw [← eV]
    refine ⟨by simp, .inl ⟨_, _, rfl, run_takeDeferred (w := V) hKZ, ?_⟩⟩
    have k5 : Blk (V.putObj D (.deferred none)) w.heap.size 54 #[.int .i64 (prs ys d).re, .int .i64 (prs ys d).im] := (World.putObj_heap_other ne0).trans v1
    have c5 := k5.cell
    refine ⟨.agg #[.int .i64 (prs ys d).re, .int .i64 (prs ys d).im], by simp [results, Tryz.results108, go_sem, c5], rfl, ?_⟩
    exact vb.trans (belowK_b (w := w) (Nat.le_refl _) V D _ _ (by have := hbb.size; omega) hKZ rfl rfl)
theorem pressure_any (A : Option Addr) (m c : Nat) (l : List Src) (d : Nat) (w : World) (hd : d < 8) (hok : LOk l) (hR : Reads w w.heap.size 4 A m (srcs l)) (hV : Vr w) :
    Calls Tryz.prog 108 #[.slice A m c, .int .i64 (d : Int)] w fun e w' => e = .returned (.agg #[.int .i64 (prs l d).re, .int .i64 (prs l d).im]) ∧ Below w.heap.size w w' :=
  callsIn_wide.1 (pressure_in 3 (Nat.le_refl _) A m c l d w hd hok hR hV)
end Go.Proofs.YtcihiglpahhboaaGreatDoor
