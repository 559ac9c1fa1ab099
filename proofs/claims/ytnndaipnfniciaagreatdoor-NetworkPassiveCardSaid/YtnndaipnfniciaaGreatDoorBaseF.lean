/- A range over an iterator that has cells of its own: its contract, and the law for its caller (no way out of the loop but its end). Regions that draw their order: worlds that lie over a given one. 'over B w x': x, if x is w below block B; else w. Ends of regions: what becomes of worlds behind a region that makes memory. The contract of SameInts; an append that tells what grew; small words. The kinds of elements: the map that kinds makes; what a look-up in it gives. Chains of worlds; stores of whole structs. -/
import Derived.RangeFuncNested
import Derived.RangeFuncBound
import Derived.RangeFuncCalls
import Derived.RangeFuncLeaves
import Derived.Shelf.Abstract
import Derived.WalkKit
import Derived.OwnWalkIn
import Derived.TacticsInMore
import Derived.LoopNIn
import Derived.LoopIn
import Derived.OneCell
import Derived.Test.YtnndaipnfniciaaGreatDoorPlainA
import Derived.Deep.QuietTactic
import Derived.BigQuiet
import Derived.Deep.RegionHeld3
import Derived.Test.YtnndaipnfniciaaGreatDoorBaseL
import Derived.Sort.CutIn
import Derived.Maps.Own
namespace Go.Proofs.YtnndaipnfniciaaGreatDoor
open Go.RowKit Go.Shelf
set_option maxRecDepth 100000

/-- Cells of one of the types T. -/
def mine (T : List TypeId) : Obj → Bool
  | .cells _ t _ => T.contains t
  | _ => false

/-- What may happen behind the caller's back: new blocks; stores into cells of the types T from block n1 on; turns of blocks that are no cells from block nC on. -/
structure Hush (T : List TypeId) (n1 nC : Nat) (A B : World) : Prop where
  os : B.os = A.os
  tape : B.tape = A.tape
  output : B.output = A.output
  size : A.heap.size ≤ B.heap.size
  same : ∀ (k : Nat) (o : Obj), A.heap[k]? = some o → (n1 ≤ k → mine T o = false) → (nC ≤ k → o.isCells = true) → B.heap[k]? = some o

theorem Hush.refl (T : List TypeId) (n1 nC : Nat) (A : World) : Hush T n1 nC A A := ⟨rfl, rfl, rfl, Nat.le_refl _, fun _ _ h _ _ => h⟩
theorem Hush.below {T : List TypeId} {n1 nC : Nat} {A B w : World} {b : Nat} (h : Hush T n1 nC A B) (hb : Below b w A) (h1 : b ≤ n1) (hC : b ≤ nC) (hA : b ≤ w.heap.size) : Below b w B :=
  ⟨h.os.trans hb.os, h.tape.trans hb.tape, h.output.trans hb.output, Nat.le_trans hb.size h.size, fun k hk => by
    have hlt : k < A.heap.size := by have := hb.size; omega
    rw [← hb.block k hk]
    obtain ⟨o, ho⟩ : ∃ o, A.heap[k]? = some o := ⟨_, Array.getElem?_eq_getElem hlt⟩
    rw [ho]
    exact h.same k o ho (fun hn => by omega) (fun hn => by omega)⟩
theorem Hush.blk {T : List TypeId} {n1 nC : Nat} {A B : World} {g : Nat} {t : TypeId} {cs : Array Value} (h : Hush T n1 nC A B) (hk : Blk A g t cs) (ht : n1 ≤ g → T.contains t = false) : Blk B g t cs :=
  h.same g _ hk ht (fun _ => rfl)
theorem Hush.row {T : List TypeId} {n1 nC : Nat} {A B : World} {base : Nat} {e : TypeId} {size : Nat} {v : Value} {n : Nat} {xs : List Value} (h : Hush T n1 nC A B) (hr : A.ownsRow base e size v n xs) (ht : T.contains e = false) : B.ownsRow base e size v n xs := by
  obtain ⟨h1, h2⟩ := hr
  refine ⟨h1, ?_⟩
  rcases h2 with h2 | ⟨g, cap, cur, hv, hg, hh, r⟩
  · exact .inl h2
  · exact .inr ⟨g, cap, cur, hv, hg, h.same g _ hh (fun _ => ht) (fun _ => rfl), r⟩
theorem hush_alloc {T : List TypeId} {n1 nC : Nat} {A B : World} (h : Hush T n1 nC A B) (o : Obj) : Hush T n1 nC A (B.alloc o) :=
  ⟨h.os, h.tape, h.output, Nat.le_trans h.size (by simp), fun k o2 ho h1 h2 => by
    have := h.same k o2 ho h1 h2
    exact (Below.heap_alloc B o k (Array.getElem?_eq_some_iff.1 this).1).trans this⟩
theorem hush_put {T : List TypeId} {n1 nC : Nat} {A : World} {l : Nat} {o : Obj} (hl : A.heap[l]? = some o) (hc : o.isCells = false) (hn : nC ≤ l) (o' : Obj) : Hush T n1 nC A (A.putObj l o') :=
  ⟨rfl, rfl, rfl, by simp, fun k o2 ho _ h2 => by
    refine (World.putObj_heap_other ?_).trans ho
    rintro rfl
    rw [hl] at ho
    cases ho
    rw [h2 hn] at hc
    cases hc⟩

theorem hush_of_below {T : List TypeId} {n1 nC : Nat} {A B C : World} (h : Hush T n1 nC A B) (hb : Below B.heap.size B C) : Hush T n1 nC A C :=
  ⟨hb.os.trans h.os, hb.tape.trans h.tape, hb.output.trans h.output, Nat.le_trans h.size hb.size, fun k o ho h1 h2 => by
    have h3 := h.same k o ho h1 h2
    exact (hb.block k (Array.getElem?_eq_some_iff.1 h3).1).trans h3⟩
theorem hush_set {T : List TypeId} {n1 nC : Nat} {A B : World} {b i : Nat} {t : TypeId} {cs : Array Value} (h : Hush T n1 nC A B) (hk : Blk B b t cs) (hb : n1 ≤ b) (ht : T.contains t = true) (u : Value) : Hush T n1 nC A (B.setCell ⟨b, i, none⟩ u) :=
  ⟨h.os, h.tape, h.output, by simpa [World.setCell] using h.size, fun k o ho h1 h2 => by
    have h3 := h.same k o ho h1 h2
    refine (Below.heap_setCell B _ u k ?_).trans h3
    intro e
    have e' : k = b := e
    have hk' : B.heap[b]? = some (Obj.cells cs t (0, 0)) := hk
    rw [e', hk'] at h3
    cases h3
    have := h1 (by omega)
    simp [mine] at this
    simp at ht
    exact this ht⟩

/-- What a round keeps: all below block n0; whatever is no cells; cells of the types T from block n1 on. -/
structure Kept (T : List TypeId) (n0 n1 : Nat) (W W' : World) : Prop where
  below : Below n0 W W'
  others : KeepsOthers W W'
  own : ∀ (k : Nat) (o : Obj), n1 ≤ k → W.heap[k]? = some o → mine T o = true → W'.heap[k]? = some o

theorem Kept.refl (T : List TypeId) (n0 n1 : Nat) (W : World) : Kept T n0 n1 W W := ⟨Below.refl _ _, KeepsOthers.refl _, fun _ _ _ h _ => h⟩
theorem Kept.trans {T : List TypeId} {n0 n1 : Nat} {A B C : World} (h : Kept T n0 n1 A B) (k : Kept T n0 n1 B C) : Kept T n0 n1 A C :=
  ⟨h.below.trans k.below, h.others.trans k.others, fun i o hi ho hm => k.own i o hi (h.own i o hi ho hm) hm⟩
theorem Kept.blk {T : List TypeId} {n0 n1 : Nat} {W W' : World} {g : Nat} {t : TypeId} {cs : Array Value} (h : Kept T n0 n1 W W') (hk : Blk W g t cs) (hg : n1 ≤ g) (ht : T.contains t = true) : Blk W' g t cs :=
  h.own g _ hg hk ht
theorem Kept.alloc {T : List TypeId} {n0 n1 : Nat} (W : World) (hn : n0 ≤ W.heap.size) (o : Obj) : Kept T n0 n1 W (W.alloc o) :=
  ⟨(Below.refl _ _).alloc hn _, KeepsOthers.alloc W o, fun k _ _ ho _ => (Below.heap_alloc W o k (Array.getElem?_eq_some_iff.1 ho).1).trans ho⟩
theorem Kept.set {T : List TypeId} {n0 n1 : Nat} {W : World} {b i : Nat} {t : TypeId} {cs : Array Value} (hk : Blk W b t cs) (hn : n0 ≤ b) (ht : n1 ≤ b → T.contains t = false) (u : Value) : Kept T n0 n1 W (W.setCell ⟨b, i, none⟩ u) :=
  ⟨below_set (Below.refl _ _) hn u, KeepsOthers.setCell W _ u, fun k o hn1 ho hm => by
    refine (Below.heap_setCell W _ u k ?_).trans ho
    intro e
    have e' : k = b := e
    rw [e'] at ho hn1
    have hk' : W.heap[b]? = some (Obj.cells cs t (0, 0)) := hk
    rw [hk'] at ho
    cases ho
    have := ht hn1
    simp [mine] at hm
    simp at this
    exact this hm⟩
/-- .. behind an append, or another step that turns one row alone. -/
theorem Kept.grown {T : List TypeId} {n0 n1 : Nat} {W W' : World} {row : Option Nat} (hg : W.grownBy W' row) (hn : n0 ≤ W.heap.size) (hr : ∀ k, row = some k → n0 ≤ k ∧ ∃ t cs, Blk W k t cs ∧ T.contains t = false) : Kept T n0 n1 W W' :=
  ⟨(Below.refl _ _).grown hg hn (fun k e => (hr k e).1), KeepsOthers.of_grownBy hg (fun j o e ho => by
    obtain ⟨_, t, cs, hb, _⟩ := hr j e
    unfold Blk at hb
    rw [hb] at ho
    cases ho
    rfl), fun k o _ ho hm => by
    refine (hg.block k (Array.getElem?_eq_some_iff.1 ho).1 ?_).trans ho
    intro e
    obtain ⟨_, t, cs, hb, ht⟩ := hr k e.symm
    unfold Blk at hb
    rw [hb] at ho
    cases ho
    simp [mine] at hm
    simp at ht
    exact ht hm⟩

/-- Four stores that fill a block of four cells. -/
theorem set4 (w : World) (b : Nat) (t : TypeId) (c0 c1 c2 c3 u0 u1 u2 u3 : Value) (hk : Blk w b t #[c0, c1, c2, c3]) :
    ∃ w1, w1 = (((w.setCell ⟨b, 0, none⟩ u0).setCell ⟨b, 1, none⟩ u1).setCell ⟨b, 2, none⟩ u2).setCell ⟨b, 3, none⟩ u3 ∧ Blk w1 b t #[u0, u1, u2, u3] ∧ w1.heap.size = w.heap.size ∧
      (∀ g t' cs', g ≠ b → Blk w g t' cs' → Blk w1 g t' cs') ∧ (∀ B, B ≤ b → Below B w w1) ∧
      (∀ T n1 nC A, Hush T n1 nC A w → n1 ≤ b → T.contains t = true → Hush T n1 nC A w1) ∧
      (∀ T n0 n1, n0 ≤ b → (n1 ≤ b → T.contains t = false) → Kept T n0 n1 w w1) ∧
      (∀ base e size v k xs, e ≠ t → w.ownsRow base e size v k xs → w1.ownsRow base e size v k xs) := by
  have k0 := hk.set_ 0 u0
  have k1 := k0.set_ 1 u1
  have k2 := k1.set_ 2 u2
  have k3 := k2.set_ 3 u3
  refine ⟨_, rfl, by simpa using k3, by simp [World.setCell], fun g t' cs' hg h => ?_, fun B hB => ?_, fun T n1 nC A hh hn ht => ?_, fun T n0 n1 hn ht => ?_, fun base e size v k xs he h => ?_⟩
  · exact (((h.far (p := ⟨b, 0, none⟩) hg _).far (p := ⟨b, 1, none⟩) hg _).far (p := ⟨b, 2, none⟩) hg _).far (p := ⟨b, 3, none⟩) hg _
  · exact below_set (below_set (below_set (below_set (Below.refl _ _) hB _) hB _) hB _) hB _
  · exact hush_set (hush_set (hush_set (hush_set hh hk hn ht u0) k0 hn ht u1) k1 hn ht u2) k2 hn ht u3
  · exact (((Kept.set hk hn ht u0).trans (Kept.set k0 hn ht u1)).trans (Kept.set k1 hn ht u2)).trans (Kept.set k2 hn ht u3)
  · have a0 := ownsRow_setCell_other h (a := ⟨b, 0, none⟩) (own_blk_ne h hk he) u0
    have a1 := ownsRow_setCell_other a0 (a := ⟨b, 1, none⟩) (own_blk_ne h hk he) u1
    have a2 := ownsRow_setCell_other a1 (a := ⟨b, 2, none⟩) (own_blk_ne h hk he) u2
    exact ownsRow_setCell_other a2 (a := ⟨b, 3, none⟩) (own_blk_ne h hk he) u3

/-- The contract of an iterator that has cells of its own types T from block n1 on, and whose rounds must keep what lay below n0. -/
def SeqAll {α : Type} (n : Nat) (P : Program) (g : Nat) (lb : Array Value) (encs : α → Array Value) (T : List TypeId) (n0 n1 : Nat) (S : List α → Prop) (Nx : List α → α → Prop) (w : World) : Prop :=
  ∀ (l : Nat) (J : List α → World → Prop) (W : World), Below w.heap.size w W → (∀ s A B, J s A → Hush T n1 A.heap.size A B → J s B) →
    (∀ pre x W1, J pre W1 → Nx pre x → YieldAt Fence.wide (n - 1) P l (encs x) W1 fun e W' => e = .returned (.bool true) ∧ J (pre ++ [x]) W' ∧ Kept T n0 n1 W1 W') →
    J [] W →
    CallsIn Fence.wide n P g (#[.func (.yield l) #[] #[]] ++ lb) W fun e W' => (∃ v, e = .returned v) ∧ ∃ xs, S xs ∧ J xs W'

/-- How a round may end: it goes on. -/
def roundEnd (R : Act → World → Prop) : Exit → Act → World → Prop
  | .normal, a, w => R a w
  | _, _, _ => False

/-- THE LAW FOR THE CALLER: an invariant I of its own cells; the assignment of a round, which may lay blocks; the round's body; what stands behind the loop. -/
theorem wpIn_rangeAll {α : Type} {n : Nat} {P : Program} {g : Operand} {ps : Array Tmp} {assign body : Code} {Q : Exit → Act → World → Prop} {a : Act} {w : World}
    (h1 : 1 ≤ n) {gf : Nat} {lb : Array Value} (hg : a.eval g = .func (.func gf) #[] lb) (eg : ∀ args w, (callFunc gf args).run P w = .ok (.enter gf args) w)
    {encs : α → Array Value} {T : List TypeId} {n0 n1 : Nat} {S : List α → Prop} {Nx : List α → α → Prop} (hseq : SeqAll (n - 1) P gf lb encs T n0 n1 S Nx w) (hn0 : n0 ≤ w.heap.size)
    (hps : ∀ x, (encs x).size = ps.size) (I : List α → World → Prop) (hI : ∀ s A B, I s A → Hush T n1 w.heap.size A B → I s B) (h0 : I [] w)
    (Mid : List α → α → Act → World → Prop) (hM : ∀ pre x b A B, Mid pre x b A → Hush [] n1 w.heap.size A B → Mid pre x b B)
    (hassign : ∀ (l : Nat) (pre : List α) (x : α) (W : World), w.heap.size ≤ W.heap.size → I pre W → Nx pre x →
      assign.wpIn (Fence.wide.inRound l) (n - 1 - 1) P (Exit.then (fun b W' => Kept T n0 n1 W W' ∧ Mid pre x b W') (fun _ _ _ => False)) { tmps := (ps.zip (encs x)).foldl (fun t (p, v) => t.setIfInBounds p v) a.tmps, defers := [] } W)
    (hbody : ∀ (l : Nat) (pre : List α) (x : α) (b : Act) (W : World), w.heap.size ≤ W.heap.size → Mid pre x b W → Nx pre x →
      body.wpIn (Fence.wide.inRound l) (n - 1 - 1) P (roundEnd (fun _ W' => Kept T n0 n1 W W' ∧ I (pre ++ [x]) W')) b W)
    (hdone : ∀ (D : Nat) (xs : List α) (W : World), w.heap.size ≤ D → S xs → I xs W → W.heap[D]? = some (.deferred (some [])) → Q .normal { a with defers := { target := .collected D, args := #[] } :: a.defers } W) :
    (Code.rangeFunc g ps assign body).wpIn Fence.wide n P Q a w := by
  refine wpIn_rangeFunc fun fn hfn => ?_
  -- the loop's record, in its states
  obtain ⟨rc, hrc⟩ : ∃ rc : LoopState → Option Code → Loop, rc = fun st pe => { state := st, pending := pe, fn, tmps := a.tmps, params := ps, assign, body, defers := w.heap.size } := ⟨_, rfl⟩
  have hW1 : ∃ W1, W1 = (w.alloc (.deferred (some []))).alloc (.loop (rc .ready none)) := ⟨_, rfl⟩
  obtain ⟨W1, hW1⟩ := hW1
  have sz : W1.heap.size = w.heap.size + 2 := by rw [hW1]; simp
  have hL : W1.heap[w.heap.size + 1]? = some (.loop (rc .ready none)) := by
    have := World.alloc_heap_new (w.alloc (.deferred (some []))) (.loop (rc .ready none))
    rwa [World.size_alloc, ← hW1] at this
  have hD : W1.heap[w.heap.size]? = some (.deferred (some [])) := by
    rw [hW1]; exact (Below.heap_alloc _ _ _ (by simp)).trans (World.alloc_heap_new w _)
  have hI1 : I [] W1 := hI _ _ _ h0 (by rw [hW1]; exact hush_alloc (hush_alloc (Hush.refl _ _ _ _) _) _)
  have hb1 : Below w.heap.size w W1 := by rw [hW1]; exact (by repeat (first | exact Below.refl _ _ | exact Below.refl _ _ | refine Below.drew ?_ | refine below_drewN ?_ _ | refine below_set ?_ (by omega) _ | refine below_new ?_ (by omega) _))
  refine ⟨w.heap.size + 1, [{ target := .collected w.heap.size, args := #[] }], W1, { target := .fn (.func gf) lb, args := #[.func (.yield (w.heap.size + 1)) #[] #[]] }, W1, gf,
    #[.func (.yield (w.heap.size + 1)) #[] #[]] ++ lb, W1, by rw [hW1, hrc]; exact run_enterLoop_outer _ _ _ _ _, by simp only [resolve, hg]; simp [go_sem], fun _ _ => trivial, by simp [invoke, go_sem, eg], fun _ => h1, ?_⟩
  refine (hseq (w.heap.size + 1) (fun pre W => I pre W ∧ W.heap[w.heap.size + 1]? = some (.loop (rc .ready none)) ∧ W.heap[w.heap.size]? = some (.deferred (some [])) ∧ w.heap.size + 2 ≤ W.heap.size) W1 hb1
    (fun s A B hs hh => ⟨hI s A B hs.1 ⟨hh.os, hh.tape, hh.output, hh.size, fun k o ho h2 _ => hh.same k o ho h2 (fun hk => absurd (Array.getElem?_eq_some_iff.1 ho).1 (by omega))⟩,
      hh.same _ _ hs.2.1 (fun _ => rfl) (fun hk => by have := hs.2.2.2; omega), hh.same _ _ hs.2.2.1 (fun _ => rfl) (fun hk => by have := hs.2.2.2; omega), Nat.le_trans hs.2.2.2 hh.size⟩)
    ?_ ⟨hI1, hL, hD, by omega⟩).mono ?_
  · -- one round
    rintro pre x W ⟨hi, hl, hd, hz⟩ hlen
    have hy := run_yield (P := P) (args := encs x) hl (by rw [hrc]; exact hps x)
    rw [hrc] at hy
    refine ⟨fn, _, assign, body, hy, roundIn_of_wpIn hfn (wpIn_mono (hassign (w.heap.size + 1) pre x W (by omega) hi hlen) ?_)⟩
    rintro e b W2 hp
    cases e with
    | normal =>
      obtain ⟨hk2, hm2⟩ := hp
      have hl2 := hk2.others.same _ _ hl rfl
      have hd2 := hk2.others.same _ _ hd rfl
      have hz2 := hk2.others.size
      refine ⟨_, run_beginRound hl2 (by rw [hrc]), ?_⟩
      have hl3 : (W2.putObj (w.heap.size + 1) (.loop { rc .ready none with state := .busy })).heap[w.heap.size + 1]? = some (.loop { rc .ready none with state := .busy }) := World.putObj_heap_same (Array.getElem?_eq_some_iff.1 hl2).1
      have hd3 : (W2.putObj (w.heap.size + 1) (.loop { rc .ready none with state := .busy })).heap[w.heap.size]? = some (.deferred (some [])) := (World.putObj_heap_other (by omega)).trans hd2
      have hm3 := hM _ _ _ _ _ hm2 (hush_put hl2 rfl (by omega) (.loop { rc .ready none with state := .busy }))
      refine wpIn_mono (hbody (w.heap.size + 1) pre x b _ (by simp; omega) hm3 hlen) ?_
      rintro e3 b3 W4 hp3
      cases e3 with
      | normal =>
        obtain ⟨hk4, hi4⟩ := hp3
        have hl4 := hk4.others.same _ _ hl3 rfl
        have hd4 := hk4.others.same _ _ hd3 rfl
        have hz4 := hk4.others.size
        simp at hz4
        have he := run_endRound (P := P) none hl4
        refine ⟨_, _, he, rfl, ⟨hI _ _ _ hi4 (hush_put hl4 rfl (by omega) _), ?_, (World.putObj_heap_other (by omega)).trans hd4, by simp; omega⟩, ?_⟩
        · rw [World.putObj_heap_same (Array.getElem?_eq_some_iff.1 hl4).1, hrc]; rfl
        · refine hk2.trans ?_
          have p1 : ∀ (A : World) (o o' : Obj), A.heap[w.heap.size + 1]? = some o → o.isCells = false → n0 ≤ A.heap.size → Below n0 A (A.putObj (w.heap.size + 1) o') ∧ (∀ (k : Nat) (o2 : Obj), n1 ≤ k → A.heap[k]? = some o2 → mine T o2 = true → (A.putObj (w.heap.size + 1) o').heap[k]? = some o2) := fun A o o' ho hc hn =>
            ⟨(Below.refl _ _).grown (grownBy_putObj' A (w.heap.size + 1) o') hn (fun k e => by cases e; omega), fun k o2 _ h2 hm => (World.putObj_heap_other (by rintro rfl; rw [ho] at h2; cases h2; cases o <;> simp_all [mine, Obj.isCells])).trans h2⟩
          obtain ⟨q1, q2⟩ := p1 W2 _ (.loop { rc .ready none with state := .busy }) hl2 rfl (by omega)
          obtain ⟨q3, q4⟩ := p1 W4 _ (.loop { { rc .ready none with state := .busy } with state := (if (none : Option Code).isNone then .ready else .done), pending := none }) hl4 rfl (by omega)
          have hback : (W4.putObj (w.heap.size + 1) (.loop { { rc .ready none with state := .busy } with state := (if (none : Option Code).isNone then .ready else .done), pending := none })).heap[w.heap.size + 1]? = some (.loop (rc .ready none)) := by
            rw [World.putObj_heap_same (Array.getElem?_eq_some_iff.1 hl4).1, hrc]; rfl
          refine ⟨q1.trans (hk4.below.trans q3), ⟨by simp; omega, fun k o ho hc => ?_⟩, fun k o hk ho hm => q4 k o hk (hk4.own k o hk (q2 k o hk ho hm) hm) hm⟩
          by_cases hkl : k = w.heap.size + 1
          · rw [hkl] at ho ⊢
            rw [hl2] at ho
            cases ho
            exact hback
          · exact (World.putObj_heap_other hkl).trans (hk4.others.same k o ((World.putObj_heap_other hkl).trans ho) hc)
      | _ => exact hp3.elim
    | _ => exact hp.elim
  · -- behind the iterator
    rintro e W2 ⟨⟨v, rfl⟩, xs, hS, hi, hl, hd, hz⟩
    refine ⟨none, _, (by have := run_endLoop (P := P) hl (by rw [hrc]; simp); rw [hrc] at this; exact this), ?_⟩
    exact hdone w.heap.size xs _ (Nat.le_refl _) hS (hI _ _ _ hi (hush_put hl rfl (by omega) _)) ((World.putObj_heap_other (by omega)).trans hd)

/-- append of one element, in the fenced walk; the new slice's form is told. -/
theorem wpListIn_push {F : Fence} {n : Nat} {P : Program} (w : World) {ops : Array Oper} {rest : List Oper} {o : Oper} {a : Act} {Q : Exit → Act → World → Prop}
    (hgd : o.guard = none) (s x : Operand) (t : TypeId) (hop : o.op = Op.call { callee := Callee.builtin Builtin.append, args := #[s, x], argTypes := #[t, t] })
    (base : Nat) (e : TypeId) (z : Value) (size bytes : Nat) (ht : P.underlying t = some (.slice e)) (hinfo : (P.info? e).map (fun i => (i.zero, i.size, i.bytes)) = some (some z, size, bytes)) (hzs : z.cells.size = size) (hsz : 0 < size)
    (v : Value) (k : Nat) (xs : List Value) (hs : a.eval s = v) (hown : w.ownsRow base e size v k xs) (g : Nat) (news : List Value) (hx : a.eval x = .slice (some ⟨g, 0, none⟩) 1 1) (hn : news.length = size)
    (hc : ∀ j u, news[j]? = some u → w.cell? ⟨g, j, none⟩ = some u) (h1c : ∀ u ∈ news, u.oneCell' = true) (b1 : k + 1 ≤ maxLen) (b2 : (k + 1) * bytes ≤ 140737488355328) (b3 : base ≤ w.heap.size)
    (hK : ∀ g' c' w', w'.ownsRow base e size (.slice (some ⟨g', 0, none⟩) (k + 1) c') (k + 1) (xs ++ news) → w.grownBy w' v.ownBlock → wpListIn F n P ops Q rest (a.put o.dst (.slice (some ⟨g', 0, none⟩) (k + 1) c')) w') :
    wpListIn F n P ops Q (o :: rest) a w := by
  obtain ⟨i, hi, hz, hsize, hby⟩ := info_parts hinfo
  refine wpListIn_append_own w hgd s x t hop base e i z size bytes ht hi hz hsize hby hzs hsz v k xs hs hown ⟨g, 0, none⟩ 1 1 news hx (by omega) (fun j u hu => ?_) h1c b1 b2 b3 (fun v' w' h1 h2 _ => ?_)
  · have : (⟨g, 0, none⟩ : Addr).add j = ⟨g, j, none⟩ := by unfold Addr.add; split <;> simp_all
    rw [this]
    exact hc j u hu
  · obtain ⟨g', c', rfl⟩ := ownsRow_succ h1
    exact hK g' c' w' h1 h2

/-- What an append keeps. -/
theorem Kept.row {T : List TypeId} {n0 n1 : Nat} {A W' : World} {base : Nat} {e : TypeId} {size k : Nat} {v : Value} {xs : List Value} (hr : A.ownsRow base e size v k xs) (he : T.contains e = false) (hb : n0 ≤ base) (hn : n0 ≤ A.heap.size) (hg : A.grownBy W' v.ownBlock) : Kept T n0 n1 A W' :=
  Kept.grown hg hn fun g h => by
    refine ⟨Nat.le_trans hb (hr.lt g h).1, ?_⟩
    rcases hr.2 with ⟨rfl, _⟩ | ⟨g', cap, cur, rfl, _, hh, _⟩
    · simp [Value.ownBlock] at h
    · have : g' = g := by simpa [Value.ownBlock] using h
      subst this
      exact ⟨e, cur, hh, he⟩
theorem grown_blk {A W' : World} {base : Nat} {e t : TypeId} {size k g : Nat} {v : Value} {xs : List Value} {cs : Array Value} (hr : A.ownsRow base e size v k xs) (hg : A.grownBy W' v.ownBlock) (hb : Blk A g t cs) (hne : e ≠ t) : Blk W' g t cs :=
  hb.grown hg (fun h => own_blk_ne hr hb hne h.symm)
end Go.Proofs.YtnndaipnfniciaaGreatDoor

namespace Go.Proofs.YtnndaipnfniciaaGreatDoor
open Go.RowKit
set_option maxRecDepth 100000

open Classical in
/-- The world x where it is w below block number B; w else. -/
noncomputable def over (B : Nat) (w x : World) : World := if Below B w x then x else w

theorem over_below (B : Nat) (w x : World) : Below B w (over B w x) := by
  unfold over
  split
  · assumption
  · exact Below.refl _ _
theorem over_eq {B : Nat} {w x : World} (h : Below B w x) : x = over B w x := by unfold over; rw [if_pos h]

theorem over_cell {B b i : Nat} {w : World} (x : World) (h : b < B) : (over B w x).cell? ⟨b, i, none⟩ = w.cell? ⟨b, i, none⟩ := (over_below B w x).cell (p := ⟨b, i, none⟩) h
theorem over_frozen {B b i : Nat} {w : World} (x : World) (h : b < B) : (over B w x).frozen? ⟨b, i, none⟩ = w.frozen? ⟨b, i, none⟩ := (over_below B w x).frozen (p := ⟨b, i, none⟩) h

theorem over_blk {B b : Nat} {t : TypeId} {cs : Array Value} {w : World} (h : Blk w b t cs) (hb : b < B) : ∀ (i : Nat) (x : World), (over B w x).cell? ⟨b, i, none⟩ = cs[i]? :=
  fun i x => (over_cell x hb).trans (h.cell i)

/-- A region whose operations read, and whose callees make memory of their own alone: one walk serves all orders. -/
theorem wp_region_over (B : Nat) {P : Program} {id : Nat} {Q : Exit → Act → World → Prop} {a : Act} {w : World} {l : List Oper} (hm : P.follows .mixedOrders = true) (hB : Region.lexB .any l.toArray = true)
    (h : wpQuiet P l.toArray (fun w' => ∃ x, w' = over B w x) (fun a' => ∀ w', (∃ x, w' = over B w x) → Q .normal a' w') l a) : (Code.region id l.toArray true).wp P Q a w :=
  wp_region_quiet (C := fun w' => ∃ x, w' = over B w x) hm hB ⟨w.drew, over_eq ((Below.refl _ _).drew)⟩ (by simpa using h)

/-- A callee's contract in such a region. -/
theorem over_call {P : Program} {f : FuncId} {args : Array Value} {B : Nat} {w x : World} {v : Value} (hB : B ≤ w.heap.size)
    (h : Calls P f args (over B w x) fun e w' => e = .returned v ∧ Below (over B w x).heap.size (over B w x) w') :
    Calls P f args (over B w x) fun e w' => e = .returned v ∧ ∃ y, w' = over B w y :=
  h.mono fun _ _ ⟨he, hb⟩ => ⟨he, _, over_eq ((over_below B w x).trans (hb.mono (Nat.le_trans hB (over_below B w x).size)))⟩
theorem over_same {P : Program} {f : FuncId} {args : Array Value} {B : Nat} {w x : World} {v : Value}
    (h : Calls P f args (over B w x) fun e w' => e = .returned v ∧ over B w x = w') :
    Calls P f args (over B w x) fun e w' => e = .returned v ∧ ∃ y, w' = over B w y :=
  h.mono fun _ _ ⟨he, hb⟩ => ⟨he, x, hb.symm⟩
/-- One where the world does not change is one where nothing old changes. -/
theorem below_same {P : Program} {f : FuncId} {args : Array Value} {w : World} {v : Value} (h : Calls P f args w fun e w' => e = .returned v ∧ w = w') :
    Calls P f args w fun e w' => e = .returned v ∧ Below w.heap.size w w' :=
  h.mono fun _ _ ⟨he, hb⟩ => ⟨he, by rw [← hb]; exact Below.refl _ _⟩
end Go.Proofs.YtnndaipnfniciaaGreatDoor

namespace Go.Proofs.YtnndaipnfniciaaGreatDoor
open Go.RowKit Go.Shelf
set_option maxRecDepth 100000

theorem below_fro {w w' : World} (h : Below w.heap.size w w') : ∀ g i, g < w.heap.size → w'.frozen? ⟨g, i, none⟩ = w.frozen? ⟨g, i, none⟩ := fun g _ hg => h.frozen (p := ⟨g, _, none⟩) hg
theorem below_cel {w w' : World} (h : Below w.heap.size w w') : ∀ g i, g < w.heap.size → w'.cell? ⟨g, i, none⟩ = w.cell? ⟨g, i, none⟩ := fun g _ hg => h.cell (p := ⟨g, _, none⟩) hg
theorem alloc_cel : ∀ (W : World) (o : Obj) (g i : Nat), g < W.heap.size → (W.alloc o).cell? ⟨g, i, none⟩ = W.cell? ⟨g, i, none⟩ := fun W o _ _ hg => World.cell?_alloc_lt W o _ hg
theorem alloc_fro : ∀ (W : World) (o : Obj) (g i : Nat), g < W.heap.size → (W.alloc o).frozen? ⟨g, i, none⟩ = W.frozen? ⟨g, i, none⟩ := fun W o g i hg => ((Below.refl W.heap.size W).alloc (Nat.le_refl _) o).frozen (p := ⟨g, i, none⟩) hg
theorem below_lt {w w' : World} (h : Below w.heap.size w w') : ∀ g, g < w.heap.size → g < w'.heap.size := fun _ hg => Nat.lt_of_lt_of_le hg h.size
theorem below_le {w w' : World} (h : Below w.heap.size w w') : ∀ g, g ≤ w.heap.size → g ≤ w'.heap.size := fun _ hg => Nat.le_trans hg h.size
theorem below_blk {w w' : World} (h : Below w.heap.size w w') : ∀ g t cs, Blk w g t cs → Blk w' g t cs := fun _ _ _ hg => hg.below h hg.lt

theorem reads3' (w : World) (a b c : Int) (t : TypeId) (n : Nat) (hn : n = w.heap.size) : Reads (w.alloc (.cells #[.int .i64 a, .int .i64 b, .int .i64 c] t)) (w.alloc (.cells #[.int .i64 a, .int .i64 b, .int .i64 c] t)).heap.size 1 (some ⟨n, 0, none⟩) 3 (ints [a, b, c]) := by subst hn; exact (reads3 w a b c t).more (by simp)
theorem reads3x (w : World) (a b c : Int) (t : TypeId) (n : Nat) (hn : n = w.heap.size) (o : Obj) : Reads ((w.alloc (.cells #[.int .i64 a, .int .i64 b, .int .i64 c] t)).alloc o) ((w.alloc (.cells #[.int .i64 a, .int .i64 b, .int .i64 c] t)).alloc o).heap.size 1 (some ⟨n, 0, none⟩) 3 (ints [a, b, c]) := ((reads3' w a b c t n hn).alloc (Nat.le_refl _) o).more (by simp)

theorem Blk.newAt {w : World} {n : Nat} {t : TypeId} {cs : Array Value} (hn : n = w.heap.size) : Blk (w.alloc (.cells cs t)) n t cs := by subst hn; exact Blk.new w t cs
/-- A pair that was laid in the midst of a region, behind the four stores. -/
theorem fin4 {Q : World → Prop} {B : Nat} {v W : World} {g : Nat} {c0 c1 c2 c3 u0 u1 u2 u3 : Value} (t : TypeId) (hB : Below B v W) (hg : B ≤ g) (hk : Blk W g t #[c0, c1, c2, c3]) (h : ∀ X, Below B v X → Blk X g t #[u0, u1, u2, u3] → Q X) :
    Q ((((W.setCell ⟨g, 0, none⟩ u0).setCell ⟨g, 1, none⟩ u1).setCell ⟨g, 2, none⟩ u2).setCell ⟨g, 3, none⟩ u3) :=
  h _ (below_set (below_set (below_set (below_set hB hg _) hg _) hg _) hg _) (by simpa using (((hk.set_ 0 u0).set_ 1 u1).set_ 2 u2).set_ 3 u3)
theorem fin1 {Q : World → Prop} {v W : World} {cs : Array Value} {t : TypeId} (hB : Below v.heap.size v W) (h : ∀ X, Below v.heap.size v X → Blk X W.heap.size t cs → Q X) : Q (W.alloc (.cells cs t)) := h _ (below_new hB (Nat.le_refl _) _) (Blk.new _ _ _)

end Go.Proofs.YtnndaipnfniciaaGreatDoor

namespace Go.Proofs.YtnndaipnfniciaaGreatDoor
open Go.RowKit Go.Shelf
set_option maxRecDepth 100000

theorem wpList_pushG {P : Program} {ops : Array Oper} {rest : List Oper} {o : Oper} {a : Act} {Q : Exit → Act → World → Prop} (w : World) (hgd : o.guard = none) (s x : Operand) (t : TypeId)
    (ho : o.op = .call { callee := .builtin .append, args := #[s, x], argTypes := #[t, t] })
    (base : Nat) (e : TypeId) (z : Value) (size bytes : Nat) (ht : P.underlying t = some (.slice e)) (hinfo : (P.info? e).map (fun i => (i.zero, i.size, i.bytes)) = some (some z, size, bytes))
    (hzs : z.cells.size = size) (hsz : 0 < size)
    (v : Value) (n : Nat) (xs : List Value) (hs : a.eval s = v) (hown : w.ownsRow base e size v n xs)
    (g : Nat) (news : List Value) (hx : a.eval x = .slice (some ⟨g, 0, none⟩) 1 1) (hn : news.length = size) (hc : ∀ j u, news[j]? = some u → w.cell? ⟨g, j, none⟩ = some u) (h1 : ∀ u ∈ news, u.oneCell' = true)
    (h63 : n + 1 ≤ maxLen) (hbytes : (n + 1) * bytes ≤ 140737488355328) (hbase : base ≤ w.heap.size)
    (h : ∀ v' w', w'.ownsRow base e size v' (n + 1) (xs ++ news) → w.grownBy w' v.ownBlock → Below base w w' → wpList P ops Q rest (a.put o.dst v') w') : wpList P ops Q (o :: rest) a w := by
  obtain ⟨i, hi, hz, hsize, hby⟩ := info_parts hinfo
  refine wpList_append_any w hgd s x t ho base e i z size bytes ht hi hz hsize hby hzs hsz v n xs hs hown (g + 1) (some ⟨g, 0, none⟩) 1 1 news hx ⟨by omega, fun _ => ⟨_, rfl, by simp, fun j u hu => ?_⟩⟩ h1 h63 hbytes hbase
    fun v' w' h2 h3 _ => h v' w' h2 h3 ((Below.refl base w).grown h3 hbase fun k hk => (hown.lt k hk).1)
  have : (⟨g, 0, none⟩ : Addr).add j = ⟨g, j, none⟩ := by unfold Addr.add; split <;> simp_all
  rw [this]
  exact hc j u hu

/-- The first k numbers agree. -/
def agree (xs ys : List Int) (k : Nat) : Prop := ∀ j, j < k → xs[j]? = ys[j]?
theorem agree_succ {xs ys : List Int} {k : Nat} {x y : Int} (h : agree xs ys k) (hx : xs[k]? = some x) (hy : ys[k]? = some y) (he : (x != y) = false) : agree xs ys (k + 1) := by
  intro j hj
  by_cases e : j = k
  · subst e
    have : x = y := by simpa using he
    rw [hx, hy, this]
  · exact h j (by omega)
theorem agree_end {xs ys : List Int} {k : Nat} (h : agree xs ys k) (h1 : xs.length ≤ k) (h2 : xs.length = ys.length) : xs = ys := by
  apply List.ext_getElem?
  intro j
  by_cases hj : j < k
  · exact h j hj
  · rw [List.getElem?_eq_none (by omega), List.getElem?_eq_none (by omega)]
theorem agree_not {xs ys : List Int} {k : Nat} {x y : Int} (hx : xs[k]? = some x) (hy : ys[k]? = some y) (he : (x != y) = true) : xs ≠ ys := by
  rintro rfl
  rw [hx] at hy
  simp_all

set_option maxHeartbeats 400000 in
theorem sameInts_any (A : Option Addr) (n c B : Nat) (xs : List Int) (A' : Option Addr) (m c' B' : Nat) (ys : List Int) (w : World) (h : Reads w B 1 A n (ints xs)) (h' : Reads w B' 1 A' m (ints ys)) (hB : B ≤ w.heap.size) (hB' : B' ≤ w.heap.size) (hn : n ≤ 1000000000000) (hm : m ≤ 1000000000000) :
    Calls Tryz.prog 28 #[.slice A n c, .slice A' m c'] w fun r w' => r = .returned (.bool (decide (xs = ys))) ∧ Below w.heap.size w w' := by
  have hl := reads_len h
  have hl' := reads_len h'
  by_cases hnm : n = m
  · have h2 : xs.length = ys.length := by omega
    have HL := hide hl; clear hl
    have HL' := hide hl'; clear hl'
    have H2 := hide h2; clear h2
    obtain rfl := hnm
    go_enter Tryz.func28, Tryz.ntmps28
    go_wp2
    go_loopw [5] (fun i wr => ∃ k : Nat, k ≤ n ∧ i = .int .i64 k ∧ agree xs ys k ∧ Below w.heap.size w wr) (fun i _ => n - (intOf i).toNat)
    case atStart => exact ⟨0, by omega, rfl, by intro j hj; omega, Below.refl _ _⟩
    case round =>
      obtain ⟨k, hk, rfl, hz, hb⟩ := hrel
      by_cases hlt : k < n
      · have hr := h.below (hb.mono hB)
        have hr' := h'.below (hb.mono hB')
        obtain ⟨ad, x, rfl, q1, hx, hc⟩ := reads_at hr hlt
        obtain ⟨ad', x', rfl, q2, hx', hc'⟩ := reads_at hr' hlt
        have HX := hide hx; clear hx
        have HX' := hide hx'; clear hx'
        have e1 : ∀ W, (over wr.heap.size wr W).cell? (ad.add k) = some (.int .i64 x) := fun W => ((over_below wr.heap.size wr W).cell (p := ad.add k) (by rw [block_of_add]; have := hb.size; omega)).trans hc
        have e2 : ∀ W, (over wr.heap.size wr W).cell? (ad'.add k) = some (.int .i64 x') := fun W => ((over_below wr.heap.size wr W).cell (p := ad'.add k) (by rw [block_of_add]; have := hb.size; omega)).trans hc'
        clear hc hc' h h' hr hr'
        go_wp2
        refine wp_region_over wr.heap.size (by kernel_rfl) (by kernel_rfl) ?_; (repeat (first | go_big_quiet_step (fail) | quiet_step (fail))); refine wpQuiet_nil ?_; rintro W ⟨x, rfl⟩
        go_wp2
        · go_ret
          exact ⟨by simp; exact agree_not HX.out HX'.out ‹_›, below_step hb (over_below _ _ _) hb.size⟩
        · go_roundw
          case rel => exact ⟨k + 1, by omega, by go_num, agree_succ hz HX.out HX'.out ‹_›, below_step hb (over_below _ _ _) hb.size⟩
          case measure => simp [intOf]; omega
      · go_wp2
        go_ret
        exact ⟨by simp; exact agree_end hz (by rw [HL.out]; omega) H2.out, hb⟩
  · have hne : xs ≠ ys := by rintro rfl; omega
    have HN := hide hne; clear hne hl hl'
    have ht : ((n : Int) != (m : Int)) = true := by simp; omega
    go_enter Tryz.func28, Tryz.ntmps28
    go_wp2
    go_ret
    exact ⟨by simp; exact HN.out, Below.refl _ _⟩
end Go.Proofs.YtnndaipnfniciaaGreatDoor

namespace Go.Proofs.YtnndaipnfniciaaGreatDoor
open Go.RowKit Go.Shelf
set_option maxRecDepth 100000

def eBlock : Value := .agg #[.string kTrap, .bool true, .func (.func 142) #[] #[]]
def eSeries : Value := .agg #[.string kShunt, .bool false, .func (.func 143) #[] #[]]
def eShunt : Value := .agg #[.string kSeries, .bool false, .func (.func 144) #[] #[]]
def eTrap : Value := .agg #[.string kBlock, .bool true, .func (.func 145) #[] #[]]
/-- The block of the map of kinds. -/
def KMap (w : World) (g : Nat) : Prop :=
  w.heap[g]? = some (.map #[{ key := .string kBlock, val := eBlock, born := 0 }, { key := .string kSeries, val := eSeries, born := 1 }, { key := .string kShunt, val := eShunt, born := 2 }, { key := .string kTrap, val := eTrap, born := 3 }] 4)
theorem KMap.below {w w' : World} {g : Nat} (h : KMap w g) (hb : Below w.heap.size w w') : KMap w' g := (hb.block g (Array.getElem?_eq_some_iff.1 h).1).trans h
theorem map_put (W : World) (g : Nat) (es : Array MapEntry) (c : Nat) (h : W.heap[g]? = some (.map es c)) (k : ByteArray) (v : Value) (hnew : Instr.findNow .string (.string k) es.toList 0 = some none) :
    ∃ W', (Instr.mapUpdate 139 (.map (some g)) (.string k) v).run Tryz.prog W = .ok () W' ∧ W'.heap[g]? = some (.map (es.push { key := .string k, val := v, born := c }) (c + 1)) ∧ Below g W W' := by
  have hlt : g < W.heap.size := (Array.getElem?_eq_some_iff.1 h).1
  refine ⟨{ W with heap := W.heap.setIfInBounds g (.map (es.push { key := .string k, val := v, born := c }) (c + 1)) }, ?_, (MapKept.heap_set h).1, ⟨rfl, rfl, rfl, by simp, fun j hj => (MapKept.heap_set h).2 j (by omega)⟩⟩
  simp [Instr.mapUpdate, run_underlying Tryz.underlying139, MapKept.run_getObj_map h, MapKept.run_checkKey Tryz.underlying9 (d := .string) (k := .string k) trivial, MapKept.run_findKey Tryz.underlying9 hnew, MapKept.run_setObj_map _ h, Result.andThen]
theorem kinds_any (w : World) :
    Calls Tryz.prog 96 #[] w fun e w' => e = .returned (.map (some w.heap.size)) ∧ KMap w' w.heap.size ∧ Below w.heap.size w w' := by
  obtain ⟨W1, r1, m1, b1⟩ := map_put (w.alloc (.map #[] 0)) w.heap.size #[] 0 (heap_alloc_new _ _) { data := #[98, 108, 111, 99, 107] } (.agg #[.string { data := #[116, 114, 97, 112] }, .bool true, .func (.func 142) #[] #[]]) rfl
  obtain ⟨W2, r2, m2, b2⟩ := map_put W1 w.heap.size _ 1 m1 { data := #[115, 101, 114, 105, 101, 115] } (.agg #[.string { data := #[115, 104, 117, 110, 116] }, .bool false, .func (.func 143) #[] #[]]) (by kernel_rfl)
  obtain ⟨W3, r3, m3, b3⟩ := map_put W2 w.heap.size _ 2 m2 { data := #[115, 104, 117, 110, 116] } (.agg #[.string { data := #[115, 101, 114, 105, 101, 115] }, .bool false, .func (.func 144) #[] #[]]) (by kernel_rfl)
  obtain ⟨W4, r4, m4, b4⟩ := map_put W3 w.heap.size _ 3 m3 { data := #[116, 114, 97, 112] } (.agg #[.string { data := #[98, 108, 111, 99, 107] }, .bool true, .func (.func 145) #[] #[]]) (by kernel_rfl)
  have hB : Below w.heap.size w W4 := ((((Below.refl _ _).alloc (Nat.le_refl _) _).trans b1).trans b2).trans (b3.trans b4)
  have hK : KMap W4 w.heap.size := m4
  have hmm := @run_makeMap Tryz.prog
  clear m1 m2 m3 m4 b1 b2 b3 b4
  go_enter Tryz.func96, Tryz.ntmps96
  go_wp2_with fail
  go_ret
  exact ⟨rfl, hK, hB⟩
/-! ### What a look-up gives -/
def kDual (k : ByteArray) : ByteArray := if k = kBlock then kTrap else if k = kSeries then kShunt else if k = kShunt then kSeries else if k = kTrap then kBlock else { data := #[] }
def kDiv (k : ByteArray) : Bool := decide (k = kBlock ∨ k = kTrap)
def kKnown (k : ByteArray) : Bool := decide (k = kBlock ∨ k = kSeries ∨ k = kShunt ∨ k = kTrap)
def kFn (k : ByteArray) : Value := if k = kBlock then .func (.func 142) #[] #[] else if k = kSeries then .func (.func 143) #[] #[] else if k = kShunt then .func (.func 144) #[] #[] else if k = kTrap then .func (.func 145) #[] #[] else .nilFunc
theorem zero_kind (w : World) : (zeroValue 138).run Tryz.prog w = .ok (.agg #[.string { data := #[] }, .bool false, .nilFunc]) w := by kernel_rfl
theorem bytes_beq (a b : ByteArray) : (a == b) = decide (a = b) := by
  obtain ⟨x⟩ := a
  obtain ⟨y⟩ := b
  show (x == y) = _
  rw [Bool.eq_iff_iff]
  simp
theorem kmap_find (k : ByteArray) : Instr.findNow .string (.string k) [{ key := .string kBlock, val := eBlock, born := 0 }, { key := .string kSeries, val := eSeries, born := 1 }, { key := .string kShunt, val := eShunt, born := 2 }, { key := .string kTrap, val := eTrap, born := 3 }] 0 =
    some (if k = kBlock then some (0, eBlock) else if k = kSeries then some (1, eSeries) else if k = kShunt then some (2, eShunt) else if k = kTrap then some (3, eTrap) else none) := by
  have n1 : ¬ kSeries = kBlock := by decide
  have n3 : ¬ kShunt = kBlock := by decide
  have n4 : ¬ kTrap = kBlock := by decide
  have n5 : ¬ kTrap = kSeries := by decide
  have n6 : ¬ kTrap = kShunt := by decide
  have n7 : ¬ kShunt = kSeries := by decide
  simp only [Instr.findNow, Instr.sameNow, bytes_beq]
  by_cases h1 : k = kBlock
  · simp [h1]
  · by_cases h2 : k = kSeries
    · simp [h2, n1]
    · by_cases h3 : k = kShunt
      · simp [h3, n3, n7]
      · by_cases h4 : k = kTrap
        · simp [h4, n4, n5, n6]
        · simp [h1, h2, h3, h4]
theorem kmap_get {w : World} {g : Nat} (h : KMap w g) (k : ByteArray) :
    (Instr.lookup 139 (.map (some g)) (.string k) true).run Tryz.prog w = .ok (.tuple #[.agg #[.string (kDual k), .bool (kDiv k), kFn k], .bool (kKnown k)]) w ∧
    (Instr.lookup 139 (.map (some g)) (.string k) false).run Tryz.prog w = .ok (.agg #[.string (kDual k), .bool (kDiv k), kFn k]) w := by
  have hf := kmap_find k
  have n1 : ¬ kSeries = kBlock := by decide
  have n2 : ¬ kSeries = kShunt := by decide
  have n3 : ¬ kShunt = kBlock := by decide
  have n4 : ¬ kShunt = kTrap := by decide
  have n5 : ¬ kSeries = kTrap := by decide
  have n7 : ¬ kTrap = kSeries := by decide
  have n8 : ¬ kTrap = kShunt := by decide
  have n9 : ¬ kShunt = kSeries := by decide
  have n11 : ¬ kTrap = kBlock := by decide
  unfold kDual kDiv kFn kKnown
  unfold KMap at h
  constructor
  all_goals
    simp only [Instr.lookup, Sem.run_bind, Sem.run_pure, run_underlying Tryz.underlying139, MapKept.run_getObj_map h, MapKept.run_checkKey Tryz.underlying9 (d := .string) (k := .string k) trivial, MapKept.run_findKey Tryz.underlying9 hf, Result.andThen]
    by_cases h1 : k = kBlock
    · simp [h1, eBlock]
    · by_cases h2 : k = kSeries
      · simp [h2, eSeries, n1, n2, n5]
      · by_cases h3 : k = kShunt
        · simp [h3, eShunt, n3, n4, n9]
        · by_cases h4 : k = kTrap
          · simp [h4, eTrap, n7, n8, n11]
          · simp [h1, h2, h3, h4, Result.andThen]
end Go.Proofs.YtnndaipnfniciaaGreatDoor

namespace Go.Proofs.YtnndaipnfniciaaGreatDoor
open Go.RowKit Go.Shelf
set_option maxRecDepth 100000

theorem below_next {a b c : World} (h1 : Below a.heap.size a b) (h2 : Below b.heap.size b c) : Below a.heap.size a c := below_step h1 h2 h1.size
theorem carry {w w' : World} {size n : Nat} {A : Option Addr} {xs : List Value} (h : Reads w w.heap.size size A n xs) (hb : Below w.heap.size w w') : Reads w' w'.heap.size size A n xs := (h.below hb).more hb.size
theorem carryK {w w' : World} {g : Nat} {t : TypeId} {cs : Array Value} (h : Blk w g t cs) (hb : Below w.heap.size w w') : Blk w' g t cs := h.below hb h.lt
theorem blkR {w : World} {g : Nat} {t : TypeId} {xs : List Int} {n : Nat} (h : Blk w g t (xs.map (Value.int .i64)).toArray) (hn : n = xs.length) : Reads w w.heap.size 1 (some ⟨g, 0, none⟩) n (ints xs) := by
  have := reads_block (n := n) (xs := xs) h (by omega) h.lt
  rwa [List.take_of_length_le (by omega)] at this
/-! ### Stores of a whole struct -/
section
variable {W v : World} {g g' : Nat} {t : TypeId} {cs : Array Value} {c0 c1 c2 c3 u0 u1 u2 u3 : Value} {B : Nat}
theorem blk4 (hk : Blk W g t #[c0, c1, c2, c3]) : Blk ((((W.setCell ⟨g, 0, none⟩ u0).setCell ⟨g, 1, none⟩ u1).setCell ⟨g, 2, none⟩ u2).setCell ⟨g, 3, none⟩ u3) g t #[u0, u1, u2, u3] := by
  simpa using (((hk.set_ 0 u0).set_ 1 u1).set_ 2 u2).set_ 3 u3
theorem far4 (hk : Blk W g' t cs) (hne : g' ≠ g) : Blk ((((W.setCell ⟨g, 0, none⟩ u0).setCell ⟨g, 1, none⟩ u1).setCell ⟨g, 2, none⟩ u2).setCell ⟨g, 3, none⟩ u3) g' t cs :=
  (((hk.far (p := ⟨g, 0, none⟩) hne u0).far (p := ⟨g, 1, none⟩) hne u1).far (p := ⟨g, 2, none⟩) hne u2).far (p := ⟨g, 3, none⟩) hne u3
theorem below4 (h : Below B v W) (hg : B ≤ g) : Below B v ((((W.setCell ⟨g, 0, none⟩ u0).setCell ⟨g, 1, none⟩ u1).setCell ⟨g, 2, none⟩ u2).setCell ⟨g, 3, none⟩ u3) :=
  below_set (below_set (below_set (below_set h hg _) hg _) hg _) hg _
theorem blk2 (hk : Blk W g t #[c0, c1]) : Blk ((W.setCell ⟨g, 0, none⟩ u0).setCell ⟨g, 1, none⟩ u1) g t #[u0, u1] := by
  simpa using (hk.set_ 0 u0).set_ 1 u1
theorem far2 (hk : Blk W g' t cs) (hne : g' ≠ g) : Blk ((W.setCell ⟨g, 0, none⟩ u0).setCell ⟨g, 1, none⟩ u1) g' t cs := (hk.far (p := ⟨g, 0, none⟩) hne u0).far (p := ⟨g, 1, none⟩) hne u1
theorem below2 (h : Below B v W) (hg : B ≤ g) : Below B v ((W.setCell ⟨g, 0, none⟩ u0).setCell ⟨g, 1, none⟩ u1) := below_set (below_set h hg _) hg _
variable {c4 c5 u4 u5 : Value}
theorem blk6 (hk : Blk W g t #[c0, c1, c2, c3, c4, c5]) : Blk ((((((W.setCell ⟨g, 0, none⟩ u0).setCell ⟨g, 1, none⟩ u1).setCell ⟨g, 2, none⟩ u2).setCell ⟨g, 3, none⟩ u3).setCell ⟨g, 4, none⟩ u4).setCell ⟨g, 5, none⟩ u5) g t #[u0, u1, u2, u3, u4, u5] := by
  simpa using (((((hk.set_ 0 u0).set_ 1 u1).set_ 2 u2).set_ 3 u3).set_ 4 u4).set_ 5 u5
theorem below6 (h : Below B v W) (hg : B ≤ g) : Below B v ((((((W.setCell ⟨g, 0, none⟩ u0).setCell ⟨g, 1, none⟩ u1).setCell ⟨g, 2, none⟩ u2).setCell ⟨g, 3, none⟩ u3).setCell ⟨g, 4, none⟩ u4).setCell ⟨g, 5, none⟩ u5) :=
  below_set (below_set (below_set (below_set (below_set (below_set h hg _) hg _) hg _) hg _) hg _) hg _
end
end Go.Proofs.YtnndaipnfniciaaGreatDoor
