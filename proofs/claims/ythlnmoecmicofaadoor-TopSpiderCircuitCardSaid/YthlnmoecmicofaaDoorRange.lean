/- A range over an iterator that has cells of its own: its contract, and the law for its caller (no way out of the loop but its end). -/
import Derived.RangeFuncNested
import Derived.RangeFuncBound
import Derived.RangeFuncCalls
import Derived.RangeFuncLeaves
import Derived.Shelf.Abstract
import Derived.WalkKit
import Derived.OwnWalkIn
import Derived.TacticsInMore
import Derived.LoopNIn
import Derived.LoopIn
import Derived.OneCell
import Derived.Test.YthlnmoecmicofaaDoorWords
namespace Go.Proofs.YthlnmoecmicofaaDoor
open Go.RowKit Go.Shelf
set_option maxRecDepth 100000

/-- Cells of one of the types T. -/
def mine (T : List TypeId) : Obj → Bool
  | .cells _ t _ => T.contains t
  | _ => false

/-- What may happen behind the caller's back: new blocks; stores into cells of the types T from block n1 on; turns of blocks that are no cells from block nC on. -/
structure Hush (T : List TypeId) (n1 nC : Nat) (A B : World) : Prop where
  os : B.os = A.os
  tape : B.tape = A.tape
  output : B.output = A.output
  size : A.heap.size ≤ B.heap.size
  same : ∀ (k : Nat) (o : Obj), A.heap[k]? = some o → (n1 ≤ k → mine T o = false) → (nC ≤ k → o.isCells = true) → B.heap[k]? = some o

theorem Hush.refl (T : List TypeId) (n1 nC : Nat) (A : World) : Hush T n1 nC A A := ⟨rfl, rfl, rfl, Nat.le_refl _, fun _ _ h _ _ => h⟩
theorem Hush.below {T : List TypeId} {n1 nC : Nat} {A B w : World} {b : Nat} (h : Hush T n1 nC A B) (hb : Below b w A) (h1 : b ≤ n1) (hC : b ≤ nC) (hA : b ≤ w.heap.size) : Below b w B :=
  ⟨h.os.trans hb.os, h.tape.trans hb.tape, h.output.trans hb.output, Nat.le_trans hb.size h.size, fun k hk => by
    have hlt : k < A.heap.size := by have := hb.size; omega
    rw [← hb.block k hk]
    obtain ⟨o, ho⟩ : ∃ o, A.heap[k]? = some o := ⟨_, Array.getElem?_eq_getElem hlt⟩
    rw [ho]
    exact h.same k o ho (fun hn => by omega) (fun hn => by omega)⟩
theorem Hush.blk {T : List TypeId} {n1 nC : Nat} {A B : World} {g : Nat} {t : TypeId} {cs : Array Value} (h : Hush T n1 nC A B) (hk : Blk A g t cs) (ht : n1 ≤ g → T.contains t = false) : Blk B g t cs :=
  h.same g _ hk ht (fun _ => rfl)
theorem Hush.row {T : List TypeId} {n1 nC : Nat} {A B : World} {base : Nat} {e : TypeId} {size : Nat} {v : Value} {n : Nat} {xs : List Value} (h : Hush T n1 nC A B) (hr : A.ownsRow base e size v n xs) (ht : T.contains e = false) : B.ownsRow base e size v n xs := by
  obtain ⟨h1, h2⟩ := hr
  refine ⟨h1, ?_⟩
  rcases h2 with h2 | ⟨g, cap, cur, hv, hg, hh, r⟩
  · exact .inl h2
  · exact .inr ⟨g, cap, cur, hv, hg, h.same g _ hh (fun _ => ht) (fun _ => rfl), r⟩
theorem hush_alloc {T : List TypeId} {n1 nC : Nat} {A B : World} (h : Hush T n1 nC A B) (o : Obj) : Hush T n1 nC A (B.alloc o) :=
  ⟨h.os, h.tape, h.output, Nat.le_trans h.size (by simp), fun k o2 ho h1 h2 => by
    have := h.same k o2 ho h1 h2
    exact (Below.heap_alloc B o k (Array.getElem?_eq_some_iff.1 this).1).trans this⟩
theorem hush_put {T : List TypeId} {n1 nC : Nat} {A : World} {l : Nat} {o : Obj} (hl : A.heap[l]? = some o) (hc : o.isCells = false) (hn : nC ≤ l) (o' : Obj) : Hush T n1 nC A (A.putObj l o') :=
  ⟨rfl, rfl, rfl, by simp, fun k o2 ho _ h2 => by
    refine (World.putObj_heap_other ?_).trans ho
    rintro rfl
    rw [hl] at ho
    cases ho
    rw [h2 hn] at hc
    cases hc⟩

theorem hush_of_below {T : List TypeId} {n1 nC : Nat} {A B C : World} (h : Hush T n1 nC A B) (hb : Below B.heap.size B C) : Hush T n1 nC A C :=
  ⟨hb.os.trans h.os, hb.tape.trans h.tape, hb.output.trans h.output, Nat.le_trans h.size hb.size, fun k o ho h1 h2 => by
    have h3 := h.same k o ho h1 h2
    exact (hb.block k (Array.getElem?_eq_some_iff.1 h3).1).trans h3⟩
theorem hush_set {T : List TypeId} {n1 nC : Nat} {A B : World} {b i : Nat} {t : TypeId} {cs : Array Value} (h : Hush T n1 nC A B) (hk : Blk B b t cs) (hb : n1 ≤ b) (ht : T.contains t = true) (u : Value) : Hush T n1 nC A (B.setCell ⟨b, i, none⟩ u) :=
  ⟨h.os, h.tape, h.output, by simpa [World.setCell] using h.size, fun k o ho h1 h2 => by
    have h3 := h.same k o ho h1 h2
    refine (Below.heap_setCell B _ u k ?_).trans h3
    intro e
    have e' : k = b := e
    have hk' : B.heap[b]? = some (Obj.cells cs t (0, 0)) := hk
    rw [e', hk'] at h3
    cases h3
    have := h1 (by omega)
    simp [mine] at this
    simp at ht
    exact this ht⟩

/-- What a round keeps: all below block n0; whatever is no cells; cells of the types T from block n1 on. -/
structure Kept (T : List TypeId) (n0 n1 : Nat) (W W' : World) : Prop where
  below : Below n0 W W'
  others : KeepsOthers W W'
  own : ∀ (k : Nat) (o : Obj), n1 ≤ k → W.heap[k]? = some o → mine T o = true → W'.heap[k]? = some o

theorem Kept.refl (T : List TypeId) (n0 n1 : Nat) (W : World) : Kept T n0 n1 W W := ⟨Below.refl _ _, KeepsOthers.refl _, fun _ _ _ h _ => h⟩
theorem Kept.trans {T : List TypeId} {n0 n1 : Nat} {A B C : World} (h : Kept T n0 n1 A B) (k : Kept T n0 n1 B C) : Kept T n0 n1 A C :=
  ⟨h.below.trans k.below, h.others.trans k.others, fun i o hi ho hm => k.own i o hi (h.own i o hi ho hm) hm⟩
theorem Kept.blk {T : List TypeId} {n0 n1 : Nat} {W W' : World} {g : Nat} {t : TypeId} {cs : Array Value} (h : Kept T n0 n1 W W') (hk : Blk W g t cs) (hg : n1 ≤ g) (ht : T.contains t = true) : Blk W' g t cs :=
  h.own g _ hg hk ht
theorem Kept.alloc {T : List TypeId} {n0 n1 : Nat} (W : World) (hn : n0 ≤ W.heap.size) (o : Obj) : Kept T n0 n1 W (W.alloc o) :=
  ⟨(Below.refl _ _).alloc hn _, KeepsOthers.alloc W o, fun k _ _ ho _ => (Below.heap_alloc W o k (Array.getElem?_eq_some_iff.1 ho).1).trans ho⟩
theorem Kept.set {T : List TypeId} {n0 n1 : Nat} {W : World} {b i : Nat} {t : TypeId} {cs : Array Value} (hk : Blk W b t cs) (hn : n0 ≤ b) (ht : n1 ≤ b → T.contains t = false) (u : Value) : Kept T n0 n1 W (W.setCell ⟨b, i, none⟩ u) :=
  ⟨below_set (Below.refl _ _) hn u, KeepsOthers.setCell W _ u, fun k o hn1 ho hm => by
    refine (Below.heap_setCell W _ u k ?_).trans ho
    intro e
    have e' : k = b := e
    rw [e'] at ho hn1
    have hk' : W.heap[b]? = some (Obj.cells cs t (0, 0)) := hk
    rw [hk'] at ho
    cases ho
    have := ht hn1
    simp [mine] at hm
    simp at this
    exact this hm⟩
/-- .. behind an append, or another step that turns one row alone. -/
theorem Kept.grown {T : List TypeId} {n0 n1 : Nat} {W W' : World} {row : Option Nat} (hg : W.grownBy W' row) (hn : n0 ≤ W.heap.size) (hr : ∀ k, row = some k → n0 ≤ k ∧ ∃ t cs, Blk W k t cs ∧ T.contains t = false) : Kept T n0 n1 W W' :=
  ⟨(Below.refl _ _).grown hg hn (fun k e => (hr k e).1), KeepsOthers.of_grownBy hg (fun j o e ho => by
    obtain ⟨_, t, cs, hb, _⟩ := hr j e
    unfold Blk at hb
    rw [hb] at ho
    cases ho
    rfl), fun k o _ ho hm => by
    refine (hg.block k (Array.getElem?_eq_some_iff.1 ho).1 ?_).trans ho
    intro e
    obtain ⟨_, t, cs, hb, ht⟩ := hr k e.symm
    unfold Blk at hb
    rw [hb] at ho
    cases ho
    simp [mine] at hm
    simp at ht
    exact ht hm⟩

/-- Four stores that fill a block of four cells. -/
theorem set4 (w : World) (b : Nat) (t : TypeId) (c0 c1 c2 c3 u0 u1 u2 u3 : Value) (hk : Blk w b t #[c0, c1, c2, c3]) :
    ∃ w1, w1 = (((w.setCell ⟨b, 0, none⟩ u0).setCell ⟨b, 1, none⟩ u1).setCell ⟨b, 2, none⟩ u2).setCell ⟨b, 3, none⟩ u3 ∧ Blk w1 b t #[u0, u1, u2, u3] ∧ w1.heap.size = w.heap.size ∧
      (∀ g t' cs', g ≠ b → Blk w g t' cs' → Blk w1 g t' cs') ∧ (∀ B, B ≤ b → Below B w w1) ∧
      (∀ T n1 nC A, Hush T n1 nC A w → n1 ≤ b → T.contains t = true → Hush T n1 nC A w1) ∧
      (∀ T n0 n1, n0 ≤ b → (n1 ≤ b → T.contains t = false) → Kept T n0 n1 w w1) ∧
      (∀ base e size v k xs, e ≠ t → w.ownsRow base e size v k xs → w1.ownsRow base e size v k xs) := by
  have k0 := hk.set_ 0 u0
  have k1 := k0.set_ 1 u1
  have k2 := k1.set_ 2 u2
  have k3 := k2.set_ 3 u3
  refine ⟨_, rfl, by simpa using k3, by simp [World.setCell], fun g t' cs' hg h => ?_, fun B hB => ?_, fun T n1 nC A hh hn ht => ?_, fun T n0 n1 hn ht => ?_, fun base e size v k xs he h => ?_⟩
  · exact (((h.far (p := ⟨b, 0, none⟩) hg _).far (p := ⟨b, 1, none⟩) hg _).far (p := ⟨b, 2, none⟩) hg _).far (p := ⟨b, 3, none⟩) hg _
  · exact below_set (below_set (below_set (below_set (Below.refl _ _) hB _) hB _) hB _) hB _
  · exact hush_set (hush_set (hush_set (hush_set hh hk hn ht u0) k0 hn ht u1) k1 hn ht u2) k2 hn ht u3
  · exact (((Kept.set hk hn ht u0).trans (Kept.set k0 hn ht u1)).trans (Kept.set k1 hn ht u2)).trans (Kept.set k2 hn ht u3)
  · have a0 := ownsRow_setCell_other h (a := ⟨b, 0, none⟩) (own_blk_ne h hk he) u0
    have a1 := ownsRow_setCell_other a0 (a := ⟨b, 1, none⟩) (own_blk_ne h hk he) u1
    have a2 := ownsRow_setCell_other a1 (a := ⟨b, 2, none⟩) (own_blk_ne h hk he) u2
    exact ownsRow_setCell_other a2 (a := ⟨b, 3, none⟩) (own_blk_ne h hk he) u3

/-- The contract of an iterator that has cells of its own types T from block n1 on, and whose rounds must keep what lay below n0. -/
def SeqAll {α : Type} (n : Nat) (P : Program) (g : Nat) (lb : Array Value) (encs : α → Array Value) (T : List TypeId) (n0 n1 : Nat) (S : List α → Prop) (Nx : List α → α → Prop) (w : World) : Prop :=
  ∀ (l : Nat) (J : List α → World → Prop) (W : World), Below w.heap.size w W → (∀ s A B, J s A → Hush T n1 A.heap.size A B → J s B) →
    (∀ pre x W1, J pre W1 → Nx pre x → YieldAt Fence.wide (n - 1) P l (encs x) W1 fun e W' => e = .returned (.bool true) ∧ J (pre ++ [x]) W' ∧ Kept T n0 n1 W1 W') →
    J [] W →
    CallsIn Fence.wide n P g (#[.func (.yield l) #[] #[]] ++ lb) W fun e W' => (∃ v, e = .returned v) ∧ ∃ xs, S xs ∧ J xs W'

/-- How a round may end: it goes on. -/
def roundEnd (R : Act → World → Prop) : Exit → Act → World → Prop
  | .normal, a, w => R a w
  | _, _, _ => False

/-- THE LAW FOR THE CALLER: an invariant I of its own cells; the assignment of a round, which may lay blocks; the round's body; what stands behind the loop. -/
theorem wpIn_rangeAll {α : Type} {n : Nat} {P : Program} {g : Operand} {ps : Array Tmp} {assign body : Code} {Q : Exit → Act → World → Prop} {a : Act} {w : World}
    (h1 : 1 ≤ n) {gf : Nat} {lb : Array Value} (hg : a.eval g = .func (.func gf) #[] lb) (eg : ∀ args w, (callFunc gf args).run P w = .ok (.enter gf args) w)
    {encs : α → Array Value} {T : List TypeId} {n0 n1 : Nat} {S : List α → Prop} {Nx : List α → α → Prop} (hseq : SeqAll (n - 1) P gf lb encs T n0 n1 S Nx w) (hn0 : n0 ≤ w.heap.size)
    (hps : ∀ x, (encs x).size = ps.size) (I : List α → World → Prop) (hI : ∀ s A B, I s A → Hush T n1 w.heap.size A B → I s B) (h0 : I [] w)
    (Mid : List α → α → Act → World → Prop) (hM : ∀ pre x b A B, Mid pre x b A → Hush [] n1 w.heap.size A B → Mid pre x b B)
    (hassign : ∀ (l : Nat) (pre : List α) (x : α) (W : World), w.heap.size ≤ W.heap.size → I pre W → Nx pre x →
      assign.wpIn (Fence.wide.inRound l) (n - 1 - 1) P (Exit.then (fun b W' => Kept T n0 n1 W W' ∧ Mid pre x b W') (fun _ _ _ => False)) { tmps := (ps.zip (encs x)).foldl (fun t (p, v) => t.setIfInBounds p v) a.tmps, defers := [] } W)
    (hbody : ∀ (l : Nat) (pre : List α) (x : α) (b : Act) (W : World), w.heap.size ≤ W.heap.size → Mid pre x b W → Nx pre x →
      body.wpIn (Fence.wide.inRound l) (n - 1 - 1) P (roundEnd (fun _ W' => Kept T n0 n1 W W' ∧ I (pre ++ [x]) W')) b W)
    (hdone : ∀ (D : Nat) (xs : List α) (W : World), w.heap.size ≤ D → S xs → I xs W → W.heap[D]? = some (.deferred (some [])) → Q .normal { a with defers := { target := .collected D, args := #[] } :: a.defers } W) :
    (Code.rangeFunc g ps assign body).wpIn Fence.wide n P Q a w := by
  refine wpIn_rangeFunc fun fn hfn => ?_
  -- the loop's record, in its states
  obtain ⟨rc, hrc⟩ : ∃ rc : LoopState → Option Code → Loop, rc = fun st pe => { state := st, pending := pe, fn, tmps := a.tmps, params := ps, assign, body, defers := w.heap.size } := ⟨_, rfl⟩
  have hW1 : ∃ W1, W1 = (w.alloc (.deferred (some []))).alloc (.loop (rc .ready none)) := ⟨_, rfl⟩
  obtain ⟨W1, hW1⟩ := hW1
  have sz : W1.heap.size = w.heap.size + 2 := by rw [hW1]; simp
  have hL : W1.heap[w.heap.size + 1]? = some (.loop (rc .ready none)) := by
    have := World.alloc_heap_new (w.alloc (.deferred (some []))) (.loop (rc .ready none))
    rwa [World.size_alloc, ← hW1] at this
  have hD : W1.heap[w.heap.size]? = some (.deferred (some [])) := by
    rw [hW1]; exact (Below.heap_alloc _ _ _ (by simp)).trans (World.alloc_heap_new w _)
  have hI1 : I [] W1 := hI _ _ _ h0 (by rw [hW1]; exact hush_alloc (hush_alloc (Hush.refl _ _ _ _) _) _)
  have hb1 : Below w.heap.size w W1 := by rw [hW1]; exact (by repeat (first | exact Below.refl _ _ | exact Below.refl _ _ | refine Below.drew ?_ | refine below_drewN ?_ _ | refine below_set ?_ (by omega) _ | refine below_new ?_ (by omega) _))
  refine ⟨w.heap.size + 1, [{ target := .collected w.heap.size, args := #[] }], W1, { target := .fn (.func gf) lb, args := #[.func (.yield (w.heap.size + 1)) #[] #[]] }, W1, gf,
    #[.func (.yield (w.heap.size + 1)) #[] #[]] ++ lb, W1, by rw [hW1, hrc]; exact run_enterLoop_outer _ _ _ _ _, by simp only [resolve, hg]; simp [go_sem], fun _ _ => trivial, by simp [invoke, go_sem, eg], fun _ => h1, ?_⟩
  refine (hseq (w.heap.size + 1) (fun pre W => I pre W ∧ W.heap[w.heap.size + 1]? = some (.loop (rc .ready none)) ∧ W.heap[w.heap.size]? = some (.deferred (some [])) ∧ w.heap.size + 2 ≤ W.heap.size) W1 hb1
    (fun s A B hs hh => ⟨hI s A B hs.1 ⟨hh.os, hh.tape, hh.output, hh.size, fun k o ho h2 _ => hh.same k o ho h2 (fun hk => absurd (Array.getElem?_eq_some_iff.1 ho).1 (by omega))⟩,
      hh.same _ _ hs.2.1 (fun _ => rfl) (fun hk => by have := hs.2.2.2; omega), hh.same _ _ hs.2.2.1 (fun _ => rfl) (fun hk => by have := hs.2.2.2; omega), Nat.le_trans hs.2.2.2 hh.size⟩)
    ?_ ⟨hI1, hL, hD, by omega⟩).mono ?_
  · -- one round
    rintro pre x W ⟨hi, hl, hd, hz⟩ hlen
    have hy := run_yield (P := P) (args := encs x) hl (by rw [hrc]; exact hps x)
    rw [hrc] at hy
    refine ⟨fn, _, assign, body, hy, roundIn_of_wpIn hfn (wpIn_mono (hassign (w.heap.size + 1) pre x W (by omega) hi hlen) ?_)⟩
    rintro e b W2 hp
    cases e with
    | normal =>
      obtain ⟨hk2, hm2⟩ := hp
      have hl2 := hk2.others.same _ _ hl rfl
      have hd2 := hk2.others.same _ _ hd rfl
      have hz2 := hk2.others.size
      refine ⟨_, run_beginRound hl2 (by rw [hrc]), ?_⟩
      have hl3 : (W2.putObj (w.heap.size + 1) (.loop { rc .ready none with state := .busy })).heap[w.heap.size + 1]? = some (.loop { rc .ready none with state := .busy }) := World.putObj_heap_same (Array.getElem?_eq_some_iff.1 hl2).1
      have hd3 : (W2.putObj (w.heap.size + 1) (.loop { rc .ready none with state := .busy })).heap[w.heap.size]? = some (.deferred (some [])) := (World.putObj_heap_other (by omega)).trans hd2
      have hm3 := hM _ _ _ _ _ hm2 (hush_put hl2 rfl (by omega) (.loop { rc .ready none with state := .busy }))
      refine wpIn_mono (hbody (w.heap.size + 1) pre x b _ (by simp; omega) hm3 hlen) ?_
      rintro e3 b3 W4 hp3
      cases e3 with
      | normal =>
        obtain ⟨hk4, hi4⟩ := hp3
        have hl4 := hk4.others.same _ _ hl3 rfl
        have hd4 := hk4.others.same _ _ hd3 rfl
        have hz4 := hk4.others.size
        simp at hz4
        have he := run_endRound (P := P) none hl4
        refine ⟨_, _, he, rfl, ⟨hI _ _ _ hi4 (hush_put hl4 rfl (by omega) _), ?_, (World.putObj_heap_other (by omega)).trans hd4, by simp; omega⟩, ?_⟩
        · rw [World.putObj_heap_same (Array.getElem?_eq_some_iff.1 hl4).1, hrc]; rfl
        · refine hk2.trans ?_
          have p1 : ∀ (A : World) (o o' : Obj), A.heap[w.heap.size + 1]? = some o → o.isCells = false → n0 ≤ A.heap.size → Below n0 A (A.putObj (w.heap.size + 1) o') ∧ (∀ (k : Nat) (o2 : Obj), n1 ≤ k → A.heap[k]? = some o2 → mine T o2 = true → (A.putObj (w.heap.size + 1) o').heap[k]? = some o2) := fun A o o' ho hc hn =>
            ⟨(Below.refl _ _).grown (grownBy_putObj' A (w.heap.size + 1) o') hn (fun k e => by cases e; omega), fun k o2 _ h2 hm => (World.putObj_heap_other (by rintro rfl; rw [ho] at h2; cases h2; cases o <;> simp_all [mine, Obj.isCells])).trans h2⟩
          obtain ⟨q1, q2⟩ := p1 W2 _ (.loop { rc .ready none with state := .busy }) hl2 rfl (by omega)
          obtain ⟨q3, q4⟩ := p1 W4 _ (.loop { { rc .ready none with state := .busy } with state := (if (none : Option Code).isNone then .ready else .done), pending := none }) hl4 rfl (by omega)
          have hback : (W4.putObj (w.heap.size + 1) (.loop { { rc .ready none with state := .busy } with state := (if (none : Option Code).isNone then .ready else .done), pending := none })).heap[w.heap.size + 1]? = some (.loop (rc .ready none)) := by
            rw [World.putObj_heap_same (Array.getElem?_eq_some_iff.1 hl4).1, hrc]; rfl
          refine ⟨q1.trans (hk4.below.trans q3), ⟨by simp; omega, fun k o ho hc => ?_⟩, fun k o hk ho hm => q4 k o hk (hk4.own k o hk (q2 k o hk ho hm) hm) hm⟩
          by_cases hkl : k = w.heap.size + 1
          · rw [hkl] at ho ⊢
            rw [hl2] at ho
            cases ho
            exact hback
          · exact (World.putObj_heap_other hkl).trans (hk4.others.same k o ((World.putObj_heap_other hkl).trans ho) hc)
      | _ => exact hp3.elim
    | _ => exact hp.elim
  · -- behind the iterator
    rintro e W2 ⟨⟨v, rfl⟩, xs, hS, hi, hl, hd, hz⟩
    refine ⟨none, _, (by have := run_endLoop (P := P) hl (by rw [hrc]; simp); rw [hrc] at this; exact this), ?_⟩
    exact hdone w.heap.size xs _ (Nat.le_refl _) hS (hI _ _ _ hi (hush_put hl rfl (by omega) _)) ((World.putObj_heap_other (by omega)).trans hd)

/-- append of one element, in the fenced walk; the new slice's form is told. -/
theorem wpListIn_push {F : Fence} {n : Nat} {P : Program} (w : World) {ops : Array Oper} {rest : List Oper} {o : Oper} {a : Act} {Q : Exit → Act → World → Prop}
    (hgd : o.guard = none) (s x : Operand) (t : TypeId) (hop : o.op = Op.call { callee := Callee.builtin Builtin.append, args := #[s, x], argTypes := #[t, t] })
    (base : Nat) (e : TypeId) (z : Value) (size bytes : Nat) (ht : P.underlying t = some (.slice e)) (hinfo : (P.info? e).map (fun i => (i.zero, i.size, i.bytes)) = some (some z, size, bytes)) (hzs : z.cells.size = size) (hsz : 0 < size)
    (v : Value) (k : Nat) (xs : List Value) (hs : a.eval s = v) (hown : w.ownsRow base e size v k xs) (g : Nat) (news : List Value) (hx : a.eval x = .slice (some ⟨g, 0, none⟩) 1 1) (hn : news.length = size)
    (hc : ∀ j u, news[j]? = some u → w.cell? ⟨g, j, none⟩ = some u) (h1c : ∀ u ∈ news, u.oneCell' = true) (b1 : k + 1 ≤ maxLen) (b2 : (k + 1) * bytes ≤ 140737488355328) (b3 : base ≤ w.heap.size)
    (hK : ∀ g' c' w', w'.ownsRow base e size (.slice (some ⟨g', 0, none⟩) (k + 1) c') (k + 1) (xs ++ news) → w.grownBy w' v.ownBlock → wpListIn F n P ops Q rest (a.put o.dst (.slice (some ⟨g', 0, none⟩) (k + 1) c')) w') :
    wpListIn F n P ops Q (o :: rest) a w := by
  obtain ⟨i, hi, hz, hsize, hby⟩ := info_parts hinfo
  refine wpListIn_append_own w hgd s x t hop base e i z size bytes ht hi hz hsize hby hzs hsz v k xs hs hown ⟨g, 0, none⟩ 1 1 news hx (by omega) (fun j u hu => ?_) h1c b1 b2 b3 (fun v' w' h1 h2 _ => ?_)
  · have : (⟨g, 0, none⟩ : Addr).add j = ⟨g, j, none⟩ := by unfold Addr.add; split <;> simp_all
    rw [this]
    exact hc j u hu
  · obtain ⟨g', c', rfl⟩ := ownsRow_succ h1
    exact hK g' c' w' h1 h2

/-- What an append keeps. -/
theorem Kept.row {T : List TypeId} {n0 n1 : Nat} {A W' : World} {base : Nat} {e : TypeId} {size k : Nat} {v : Value} {xs : List Value} (hr : A.ownsRow base e size v k xs) (he : T.contains e = false) (hb : n0 ≤ base) (hn : n0 ≤ A.heap.size) (hg : A.grownBy W' v.ownBlock) : Kept T n0 n1 A W' :=
  Kept.grown hg hn fun g h => by
    refine ⟨Nat.le_trans hb (hr.lt g h).1, ?_⟩
    rcases hr.2 with ⟨rfl, _⟩ | ⟨g', cap, cur, rfl, _, hh, _⟩
    · simp [Value.ownBlock] at h
    · have : g' = g := by simpa [Value.ownBlock] using h
      subst this
      exact ⟨e, cur, hh, he⟩
theorem grown_blk {A W' : World} {base : Nat} {e t : TypeId} {size k g : Nat} {v : Value} {xs : List Value} {cs : Array Value} (hr : A.ownsRow base e size v k xs) (hg : A.grownBy W' v.ownBlock) (hb : Blk A g t cs) (hne : e ≠ t) : Blk W' g t cs :=
  hb.grown hg (fun h => own_blk_ne hr hb hne h.symm)
end Go.Proofs.YthlnmoecmicofaaDoor
