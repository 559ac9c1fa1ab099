/- A range over an iterator that has cells of its own: its contract, and the law for its caller (no way out of the loop but its end). A region that draws its order, in the body of a loop over an iterator. A region that draws its order and falls in two: operations that are quiet in a class of worlds (they read, or call what makes memory of its own alone), and operations behind them that wait for all of those. One walk in the text's order serves the first part. The region in two parts, inside a fence: in the body of a loop over an iterator. The region in two parts; a test that looks at the second part's operations, too. -/
import Derived.RangeFuncNested
import Derived.RangeFuncBound
import Derived.RangeFuncCalls
import Derived.RangeFuncLeaves
import Derived.Shelf.Abstract
import Derived.WalkKit
import Derived.OwnWalkIn
import Derived.TacticsInMore
import Derived.LoopNIn
import Derived.LoopIn
import Derived.OneCell
import Derived.Test.YtcihiglpahhboaaGreatDoorPlainA
import Derived.Test.YtcihiglpahhboaaGreatDoorBaseF
import Derived.Sort.QuietTacIn
import Derived.OrdersHeld
import Derived.OrdersIn
import Derived.Sort.QuietThIn
namespace Go.Proofs.YtcihiglpahhboaaGreatDoor
open Go.RowKit Go.Shelf
set_option maxRecDepth 100000

/-- Cells of one of the types T. -/
def mine (T : List TypeId) : Obj → Bool
  | .cells _ t _ => T.contains t
  | _ => false

/-- What may happen behind the caller's back: new blocks; stores into cells of the types T from block n1 on; turns of blocks that are no cells from block nC on. -/
structure Hush (T : List TypeId) (n1 nC : Nat) (A B : World) : Prop where
  os : B.os = A.os
  tape : B.tape = A.tape
  output : B.output = A.output
  size : A.heap.size ≤ B.heap.size
  same : ∀ (k : Nat) (o : Obj), A.heap[k]? = some o → (n1 ≤ k → mine T o = false) → (nC ≤ k → o.isCells = true) → B.heap[k]? = some o

theorem Hush.refl (T : List TypeId) (n1 nC : Nat) (A : World) : Hush T n1 nC A A := ⟨rfl, rfl, rfl, Nat.le_refl _, fun _ _ h _ _ => h⟩
theorem Hush.below {T : List TypeId} {n1 nC : Nat} {A B w : World} {b : Nat} (h : Hush T n1 nC A B) (hb : Below b w A) (h1 : b ≤ n1) (hC : b ≤ nC) (hA : b ≤ w.heap.size) : Below b w B :=
  ⟨h.os.trans hb.os, h.tape.trans hb.tape, h.output.trans hb.output, Nat.le_trans hb.size h.size, fun k hk => by
    have hlt : k < A.heap.size := by have := hb.size; omega
    rw [← hb.block k hk]
    obtain ⟨o, ho⟩ : ∃ o, A.heap[k]? = some o := ⟨_, Array.getElem?_eq_getElem hlt⟩
    rw [ho]
    exact h.same k o ho (fun hn => by omega) (fun hn => by omega)⟩
theorem Hush.blk {T : List TypeId} {n1 nC : Nat} {A B : World} {g : Nat} {t : TypeId} {cs : Array Value} (h : Hush T n1 nC A B) (hk : Blk A g t cs) (ht : n1 ≤ g → T.contains t = false) : Blk B g t cs :=
  h.same g _ hk ht (fun _ => rfl)
theorem Hush.row {T : List TypeId} {n1 nC : Nat} {A B : World} {base : Nat} {e : TypeId} {size : Nat} {v : Value} {n : Nat} {xs : List Value} (h : Hush T n1 nC A B) (hr : A.ownsRow base e size v n xs) (ht : T.contains e = false) : B.ownsRow base e size v n xs := by
  obtain ⟨h1, h2⟩ := hr
  refine ⟨h1, ?_⟩
  rcases h2 with h2 | ⟨g, cap, cur, hv, hg, hh, r⟩
  · exact .inl h2
  · exact .inr ⟨g, cap, cur, hv, hg, h.same g _ hh (fun _ => ht) (fun _ => rfl), r⟩
theorem hush_alloc {T : List TypeId} {n1 nC : Nat} {A B : World} (h : Hush T n1 nC A B) (o : Obj) : Hush T n1 nC A (B.alloc o) :=
  ⟨h.os, h.tape, h.output, Nat.le_trans h.size (by simp), fun k o2 ho h1 h2 => by
    have := h.same k o2 ho h1 h2
    exact (Below.heap_alloc B o k (Array.getElem?_eq_some_iff.1 this).1).trans this⟩
theorem hush_put {T : List TypeId} {n1 nC : Nat} {A : World} {l : Nat} {o : Obj} (hl : A.heap[l]? = some o) (hc : o.isCells = false) (hn : nC ≤ l) (o' : Obj) : Hush T n1 nC A (A.putObj l o') :=
  ⟨rfl, rfl, rfl, by simp, fun k o2 ho _ h2 => by
    refine (World.putObj_heap_other ?_).trans ho
    rintro rfl
    rw [hl] at ho
    cases ho
    rw [h2 hn] at hc
    cases hc⟩

theorem hush_of_below {T : List TypeId} {n1 nC : Nat} {A B C : World} (h : Hush T n1 nC A B) (hb : Below B.heap.size B C) : Hush T n1 nC A C :=
  ⟨hb.os.trans h.os, hb.tape.trans h.tape, hb.output.trans h.output, Nat.le_trans h.size hb.size, fun k o ho h1 h2 => by
    have h3 := h.same k o ho h1 h2
    exact (hb.block k (Array.getElem?_eq_some_iff.1 h3).1).trans h3⟩
theorem hush_set {T : List TypeId} {n1 nC : Nat} {A B : World} {b i : Nat} {t : TypeId} {cs : Array Value} (h : Hush T n1 nC A B) (hk : Blk B b t cs) (hb : n1 ≤ b) (ht : T.contains t = true) (u : Value) : Hush T n1 nC A (B.setCell ⟨b, i, none⟩ u) :=
  ⟨h.os, h.tape, h.output, by simpa [World.setCell] using h.size, fun k o ho h1 h2 => by
    have h3 := h.same k o ho h1 h2
    refine (Below.heap_setCell B _ u k ?_).trans h3
    intro e
    have e' : k = b := e
    have hk' : B.heap[b]? = some (Obj.cells cs t (0, 0)) := hk
    rw [e', hk'] at h3
    cases h3
    have := h1 (by omega)
    simp [mine] at this
    simp at ht
    exact this ht⟩

/-- What a round keeps: all below block n0; whatever is no cells; cells of the types T from block n1 on. -/
structure Kept (T : List TypeId) (n0 n1 : Nat) (W W' : World) : Prop where
  below : Below n0 W W'
  others : KeepsOthers W W'
  own : ∀ (k : Nat) (o : Obj), n1 ≤ k → W.heap[k]? = some o → mine T o = true → W'.heap[k]? = some o

theorem Kept.refl (T : List TypeId) (n0 n1 : Nat) (W : World) : Kept T n0 n1 W W := ⟨Below.refl _ _, KeepsOthers.refl _, fun _ _ _ h _ => h⟩
theorem Kept.trans {T : List TypeId} {n0 n1 : Nat} {A B C : World} (h : Kept T n0 n1 A B) (k : Kept T n0 n1 B C) : Kept T n0 n1 A C :=
  ⟨h.below.trans k.below, h.others.trans k.others, fun i o hi ho hm => k.own i o hi (h.own i o hi ho hm) hm⟩
theorem Kept.blk {T : List TypeId} {n0 n1 : Nat} {W W' : World} {g : Nat} {t : TypeId} {cs : Array Value} (h : Kept T n0 n1 W W') (hk : Blk W g t cs) (hg : n1 ≤ g) (ht : T.contains t = true) : Blk W' g t cs :=
  h.own g _ hg hk ht
theorem Kept.alloc {T : List TypeId} {n0 n1 : Nat} (W : World) (hn : n0 ≤ W.heap.size) (o : Obj) : Kept T n0 n1 W (W.alloc o) :=
  ⟨(Below.refl _ _).alloc hn _, KeepsOthers.alloc W o, fun k _ _ ho _ => (Below.heap_alloc W o k (Array.getElem?_eq_some_iff.1 ho).1).trans ho⟩
theorem Kept.set {T : List TypeId} {n0 n1 : Nat} {W : World} {b i : Nat} {t : TypeId} {cs : Array Value} (hk : Blk W b t cs) (hn : n0 ≤ b) (ht : n1 ≤ b → T.contains t = false) (u : Value) : Kept T n0 n1 W (W.setCell ⟨b, i, none⟩ u) :=
  ⟨below_set (Below.refl _ _) hn u, KeepsOthers.setCell W _ u, fun k o hn1 ho hm => by
    refine (Below.heap_setCell W _ u k ?_).trans ho
    intro e
    have e' : k = b := e
    rw [e'] at ho hn1
    have hk' : W.heap[b]? = some (Obj.cells cs t (0, 0)) := hk
    rw [hk'] at ho
    cases ho
    have := ht hn1
    simp [mine] at hm
    simp at this
    exact this hm⟩
/-- .. behind an append, or another step that turns one row alone. -/
theorem Kept.grown {T : List TypeId} {n0 n1 : Nat} {W W' : World} {row : Option Nat} (hg : W.grownBy W' row) (hn : n0 ≤ W.heap.size) (hr : ∀ k, row = some k → n0 ≤ k ∧ ∃ t cs, Blk W k t cs ∧ T.contains t = false) : Kept T n0 n1 W W' :=
  ⟨(Below.refl _ _).grown hg hn (fun k e => (hr k e).1), KeepsOthers.of_grownBy hg (fun j o e ho => by
    obtain ⟨_, t, cs, hb, _⟩ := hr j e
    unfold Blk at hb
    rw [hb] at ho
    cases ho
    rfl), fun k o _ ho hm => by
    refine (hg.block k (Array.getElem?_eq_some_iff.1 ho).1 ?_).trans ho
    intro e
    obtain ⟨_, t, cs, hb, ht⟩ := hr k e.symm
    unfold Blk at hb
    rw [hb] at ho
    cases ho
    simp [mine] at hm
    simp at ht
    exact ht hm⟩

/-- Four stores that fill a block of four cells. -/
theorem set4 (w : World) (b : Nat) (t : TypeId) (c0 c1 c2 c3 u0 u1 u2 u3 : Value) (hk : Blk w b t #[c0, c1, c2, c3]) :
    ∃ w1, w1 = (((w.setCell ⟨b, 0, none⟩ u0).setCell ⟨b, 1, none⟩ u1).setCell ⟨b, 2, none⟩ u2).setCell ⟨b, 3, none⟩ u3 ∧ Blk w1 b t #[u0, u1, u2, u3] ∧ w1.heap.size = w.heap.size ∧
      (∀ g t' cs', g ≠ b → Blk w g t' cs' → Blk w1 g t' cs') ∧ (∀ B, B ≤ b → Below B w w1) ∧
      (∀ T n1 nC A, Hush T n1 nC A w → n1 ≤ b → T.contains t = true → Hush T n1 nC A w1) ∧
      (∀ T n0 n1, n0 ≤ b → (n1 ≤ b → T.contains t = false) → Kept T n0 n1 w w1) ∧
      (∀ base e size v k xs, e ≠ t → w.ownsRow base e size v k xs → w1.ownsRow base e size v k xs) := by
  have k0 := hk.set_ 0 u0
  have k1 := k0.set_ 1 u1
  have k2 := k1.set_ 2 u2
  have k3 := k2.set_ 3 u3
  refine ⟨_, rfl, by simpa using k3, by simp [World.setCell], fun g t' cs' hg h => ?_, fun B hB => ?_, fun T n1 nC A hh hn ht => ?_, fun T n0 n1 hn ht => ?_, fun base e size v k xs he h => ?_⟩
  · exact (((h.far (p := ⟨b, 0, none⟩) hg _).far (p := ⟨b, 1, none⟩) hg _).far (p := ⟨b, 2, none⟩) hg _).far (p := ⟨b, 3, none⟩) hg _
  · exact below_set (below_set (below_set (below_set (Below.refl _ _) hB _) hB _) hB _) hB _
  · exact hush_set (hush_set (hush_set (hush_set hh hk hn ht u0) k0 hn ht u1) k1 hn ht u2) k2 hn ht u3
  · exact (((Kept.set hk hn ht u0).trans (Kept.set k0 hn ht u1)).trans (Kept.set k1 hn ht u2)).trans (Kept.set k2 hn ht u3)
  · have a0 := ownsRow_setCell_other h (a := ⟨b, 0, none⟩) (own_blk_ne h hk he) u0
    have a1 := ownsRow_setCell_other a0 (a := ⟨b, 1, none⟩) (own_blk_ne h hk he) u1
    have a2 := ownsRow_setCell_other a1 (a := ⟨b, 2, none⟩) (own_blk_ne h hk he) u2
    exact ownsRow_setCell_other a2 (a := ⟨b, 3, none⟩) (own_blk_ne h hk he) u3

/-- The contract of an iterator that has cells of its own types T from block n1 on, and whose rounds must keep what lay below n0. -/
def SeqAll {α : Type} (n : Nat) (P : Program) (g : Nat) (lb : Array Value) (encs : α → Array Value) (T : List TypeId) (n0 n1 : Nat) (S : List α → Prop) (Nx : List α → α → Prop) (w : World) : Prop :=
  ∀ (l : Nat) (J : List α → World → Prop) (W : World), Below w.heap.size w W → (∀ s A B, J s A → Hush T n1 A.heap.size A B → J s B) →
    (∀ pre x W1, J pre W1 → Nx pre x → YieldAt Fence.wide (n - 1) P l (encs x) W1 fun e W' => e = .returned (.bool true) ∧ J (pre ++ [x]) W' ∧ Kept T n0 n1 W1 W') →
    J [] W →
    CallsIn Fence.wide n P g (#[.func (.yield l) #[] #[]] ++ lb) W fun e W' => (∃ v, e = .returned v) ∧ ∃ xs, S xs ∧ J xs W'

/-- How a round may end: it goes on. -/
def roundEnd (R : Act → World → Prop) : Exit → Act → World → Prop
  | .normal, a, w => R a w
  | _, _, _ => False

/-- THE LAW FOR THE CALLER: an invariant I of its own cells; the assignment of a round, which may lay blocks; the round's body; what stands behind the loop. -/
theorem wpIn_rangeAll {α : Type} {n : Nat} {P : Program} {g : Operand} {ps : Array Tmp} {assign body : Code} {Q : Exit → Act → World → Prop} {a : Act} {w : World}
    (h1 : 1 ≤ n) {gf : Nat} {lb : Array Value} (hg : a.eval g = .func (.func gf) #[] lb) (eg : ∀ args w, (callFunc gf args).run P w = .ok (.enter gf args) w)
    {encs : α → Array Value} {T : List TypeId} {n0 n1 : Nat} {S : List α → Prop} {Nx : List α → α → Prop} (hseq : SeqAll (n - 1) P gf lb encs T n0 n1 S Nx w) (hn0 : n0 ≤ w.heap.size)
    (hps : ∀ x, (encs x).size = ps.size) (I : List α → World → Prop) (hI : ∀ s A B, I s A → Hush T n1 w.heap.size A B → I s B) (h0 : I [] w)
    (Mid : List α → α → Act → World → Prop) (hM : ∀ pre x b A B, Mid pre x b A → Hush [] n1 w.heap.size A B → Mid pre x b B)
    (hassign : ∀ (l : Nat) (pre : List α) (x : α) (W : World), w.heap.size ≤ W.heap.size → I pre W → Nx pre x →
      assign.wpIn (Fence.wide.inRound l) (n - 1 - 1) P (Exit.then (fun b W' => Kept T n0 n1 W W' ∧ Mid pre x b W') (fun _ _ _ => False)) { tmps := (ps.zip (encs x)).foldl (fun t (p, v) => t.setIfInBounds p v) a.tmps, defers := [] } W)
    (hbody : ∀ (l : Nat) (pre : List α) (x : α) (b : Act) (W : World), w.heap.size ≤ W.heap.size → Mid pre x b W → Nx pre x →
      body.wpIn (Fence.wide.inRound l) (n - 1 - 1) P (roundEnd (fun _ W' => Kept T n0 n1 W W' ∧ I (pre ++ [x]) W')) b W)
    (hdone : ∀ (D : Nat) (xs : List α) (W : World), w.heap.size ≤ D → S xs → I xs W → W.heap[D]? = some (.deferred (some [])) → Q .normal { a with defers := { target := .collected D, args := #[] } :: a.defers } W) :
    (Code.rangeFunc g ps assign body).wpIn Fence.wide n P Q a w := by
  refine wpIn_rangeFunc fun fn hfn => ?_
  -- the loop's record, in its states
  obtain ⟨rc, hrc⟩ : ∃ rc : LoopState → Option Code → Loop, rc = fun st pe => { state := st, pending := pe, fn, tmps := a.tmps, params := ps, assign, body, defers := w.heap.size } := ⟨_, rfl⟩
  have hW1 : ∃ W1, W1 = (w.alloc (.deferred (some []))).alloc (.loop (rc .ready none)) := ⟨_, rfl⟩
  obtain ⟨W1, hW1⟩ := hW1
  have sz : W1.heap.size = w.heap.size + 2 := by rw [hW1]; simp
  have hL : W1.heap[w.heap.size + 1]? = some (.loop (rc .ready none)) := by
    have := World.alloc_heap_new (w.alloc (.deferred (some []))) (.loop (rc .ready none))
    rwa [World.size_alloc, ← hW1] at this
  have hD : W1.heap[w.heap.size]? = some (.deferred (some [])) := by
    rw [hW1]; exact (Below.heap_alloc _ _ _ (by simp)).trans (World.alloc_heap_new w _)
  have hI1 : I [] W1 := hI _ _ _ h0 (by rw [hW1]; exact hush_alloc (hush_alloc (Hush.refl _ _ _ _) _) _)
  have hb1 : Below w.heap.size w W1 := by rw [hW1]; exact (by repeat (first | exact Below.refl _ _ | exact Below.refl _ _ | refine Below.drew ?_ | refine below_drewN ?_ _ | refine below_set ?_ (by omega) _ | refine below_new ?_ (by omega) _))
  refine ⟨w.heap.size + 1, [{ target := .collected w.heap.size, args := #[] }], W1, { target := .fn (.func gf) lb, args := #[.func (.yield (w.heap.size + 1)) #[] #[]] }, W1, gf,
    #[.func (.yield (w.heap.size + 1)) #[] #[]] ++ lb, W1, by rw [hW1, hrc]; exact run_enterLoop_outer _ _ _ _ _, by simp only [resolve, hg]; simp [go_sem], fun _ _ => trivial, by simp [invoke, go_sem, eg], fun _ => h1, ?_⟩
  refine (hseq (w.heap.size + 1) (fun pre W => I pre W ∧ W.heap[w.heap.size + 1]? = some (.loop (rc .ready none)) ∧ W.heap[w.heap.size]? = some (.deferred (some [])) ∧ w.heap.size + 2 ≤ W.heap.size) W1 hb1
    (fun s A B hs hh => ⟨hI s A B hs.1 ⟨hh.os, hh.tape, hh.output, hh.size, fun k o ho h2 _ => hh.same k o ho h2 (fun hk => absurd (Array.getElem?_eq_some_iff.1 ho).1 (by omega))⟩,
      hh.same _ _ hs.2.1 (fun _ => rfl) (fun hk => by have := hs.2.2.2; omega), hh.same _ _ hs.2.2.1 (fun _ => rfl) (fun hk => by have := hs.2.2.2; omega), Nat.le_trans hs.2.2.2 hh.size⟩)
    ?_ ⟨hI1, hL, hD, by omega⟩).mono ?_
  · -- one round
    rintro pre x W ⟨hi, hl, hd, hz⟩ hlen
    have hy := run_yield (P := P) (args := encs x) hl (by rw [hrc]; exact hps x)
    rw [hrc] at hy
    refine ⟨fn, _, assign, body, hy, roundIn_of_wpIn hfn (wpIn_mono (hassign (w.heap.size + 1) pre x W (by omega) hi hlen) ?_)⟩
    rintro e b W2 hp
    cases e with
    | normal =>
      obtain ⟨hk2, hm2⟩ := hp
      have hl2 := hk2.others.same _ _ hl rfl
      have hd2 := hk2.others.same _ _ hd rfl
      have hz2 := hk2.others.size
      refine ⟨_, run_beginRound hl2 (by rw [hrc]), ?_⟩
      have hl3 : (W2.putObj (w.heap.size + 1) (.loop { rc .ready none with state := .busy })).heap[w.heap.size + 1]? = some (.loop { rc .ready none with state := .busy }) := World.putObj_heap_same (Array.getElem?_eq_some_iff.1 hl2).1
      have hd3 : (W2.putObj (w.heap.size + 1) (.loop { rc .ready none with state := .busy })).heap[w.heap.size]? = some (.deferred (some [])) := (World.putObj_heap_other (by omega)).trans hd2
      have hm3 := hM _ _ _ _ _ hm2 (hush_put hl2 rfl (by omega) (.loop { rc .ready none with state := .busy }))
      refine wpIn_mono (hbody (w.heap.size + 1) pre x b _ (by simp; omega) hm3 hlen) ?_
      rintro e3 b3 W4 hp3
      cases e3 with
      | normal =>
        obtain ⟨hk4, hi4⟩ := hp3
        have hl4 := hk4.others.same _ _ hl3 rfl
        have hd4 := hk4.others.same _ _ hd3 rfl
        have hz4 := hk4.others.size
        simp at hz4
        have he := run_endRound (P := P) none hl4
        refine ⟨_, _, he, rfl, ⟨hI _ _ _ hi4 (hush_put hl4 rfl (by omega) _), ?_, (World.putObj_heap_other (by omega)).trans hd4, by simp; omega⟩, ?_⟩
        · rw [World.putObj_heap_same (Array.getElem?_eq_some_iff.1 hl4).1, hrc]; rfl
        · refine hk2.trans ?_
          have p1 : ∀ (A : World) (o o' : Obj), A.heap[w.heap.size + 1]? = some o → o.isCells = false → n0 ≤ A.heap.size → Below n0 A (A.putObj (w.heap.size + 1) o') ∧ (∀ (k : Nat) (o2 : Obj), n1 ≤ k → A.heap[k]? = some o2 → mine T o2 = true → (A.putObj (w.heap.size + 1) o').heap[k]? = some o2) := fun A o o' ho hc hn =>
            ⟨(Below.refl _ _).grown (grownBy_putObj' A (w.heap.size + 1) o') hn (fun k e => by cases e; omega), fun k o2 _ h2 hm => (World.putObj_heap_other (by rintro rfl; rw [ho] at h2; cases h2; cases o <;> simp_all [mine, Obj.isCells])).trans h2⟩
          obtain ⟨q1, q2⟩ := p1 W2 _ (.loop { rc .ready none with state := .busy }) hl2 rfl (by omega)
          obtain ⟨q3, q4⟩ := p1 W4 _ (.loop { { rc .ready none with state := .busy } with state := (if (none : Option Code).isNone then .ready else .done), pending := none }) hl4 rfl (by omega)
          have hback : (W4.putObj (w.heap.size + 1) (.loop { { rc .ready none with state := .busy } with state := (if (none : Option Code).isNone then .ready else .done), pending := none })).heap[w.heap.size + 1]? = some (.loop (rc .ready none)) := by
            rw [World.putObj_heap_same (Array.getElem?_eq_some_iff.1 hl4).1, hrc]; rfl
          refine ⟨q1.trans (hk4.below.trans q3), ⟨by simp; omega, fun k o ho hc => ?_⟩, fun k o hk ho hm => q4 k o hk (hk4.own k o hk (q2 k o hk ho hm) hm) hm⟩
          by_cases hkl : k = w.heap.size + 1
          · rw [hkl] at ho ⊢
            rw [hl2] at ho
            cases ho
            exact hback
          · exact (World.putObj_heap_other hkl).trans (hk4.others.same k o ((World.putObj_heap_other hkl).trans ho) hc)
      | _ => exact hp3.elim
    | _ => exact hp.elim
  · -- behind the iterator
    rintro e W2 ⟨⟨v, rfl⟩, xs, hS, hi, hl, hd, hz⟩
    refine ⟨none, _, (by have := run_endLoop (P := P) hl (by rw [hrc]; simp); rw [hrc] at this; exact this), ?_⟩
    exact hdone w.heap.size xs _ (Nat.le_refl _) hS (hI _ _ _ hi (hush_put hl rfl (by omega) _)) ((World.putObj_heap_other (by omega)).trans hd)

/-- append of one element, in the fenced walk; the new slice's form is told. -/
theorem wpListIn_push {F : Fence} {n : Nat} {P : Program} (w : World) {ops : Array Oper} {rest : List Oper} {o : Oper} {a : Act} {Q : Exit → Act → World → Prop}
    (hgd : o.guard = none) (s x : Operand) (t : TypeId) (hop : o.op = Op.call { callee := Callee.builtin Builtin.append, args := #[s, x], argTypes := #[t, t] })
    (base : Nat) (e : TypeId) (z : Value) (size bytes : Nat) (ht : P.underlying t = some (.slice e)) (hinfo : (P.info? e).map (fun i => (i.zero, i.size, i.bytes)) = some (some z, size, bytes)) (hzs : z.cells.size = size) (hsz : 0 < size)
    (v : Value) (k : Nat) (xs : List Value) (hs : a.eval s = v) (hown : w.ownsRow base e size v k xs) (g : Nat) (news : List Value) (hx : a.eval x = .slice (some ⟨g, 0, none⟩) 1 1) (hn : news.length = size)
    (hc : ∀ j u, news[j]? = some u → w.cell? ⟨g, j, none⟩ = some u) (h1c : ∀ u ∈ news, u.oneCell' = true) (b1 : k + 1 ≤ maxLen) (b2 : (k + 1) * bytes ≤ 140737488355328) (b3 : base ≤ w.heap.size)
    (hK : ∀ g' c' w', w'.ownsRow base e size (.slice (some ⟨g', 0, none⟩) (k + 1) c') (k + 1) (xs ++ news) → w.grownBy w' v.ownBlock → wpListIn F n P ops Q rest (a.put o.dst (.slice (some ⟨g', 0, none⟩) (k + 1) c')) w') :
    wpListIn F n P ops Q (o :: rest) a w := by
  obtain ⟨i, hi, hz, hsize, hby⟩ := info_parts hinfo
  refine wpListIn_append_own w hgd s x t hop base e i z size bytes ht hi hz hsize hby hzs hsz v k xs hs hown ⟨g, 0, none⟩ 1 1 news hx (by omega) (fun j u hu => ?_) h1c b1 b2 b3 (fun v' w' h1 h2 _ => ?_)
  · have : (⟨g, 0, none⟩ : Addr).add j = ⟨g, j, none⟩ := by unfold Addr.add; split <;> simp_all
    rw [this]
    exact hc j u hu
  · obtain ⟨g', c', rfl⟩ := ownsRow_succ h1
    exact hK g' c' w' h1 h2

/-- What an append keeps. -/
theorem Kept.row {T : List TypeId} {n0 n1 : Nat} {A W' : World} {base : Nat} {e : TypeId} {size k : Nat} {v : Value} {xs : List Value} (hr : A.ownsRow base e size v k xs) (he : T.contains e = false) (hb : n0 ≤ base) (hn : n0 ≤ A.heap.size) (hg : A.grownBy W' v.ownBlock) : Kept T n0 n1 A W' :=
  Kept.grown hg hn fun g h => by
    refine ⟨Nat.le_trans hb (hr.lt g h).1, ?_⟩
    rcases hr.2 with ⟨rfl, _⟩ | ⟨g', cap, cur, rfl, _, hh, _⟩
    · simp [Value.ownBlock] at h
    · have : g' = g := by simpa [Value.ownBlock] using h
      subst this
      exact ⟨e, cur, hh, he⟩
theorem grown_blk {A W' : World} {base : Nat} {e t : TypeId} {size k g : Nat} {v : Value} {xs : List Value} {cs : Array Value} (hr : A.ownsRow base e size v k xs) (hg : A.grownBy W' v.ownBlock) (hb : Blk A g t cs) (hne : e ≠ t) : Blk W' g t cs :=
  hb.grown hg (fun h => own_blk_ne hr hb hne h.symm)
end Go.Proofs.YtcihiglpahhboaaGreatDoor

namespace Go.Proofs.YtcihiglpahhboaaGreatDoor
open Go.RowKit Go.Shelf
set_option maxRecDepth 100000

theorem oper_inRound {n : Nat} {P : Program} {o : Oper} {a : Act} {w : World} {K : Act → World → Prop} {Q : Exit → Act → World → Prop} (l : Nat) (hd : ∀ c, o.op ≠ .defer c)
    (h : Oper.wpIn Fence.wide n P o a w K Q) : Oper.wpIn (Fence.wide.inRound l) n P o a w K Q := by
  unfold Oper.wpIn at *
  refine ⟨fun f hf => h.1 f hf, ?_⟩
  have h2 := h.2
  rw [Oper.semAt_eq _ _ _ hd] at h2 ⊢
  exact h2
theorem wpAnyIn_inRound {n : Nat} {P : Program} {md : Region.Mode} {ops : Array Oper} {Q : Exit → Act → World → Prop} (l : Nat) (hd : ∀ o ∈ ops.toList, ∀ c, o.op ≠ .defer c) :
    ∀ (fuel : Nat) (listed : Array Bool) (a : Act) (w : World), wpAnyIn Fence.wide n P md ops Q fuel listed a w → wpAnyIn (Fence.wide.inRound l) n P md ops Q fuel listed a w
  | 0, _, _, _, h => h
  | fuel + 1, listed, a, w, h => ⟨h.1, fun i hi => by
    have h2 := h.2 i hi
    unfold wpOpIn at h2 ⊢
    split
    · rename_i hn
      rw [hn] at h2
      exact wpAnyIn_inRound l hd fuel _ _ _ h2
    · rename_i o ho
      rw [ho] at h2
      simp only at h2 ⊢
      split
      · rename_i hw
        rw [if_pos hw] at h2
        exact oper_inRound l (hd o (List.mem_of_getElem? (by simpa using ho))) (Oper.wpIn_mono (fun a w hh => wpAnyIn_inRound l hd fuel _ a w hh) h2)
      · rename_i hw
        rw [if_neg hw] at h2
        exact ⟨fun f hf => h2.1 f hf, wpAnyIn_inRound l hd fuel _ _ _ h2.2⟩⟩

theorem wpIn_region_over (l0 B : Nat) {n : Nat} {P : Program} {id : Nat} {Q : Exit → Act → World → Prop} {a : Act} {w : World} {l : List Oper} (hm : P.follows .mixedOrders = true) (hB : Region.lexB .any l.toArray = true) (hd : (l.all fun o => match o.op with | .defer _ => false | _ => true) = true)
    (h : wpQuietIn Fence.wide n P l.toArray (fun w' => ∃ x, w' = over B w x) (fun a' => ∀ w', (∃ x, w' = over B w x) → Q .normal a' w') l a) : (Code.region id l.toArray true).wpIn (Fence.wide.inRound l0) n P Q a w := by
  have hd' : ∀ o ∈ l.toArray.toList, ∀ c, o.op ≠ .defer c := by
    intro o ho c hc
    have := List.all_eq_true.1 hd o (by simpa using ho)
    rw [hc] at this
    cases this
  have hB2 := hB
  simp only [Region.lexB, Bool.and_eq_true] at hB2
  refine wpIn_region_any hm (wpAnyIn_inRound l0 hd' _ _ _ _ (wpAnyIn_of_quiet (F := Fence.wide) (C := fun w' => ∃ x, w' = over B w x) (Q := fun a' => ∀ w', (∃ x, w' = over B w x) → Q .normal a' w') rfl (fun _ w' hw' h => h w' hw') _ _ _ _ ⟨w.drew, over_eq ((Below.refl _ _).drew)⟩ ?_))
  have := wpAnyQIn_lex (F := Fence.wide) (n := n) (C := fun w' => ∃ x, w' = over B w x) (md := .any) hB2.1 l.toArray.toList 0 (Array.replicate l.toArray.size false) a (by simp) (by simpa using hB2.2) h
  simpa using this
end Go.Proofs.YtcihiglpahhboaaGreatDoor

namespace Go.Proofs.YtcihiglpahhboaaGreatDoor
open Go.RowKit
set_option maxRecDepth 100000

section
variable {P : Program} {ops : Array Oper} {md : Region.Mode} {C : World → Prop} {n : Nat}

def readyN (md : Region.Mode) (ops : Array Oper) (n : Nat) (listed : Array Bool) : List Nat := (Region.ready md ops listed).filter (fun i => decide (i < n))
theorem mem_readyN {listed : Array Bool} {i : Nat} : i ∈ readyN md ops n listed ↔ i ∈ Region.ready md ops listed ∧ i < n := by simp [readyN]
/-- Whatever order is picked among the first n. -/
def wpAnyN (P : Program) (md : Region.Mode) (ops : Array Oper) (C : World → Prop) (n : Nat) (Q : Act → Prop) : Nat → Array Bool → Act → Prop
  | 0, listed, a => readyN md ops n listed = [] ∧ Q a
  | fuel + 1, listed, a => (readyN md ops n listed = [] → Q a) ∧ ∀ i ∈ readyN md ops n listed, qOp P ops C i (wpAnyN P md ops C n Q fuel (listed.setIfInBounds i true)) a
theorem wpAnyN_first {Q : Act → Prop} {i : Nat} {oi : Oper} {v : Value} (hin : i < n) (hi : ops[i]? = some oi) (hsel : ∀ (j : Nat) (o : Oper) cs b, ops[j]? = some o → o.op ≠ .select cs b) :
    ∀ (fuel : Nat) (listed : Array Bool) (a : Act),
      (∀ j oj, ops[j]? = some oj → j ≠ i → listed.getD j true = false → (∀ e ∈ oj.after, Region.binds md e = true → e.on ≠ i) → oi.apart ops oj = true) →
      i ∈ Region.ready md ops listed → YieldsIn P ops C oi v a →
      wpAnyN P md ops C n Q fuel (listed.setIfInBounds i true) (a.put oi.dst v) → wpAnyN P md ops C n Q (fuel + 1) listed a := by
  intro fuel
  induction fuel with
  | zero =>
    intro listed a _ hr hy H
    refine ⟨fun h => (by have := mem_readyN.2 ⟨hr, hin⟩; rw [h] at this; cases this), fun j hj => ?_⟩
    obtain ⟨hj1, hj2⟩ := mem_readyN.1 hj
    by_cases hji : j = i
    · subst hji; exact hy.qOp hi H
    · have := mem_readyN.2 ⟨ready_mono hj1 hji, hj2⟩
      rw [H.1] at this
      cases this
  | succ fuel ih =>
    intro listed a hfree hr hy H
    refine ⟨fun h => (by have := mem_readyN.2 ⟨hr, hin⟩; rw [h] at this; cases this), fun j hj => ?_⟩
    obtain ⟨hj1, hj2⟩ := mem_readyN.1 hj
    by_cases hji : j = i
    · subst hji; exact hy.qOp hi H
    · have h1 := H.2 j (mem_readyN.2 ⟨ready_mono hj1 hji, hj2⟩)
      obtain ⟨hjun, oj, hoj, hall⟩ := mem_ready.1 hj1
      have hnot : ∀ e ∈ oj.after, Region.binds md e = true → e.on ≠ i := fun e he hb heq => by
        have h1 := hall e he hb
        have h0 := (mem_ready.1 hr).1
        rw [heq] at h1
        rcases Nat.lt_or_ge i listed.size with h' | h'
        · simp [h'] at h0 h1; rw [h0] at h1; cases h1
        · simp [Array.getElem?_eq_none h'] at h1
      have h2 := qOp_put hoj (hfree j oj hoj hji hjun hnot) (fun cs b => hsel i oi cs b hi) (fun cs b => hsel j oj cs b hoj) hy h1
      have hfree' : ∀ k ok, ops[k]? = some ok → k ≠ i → (listed.setIfInBounds j true).getD k true = false →
          (∀ e ∈ ok.after, Region.binds md e = true → e.on ≠ i) → oi.apart ops ok = true := fun k ok hk hki hun hno => by
        refine hfree k ok hk hki ?_ hno
        by_cases hjk : j = k
        · subst hjk; exact hjun
        · rw [getD_set_ne true hjk] at hun; exact hun
      refine qOp_mono (fun a' h3 => ih (listed.setIfInBounds j true) a' hfree' (ready_mono hr (Ne.symm hji)) h3.1 ?_) h2
      rw [Array.setIfInBounds_comm _ _ hji]
      exact h3.2
/-- The text's order among the first n. -/
def lexN (md : Region.Mode) (ops : Array Oper) (n : Nat) : Nat → Nat → Array Bool → Bool
  | 0, _, listed => (readyN md ops n listed).isEmpty
  | fuel + 1, k, listed => (Region.ready md ops listed).contains k && Region.free md ops listed k && lexN md ops n fuel (k + 1) (listed.setIfInBounds k true)
theorem wpAnyN_lex {Q : Act → Prop} (hs : Region.noSelect ops = true) : ∀ (l : List Oper) (k : Nat) (listed : Array Bool) (a : Act), (∀ j o, l[j]? = some o → ops[k + j]? = some o) → k + l.length = n →
    lexN md ops n l.length k listed = true → wpQuiet P ops C Q l a → wpAnyN P md ops C n Q l.length listed a
  | [], _, _, _, _, _, hB, h => ⟨by simpa [lexN] using hB, h⟩
  | o :: l, k, listed, a, hl, hk, hB, h => by
    have h0 : ops[k]? = some o := hl 0 o rfl
    simp only [List.length_cons, lexN, Bool.and_eq_true] at hB hk
    obtain ⟨⟨hr, hf⟩, hB'⟩ := hB
    have hst : qOp P ops C k (wpQuiet P ops C Q l) a := by unfold qOp; simp only [h0]; exact h
    obtain ⟨v, hy, hK⟩ := yieldsIn_of_qOp h0 hst
    exact wpAnyN_first (by omega) h0 (Region.noSelect_spec hs) l.length listed a (Region.free_spec h0 hf) (by simpa using hr) hy
      (wpAnyN_lex hs l (k + 1) _ _ (fun j o hj => by have := hl (j + 1) o (by simpa using hj); rwa [show k + 1 + j = k + (j + 1) by omega]) (by omega) hB' hK)

theorem wpAny_more {Q : Exit → Act → World → Prop} : ∀ (m : Nat) (listed : Array Bool) (a : Act) (w : World), wpAny P md ops Q m listed a w → wpAny P md ops Q (m + 1) listed a w
  | 0, listed, a, w, h => ⟨fun _ => h.2, fun i hi => by rw [h.1] at hi; cases hi⟩
  | m + 1, listed, a, w, h => ⟨h.1, fun i hi => wpOp_mono (fun a' w' h' => wpAny_more m _ a' w' h') (h.2 i hi)⟩
theorem wpAny_far {Q : Exit → Act → World → Prop} (m : Nat) (listed : Array Bool) (a : Act) (w : World) (h : wpAny P md ops Q m listed a w) : ∀ k, wpAny P md ops Q (k + m) listed a w
  | 0 => by simpa using h
  | k + 1 => by rw [show k + 1 + m = k + m + 1 by omega]; exact wpAny_more _ _ _ _ (wpAny_far m listed a w h k)

/-- What an operation waits for. -/
def aft (md : Region.Mode) (ops : Array Oper) (i : Nat) : List Nat := match ops[i]? with
  | some o => (o.after.toList.filter (Region.binds md)).map (·.on)
  | none => []
theorem mem_aft {i : Nat} {o : Oper} {e : Edge} (ho : ops[i]? = some o) (he : e ∈ o.after) (hb : Region.binds md e = true) : e.on ∈ aft md ops i := by
  simp only [aft, ho, List.mem_map, List.mem_filter]
  exact ⟨e, ⟨by simpa using he, hb⟩, rfl⟩
theorem aft_mem {i k : Nat} (h : k ∈ aft md ops i) : ∃ o e, ops[i]? = some o ∧ e ∈ o.after ∧ Region.binds md e = true ∧ e.on = k := by
  unfold aft at h
  split at h
  · rename_i o ho
    simp only [List.mem_map, List.mem_filter] at h
    obtain ⟨e, ⟨h1, h2⟩, h3⟩ := h
    exact ⟨o, e, ho, by simpa using h1, h2, h3⟩
  · cases h
def sweep (md : Region.Mode) (ops : Array Oper) (is s : List Nat) : List Nat := is.foldl (fun s i => if s.contains i then s ++ aft md ops i else s) s
/-- Whatever is listed, what it waits for is listed. -/
def Closed (md : Region.Mode) (ops : Array Oper) (listed : Array Bool) : Prop := ∀ i k, listed.getD i false = true → k ∈ aft md ops i → listed.getD k false = true
theorem sweep_in {listed : Array Bool} (hc : Closed md ops listed) : ∀ (is s : List Nat), (∀ x ∈ s, listed.getD x false = true) → ∀ x ∈ sweep md ops is s, listed.getD x false = true
  | [], s, h => h
  | i :: is, s, h => by
    show ∀ x ∈ sweep md ops is (if s.contains i then s ++ aft md ops i else s), _
    refine sweep_in hc is _ ?_
    split
    · rename_i hi
      intro x hx
      rcases List.mem_append.1 hx with hx | hx
      · exact h x hx
      · exact hc i x (h i (by simpa using hi)) hx
    · exact h
/-- The split's check: the first n wait for elder ones alone; each later one waits, at length, for all of the first n. -/
def splitB (md : Region.Mode) (ops : Array Oper) (n : Nat) : Bool :=
  ((List.range n).all fun i => (aft md ops i).all fun k => decide (k < i)) &&
  ((List.range ops.size).all fun j => decide (j < n) || let s := sweep md ops (List.range n).reverse (aft md ops j); (List.range n).all fun i => s.contains i)

theorem all_listed {listed : Array Bool} (hsz : listed.size = ops.size) (hn : n ≤ ops.size) (hd : ∀ i, i < n → ∀ k ∈ aft md ops i, k < i) (h : readyN md ops n listed = []) : ∀ i, i < n → listed.getD i false = true := by
  intro i
  induction i using Nat.strongRecOn with
  | _ i ih =>
    intro hi
    cases hl : listed.getD i true with
    | true =>
      have : i < listed.size := by omega
      simp [this] at hl ⊢
      exact hl
    | false =>
      exfalso
      have ho : ops[i]? = some ops[i] := Array.getElem?_eq_getElem (by omega)
      have : i ∈ readyN md ops n listed := mem_readyN.2 ⟨mem_ready.2 ⟨hl, _, ho, fun e he hb => by
        have := hd i hi _ (mem_aft ho he hb)
        exact ih _ this (by omega)⟩, hi⟩
      rw [h] at this
      cases this

theorem wpAny_of_N {Q : Act → Prop} {Q' : Exit → Act → World → Prop} {m : Nat} (hn : n ≤ ops.size) (hB : splitB md ops n = true)
    (hQ : ∀ a w listed, C w → listed.size = ops.size → (∀ i, i < n → listed.getD i false = true) → (∀ j, n ≤ j → listed.getD j false = false) → Q a → wpAny P md ops Q' m listed a w) :
    ∀ (f : Nat) (listed : Array Bool) (a : Act) (w : World), listed.size = ops.size → (∀ j, n ≤ j → listed.getD j false = false) → Closed md ops listed → C w → wpAnyN P md ops C n Q f listed a → wpAny P md ops Q' (f + m) listed a w := by
  simp only [splitB, Bool.and_eq_true, List.all_eq_true, List.mem_range, decide_eq_true_eq, Bool.or_eq_true, List.contains_iff_mem] at hB
  obtain ⟨hd, hcov⟩ := hB
  intro f
  induction f with
  | zero =>
    intro listed a w hsz hlo hcl hw h
    have := hQ a w listed hw hsz (all_listed hsz hn hd h.1) hlo h.2
    rwa [Nat.zero_add]
  | succ f ih =>
    intro listed a w hsz hlo hcl hw h
    by_cases hr : readyN md ops n listed = []
    · exact wpAny_far m listed a w (hQ a w listed hw hsz (all_listed hsz hn hd hr) hlo (h.1 hr)) (f + 1)
    · rw [show f + 1 + m = f + m + 1 by omega]
      refine ⟨fun h0 => absurd (by unfold readyN; rw [h0]; rfl) hr, fun i hi => ?_⟩
      by_cases hin : i < n
      · refine wpOp_of_qOp hw (fun a' w' hw' hK => ih _ a' w' (by simpa using hsz) (fun j hj => ?_) ?_ hw' hK) (h.2 i (mem_readyN.2 ⟨hi, hin⟩))
        · rw [getD_set_ne false (by omega)]; exact hlo j hj
        · intro x k hx hk
          have hx' : x = i ∨ listed.getD x false = true := by
            by_cases e : x = i
            · exact .inl e
            · rw [getD_set_ne false (fun q => e q.symm)] at hx; exact .inr hx
          have hkl : listed.getD k false = true := by
            rcases hx' with rfl | hx'
            · obtain ⟨o, e, ho, he, hb, rfl⟩ := aft_mem hk
              obtain ⟨_, o', ho', hall⟩ := mem_ready.1 hi
              rw [ho] at ho'; cases ho'
              exact hall e he hb
            · exact hcl x k hx' hk
          by_cases e : i = k
          · subst e
            have : i < listed.size := by omega
            simp [this]
          · rw [getD_set_ne false e]; exact hkl
      · exfalso
        obtain ⟨hun, o, ho, hall⟩ := mem_ready.1 hi
        have hi2 : i < ops.size := (Array.getElem?_eq_some_iff.1 ho).1
        have h1 : ∀ x ∈ aft md ops i, listed.getD x false = true := fun x hx => by
          obtain ⟨o', e, ho', he, hb, rfl⟩ := aft_mem hx
          rw [ho] at ho'; cases ho'
          exact hall e he hb
        have h2 := sweep_in hcl (List.range n).reverse _ h1
        obtain ⟨i0, hi0⟩ := List.exists_mem_of_ne_nil _ hr
        obtain ⟨hr0, hl0⟩ := mem_readyN.1 hi0
        have h3 := (hcov i hi2).resolve_left hin i0 hl0
        have h4 := h2 i0 h3
        have h5 := (mem_ready.1 hr0).1
        have : i0 < listed.size := by omega
        simp [this] at h4 h5
        rw [h4] at h5; cases h5

/-- **THE REGION IN TWO PARTS.** -/
theorem wp_region_split {id : Nat} {Q : Exit → Act → World → Prop} {a : Act} {w : World} {l r : List Oper} (hm : P.follows .mixedOrders = true) (hs : Region.noSelect (l ++ r).toArray = true)
    (hx : lexN .any (l ++ r).toArray l.length l.length 0 (Array.replicate (l ++ r).toArray.size false) = true) (hB : splitB .any (l ++ r).toArray l.length = true) (hC : C w.drew)
    (h : wpQuiet P (l ++ r).toArray C (fun a' => ∀ w', C w' → wpAny P .any (l ++ r).toArray Q r.length ((List.replicate l.length true ++ List.replicate r.length false).toArray) a' w') l a) : (Code.region id (l ++ r).toArray true).wp P Q a w := by
  refine wp_region_any hm ?_
  have h1 := wpAnyN_lex (C := C) (md := .any) (n := l.length) hs l 0 (Array.replicate (l ++ r).toArray.size false) a (fun j o hj => by simpa using List.getElem?_append_left (List.getElem?_eq_some_iff.1 hj).1 ▸ hj) (by omega) hx h
  have h2 := wpAny_of_N (Q' := Q) (m := r.length) (by simp) hB (fun a' w' listed hw' hsz hlo hhi hq => by
    have e : listed = (List.replicate l.length true ++ List.replicate r.length false).toArray := by
      apply Array.ext
      · simpa using hsz
      · intro i hi1 hi2
        have hi3 : i < l.length + r.length := by simpa using hi2
        by_cases hil : i < l.length
        · have := hlo i hil
          simp [hi1] at this
          rw [this, List.getElem_toArray, List.getElem_append_left (by simpa using hil), List.getElem_replicate]
        · have := hhi i (by omega)
          simp [hi1] at this
          rw [this, List.getElem_toArray, List.getElem_append_right (by simpa using hil), List.getElem_replicate]
    rw [e]
    exact hq w' hw') l.length (Array.replicate (l ++ r).toArray.size false) a w.drew (by simp) (fun j _ => by simp [Array.getElem?_replicate]; split <;> rfl) (fun i k hi _ => by
      exfalso
      simp [Array.getElem?_replicate] at hi
      split at hi <;> simp at hi) hC h1
  have e2 : l.length + r.length = (l ++ r).toArray.size := by simp
  rw [e2] at h2
  exact h2
/-- From k on one operation alone may come up at a time. -/
def tailB (md : Region.Mode) (ops : Array Oper) : Nat → Nat → Array Bool → Bool
  | 0, _, listed => (Region.ready md ops listed).isEmpty
  | c + 1, k, listed => decide (Region.ready md ops listed = [k]) && tailB md ops c (k + 1) (listed.setIfInBounds k true)
theorem wpAny_of_list {Q : Exit → Act → World → Prop} : ∀ (r : List Oper) (k : Nat) (listed : Array Bool) (a : Act) (w : World), (∀ j o, r[j]? = some o → ops[k + j]? = some o) → tailB md ops r.length k listed = true → wpList P ops Q r a w → wpAny P md ops Q r.length listed a w
  | [], _, _, _, _, _, hB, h => ⟨by simpa [tailB] using hB, h⟩
  | o :: r, k, listed, a, w, hl, hB, h => by
    have h0 : ops[k]? = some o := hl 0 o rfl
    simp only [List.length_cons, tailB, Bool.and_eq_true, decide_eq_true_eq] at hB
    obtain ⟨hr, hB'⟩ := hB
    have ih := fun a' w' => wpAny_of_list (Q := Q) r (k + 1) (listed.setIfInBounds k true) a' w' (fun j o hj => by have := hl (j + 1) o (by simpa using hj); rwa [show k + 1 + j = k + (j + 1) by omega]) hB'
    refine ⟨fun e => (by rw [hr] at e; cases e), fun i hi => ?_⟩
    rw [hr] at hi
    obtain rfl : i = k := by simpa using hi
    unfold wpOp
    simp only [h0]
    simp only [wpList] at h
    split
    · rename_i hw
      rw [if_pos hw] at h
      rcases h with h | h
      · exact .inl (Oper.wp_mono (fun a' w' h' => ih a' w' h') h)
      · exact .inr h
    · rename_i hw
      rw [if_neg hw] at h
      exact ih _ _ h
theorem wpQuiet_mono {Q Q' : Act → Prop} (hq : ∀ a, Q a → Q' a) : ∀ {l : List Oper} {a : Act}, wpQuiet P ops C Q l a → wpQuiet P ops C Q' l a
  | [], _, h => hq _ h
  | o :: l, a, h => by
    simp only [wpQuiet] at h ⊢
    split
    · rename_i hw
      rw [if_pos hw] at h
      exact Oper.quiet_mono (fun a' h' => wpQuiet_mono hq h') h
    · rename_i hw
      rw [if_neg hw] at h
      exact wpQuiet_mono hq h
def partB (n : Nat) (ops : List Oper) : Bool :=
  decide (n ≤ ops.length) && Region.noSelect ops.toArray && lexN .any ops.toArray n n 0 (Array.replicate ops.length false) && splitB .any ops.toArray n &&
    tailB .any ops.toArray (ops.length - n) n ((List.replicate n true ++ List.replicate (ops.length - n) false).toArray)
/-- **THE REGION IN TWO PARTS**: the first n operations in one walk of the text's order, in all worlds that lie over the given one; the others one behind the other. -/
theorem wp_region_part (n B : Nat) {id : Nat} {Q : Exit → Act → World → Prop} {a : Act} {w : World} {ops : List Oper} (hm : P.follows .mixedOrders = true) (hB : partB n ops = true)
    (h : wpQuiet P ops.toArray (fun w' => ∃ x, w' = over B w x) (fun a' => ∀ w', (∃ x, w' = over B w x) → wpList P ops.toArray Q (ops.drop n) a' w') (ops.take n) a) : (Code.region id ops.toArray true).wp P Q a w := by
  simp only [partB, Bool.and_eq_true, decide_eq_true_eq] at hB
  obtain ⟨⟨⟨⟨hn, hs⟩, hx⟩, hsp⟩, ht⟩ := hB
  obtain ⟨l, r, rfl, hl⟩ : ∃ l r, ops = l ++ r ∧ l.length = n := ⟨ops.take n, ops.drop n, (List.take_append_drop n ops).symm, by rw [List.length_take]; omega⟩
  subst hl
  rw [List.take_left, List.drop_left] at h
  have e : (l ++ r).length - l.length = r.length := by simp
  rw [e] at ht
  refine wp_region_split hm hs (by simpa using hx) hsp (C := fun w' => ∃ x, w' = over B w x) ⟨w.drew, over_eq ((Below.refl _ _).drew)⟩ ?_
  refine wpQuiet_mono ?_ h
  intro a' h' w' hw'
  exact wpAny_of_list r l.length _ a' w' (fun j o hj => by simpa using List.getElem?_append_right (l₁ := l) (l₂ := r) (i := l.length + j) (by omega) ▸ (by simpa using hj)) ht (h' w' hw')
end
end Go.Proofs.YtcihiglpahhboaaGreatDoor

namespace Go.Proofs.YtcihiglpahhboaaGreatDoor
open Go.RowKit Go.Shelf
set_option maxRecDepth 100000

section
variable {F : Fence} {N : Nat} {P : Program} {ops : Array Oper} {md : Region.Mode} {C : World → Prop} {n : Nat}

/-- Whatever order is picked among the first n. -/
def wpAnyNIn (F : Fence) (N : Nat) (P : Program) (md : Region.Mode) (ops : Array Oper) (C : World → Prop) (n : Nat) (Q : Act → Prop) : Nat → Array Bool → Act → Prop
  | 0, listed, a => readyN md ops n listed = [] ∧ Q a
  | fuel + 1, listed, a => (readyN md ops n listed = [] → Q a) ∧ ∀ i ∈ readyN md ops n listed, qOpIn F N P ops C i (wpAnyNIn F N P md ops C n Q fuel (listed.setIfInBounds i true)) a
theorem wpAnyNIn_first {Q : Act → Prop} {i : Nat} {oi : Oper} {v : Value} (hin : i < n) (hi : ops[i]? = some oi) (hsel : ∀ (j : Nat) (o : Oper) cs b, ops[j]? = some o → o.op ≠ .select cs b) :
    ∀ (fuel : Nat) (listed : Array Bool) (a : Act),
      (∀ j oj, ops[j]? = some oj → j ≠ i → listed.getD j true = false → (∀ e ∈ oj.after, Region.binds md e = true → e.on ≠ i) → oi.apart ops oj = true) →
      i ∈ Region.ready md ops listed → YieldsQuiet F N P ops C oi v a →
      wpAnyNIn F N P md ops C n Q fuel (listed.setIfInBounds i true) (a.put oi.dst v) → wpAnyNIn F N P md ops C n Q (fuel + 1) listed a := by
  intro fuel
  induction fuel with
  | zero =>
    intro listed a _ hr hy H
    refine ⟨fun h => (by have := mem_readyN.2 ⟨hr, hin⟩; rw [h] at this; cases this), fun j hj => ?_⟩
    obtain ⟨hj1, hj2⟩ := mem_readyN.1 hj
    by_cases hji : j = i
    · subst hji; exact hy.qOpIn hi H
    · have := mem_readyN.2 ⟨ready_mono hj1 hji, hj2⟩
      rw [H.1] at this
      cases this
  | succ fuel ih =>
    intro listed a hfree hr hy H
    refine ⟨fun h => (by have := mem_readyN.2 ⟨hr, hin⟩; rw [h] at this; cases this), fun j hj => ?_⟩
    obtain ⟨hj1, hj2⟩ := mem_readyN.1 hj
    by_cases hji : j = i
    · subst hji; exact hy.qOpIn hi H
    · have h1 := H.2 j (mem_readyN.2 ⟨ready_mono hj1 hji, hj2⟩)
      obtain ⟨hjun, oj, hoj, hall⟩ := mem_ready.1 hj1
      have hnot : ∀ e ∈ oj.after, Region.binds md e = true → e.on ≠ i := fun e he hb heq => by
        have h1 := hall e he hb
        have h0 := (mem_ready.1 hr).1
        rw [heq] at h1
        rcases Nat.lt_or_ge i listed.size with h' | h'
        · simp [h'] at h0 h1; rw [h0] at h1; cases h1
        · simp [Array.getElem?_eq_none h'] at h1
      have h2 := qOpIn_put hoj (hfree j oj hoj hji hjun hnot) (fun cs b => hsel i oi cs b hi) (fun cs b => hsel j oj cs b hoj) hy h1
      have hfree' : ∀ k ok, ops[k]? = some ok → k ≠ i → (listed.setIfInBounds j true).getD k true = false →
          (∀ e ∈ ok.after, Region.binds md e = true → e.on ≠ i) → oi.apart ops ok = true := fun k ok hk hki hun hno => by
        refine hfree k ok hk hki ?_ hno
        by_cases hjk : j = k
        · subst hjk; exact hjun
        · rw [getD_set_ne true hjk] at hun; exact hun
      refine qOpIn_mono (fun a' h3 => ih (listed.setIfInBounds j true) a' hfree' (ready_mono hr (Ne.symm hji)) h3.1 ?_) h2
      rw [Array.setIfInBounds_comm _ _ hji]
      exact h3.2
theorem wpAnyNIn_lex {Q : Act → Prop} (hs : Region.noSelect ops = true) : ∀ (l : List Oper) (k : Nat) (listed : Array Bool) (a : Act), (∀ j o, l[j]? = some o → ops[k + j]? = some o) → k + l.length = n →
    lexN md ops n l.length k listed = true → wpQuietIn F N P ops C Q l a → wpAnyNIn F N P md ops C n Q l.length listed a
  | [], _, _, _, _, _, hB, h => ⟨by simpa [lexN] using hB, h⟩
  | o :: l, k, listed, a, hl, hk, hB, h => by
    have h0 : ops[k]? = some o := hl 0 o rfl
    simp only [List.length_cons, lexN, Bool.and_eq_true] at hB hk
    obtain ⟨⟨hr, hf⟩, hB'⟩ := hB
    have hst : qOpIn F N P ops C k (wpQuietIn F N P ops C Q l) a := by unfold qOpIn; simp only [h0]; exact h
    obtain ⟨v, hy, hK⟩ := yieldsQuiet_of_qOpIn h0 hst
    exact wpAnyNIn_first (by omega) h0 (Region.noSelect_spec hs) l.length listed a (Region.free_spec h0 hf) (by simpa using hr) hy
      (wpAnyNIn_lex hs l (k + 1) _ _ (fun j o hj => by have := hl (j + 1) o (by simpa using hj); rwa [show k + 1 + j = k + (j + 1) by omega]) (by omega) hB' hK)

theorem wpAnyIn_more {Q : Exit → Act → World → Prop} : ∀ (m : Nat) (listed : Array Bool) (a : Act) (w : World), wpAnyIn F N P md ops Q m listed a w → wpAnyIn F N P md ops Q (m + 1) listed a w
  | 0, listed, a, w, h => ⟨fun _ => h.2, fun i hi => by rw [h.1] at hi; cases hi⟩
  | m + 1, listed, a, w, h => ⟨h.1, fun i hi => wpOpIn_mono (fun a' w' h' => wpAnyIn_more m _ a' w' h') (h.2 i hi)⟩
theorem wpAnyIn_far {Q : Exit → Act → World → Prop} (m : Nat) (listed : Array Bool) (a : Act) (w : World) (h : wpAnyIn F N P md ops Q m listed a w) : ∀ k, wpAnyIn F N P md ops Q (k + m) listed a w
  | 0 => by simpa using h
  | k + 1 => by rw [show k + 1 + m = k + m + 1 by omega]; exact wpAnyIn_more _ _ _ _ (wpAnyIn_far m listed a w h k)

theorem wpAnyIn_of_N {Q : Act → Prop} {Q' : Exit → Act → World → Prop} {m : Nat} (hro : F.round = none) (hn : n ≤ ops.size) (hB : splitB md ops n = true)
    (hQ : ∀ a w listed, C w → listed.size = ops.size → (∀ i, i < n → listed.getD i false = true) → (∀ j, n ≤ j → listed.getD j false = false) → Q a → wpAnyIn F N P md ops Q' m listed a w) :
    ∀ (f : Nat) (listed : Array Bool) (a : Act) (w : World), listed.size = ops.size → (∀ j, n ≤ j → listed.getD j false = false) → Closed md ops listed → C w → wpAnyNIn F N P md ops C n Q f listed a → wpAnyIn F N P md ops Q' (f + m) listed a w := by
  simp only [splitB, Bool.and_eq_true, List.all_eq_true, List.mem_range, decide_eq_true_eq, Bool.or_eq_true, List.contains_iff_mem] at hB
  obtain ⟨hd, hcov⟩ := hB
  intro f
  induction f with
  | zero =>
    intro listed a w hsz hlo hcl hw h
    have := hQ a w listed hw hsz (all_listed hsz hn hd h.1) hlo h.2
    rwa [Nat.zero_add]
  | succ f ih =>
    intro listed a w hsz hlo hcl hw h
    by_cases hr : readyN md ops n listed = []
    · exact wpAnyIn_far m listed a w (hQ a w listed hw hsz (all_listed hsz hn hd hr) hlo (h.1 hr)) (f + 1)
    · rw [show f + 1 + m = f + m + 1 by omega]
      refine ⟨fun h0 => absurd (by unfold readyN; rw [h0]; rfl) hr, fun i hi => ?_⟩
      by_cases hin : i < n
      · refine wpOpIn_of_qOpIn hro hw (fun a' w' hw' hK => ih _ a' w' (by simpa using hsz) (fun j hj => ?_) ?_ hw' hK) (h.2 i (mem_readyN.2 ⟨hi, hin⟩))
        · rw [getD_set_ne false (by omega)]; exact hlo j hj
        · intro x k hx hk
          have hx' : x = i ∨ listed.getD x false = true := by
            by_cases e : x = i
            · exact .inl e
            · rw [getD_set_ne false (fun q => e q.symm)] at hx; exact .inr hx
          have hkl : listed.getD k false = true := by
            rcases hx' with rfl | hx'
            · obtain ⟨o, e, ho, he, hb, rfl⟩ := aft_mem hk
              obtain ⟨_, o', ho', hall⟩ := mem_ready.1 hi
              rw [ho] at ho'; cases ho'
              exact hall e he hb
            · exact hcl x k hx' hk
          by_cases e : i = k
          · subst e
            have : i < listed.size := by omega
            simp [this]
          · rw [getD_set_ne false e]; exact hkl
      · exfalso
        obtain ⟨hun, o, ho, hall⟩ := mem_ready.1 hi
        have hi2 : i < ops.size := (Array.getElem?_eq_some_iff.1 ho).1
        have h1 : ∀ x ∈ aft md ops i, listed.getD x false = true := fun x hx => by
          obtain ⟨o', e, ho', he, hb, rfl⟩ := aft_mem hx
          rw [ho] at ho'; cases ho'
          exact hall e he hb
        have h2 := sweep_in hcl (List.range n).reverse _ h1
        obtain ⟨i0, hi0⟩ := List.exists_mem_of_ne_nil _ hr
        obtain ⟨hr0, hl0⟩ := mem_readyN.1 hi0
        have h3 := (hcov i hi2).resolve_left hin i0 hl0
        have h4 := h2 i0 h3
        have h5 := (mem_ready.1 hr0).1
        have : i0 < listed.size := by omega
        simp [this] at h4 h5
        rw [h4] at h5; cases h5

/-- **THE REGION IN TWO PARTS.** -/
theorem wpIn_region_split {Q : Exit → Act → World → Prop} {a : Act} {w : World} {l r : List Oper} (hro : F.round = none) (hs : Region.noSelect (l ++ r).toArray = true)
    (hx : lexN .any (l ++ r).toArray l.length l.length 0 (Array.replicate (l ++ r).toArray.size false) = true) (hB : splitB .any (l ++ r).toArray l.length = true) (hC : C w.drew)
    (h : wpQuietIn F N P (l ++ r).toArray C (fun a' => ∀ w', C w' → wpAnyIn F N P .any (l ++ r).toArray Q r.length ((List.replicate l.length true ++ List.replicate r.length false).toArray) a' w') l a) : wpAnyIn F N P .any (l ++ r).toArray Q (l ++ r).toArray.size (Array.replicate (l ++ r).toArray.size false) a w.drew := by
  have h1 := wpAnyNIn_lex (C := C) (md := .any) (n := l.length) hs l 0 (Array.replicate (l ++ r).toArray.size false) a (fun j o hj => by simpa using List.getElem?_append_left (List.getElem?_eq_some_iff.1 hj).1 ▸ hj) (by omega) hx h
  have h2 := wpAnyIn_of_N (F := F) (N := N) (Q' := Q) (m := r.length) hro (by simp) hB (fun a' w' listed hw' hsz hlo hhi hq => by
    have e : listed = (List.replicate l.length true ++ List.replicate r.length false).toArray := by
      apply Array.ext
      · simpa using hsz
      · intro i hi1 hi2
        have hi3 : i < l.length + r.length := by simpa using hi2
        by_cases hil : i < l.length
        · have := hlo i hil
          simp [hi1] at this
          rw [this, List.getElem_toArray, List.getElem_append_left (by simpa using hil), List.getElem_replicate]
        · have := hhi i (by omega)
          simp [hi1] at this
          rw [this, List.getElem_toArray, List.getElem_append_right (by simpa using hil), List.getElem_replicate]
    rw [e]
    exact hq w' hw') l.length (Array.replicate (l ++ r).toArray.size false) a w.drew (by simp) (fun j _ => by simp [Array.getElem?_replicate]; split <;> rfl) (fun i k hi _ => by
      exfalso
      simp [Array.getElem?_replicate] at hi
      split at hi <;> simp at hi) hC h1
  have e2 : l.length + r.length = (l ++ r).toArray.size := by simp
  rw [e2] at h2
  exact h2
theorem wpAnyIn_of_list {Q : Exit → Act → World → Prop} : ∀ (r : List Oper) (k : Nat) (listed : Array Bool) (a : Act) (w : World), (∀ j o, r[j]? = some o → ops[k + j]? = some o) → tailB md ops r.length k listed = true → wpListIn F N P ops Q r a w → wpAnyIn F N P md ops Q r.length listed a w
  | [], _, _, _, _, _, hB, h => ⟨by simpa [tailB] using hB, h⟩
  | o :: r, k, listed, a, w, hl, hB, h => by
    have h0 : ops[k]? = some o := hl 0 o rfl
    simp only [List.length_cons, tailB, Bool.and_eq_true, decide_eq_true_eq] at hB
    obtain ⟨hr, hB'⟩ := hB
    have ih := fun a' w' => wpAnyIn_of_list (Q := Q) r (k + 1) (listed.setIfInBounds k true) a' w' (fun j o hj => by have := hl (j + 1) o (by simpa using hj); rwa [show k + 1 + j = k + (j + 1) by omega]) hB'
    refine ⟨fun e => (by rw [hr] at e; cases e), fun i hi => ?_⟩
    rw [hr] at hi
    obtain rfl : i = k := by simpa using hi
    unfold wpOpIn
    simp only [h0]
    simp only [wpListIn] at h
    split
    · rename_i hw
      rw [if_pos hw] at h
      exact Oper.wpIn_mono (fun a' w' h' => ih a' w' h') h
    · rename_i hw
      rw [if_neg hw] at h
      exact ⟨h.1, ih _ _ h.2⟩
theorem wpQuietIn_mono {Q Q' : Act → Prop} (hq : ∀ a, Q a → Q' a) : ∀ {l : List Oper} {a : Act}, wpQuietIn F N P ops C Q l a → wpQuietIn F N P ops C Q' l a
  | [], _, h => hq _ h
  | o :: l, a, h => by
    simp only [wpQuietIn] at h ⊢
    refine ⟨h.1, ?_⟩
    have h := h.2
    split
    · rename_i hw
      rw [if_pos hw] at h
      exact Oper.quietIn_mono (fun a' h' => wpQuietIn_mono hq h') h
    · rename_i hw
      rw [if_neg hw] at h
      exact wpQuietIn_mono hq h
/-- **THE REGION IN TWO PARTS**, in the body of a loop over an iterator. -/
theorem wpIn_region_part (l0 n B : Nat) {id : Nat} {Q : Exit → Act → World → Prop} {a : Act} {w : World} {ops : List Oper} (hm : P.follows .mixedOrders = true) (hB : partB n ops = true) (hd : (ops.all fun o => match o.op with | .defer _ => false | _ => true) = true)
    (h : wpQuietIn Fence.wide N P ops.toArray (fun w' => ∃ x, w' = over B w x) (fun a' => ∀ w', (∃ x, w' = over B w x) → wpListIn Fence.wide N P ops.toArray Q (ops.drop n) a' w') (ops.take n) a) : (Code.region id ops.toArray true).wpIn (Fence.wide.inRound l0) N P Q a w := by
  have hd' : ∀ o ∈ ops.toArray.toList, ∀ c, o.op ≠ .defer c := by
    intro o ho c hc
    have := List.all_eq_true.1 hd o (by simpa using ho)
    rw [hc] at this
    cases this
  simp only [partB, Bool.and_eq_true, decide_eq_true_eq] at hB
  obtain ⟨⟨⟨⟨hn, hs⟩, hx⟩, hsp⟩, ht⟩ := hB
  obtain ⟨l, r, rfl, hl⟩ : ∃ l r, ops = l ++ r ∧ l.length = n := ⟨ops.take n, ops.drop n, (List.take_append_drop n ops).symm, by rw [List.length_take]; omega⟩
  subst hl
  rw [List.take_left, List.drop_left] at h
  have e : (l ++ r).length - l.length = r.length := by simp
  rw [e] at ht
  refine wpIn_region_any hm (wpAnyIn_inRound l0 hd' _ _ _ _ (wpIn_region_split (F := Fence.wide) rfl hs (by simpa using hx) hsp (C := fun w' => ∃ x, w' = over B w x) ⟨w.drew, over_eq ((Below.refl _ _).drew)⟩ ?_))
  refine wpQuietIn_mono ?_ h
  intro a' h' w' hw'
  exact wpAnyIn_of_list r l.length _ a' w' (fun j o hj => by simpa using List.getElem?_append_right (l₁ := l) (l₂ := r) (i := l.length + j) (by omega) ▸ (by simpa using hj)) ht (h' w' hw')
end
end Go.Proofs.YtcihiglpahhboaaGreatDoor

namespace Go.Proofs.YtcihiglpahhboaaGreatDoor
open Go.RowKit
set_option maxRecDepth 100000
section
variable {P : Program} {ops : Array Oper} {md : Region.Mode} {C : World → Prop} {n : Nat}
def splitB2 (md : Region.Mode) (ops : Array Oper) (n : Nat) : Bool :=
  ((List.range n).all fun i => (aft md ops i).all fun k => decide (k < i)) &&
  ((List.range ops.size).all fun j => decide (j < n) || let s := sweep md ops (List.range ops.size).reverse (aft md ops j); (List.range n).all fun i => s.contains i)
def partB2 (n : Nat) (ops : List Oper) : Bool :=
  decide (n ≤ ops.length) && Region.noSelect ops.toArray && lexN .any ops.toArray n n 0 (Array.replicate ops.length false) && splitB2 .any ops.toArray n &&
    tailB .any ops.toArray (ops.length - n) n ((List.replicate n true ++ List.replicate (ops.length - n) false).toArray)
theorem wpAny_of_N2 {Q : Act → Prop} {Q' : Exit → Act → World → Prop} {m : Nat} (hn : n ≤ ops.size) (hB : splitB2 md ops n = true)
    (hQ : ∀ a w listed, C w → listed.size = ops.size → (∀ i, i < n → listed.getD i false = true) → (∀ j, n ≤ j → listed.getD j false = false) → Q a → wpAny P md ops Q' m listed a w) :
    ∀ (f : Nat) (listed : Array Bool) (a : Act) (w : World), listed.size = ops.size → (∀ j, n ≤ j → listed.getD j false = false) → Closed md ops listed → C w → wpAnyN P md ops C n Q f listed a → wpAny P md ops Q' (f + m) listed a w := by
  simp only [splitB2, Bool.and_eq_true, List.all_eq_true, List.mem_range, decide_eq_true_eq, Bool.or_eq_true, List.contains_iff_mem] at hB
  obtain ⟨hd, hcov⟩ := hB
  intro f
  induction f with
  | zero =>
    intro listed a w hsz hlo hcl hw h
    have := hQ a w listed hw hsz (all_listed hsz hn hd h.1) hlo h.2
    rwa [Nat.zero_add]
  | succ f ih =>
    intro listed a w hsz hlo hcl hw h
    by_cases hr : readyN md ops n listed = []
    · exact wpAny_far m listed a w (hQ a w listed hw hsz (all_listed hsz hn hd hr) hlo (h.1 hr)) (f + 1)
    · rw [show f + 1 + m = f + m + 1 by omega]
      refine ⟨fun h0 => absurd (by unfold readyN; rw [h0]; rfl) hr, fun i hi => ?_⟩
      by_cases hin : i < n
      · refine wpOp_of_qOp hw (fun a' w' hw' hK => ih _ a' w' (by simpa using hsz) (fun j hj => ?_) ?_ hw' hK) (h.2 i (mem_readyN.2 ⟨hi, hin⟩))
        · rw [getD_set_ne false (by omega)]; exact hlo j hj
        · intro x k hx hk
          have hx' : x = i ∨ listed.getD x false = true := by
            by_cases e : x = i
            · exact .inl e
            · rw [getD_set_ne false (fun q => e q.symm)] at hx; exact .inr hx
          have hkl : listed.getD k false = true := by
            rcases hx' with rfl | hx'
            · obtain ⟨o, e, ho, he, hb, rfl⟩ := aft_mem hk
              obtain ⟨_, o', ho', hall⟩ := mem_ready.1 hi
              rw [ho] at ho'; cases ho'
              exact hall e he hb
            · exact hcl x k hx' hk
          by_cases e : i = k
          · subst e
            have : i < listed.size := by omega
            simp [this]
          · rw [getD_set_ne false e]; exact hkl
      · exfalso
        obtain ⟨hun, o, ho, hall⟩ := mem_ready.1 hi
        have hi2 : i < ops.size := (Array.getElem?_eq_some_iff.1 ho).1
        have h1 : ∀ x ∈ aft md ops i, listed.getD x false = true := fun x hx => by
          obtain ⟨o', e, ho', he, hb, rfl⟩ := aft_mem hx
          rw [ho] at ho'; cases ho'
          exact hall e he hb
        have h2 := sweep_in hcl (List.range ops.size).reverse _ h1
        obtain ⟨i0, hi0⟩ := List.exists_mem_of_ne_nil _ hr
        obtain ⟨hr0, hl0⟩ := mem_readyN.1 hi0
        have h3 := (hcov i hi2).resolve_left hin i0 hl0
        have h4 := h2 i0 h3
        have h5 := (mem_ready.1 hr0).1
        have : i0 < listed.size := by omega
        simp [this] at h4 h5
        rw [h4] at h5; cases h5

theorem wp_region_split2 {id : Nat} {Q : Exit → Act → World → Prop} {a : Act} {w : World} {l r : List Oper} (hm : P.follows .mixedOrders = true) (hs : Region.noSelect (l ++ r).toArray = true)
    (hx : lexN .any (l ++ r).toArray l.length l.length 0 (Array.replicate (l ++ r).toArray.size false) = true) (hB : splitB2 .any (l ++ r).toArray l.length = true) (hC : C w.drew)
    (h : wpQuiet P (l ++ r).toArray C (fun a' => ∀ w', C w' → wpAny P .any (l ++ r).toArray Q r.length ((List.replicate l.length true ++ List.replicate r.length false).toArray) a' w') l a) : (Code.region id (l ++ r).toArray true).wp P Q a w := by
  refine wp_region_any hm ?_
  have h1 := wpAnyN_lex (C := C) (md := .any) (n := l.length) hs l 0 (Array.replicate (l ++ r).toArray.size false) a (fun j o hj => by simpa using List.getElem?_append_left (List.getElem?_eq_some_iff.1 hj).1 ▸ hj) (by omega) hx h
  have h2 := wpAny_of_N2 (Q' := Q) (m := r.length) (by simp) hB (fun a' w' listed hw' hsz hlo hhi hq => by
    have e : listed = (List.replicate l.length true ++ List.replicate r.length false).toArray := by
      apply Array.ext
      · simpa using hsz
      · intro i hi1 hi2
        have hi3 : i < l.length + r.length := by simpa using hi2
        by_cases hil : i < l.length
        · have := hlo i hil
          simp [hi1] at this
          rw [this, List.getElem_toArray, List.getElem_append_left (by simpa using hil), List.getElem_replicate]
        · have := hhi i (by omega)
          simp [hi1] at this
          rw [this, List.getElem_toArray, List.getElem_append_right (by simpa using hil), List.getElem_replicate]
    rw [e]
    exact hq w' hw') l.length (Array.replicate (l ++ r).toArray.size false) a w.drew (by simp) (fun j _ => by simp [Array.getElem?_replicate]; split <;> rfl) (fun i k hi _ => by
      exfalso
      simp [Array.getElem?_replicate] at hi
      split at hi <;> simp at hi) hC h1
  have e2 : l.length + r.length = (l ++ r).toArray.size := by simp
  rw [e2] at h2
  exact h2
theorem wp_region_part2 (n B : Nat) {id : Nat} {Q : Exit → Act → World → Prop} {a : Act} {w : World} {ops : List Oper} (hm : P.follows .mixedOrders = true) (hB : partB2 n ops = true)
    (h : wpQuiet P ops.toArray (fun w' => ∃ x, w' = over B w x) (fun a' => ∀ w', (∃ x, w' = over B w x) → wpList P ops.toArray Q (ops.drop n) a' w') (ops.take n) a) : (Code.region id ops.toArray true).wp P Q a w := by
  simp only [partB2, Bool.and_eq_true, decide_eq_true_eq] at hB
  obtain ⟨⟨⟨⟨hn, hs⟩, hx⟩, hsp⟩, ht⟩ := hB
  obtain ⟨l, r, rfl, hl⟩ : ∃ l r, ops = l ++ r ∧ l.length = n := ⟨ops.take n, ops.drop n, (List.take_append_drop n ops).symm, by rw [List.length_take]; omega⟩
  subst hl
  rw [List.take_left, List.drop_left] at h
  have e : (l ++ r).length - l.length = r.length := by simp
  rw [e] at ht
  refine wp_region_split2 hm hs (by simpa using hx) hsp (C := fun w' => ∃ x, w' = over B w x) ⟨w.drew, over_eq ((Below.refl _ _).drew)⟩ ?_
  refine wpQuiet_mono ?_ h
  intro a' h' w' hw'
  exact wpAny_of_list r l.length _ a' w' (fun j o hj => by simpa using List.getElem?_append_right (l₁ := l) (l₂ := r) (i := l.length + j) (by omega) ▸ (by simpa using hj)) ht (h' w' hw')
end
end Go.Proofs.YtcihiglpahhboaaGreatDoor
