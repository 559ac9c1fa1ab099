/- A range over an iterator that has cells of its own, whose body may return: its contract, and the law for its caller. -/
import Derived.Test.YtpcmflfinlkeiaaGreatDoorBaseB
namespace Go.Proofs.YtpcmflfinlkeiaaGreatDoor
open Go.RowKit Go.Shelf
set_option maxRecDepth 100000

/-- The contract of an iterator that has cells of its own types T from block n1 on, whose rounds must keep what lay below n0, or say that no more is wanted. -/
def SeqSt {α : Type} (n : Nat) (P : Program) (g : Nat) (lb : Array Value) (encs : α → Array Value) (T : List TypeId) (n0 n1 : Nat) (S : List α → Prop) (Nx : List α → α → Prop) (w : World) : Prop :=
  ∀ (l : Nat) (J Jx : List α → World → Prop) (W : World), Below w.heap.size w W → (∀ s A B, J s A → Hush T n1 A.heap.size A B → J s B) → (∀ s A B, Jx s A → Hush T n1 A.heap.size A B → Jx s B) →
    (∀ pre x W1, J pre W1 → Nx pre x → YieldAt Fence.wide (n - 1) P l (encs x) W1 fun e W' => (e = .returned (.bool true) ∧ J (pre ++ [x]) W' ∧ Kept T n0 n1 W1 W') ∨ (e = .returned (.bool false) ∧ Jx (pre ++ [x]) W')) →
    J [] W →
    CallsIn Fence.wide n P g (#[.func (.yield l) #[] #[]] ++ lb) W fun e W' => (∃ v, e = .returned v) ∧ ((∃ xs, S xs ∧ J xs W') ∨ (∃ xs, Jx xs W'))

/-- How a round may end: it goes on, or the function returns. -/
def roundEnd2 (R Rx : Act → World → Prop) : Exit → Act → World → Prop
  | .normal, a, w => R a w
  | .ret, a, w => Rx a w
  | _, _, _ => False

/-- THE LAW FOR THE CALLER: an invariant I of its own cells; the assignment of a round, which may lay blocks; the round's body; what stands behind the loop. -/
theorem wpIn_rangeSt {α : Type} {n : Nat} {P : Program} {g : Operand} {ps : Array Tmp} {assign body : Code} {Q : Exit → Act → World → Prop} {a : Act} {w : World}
    (h1 : 1 ≤ n) {gf : Nat} {lb : Array Value} (hg : a.eval g = .func (.func gf) #[] lb) (eg : ∀ args w, (callFunc gf args).run P w = .ok (.enter gf args) w)
    {encs : α → Array Value} {T : List TypeId} {n0 n1 : Nat} {S : List α → Prop} {Nx : List α → α → Prop} (hseq : SeqSt (n - 1) P gf lb encs T n0 n1 S Nx w) (hn0 : n0 ≤ w.heap.size)
    (hps : ∀ x, (encs x).size = ps.size) (I Ix : List α → World → Prop) (hI : ∀ s A B, I s A → Hush T n1 w.heap.size A B → I s B) (hIx : ∀ s A B, Ix s A → Hush T n1 w.heap.size A B → Ix s B) (h0 : I [] w)
    (Mid : List α → α → Act → World → Prop) (hM : ∀ pre x b A B, Mid pre x b A → Hush [] n1 w.heap.size A B → Mid pre x b B)
    (hassign : ∀ (l : Nat) (pre : List α) (x : α) (W : World), w.heap.size ≤ W.heap.size → I pre W → Nx pre x →
      assign.wpIn (Fence.wide.inRound l) (n - 1 - 1) P (Exit.then (fun b W' => Kept T n0 n1 W W' ∧ Mid pre x b W') (fun _ _ _ => False)) { tmps := (ps.zip (encs x)).foldl (fun t (p, v) => t.setIfInBounds p v) a.tmps, defers := [] } W)
    (hbody : ∀ (l : Nat) (pre : List α) (x : α) (b : Act) (W : World), w.heap.size ≤ W.heap.size → Mid pre x b W → Nx pre x →
      body.wpIn (Fence.wide.inRound l) (n - 1 - 1) P (roundEnd2 (fun _ W' => Kept T n0 n1 W W' ∧ I (pre ++ [x]) W') (fun _ W' => Kept T n0 n1 W W' ∧ Ix (pre ++ [x]) W')) b W)
    (hdone : ∀ (D : Nat) (xs : List α) (W : World), w.heap.size ≤ D → S xs → I xs W → W.heap[D]? = some (.deferred (some [])) → Q .normal { a with defers := { target := .collected D, args := #[] } :: a.defers } W)
    (hstop : ∀ (D : Nat) (xs : List α) (W : World), w.heap.size ≤ D → Ix xs W → W.heap[D]? = some (.deferred (some [])) → Code.ret.wpIn Fence.wide n P Q { a with defers := { target := .collected D, args := #[] } :: a.defers } W) :
    (Code.rangeFunc g ps assign body).wpIn Fence.wide n P Q a w := by
  refine wpIn_rangeFunc fun fn hfn => ?_
  -- the loop's record, in its states
  obtain ⟨rc, hrc⟩ : ∃ rc : LoopState → Option Code → Loop, rc = fun st pe => { state := st, pending := pe, fn, tmps := a.tmps, params := ps, assign, body, defers := w.heap.size } := ⟨_, rfl⟩
  have hW1 : ∃ W1, W1 = (w.alloc (.deferred (some []))).alloc (.loop (rc .ready none)) := ⟨_, rfl⟩
  obtain ⟨W1, hW1⟩ := hW1
  have sz : W1.heap.size = w.heap.size + 2 := by rw [hW1]; simp
  have hL : W1.heap[w.heap.size + 1]? = some (.loop (rc .ready none)) := by
    have := World.alloc_heap_new (w.alloc (.deferred (some []))) (.loop (rc .ready none))
    rwa [World.size_alloc, ← hW1] at this
  have hD : W1.heap[w.heap.size]? = some (.deferred (some [])) := by
    rw [hW1]; exact (Below.heap_alloc _ _ _ (by simp)).trans (World.alloc_heap_new w _)
  have hI1 : I [] W1 := hI _ _ _ h0 (by rw [hW1]; exact hush_alloc (hush_alloc (Hush.refl _ _ _ _) _) _)
  have hb1 : Below w.heap.size w W1 := by rw [hW1]; exact (by repeat (first | exact Below.refl _ _ | exact Below.refl _ _ | refine Below.drew ?_ | refine below_drewN ?_ _ | refine below_set ?_ (by omega) _ | refine below_new ?_ (by omega) _))
  refine ⟨w.heap.size + 1, [{ target := .collected w.heap.size, args := #[] }], W1, { target := .fn (.func gf) lb, args := #[.func (.yield (w.heap.size + 1)) #[] #[]] }, W1, gf,
    #[.func (.yield (w.heap.size + 1)) #[] #[]] ++ lb, W1, by rw [hW1, hrc]; exact run_enterLoop_outer _ _ _ _ _, by simp only [resolve, hg]; simp [go_sem], fun _ _ => trivial, by simp [invoke, go_sem, eg], fun _ => h1, ?_⟩
  refine (hseq (w.heap.size + 1) (fun pre W => I pre W ∧ W.heap[w.heap.size + 1]? = some (.loop (rc .ready none)) ∧ W.heap[w.heap.size]? = some (.deferred (some [])) ∧ w.heap.size + 2 ≤ W.heap.size)
    (fun pre W => Ix pre W ∧ W.heap[w.heap.size + 1]? = some (.loop (rc .done (some .ret))) ∧ W.heap[w.heap.size]? = some (.deferred (some [])) ∧ w.heap.size + 2 ≤ W.heap.size) W1 hb1
    (fun s A B hs hh => ⟨hI s A B hs.1 ⟨hh.os, hh.tape, hh.output, hh.size, fun k o ho h2 _ => hh.same k o ho h2 (fun hk => absurd (Array.getElem?_eq_some_iff.1 ho).1 (by omega))⟩,
      hh.same _ _ hs.2.1 (fun _ => rfl) (fun hk => by have := hs.2.2.2; omega), hh.same _ _ hs.2.2.1 (fun _ => rfl) (fun hk => by have := hs.2.2.2; omega), Nat.le_trans hs.2.2.2 hh.size⟩)
    (fun s A B hs hh => ⟨hIx s A B hs.1 ⟨hh.os, hh.tape, hh.output, hh.size, fun k o ho h2 _ => hh.same k o ho h2 (fun hk => absurd (Array.getElem?_eq_some_iff.1 ho).1 (by omega))⟩,
      hh.same _ _ hs.2.1 (fun _ => rfl) (fun hk => by have := hs.2.2.2; omega), hh.same _ _ hs.2.2.1 (fun _ => rfl) (fun hk => by have := hs.2.2.2; omega), Nat.le_trans hs.2.2.2 hh.size⟩)
    ?_ ⟨hI1, hL, hD, by omega⟩).mono ?_
  · -- one round
    rintro pre x W ⟨hi, hl, hd, hz⟩ hlen
    have hy := run_yield (P := P) (args := encs x) hl (by rw [hrc]; exact hps x)
    rw [hrc] at hy
    refine ⟨fn, _, assign, body, hy, roundIn_of_wpIn hfn (wpIn_mono (hassign (w.heap.size + 1) pre x W (by omega) hi hlen) ?_)⟩
    rintro e b W2 hp
    cases e with
    | normal =>
      obtain ⟨hk2, hm2⟩ := hp
      have hl2 := hk2.others.same _ _ hl rfl
      have hd2 := hk2.others.same _ _ hd rfl
      have hz2 := hk2.others.size
      refine ⟨_, run_beginRound hl2 (by rw [hrc]), ?_⟩
      have hl3 : (W2.putObj (w.heap.size + 1) (.loop { rc .ready none with state := .busy })).heap[w.heap.size + 1]? = some (.loop { rc .ready none with state := .busy }) := World.putObj_heap_same (Array.getElem?_eq_some_iff.1 hl2).1
      have hd3 : (W2.putObj (w.heap.size + 1) (.loop { rc .ready none with state := .busy })).heap[w.heap.size]? = some (.deferred (some [])) := (World.putObj_heap_other (by omega)).trans hd2
      have hm3 := hM _ _ _ _ _ hm2 (hush_put hl2 rfl (by omega) (.loop { rc .ready none with state := .busy }))
      refine wpIn_mono (hbody (w.heap.size + 1) pre x b _ (by simp; omega) hm3 hlen) ?_
      rintro e3 b3 W4 hp3
      cases e3 with
      | normal =>
        obtain ⟨hk4, hi4⟩ := hp3
        have hl4 := hk4.others.same _ _ hl3 rfl
        have hd4 := hk4.others.same _ _ hd3 rfl
        have hz4 := hk4.others.size
        simp at hz4
        have he := run_endRound (P := P) none hl4
        refine ⟨_, _, he, .inl ⟨rfl, ⟨hI _ _ _ hi4 (hush_put hl4 rfl (by omega) _), ?_, (World.putObj_heap_other (by omega)).trans hd4, by simp; omega⟩, ?_⟩⟩
        · rw [World.putObj_heap_same (Array.getElem?_eq_some_iff.1 hl4).1, hrc]; rfl
        · refine hk2.trans ?_
          have p1 : ∀ (A : World) (o o' : Obj), A.heap[w.heap.size + 1]? = some o → o.isCells = false → n0 ≤ A.heap.size → Below n0 A (A.putObj (w.heap.size + 1) o') ∧ (∀ (k : Nat) (o2 : Obj), n1 ≤ k → A.heap[k]? = some o2 → mine T o2 = true → (A.putObj (w.heap.size + 1) o').heap[k]? = some o2) := fun A o o' ho hc hn =>
            ⟨(Below.refl _ _).grown (grownBy_putObj' A (w.heap.size + 1) o') hn (fun k e => by cases e; omega), fun k o2 _ h2 hm => (World.putObj_heap_other (by rintro rfl; rw [ho] at h2; cases h2; cases o <;> simp_all [mine, Obj.isCells])).trans h2⟩
          obtain ⟨q1, q2⟩ := p1 W2 _ (.loop { rc .ready none with state := .busy }) hl2 rfl (by omega)
          obtain ⟨q3, q4⟩ := p1 W4 _ (.loop { { rc .ready none with state := .busy } with state := (if (none : Option Code).isNone then .ready else .done), pending := none }) hl4 rfl (by omega)
          have hback : (W4.putObj (w.heap.size + 1) (.loop { { rc .ready none with state := .busy } with state := (if (none : Option Code).isNone then .ready else .done), pending := none })).heap[w.heap.size + 1]? = some (.loop (rc .ready none)) := by
            rw [World.putObj_heap_same (Array.getElem?_eq_some_iff.1 hl4).1, hrc]; rfl
          refine ⟨q1.trans (hk4.below.trans q3), ⟨by simp; omega, fun k o ho hc => ?_⟩, fun k o hk ho hm => q4 k o hk (hk4.own k o hk (q2 k o hk ho hm) hm) hm⟩
          by_cases hkl : k = w.heap.size + 1
          · rw [hkl] at ho ⊢
            rw [hl2] at ho
            cases ho
            exact hback
          · exact (World.putObj_heap_other hkl).trans (hk4.others.same k o ((World.putObj_heap_other hkl).trans ho) hc)
      | ret =>
        obtain ⟨hk4, hi4⟩ := hp3
        have hl4 := hk4.others.same _ _ hl3 rfl
        have hd4 := hk4.others.same _ _ hd3 rfl
        have hz4 := hk4.others.size
        simp at hz4
        have he := run_endRound (P := P) (some .ret) hl4
        refine ⟨_, _, he, .inr ⟨rfl, hIx _ _ _ hi4 (hush_put hl4 rfl (by omega) _), ?_, (World.putObj_heap_other (by omega)).trans hd4, by simp; omega⟩⟩
        rw [World.putObj_heap_same (Array.getElem?_eq_some_iff.1 hl4).1, hrc]; rfl
      | _ => exact hp3.elim
    | _ => exact hp.elim
  · -- behind the iterator
    rintro e W2 ⟨⟨v, rfl⟩, ⟨xs, hS, hi, hl, hd, hz⟩ | ⟨xs, hi, hl, hd, hz⟩⟩
    · refine ⟨none, _, (by have := run_endLoop (P := P) hl (by rw [hrc]; simp); rw [hrc] at this; exact this), ?_⟩
      exact hdone w.heap.size xs _ (Nat.le_refl _) hS (hI _ _ _ hi (hush_put hl rfl (by omega) _)) ((World.putObj_heap_other (by omega)).trans hd)
    · refine ⟨some .ret, _, (by have := run_endLoop (P := P) hl (by rw [hrc]; simp); rw [hrc] at this; exact this), ?_⟩
      exact hstop w.heap.size xs _ (Nat.le_refl _) (hIx _ _ _ hi (hush_put hl rfl (by omega) _)) ((World.putObj_heap_other (by omega)).trans hd)
/-- .. where a round's frame hangs on its element alone, and is told later. -/
theorem wpIn_rangeStE {α : Type} {n : Nat} {P : Program} {g : Operand} {ps : Array Tmp} {assign body : Code} {Q : Exit → Act → World → Prop} {a : Act} {w : World}
    (h1 : 1 ≤ n) {gf : Nat} {lb : Array Value} (hg : a.eval g = .func (.func gf) #[] lb) (eg : ∀ args w, (callFunc gf args).run P w = .ok (.enter gf args) w)
    {encs : α → Array Value} {T : List TypeId} {n0 n1 : Nat} {S : List α → Prop} {Nx : List α → α → Prop} (hseq : SeqSt (n - 1) P gf lb encs T n0 n1 S Nx w) (hn0 : n0 ≤ w.heap.size)
    (hps : ∀ x, (encs x).size = ps.size) (I Ix : List α → World → Prop) (hI : ∀ s A B, I s A → Hush T n1 w.heap.size A B → I s B) (hI' : ∀ s A B, I s A → Hush [] n1 w.heap.size A B → I s B) (hIx : ∀ s A B, Ix s A → Hush T n1 w.heap.size A B → Ix s B) (h0 : I [] w)
    (h : ∃ frm : α → Act, (∀ (l : Nat) (pre : List α) (x : α) (W : World), w.heap.size ≤ W.heap.size → I pre W → Nx pre x →
        assign.wpIn (Fence.wide.inRound l) (n - 1 - 1) P (Exit.then (fun b W' => Kept T n0 n1 W W' ∧ I pre W' ∧ b = frm x) (fun _ _ _ => False)) { tmps := (ps.zip (encs x)).foldl (fun t (p, v) => t.setIfInBounds p v) a.tmps, defers := [] } W) ∧
      ∀ (l : Nat) (pre : List α) (x : α) (W : World), w.heap.size ≤ W.heap.size → I pre W → Nx pre x →
        body.wpIn (Fence.wide.inRound l) (n - 1 - 1) P (roundEnd2 (fun _ W' => Kept T n0 n1 W W' ∧ I (pre ++ [x]) W') (fun _ W' => Kept T n0 n1 W W' ∧ Ix (pre ++ [x]) W')) (frm x) W)
    (hdone : ∀ (D : Nat) (xs : List α) (W : World), w.heap.size ≤ D → S xs → I xs W → W.heap[D]? = some (.deferred (some [])) → Q .normal { a with defers := { target := .collected D, args := #[] } :: a.defers } W)
    (hstop : ∀ (D : Nat) (xs : List α) (W : World), w.heap.size ≤ D → Ix xs W → W.heap[D]? = some (.deferred (some [])) → Code.ret.wpIn Fence.wide n P Q { a with defers := { target := .collected D, args := #[] } :: a.defers } W) :
    (Code.rangeFunc g ps assign body).wpIn Fence.wide n P Q a w := by
  obtain ⟨frm, ha, hb⟩ := h
  exact wpIn_rangeSt h1 hg eg hseq hn0 hps I Ix hI hIx h0 (fun pre x b W => I pre W ∧ b = frm x) (fun _ _ _ _ _ h hh => ⟨hI' _ _ _ h.1 hh, h.2⟩) ha
    (fun l pre x b W hW hM hN => by obtain ⟨hi, rfl⟩ := hM; exact hb l pre x W hW hi hN) hdone hstop
end Go.Proofs.YtpcmflfinlkeiaaGreatDoor
