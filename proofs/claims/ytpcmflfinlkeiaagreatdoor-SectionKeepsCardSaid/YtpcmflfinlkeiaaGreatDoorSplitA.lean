/- A region that draws its order: quiet operations, allocations that wait for nothing, and operations that wait for all of those. -/
import Derived.Test.YtpcmflfinlkeiaaGreatDoorSplit
namespace Go.Proofs.YtpcmflfinlkeiaaGreatDoor
open Go.RowKit
set_option maxRecDepth 100000

section
variable {P : Program} {ops : Array Oper} {md : Region.Mode} {D : World → Prop} {n : Nat}

/-- What an operation yields that leaves the world alone, or calls what makes memory of its own alone. -/
def uponR (P : Program) (W : World) (v : Value) : Result Next → Prop
  | .ok (.value u) w' => w' = W ∧ u = v
  | .ok .skip w' => w' = W ∧ v = undef
  | .ok (.enter f args) w' => w' = W ∧ Calls P f args W (fun e w'' => e = .returned v ∧ Below W.heap.size W w'')
  | _ => False
def YR (P : Program) (ops : Array Oper) (D : World → Prop) (o : Oper) (v : Value) (a : Act) : Prop :=
  (Region.wanted o (yielded ops a.tmps) = true ∧ ∀ W, D W → ∃ u, (o.dst = none ∨ u = v) ∧ uponR P W u ((execOp a.eval o).run P W)) ∨ (Region.wanted o (yielded ops a.tmps) = false ∧ v = undef)
theorem YR.of_same {o : Oper} {v : Value} {a a' : Act} (hy : YR P ops D o v a) (he : execOp a'.eval o = execOp a.eval o)
    (hw : Region.wanted o (yielded ops a'.tmps) = Region.wanted o (yielded ops a.tmps)) : YR P ops D o v a' := by
  unfold YR at *
  rw [he, hw]
  exact hy
def qR (P : Program) (ops : Array Oper) (D : World → Prop) (i : Nat) (K : Act → Prop) (a : Act) : Prop :=
  match ops[i]? with
  | none => K a
  | some o => ∃ v, YR P ops D o v a ∧ K (a.put o.dst v)
theorem qR_some {i : Nat} {o : Oper} {K : Act → Prop} {a : Act} (hi : ops[i]? = some o) : qR P ops D i K a ↔ ∃ v, YR P ops D o v a ∧ K (a.put o.dst v) := by unfold qR; rw [hi]
theorem qR_mono {i : Nat} {a : Act} {K K' : Act → Prop} (h : ∀ a, K a → K' a) (hh : qR P ops D i K a) : qR P ops D i K' a := by
  unfold qR at *
  split
  · rename_i ho; rw [ho] at hh; exact h _ hh
  · rename_i o ho; rw [ho] at hh; obtain ⟨v, h1, h2⟩ := hh; exact ⟨v, h1, h _ h2⟩
theorem qR_put {j : Nat} {oi oj : Oper} {v : Value} (hj : ops[j]? = some oj) (hap : oi.apart ops oj = true)
    (hsi : ∀ cs b, oi.op ≠ .select cs b) (hsj : ∀ cs b, oj.op ≠ .select cs b) {K : Act → Prop} {a : Act}
    (hy : YR P ops D oi v a) (h : qR P ops D j K (a.put oi.dst v)) :
    qR P ops D j (fun a' => YR P ops D oi v a' ∧ K (a'.put oi.dst v)) a := by
  obtain ⟨h1, h2, h3⟩ := Oper.apart_spec hap
  rw [qR_some hj] at h ⊢
  obtain ⟨u, hu, hk⟩ := h
  exact ⟨u, hu.of_same (execOp_put oj hsj a oi.dst v h1).symm (wanted_put oj a oi.dst v h1).symm, hy.of_same (execOp_put oi hsi a oj.dst u h3) (wanted_put oi a oj.dst u h3), by rw [← Act.put_comm a v u h2]; exact hk⟩
/-- Whatever order is picked among the first n. -/
def wpAnyR (P : Program) (md : Region.Mode) (ops : Array Oper) (D : World → Prop) (n : Nat) (Q : Act → Prop) : Nat → Array Bool → Act → Prop
  | 0, listed, a => readyN md ops n listed = [] ∧ Q a
  | fuel + 1, listed, a => (readyN md ops n listed = [] → Q a) ∧ ∀ i ∈ readyN md ops n listed, qR P ops D i (wpAnyR P md ops D n Q fuel (listed.setIfInBounds i true)) a
theorem wpAnyR_first {Q : Act → Prop} {i : Nat} {oi : Oper} {v : Value} (hin : i < n) (hi : ops[i]? = some oi) (hsel : ∀ (j : Nat) (o : Oper) cs b, ops[j]? = some o → o.op ≠ .select cs b) :
    ∀ (fuel : Nat) (listed : Array Bool) (a : Act),
      (∀ j oj, ops[j]? = some oj → j ≠ i → listed.getD j true = false → (∀ e ∈ oj.after, Region.binds md e = true → e.on ≠ i) → oi.apart ops oj = true) →
      i ∈ Region.ready md ops listed → YR P ops D oi v a →
      wpAnyR P md ops D n Q fuel (listed.setIfInBounds i true) (a.put oi.dst v) → wpAnyR P md ops D n Q (fuel + 1) listed a := by
  intro fuel
  induction fuel with
  | zero =>
    intro listed a _ hr hy H
    refine ⟨fun h => (by have := mem_readyN.2 ⟨hr, hin⟩; rw [h] at this; cases this), fun j hj => ?_⟩
    obtain ⟨hj1, hj2⟩ := mem_readyN.1 hj
    by_cases hji : j = i
    · subst hji; exact (qR_some hi).2 ⟨v, hy, H⟩
    · have := mem_readyN.2 ⟨ready_mono hj1 hji, hj2⟩
      rw [H.1] at this
      cases this
  | succ fuel ih =>
    intro listed a hfree hr hy H
    refine ⟨fun h => (by have := mem_readyN.2 ⟨hr, hin⟩; rw [h] at this; cases this), fun j hj => ?_⟩
    obtain ⟨hj1, hj2⟩ := mem_readyN.1 hj
    by_cases hji : j = i
    · subst hji; exact (qR_some hi).2 ⟨v, hy, H⟩
    · have h1 := H.2 j (mem_readyN.2 ⟨ready_mono hj1 hji, hj2⟩)
      obtain ⟨hjun, oj, hoj, hall⟩ := mem_ready.1 hj1
      have hnot : ∀ e ∈ oj.after, Region.binds md e = true → e.on ≠ i := fun e he hb heq => by
        have h1 := hall e he hb
        have h0 := (mem_ready.1 hr).1
        rw [heq] at h1
        rcases Nat.lt_or_ge i listed.size with h' | h'
        · simp [h'] at h0 h1; rw [h0] at h1; cases h1
        · simp [Array.getElem?_eq_none h'] at h1
      have h2 := qR_put hoj (hfree j oj hoj hji hjun hnot) (fun cs b => hsel i oi cs b hi) (fun cs b => hsel j oj cs b hoj) hy h1
      have hfree' : ∀ k ok, ops[k]? = some ok → k ≠ i → (listed.setIfInBounds j true).getD k true = false →
          (∀ e ∈ ok.after, Region.binds md e = true → e.on ≠ i) → oi.apart ops ok = true := fun k ok hk hki hun hno => by
        refine hfree k ok hk hki ?_ hno
        by_cases hjk : j = k
        · subst hjk; exact hjun
        · rw [getD_set_ne true hjk] at hun; exact hun
      refine qR_mono (fun a' h3 => ih (listed.setIfInBounds j true) a' hfree' (ready_mono hr (Ne.symm hji)) h3.1 ?_) h2
      rw [Array.setIfInBounds_comm _ _ hji]
      exact h3.2
/-- The text's order. -/
def wpR (P : Program) (ops : Array Oper) (D : World → Prop) (Q : Act → Prop) : List Oper → Act → Prop
  | [], a => Q a
  | o :: l, a => ∃ v, YR P ops D o v a ∧ wpR P ops D Q l (a.put o.dst v)
theorem wpAnyR_lex {Q : Act → Prop} (hs : Region.noSelect ops = true) : ∀ (l : List Oper) (k : Nat) (listed : Array Bool) (a : Act), (∀ j o, l[j]? = some o → ops[k + j]? = some o) → k + l.length = n →
    lexN md ops n l.length k listed = true → wpR P ops D Q l a → wpAnyR P md ops D n Q l.length listed a
  | [], _, _, _, _, _, hB, h => ⟨by simpa [lexN] using hB, h⟩
  | o :: l, k, listed, a, hl, hk, hB, h => by
    have h0 : ops[k]? = some o := hl 0 o rfl
    simp only [List.length_cons, lexN, Bool.and_eq_true] at hB hk
    obtain ⟨⟨hr, hf⟩, hB'⟩ := hB
    obtain ⟨v, hy, hK⟩ := h
    exact wpAnyR_first (by omega) h0 (Region.noSelect_spec hs) l.length listed a (Region.free_spec h0 hf) (by simpa using hr) hy
      (wpAnyR_lex hs l (k + 1) _ _ (fun j o hj => by have := hl (j + 1) o (by simpa using hj); rwa [show k + 1 + j = k + (j + 1) by omega]) (by omega) hB' hK)

/-! ### From the quiet walk, in each class -/
def dstsB (sz : Nat) : List Oper → Bool
  | [] => true
  | o :: l => (match o.dst with
    | none => true
    | some d => decide (d < sz) && l.all fun o' => o'.dst != some d) && dstsB sz l
theorem put_size (a : Act) (d : Option Tmp) (v : Value) : (a.put d v).tmps.size = a.tmps.size := by cases d <;> simp [Act.put]
theorem put_ne (a : Act) {x : Option Tmp} {d : Tmp} (v : Value) (h : x ≠ some d) : (a.put x v).tmps[d]? = a.tmps[d]? := by
  cases x with
  | none => rfl
  | some e =>
    have : e ≠ d := fun q => h (by rw [q])
    simp [Act.put, this]
theorem put_eq (a : Act) {d : Tmp} (v : Value) (h : d < a.tmps.size) : (a.put (some d) v).tmps[d]? = some v := by simp [Act.put, h]
theorem slot_keep {C : World → Prop} {af : Act} : ∀ (l : List Oper) (a : Act), wpQuiet P ops C (fun a' => a' = af) l a → ∀ d, (∀ o ∈ l, o.dst ≠ some d) → af.tmps[d]? = a.tmps[d]?
  | [], a, h, d, _ => by simp only [wpQuiet] at h; rw [h]
  | o :: l, a, h, d, hd => by
    simp only [wpQuiet] at h
    have hl : ∀ o' ∈ l, o'.dst ≠ some d := fun o' h' => hd o' (by simp [h'])
    split at h
    · obtain ⟨v, _, hr⟩ := h
      rw [slot_keep l _ hr d hl, put_ne a v (hd o (by simp))]
    · rw [slot_keep l _ h d hl, put_ne a undef (hd o (by simp))]
theorem wpR_of {af : Act} (hD0 : ∃ W, D W) : ∀ (l : List Oper) (a : Act), dstsB a.tmps.size l = true →
    (∀ W0, D W0 → wpQuiet P ops (fun W => ∃ x, W = over W0.heap.size W0 x) (fun a' => a' = af) l a) → wpR P ops D (fun a' => a' = af) l a
  | [], a, _, H => by obtain ⟨W, hW⟩ := hD0; exact H W hW
  | o :: l, a, hB, H => by
    simp only [dstsB, Bool.and_eq_true] at hB
    obtain ⟨hB1, hB2⟩ := hB
    have hd : ∀ d, o.dst = some d → d < a.tmps.size ∧ ∀ o' ∈ l, o'.dst ≠ some d := fun d h => by
      rw [h] at hB1
      simp only [Bool.and_eq_true, decide_eq_true_eq, List.all_eq_true, bne_iff_ne] at hB1
      exact hB1
    have key : ∀ {C C' : World → Prop} {u v : Value}, wpQuiet P ops C (fun a' => a' = af) l (a.put o.dst u) → wpQuiet P ops C' (fun a' => a' = af) l (a.put o.dst v) → o.dst = none ∨ u = v := by
      intro C C' u v h1 h2
      cases ho : o.dst with
      | none => exact .inl rfl
      | some d =>
        obtain ⟨hs, hn⟩ := hd d ho
        have e1 := slot_keep l _ h1 d hn
        have e2 := slot_keep l _ h2 d hn
        rw [ho, put_eq a _ hs] at e1 e2
        rw [e1] at e2
        exact .inr (Option.some.inj e2)
    have same : ∀ {u v : Value}, o.dst = none ∨ u = v → a.put o.dst u = a.put o.dst v := by
      intro u v h
      rcases h with h | h
      · rw [h]; rfl
      · rw [h]
    obtain ⟨W1, hW1⟩ := hD0
    by_cases hw : Region.wanted o (yielded ops a.tmps) = true
    · have H' : ∀ W0, D W0 → ∃ v, (∀ w, (∃ x, w = over W0.heap.size W0 x) → o.quietAt P a (fun W => ∃ x, W = over W0.heap.size W0 x) w v) ∧ wpQuiet P ops (fun W => ∃ x, W = over W0.heap.size W0 x) (fun a' => a' = af) l (a.put o.dst v) := fun W0 h0 => by
        have := H W0 h0
        simp only [wpQuiet, hw, if_true] at this
        exact this
      obtain ⟨v, _, hr⟩ := H' W1 hW1
      refine ⟨v, .inl ⟨hw, fun W hW => ?_⟩, wpR_of ⟨W1, hW1⟩ l _ (by rw [put_size]; exact hB2) fun W0 h0 => ?_⟩
      · obtain ⟨u, hu, hr'⟩ := H' W hW
        refine ⟨u, key hr' hr, ?_⟩
        have h3 := hu W ⟨W, over_eq (Below.refl _ _)⟩
        unfold Oper.quietAt at h3
        generalize (execOp a.eval o).run P W = r at *
        cases r with
        | ok x w' =>
          cases x <;> simp only [Oper.quietUpon] at h3 <;> simp only [uponR]
          case value => exact h3
          case skip => exact h3
          case enter f args => exact ⟨h3.1, h3.2.mono fun e w'' ⟨he, x, hx⟩ => ⟨he, by rw [hx]; exact over_below _ _ _⟩⟩
        | halt x w' => simp only [Oper.quietUpon] at h3
      · obtain ⟨u, _, hr'⟩ := H' W0 h0
        rw [← same (key hr' hr)]
        exact hr'
    · have hw' : Region.wanted o (yielded ops a.tmps) = false := by simpa using hw
      refine ⟨undef, .inr ⟨hw', rfl⟩, wpR_of ⟨W1, hW1⟩ l _ (by rw [put_size]; exact hB2) fun W0 h0 => ?_⟩
      have := H W0 h0
      simp only [wpQuiet, hw'] at this
      exact this

/-! ### Slots of what was laid -/
def puts (G : List (Tmp × Value)) (a : Act) : Act := G.foldl (fun A p => A.put (some p.1) p.2) a
theorem puts_put : ∀ (G : List (Tmp × Value)) (a : Act) (x : Option Tmp) (v : Value), (∀ p ∈ G, x ≠ some p.1) → puts G (a.put x v) = (puts G a).put x v
  | [], _, _, _, _ => rfl
  | p :: G, a, x, v, h => by
    show puts G ((a.put x v).put (some p.1) p.2) = (puts G (a.put (some p.1) p.2)).put x v
    rw [Act.put_comm a v p.2 (fun d hd => by rw [← hd]; exact fun q => h p (by simp) q.symm)]
    exact puts_put G _ x v fun q hq => h q (by simp [hq])
theorem exec_puts (o : Oper) (hs : ∀ cs b, o.op ≠ .select cs b) : ∀ (G : List (Tmp × Value)) (a : Act), (∀ p ∈ G, p.1 ∉ o.looksAt ops) → execOp (puts G a).eval o = execOp a.eval o ∧ Region.wanted o (yielded ops (puts G a).tmps) = Region.wanted o (yielded ops a.tmps)
  | [], _, _ => ⟨rfl, rfl⟩
  | p :: G, a, h => by
    have h1 := exec_puts o hs G (a.put (some p.1) p.2) fun q hq => h q (by simp [hq])
    have hp : ∀ d, some p.1 = some d → d ∉ o.looksAt ops := fun d hd => by cases hd; exact h p (by simp)
    exact ⟨h1.1.trans (execOp_put o hs a (some p.1) p.2 hp), h1.2.trans (wanted_put o a (some p.1) p.2 hp)⟩
theorem puts_snoc (G : List (Tmp × Value)) (p : Tmp × Value) (a : Act) : puts (G ++ [p]) a = (puts G a).put (some p.1) p.2 := by simp [puts]

theorem qR_wp {i : Nat} {oi : Oper} {K : Act → Prop} {Q' : Exit → Act → World → Prop} {W : World} {a : Act} {G : List (Tmp × Value)} (hi : ops[i]? = some oi) (hsi : ∀ cs b, oi.op ≠ .select cs b)
    (hG : ∀ p ∈ G, p.1 ∉ oi.looksAt ops ∧ oi.dst ≠ some p.1) (hD : D W) (hh : qR P ops D i K a) :
    wpOp P ops Q' i (fun A' W' => ∃ a', A' = puts G a' ∧ K a' ∧ Below W.heap.size W W') (puts G a) W := by
  obtain ⟨v, hy, hk⟩ := (qR_some hi).1 hh
  obtain ⟨e1, e2⟩ := exec_puts oi hsi G a fun p hp => (hG p hp).1
  have hy' := hy.of_same e1 e2
  have hput : (puts G a).put oi.dst v = puts G (a.put oi.dst v) := (puts_put G a oi.dst v fun p hp => (hG p hp).2).symm
  have same : ∀ {u : Value}, oi.dst = none ∨ u = v → (puts G a).put oi.dst u = puts G (a.put oi.dst v) := by
    intro u h
    rcases h with h | h
    · rw [← hput, h]; rfl
    · rw [← hput, h]
  unfold wpOp
  simp only [hi]
  rcases hy' with ⟨hw, hv⟩ | ⟨hw, rfl⟩
  · rw [if_pos hw]
    left
    obtain ⟨u, hu, hr⟩ := hv W hD
    unfold Oper.wp
    generalize (execOp (puts G a).eval oi).run P W = r at *
    cases r with
    | ok x w' =>
      cases x <;> simp only [uponR] at hr <;> simp only [Oper.upon]
      case value => obtain ⟨rfl, rfl⟩ := hr; exact ⟨_, same hu, hk, Below.refl _ _⟩
      case skip => obtain ⟨rfl, rfl⟩ := hr; exact ⟨_, same hu, hk, Below.refl _ _⟩
      case enter f args =>
        obtain ⟨rfl, hc⟩ := hr
        exact hc.mono fun e w'' ⟨he, hb⟩ => by subst he; exact ⟨_, same hu, hk, hb⟩
    | halt x w' => simp only [uponR] at hr
  · rw [if_neg (by rw [hw]; exact Bool.false_ne_true)]
    exact ⟨_, hput, hk, Below.refl _ _⟩
/-- An allocation. -/
structure IsAlloc (P : Program) (o : Oper) (d : Tmp) (t : TypeId) (cs : Array Value) : Prop where
  gd : o.guard = none
  dst : o.dst = some d
  run : ∀ (a : Act) (W : World), (execOp a.eval o).run P W = .ok (.value (.pointer (some ⟨W.heap.size, 0, none⟩))) (W.alloc (.cells cs t))
theorem alloc_wp {j : Nat} {o : Oper} {d : Tmp} {t : TypeId} {cs : Array Value} {K' : Act → World → Prop} {Q' : Exit → Act → World → Prop} {W : World} {A : Act} (hj : ops[j]? = some o) (ha : IsAlloc P o d t cs)
    (h : K' (A.put (some d) (.pointer (some ⟨W.heap.size, 0, none⟩))) (W.alloc (.cells cs t))) : wpOp P ops Q' j K' A W := by
  unfold wpOp
  simp only [hj]
  rw [if_pos (by simp [Region.wanted, ha.gd])]
  left
  unfold Oper.wp
  rw [ha.run]
  simp only [Oper.upon, ha.dst]
  exact h
theorem readyN_set {listed : Array Bool} {j : Nat} (hd : ∀ i, i < n → ∀ k ∈ aft md ops i, k < n) (hj : n ≤ j) : readyN md ops n (listed.setIfInBounds j true) = readyN md ops n listed := by
  unfold readyN Region.ready
  rw [List.filter_filter, List.filter_filter]
  refine List.filter_congr fun i _ => ?_
  by_cases hi : i < n
  · have h1 : (listed.setIfInBounds j true).getD i true = listed.getD i true := getD_set_ne true (by omega)
    rw [h1]
    cases ho : ops[i]? with
    | none => rfl
    | some o =>
      have : (o.after.all fun e => !Region.binds md e || (listed.setIfInBounds j true).getD e.on false) = (o.after.all fun e => !Region.binds md e || listed.getD e.on false) := by
        rw [Bool.eq_iff_iff]
        simp only [Array.all_eq_true', Bool.or_eq_true, Bool.not_eq_true']
        refine ⟨fun h e he => ?_, fun h e he => ?_⟩
        · rcases h e he with q | q
          · exact .inl q
          · cases hb : Region.binds md e
            · exact .inl rfl
            · rw [getD_set_ne false (by have := hd i hi _ (mem_aft ho he hb); omega)] at q; exact .inr q
        · rcases h e he with q | q
          · exact .inl q
          · cases hb : Region.binds md e
            · exact .inl rfl
            · rw [getD_set_ne false (by have := hd i hi _ (mem_aft ho he hb); omega)]; exact .inr q
      simp only [Option.map_some, this]
  · simp [hi]
theorem wpAnyR_set {Q : Act → Prop} {j : Nat} (hd : ∀ i, i < n → ∀ k ∈ aft md ops i, k < n) (hj : n ≤ j) : ∀ (f : Nat) (listed : Array Bool) (a : Act), wpAnyR P md ops D n Q f listed a → wpAnyR P md ops D n Q f (listed.setIfInBounds j true) a
  | 0, listed, a, h => ⟨by rw [readyN_set hd hj]; exact h.1, h.2⟩
  | f + 1, listed, a, h => by
    refine ⟨fun e => h.1 (by rwa [readyN_set hd hj] at e), fun i hi => ?_⟩
    rw [readyN_set hd hj] at hi
    refine qR_mono (fun a' h' => ?_) (h.2 i hi)
    rw [Array.setIfInBounds_comm _ _ (by have := (mem_readyN.1 hi).2; omega)]
    exact wpAnyR_set hd hj f _ a' h'
theorem closed_set {listed : Array Bool} {i : Nat} (hsz : listed.size = ops.size) (hcl : Closed md ops listed) (hi : i ∈ Region.ready md ops listed) : Closed md ops (listed.setIfInBounds i true) := by
  intro x k hx hk
  obtain ⟨hun, o', ho', hall⟩ := mem_ready.1 hi
  have hx' : x = i ∨ listed.getD x false = true := by
    by_cases e : x = i
    · exact .inl e
    · rw [getD_set_ne false (fun q => e q.symm)] at hx; exact .inr hx
  have hkl : listed.getD k false = true := by
    rcases hx' with rfl | hx'
    · obtain ⟨o, e, ho, he, hb, rfl⟩ := aft_mem hk
      rw [ho] at ho'; cases ho'
      exact hall e he hb
    · exact hcl x k hx' hk
  by_cases e : i = k
  · subst e
    have h2 := (Array.getElem?_eq_some_iff.1 ho').1
    have : i < listed.size := by omega
    simp [this]
  · rw [getD_set_ne false e]; exact hkl
theorem unlisted_of_ready {listed : Array Bool} {i : Nat} (hsz : listed.size = ops.size) (hi : i ∈ Region.ready md ops listed) : listed.getD i false = false := by
  obtain ⟨hun, o', ho', _⟩ := mem_ready.1 hi
  have h2 := (Array.getElem?_eq_some_iff.1 ho').1
  have : i < listed.size := by omega
  simp [this] at hun ⊢
  exact hun
def toG (dd : Nat → Tmp) (L : List (Nat × Nat)) : List (Tmp × Value) := L.map fun x => (dd x.1, .pointer (some ⟨x.2, 0, none⟩))
structure Laid (n m : Nat) (tt : Nat → TypeId) (cc : Nat → Array Value) (B : Nat) (L : List (Nat × Nat)) (W : World) : Prop where
  each : ∀ x ∈ L, n ≤ x.1 ∧ x.1 < m ∧ B ≤ x.2 ∧ Blk W x.2 (tt x.1) (cc x.1)
  pair : L.Pairwise fun x y => x.1 ≠ y.1 ∧ x.2 ≠ y.2
theorem Laid.on {n m : Nat} {tt : Nat → TypeId} {cc : Nat → Array Value} {B : Nat} {L : List (Nat × Nat)} {W W' : World} (h : Laid n m tt cc B L W) (hb : Below W.heap.size W W') : Laid n m tt cc B L W' :=
  ⟨fun x hx => by obtain ⟨h1, h2, h3, h4⟩ := h.each x hx; exact ⟨h1, h2, h3, h4.below hb h4.lt⟩, h.pair⟩
theorem wpAny_of_R {Q : Act → Prop} {Q' : Exit → Act → World → Prop} {m mr : Nat} {w0 : World} {dd : Nat → Tmp} {tt : Nat → TypeId} {cc : Nat → Array Value} (hnm : n ≤ m) (hm : m ≤ ops.size) (hs : Region.noSelect ops = true) (hB : splitB md ops m = true)
    (hal : ∀ j, n ≤ j → j < m → ∃ o, ops[j]? = some o ∧ IsAlloc P o (dd j) (tt j) (cc j) ∧ ∀ i oi, i < n → ops[i]? = some oi → dd j ∉ oi.looksAt ops ∧ oi.dst ≠ some (dd j))
    (hQ : ∀ a W L listed, Below w0.heap.size w0 W → listed.size = ops.size → (∀ i, i < m → listed.getD i false = true) → (∀ j, m ≤ j → listed.getD j false = false) → Laid n m tt cc w0.heap.size L W → (∀ j, n ≤ j → j < m → j ∈ L.map Prod.fst) → Q a → wpAny P md ops Q' mr listed (puts (toG dd L) a) W) :
    ∀ (t f : Nat) (rem : List Nat) (listed : Array Bool) (a : Act) (L : List (Nat × Nat)) (W : World), t = f + rem.length → rem.Nodup → (∀ j ∈ rem, n ≤ j ∧ j < m ∧ listed.getD j false = false) →
      (∀ j, n ≤ j → j < m → j ∈ rem ∨ j ∈ L.map Prod.fst) → (∀ x ∈ L, listed.getD x.1 false = true) → listed.size = ops.size → (∀ j, m ≤ j → listed.getD j false = false) → Closed md ops listed → Below w0.heap.size w0 W →
      Laid n m tt cc w0.heap.size L W → wpAnyR P md ops (fun W => Below w0.heap.size w0 W) n Q f listed a → wpAny P md ops Q' (t + mr) listed (puts (toG dd L) a) W := by
  have hB' := hB
  simp only [splitB, Bool.and_eq_true, List.all_eq_true, List.mem_range, decide_eq_true_eq, Bool.or_eq_true, List.contains_iff_mem] at hB
  obtain ⟨hd, hcov⟩ := hB
  have hdn : ∀ i, i < n → ∀ k ∈ aft md ops i, k < n := fun i hi k hk => Nat.lt_trans (hd i (by omega) k hk) hi
  have hsel := Region.noSelect_spec hs
  intro t
  induction t with
  | zero =>
    intro f rem listed a L W ht hnd hrem hco hL hsz hlo hcl hD hG h
    have hf : f = 0 := by omega
    have hr0 : rem = [] := List.eq_nil_of_length_eq_zero (by omega)
    subst hf; subst hr0
    have hr : readyN md ops m listed = [] := by
      refine List.eq_nil_iff_forall_not_mem.2 fun i hi => ?_
      obtain ⟨h1, h2⟩ := mem_readyN.1 hi
      by_cases hin : i < n
      · have := mem_readyN.2 ⟨h1, hin⟩
        rw [h.1] at this; cases this
      · rcases hco i (by omega) h2 with q | q
        · cases q
        · obtain ⟨x, hx, rfl⟩ := List.mem_map.1 q
          have q1 := hL x hx
          rw [unlisted_of_ready hsz h1] at q1
          cases q1
    have := hQ a W L listed hD hsz (all_listed hsz hm hd hr) hlo hG (fun j h1 h2 => (hco j h1 h2).resolve_left (by simp)) h.2
    rwa [Nat.zero_add]
  | succ t ih =>
    intro f rem listed a L W ht hnd hrem hco hL hsz hlo hcl hD hG h
    by_cases hr : readyN md ops m listed = []
    · have hall := all_listed hsz hm hd hr
      have hrn : readyN md ops n listed = [] := List.eq_nil_iff_forall_not_mem.2 fun i hi => by
        obtain ⟨h1, h2⟩ := mem_readyN.1 hi
        have := mem_readyN.2 ⟨h1, Nat.lt_of_lt_of_le h2 hnm⟩
        rw [hr] at this; cases this
      have hq : Q a := by
        cases f with
        | zero => exact h.2
        | succ f => exact h.1 hrn
      have := hQ a W L listed hD hsz hall hlo hG (fun j h1 h2 => (hco j h1 h2).resolve_left fun q => by
        have := (hrem j q).2.2
        rw [hall j h2] at this; cases this) hq
      exact wpAny_far mr listed _ W this (t + 1)
    · rw [show t + 1 + mr = t + mr + 1 by omega]
      refine ⟨fun h0 => absurd (by unfold readyN; rw [h0]; rfl) hr, fun i hi => ?_⟩
      have hui := unlisted_of_ready hsz hi
      have hcl' := closed_set hsz hcl hi
      have hi2 : i < ops.size := by obtain ⟨_, o, ho, _⟩ := mem_ready.1 hi; exact (Array.getElem?_eq_some_iff.1 ho).1
      have hset : ∀ j, j ≠ i → (listed.setIfInBounds i true).getD j false = listed.getD j false := fun j hj => getD_set_ne false (fun q => hj q.symm)
      have hseti : (listed.setIfInBounds i true).getD i false = true := by have : i < listed.size := by omega
                                                                           simp [this]
      by_cases hin : i < n
      · have hi3 := mem_readyN.2 ⟨hi, hin⟩
        obtain ⟨f', rfl⟩ : ∃ f', f = f' + 1 := by
          cases f with
          | zero => rw [h.1] at hi3; cases hi3
          | succ f => exact ⟨f, rfl⟩
        have h1 := h.2 i hi3
        have ho : ops[i]? = some ops[i] := Array.getElem?_eq_getElem hi2
        refine wpOp_mono (fun A' W' hA => ?_) (qR_wp (G := toG dd L) ho (fun cs b => hsel i _ cs b ho) (fun p hp => ?_) hD h1)
        · obtain ⟨a', rfl, hk, hb⟩ := hA
          refine ih f' rem _ a' L W' (by omega) hnd (fun j hj => ?_) hco (fun x hx => ?_) (by simpa using hsz) (fun j hj => ?_) hcl' (below_step hD hb hD.size) (hG.on hb) hk
          · have := hrem j hj; exact ⟨this.1, this.2.1, by rw [hset j (by omega)]; exact this.2.2⟩
          · have := hG.each x hx; rw [hset _ (by omega)]; exact hL x hx
          · rw [hset j (by omega)]; exact hlo j hj
        · obtain ⟨x, hx, rfl⟩ := List.mem_map.1 hp
          have hx1 := hG.each x hx
          obtain ⟨o, _, _, hap⟩ := hal x.1 hx1.1 hx1.2.1
          exact hap i _ hin ho
      · by_cases him : i < m
        · obtain ⟨o, ho, ha, _⟩ := hal i (by omega) him
          have hir : i ∈ rem := (hco i (by omega) him).resolve_right fun q => by
            obtain ⟨x, hx, rfl⟩ := List.mem_map.1 q
            have q1 := hL x hx
            rw [hui] at q1; cases q1
          refine alloc_wp ho ha ?_
          have e : (puts (toG dd L) a).put (some (dd i)) (.pointer (some ⟨W.heap.size, 0, none⟩)) = puts (toG dd (L ++ [(i, W.heap.size)])) a := by
            rw [show toG dd (L ++ [(i, W.heap.size)]) = toG dd L ++ [(dd i, .pointer (some ⟨W.heap.size, 0, none⟩))] by simp [toG], puts_snoc]
          rw [e]
          have hbA : Below W.heap.size W (W.alloc (.cells (cc i) (tt i))) := (Below.refl _ _).alloc (Nat.le_refl _) _
          have hlen := List.length_erase_of_mem hir
          have hpos : 0 < rem.length := List.length_pos_of_mem hir
          refine ih f (rem.erase i) _ a _ _ (by omega) (hnd.erase i) (fun j hj => ?_) (fun j h1 h2 => ?_) (fun x hx => ?_) (by simpa using hsz) (fun j hj => ?_) hcl' (below_step hD hbA hD.size) ?_ (wpAnyR_set hdn (by omega) f _ a h)
          · obtain ⟨q1, q2⟩ := (List.Nodup.mem_erase_iff hnd).1 hj
            have := hrem j q2; exact ⟨this.1, this.2.1, by rw [hset j q1]; exact this.2.2⟩
          · by_cases hji : j = i
            · right; subst hji; simp
            · rcases hco j h1 h2 with q | q
              · exact .inl ((List.Nodup.mem_erase_iff hnd).2 ⟨hji, q⟩)
              · right; rw [List.map_append]; exact List.mem_append_left _ q
          · rcases List.mem_append.1 hx with hx | hx
            · by_cases e2 : x.1 = i
              · rw [e2]; exact hseti
              · rw [hset _ e2]; exact hL x hx
            · simp at hx; subst hx; exact hseti
          · rw [hset j (by omega)]; exact hlo j hj
          · refine ⟨fun x hx => ?_, List.pairwise_append.2 ⟨hG.pair, by simp, fun x hx y hy => ?_⟩⟩
            · rcases List.mem_append.1 hx with hx | hx
              · exact (hG.on hbA).each x hx
              · simp at hx; subst hx; exact ⟨by simp only; omega, him, hD.size, Blk.new _ _ _⟩
            · simp at hy; subst hy
              have q1 := hG.each x hx
              have q2 := hL x hx
              have q3 := q1.2.2.2.lt
              exact ⟨fun q => (by simp only at q; rw [q, hui] at q2; cases q2), by simp only; omega⟩
        · exfalso
          obtain ⟨hun, o, ho, hall⟩ := mem_ready.1 hi
          have h1 : ∀ x ∈ aft md ops i, listed.getD x false = true := fun x hx => by
            obtain ⟨o', e, ho', he, hb, rfl⟩ := aft_mem hx
            rw [ho] at ho'; cases ho'
            exact hall e he hb
          have h2 := sweep_in hcl (List.range m).reverse _ h1
          obtain ⟨i0, hi0⟩ := List.exists_mem_of_ne_nil _ hr
          obtain ⟨hr0, hl0⟩ := mem_readyN.1 hi0
          have h4 := h2 i0 ((hcov i hi2).resolve_left him i0 hl0)
          rw [unlisted_of_ready hsz hr0] at h4
          cases h4
end

def partAB (n k : Nat) (ops : List Oper) : Bool :=
  decide (n + k ≤ ops.length) && Region.noSelect ops.toArray && lexN .any ops.toArray n n 0 (Array.replicate ops.length false) && splitB .any ops.toArray (n + k) &&
    tailB .any ops.toArray (ops.length - (n + k)) (n + k) ((List.replicate (n + k) true ++ List.replicate (ops.length - (n + k)) false).toArray)
def apartB (n : Nat) (ops : List Oper) (d : Tmp) : Bool := (ops.take n).all fun oi => !(oi.looksAt ops.toArray).contains d && oi.dst != some d
theorem apart_spec' {n : Nat} {ops : List Oper} {d : Tmp} (h : apartB n ops d = true) {i : Nat} {oi : Oper} (hi : i < n) (ho : ops.toArray[i]? = some oi) : d ∉ oi.looksAt ops.toArray ∧ oi.dst ≠ some d := by
  unfold apartB at h
  rw [List.all_eq_true] at h
  have hm : oi ∈ ops.take n := by
    have : (ops.take n)[i]? = some oi := by rw [List.getElem?_take, if_pos hi]; simpa using ho
    exact List.mem_of_getElem? this
  have := h oi hm
  simpa using this
section
variable {P : Program} {id : Nat} {Q : Exit → Act → World → Prop} {a : Act} {w : World} {ops : List Oper} {n k : Nat}
theorem wp_region_allocs {dd : Nat → Tmp} {tt : Nat → TypeId} {cc : Nat → Array Value} (hm : P.follows .mixedOrders = true) (hB : partAB n k ops = true) (hd : dstsB a.tmps.size (ops.take n) = true)
    (hal : ∀ j, n ≤ j → j < n + k → ∃ o, ops.toArray[j]? = some o ∧ IsAlloc P o (dd j) (tt j) (cc j) ∧ apartB n ops (dd j) = true) {af : Act}
    (h1 : ∀ W0, Below w.heap.size w W0 → wpQuiet P ops.toArray (fun W => ∃ x, W = over W0.heap.size W0 x) (fun a' => a' = af) (ops.take n) a)
    (h2 : ∀ L W, Below w.heap.size w W → Laid n (n + k) tt cc w.heap.size L W → (∀ j, n ≤ j → j < n + k → j ∈ L.map Prod.fst) → wpList P ops.toArray Q (ops.drop (n + k)) (puts (toG dd L) af) W) : (Code.region id ops.toArray true).wp P Q a w := by
  simp only [partAB, Bool.and_eq_true, decide_eq_true_eq] at hB
  obtain ⟨⟨⟨⟨hn, hs⟩, hx⟩, hsp⟩, ht⟩ := hB
  have htl : (ops.take n).length = n := by rw [List.length_take]; omega
  have hR := wpR_of (P := P) (ops := ops.toArray) (D := fun W => Below w.heap.size w W) ⟨w, Below.refl _ _⟩ (ops.take n) a hd h1
  have hN := wpAnyR_lex (md := .any) (n := n) hs (ops.take n) 0 (Array.replicate ops.length false) a (fun j o hj => by
    rw [List.getElem?_take] at hj
    split at hj
    · simpa using hj
    · cases hj) (by omega) (by rw [htl]; exact hx) hR
  rw [htl] at hN
  refine wp_region_any hm ?_
  have hfalse : ∀ i, (Array.replicate ops.length false).getD i false = false := fun i => by simp [Array.getElem?_replicate]; split <;> rfl
  have := wpAny_of_R (Q' := Q) (m := n + k) (mr := ops.length - (n + k)) (w0 := w) (dd := dd) (tt := tt) (cc := cc) (Nat.le_add_right n k) (by simpa using hn) hs hsp (fun j hj1 hj2 => by
      obtain ⟨o, ho, ha, hp⟩ := hal j hj1 hj2
      exact ⟨o, ho, ha, fun i oi hi hoi => apart_spec' hp hi hoi⟩)
    (fun a' W L listed hD hsz hlo hhi hG hco hq => by
      have e : listed = (List.replicate (n + k) true ++ List.replicate (ops.length - (n + k)) false).toArray := by
        apply Array.ext
        · simp at hsz ⊢; omega
        · intro i hi1 hi2
          have hi3 : i < n + k + (ops.length - (n + k)) := by simpa using hi2
          by_cases hil : i < n + k
          · have := hlo i hil
            simp [hi1] at this
            rw [this, List.getElem_toArray, List.getElem_append_left (by simpa using hil), List.getElem_replicate]
          · have := hhi i (by omega)
            simp [hi1] at this
            rw [this, List.getElem_toArray, List.getElem_append_right (by simp; omega), List.getElem_replicate]
      rw [e]
      have hdl : (ops.drop (n + k)).length = ops.length - (n + k) := by simp
      rw [← hdl]
      rw [← hdl] at ht
      subst hq
      exact wpAny_of_list (ops.drop (n + k)) (n + k) _ _ W (fun j o hj => by rw [List.getElem?_drop] at hj; simpa using hj) ht (h2 L W hD hG hco))
    (n + k) n (List.range' n k) (Array.replicate ops.length false) a [] w.drew (by simp) (List.nodup_range' (step := 1)) (fun j hj => by have := List.mem_range'_1.1 hj; exact ⟨this.1, this.2, hfalse j⟩)
    (fun j h1 h2 => .inl (List.mem_range'_1.2 ⟨h1, h2⟩)) (by simp) (by simp) (fun j _ => hfalse j) (fun i k hi _ => by rw [hfalse] at hi; cases hi) ((Below.refl _ _).drew) ⟨by simp, by simp⟩ hN
  have e2 : n + k + (ops.length - (n + k)) = ops.toArray.size := by simp; omega
  rw [e2] at this
  simpa [puts, toG] using this
/-- One allocation behind the quiet operations. -/
theorem wp_region_alloc1 (n : Nat) {o1 : Oper} {d1 : Tmp} {t1 : TypeId} {cs1 : Array Value} {af : Act} (hm : P.follows .mixedOrders = true) (hB : partAB n 1 ops = true) (hd : dstsB a.tmps.size (ops.take n) = true)
    (ho1 : ops.toArray[n]? = some o1) (ha1 : IsAlloc P o1 d1 t1 cs1) (hp1 : apartB n ops d1 = true)
    (h1 : ∀ W0, Below w.heap.size w W0 → wpQuiet P ops.toArray (fun W => ∃ x, W = over W0.heap.size W0 x) (fun a' => a' = af) (ops.take n) a)
    (h2 : ∀ g1 W, w.heap.size ≤ g1 → Below w.heap.size w W → Blk W g1 t1 cs1 → wpList P ops.toArray Q (ops.drop (n + 1)) (af.put (some d1) (.pointer (some ⟨g1, 0, none⟩))) W) : (Code.region id ops.toArray true).wp P Q a w := by
  refine wp_region_allocs (k := 1) (dd := fun _ => d1) (tt := fun _ => t1) (cc := fun _ => cs1) hm hB hd (fun j hj1 hj2 => by
    obtain rfl : j = n := by omega
    exact ⟨o1, ho1, ha1, hp1⟩) h1 (fun L W hD hG hco => ?_)
  obtain ⟨⟨j, g⟩, hx, hj⟩ := List.mem_map.1 (hco n (Nat.le_refl _) (by omega))
  simp only at hj; subst hj
  obtain ⟨h3, h4⟩ := hG
  match L, hx, h3, h4 with
  | [y], hx, h3, _ =>
    obtain rfl : (j, g) = y := by simpa using hx
    exact h2 g W (h3 _ hx).2.2.1 hD (h3 _ hx).2.2.2
  | y :: z :: L, _, h3, h4 =>
    exfalso
    have e1 := h3 y (by simp)
    have e2 := h3 z (by simp)
    exact (((List.pairwise_cons.1 h4).1 z (by simp)).1) (by omega)
/-- Two allocations behind the quiet operations. -/
theorem wp_region_alloc2 (n : Nat) {o1 o2 : Oper} {d1 d2 : Tmp} {t1 t2 : TypeId} {cs1 cs2 : Array Value} {af : Act} (hm : P.follows .mixedOrders = true) (hB : partAB n 2 ops = true) (hd : dstsB a.tmps.size (ops.take n) = true)
    (ho1 : ops.toArray[n]? = some o1) (ha1 : IsAlloc P o1 d1 t1 cs1) (hp1 : apartB n ops d1 = true) (ho2 : ops.toArray[n + 1]? = some o2) (ha2 : IsAlloc P o2 d2 t2 cs2) (hp2 : apartB n ops d2 = true) (hne : d1 ≠ d2)
    (h1 : ∀ W0, Below w.heap.size w W0 → wpQuiet P ops.toArray (fun W => ∃ x, W = over W0.heap.size W0 x) (fun a' => a' = af) (ops.take n) a)
    (h2 : ∀ g1 g2 W, w.heap.size ≤ g1 → w.heap.size ≤ g2 → g1 ≠ g2 → Below w.heap.size w W → Blk W g1 t1 cs1 → Blk W g2 t2 cs2 → wpList P ops.toArray Q (ops.drop (n + 2)) ((af.put (some d1) (.pointer (some ⟨g1, 0, none⟩))).put (some d2) (.pointer (some ⟨g2, 0, none⟩))) W) : (Code.region id ops.toArray true).wp P Q a w := by
  refine wp_region_allocs (k := 2) (dd := fun j => if j = n then d1 else d2) (tt := fun j => if j = n then t1 else t2) (cc := fun j => if j = n then cs1 else cs2) hm hB hd (fun j hj1 hj2 => by
    by_cases hj : j = n
    · subst hj; simp only [if_true]; exact ⟨o1, ho1, ha1, hp1⟩
    · obtain rfl : j = n + 1 := by omega
      simp only [if_neg hj]; exact ⟨o2, ho2, ha2, hp2⟩) h1 (fun L W hD hG hco => ?_)
  obtain ⟨⟨j, g1⟩, hx, hj⟩ := List.mem_map.1 (hco n (Nat.le_refl _) (by omega))
  obtain ⟨⟨j', g2⟩, hx', hj'⟩ := List.mem_map.1 (hco (n + 1) (by omega) (by omega))
  simp only at hj hj'; subst hj; subst hj'
  obtain ⟨h3, h4⟩ := hG
  have e1 := h3 _ hx
  have e2 := h3 _ hx'
  have hne' : ¬ (j + 1 = j) := by omega
  simp only [if_true, if_neg hne'] at e1 e2
  match L, hx, hx', h3, h4 with
  | [y], hx, hx', _, _ =>
    exfalso
    simp at hx hx'
    rw [← hx] at hx'
    exact absurd (congrArg Prod.fst hx') (by simp)
  | [y, z], hx, hx', h3, h4 =>
    have hp := (List.pairwise_cons.1 h4).1 z (by simp)
    simp only [List.mem_cons, List.not_mem_nil, or_false] at hx hx'
    rcases hx with rfl | rfl <;> rcases hx' with q | q
    · exact absurd (congrArg Prod.fst q) (by simp)
    · subst q
      have := h2 g1 g2 W e1.2.2.1 e2.2.2.1 (by simpa using hp.2) hD e1.2.2.2 e2.2.2.2
      simpa [puts, toG] using this
    · subst q
      have := h2 g1 g2 W e1.2.2.1 e2.2.2.1 (fun q => hp.2 q.symm) hD e1.2.2.2 e2.2.2.2
      rw [Act.put_comm af _ _ (fun d hd => by cases hd; exact fun q => hne (Option.some.inj q).symm)] at this
      simpa [puts, toG] using this
    · exact absurd (congrArg Prod.fst q) (by simp)
  | x :: y :: z :: L, _, _, h3, h4 =>
    exfalso
    have e1 := h3 x (by simp)
    have e2 := h3 y (by simp)
    have e3 := h3 z (by simp)
    have p1 := ((List.pairwise_cons.1 h4).1 y (by simp)).1
    have p2 := ((List.pairwise_cons.1 h4).1 z (by simp)).1
    have p3 := ((List.pairwise_cons.1 (List.pairwise_cons.1 h4).2).1 z (by simp)).1
    omega
end
end Go.Proofs.YtpcmflfinlkeiaaGreatDoor
