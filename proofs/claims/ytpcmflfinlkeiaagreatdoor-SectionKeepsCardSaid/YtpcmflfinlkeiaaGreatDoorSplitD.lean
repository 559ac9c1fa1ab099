/- A region that draws its order: quiet operations anywhere in it, and a chain of others, in a class of worlds of one's choice. -/
import Derived.Test.YtpcmflfinlkeiaaGreatDoorSplitC
namespace Go.Proofs.YtpcmflfinlkeiaaGreatDoor
open Go.RowKit
set_option maxRecDepth 100000

section
variable {P : Program} {ops : Array Oper} {md : Region.Mode} {D : World → Prop} {p : Nat → Bool}

/-! ### The chain -/
/-- What is asked behind each operation of a chain. -/
structure LinkD (D : World → Prop) (K : Act → World → Prop) (ds : List Deferred) (e : Exit) (a' : Act) (W' : World) : Prop where
  nm : e = .normal
  df : a'.defers = ds
  bl : D W'
  nx : ∀ W2, Below W'.heap.size W' W2 → K a' W2
theorem LinkD.go {D : World → Prop} {K : Act → World → Prop} {ds : List Deferred} {a' : Act} {W' : World} (hd : a'.defers = ds) (hb : D W') (h : ∀ W2, Below W'.heap.size W' W2 → K a' W2) : LinkD D K ds .normal a' W' := ⟨rfl, hd, hb, h⟩
/-- The chain's operations one behind the other; between two of them worlds may grow. -/
def chainD (P : Program) (ops : Array Oper) (D : World → Prop) (Q : Exit → Act → World → Prop) : List Oper → Act → World → Prop
  | [], a, W => Q .normal a W
  | o :: l, a, W => wpList P ops (LinkD D (chainD P ops D Q l) a.defers) [o] a W
theorem chainD_cons {D : World → Prop} {o : Oper} {l : List Oper} {Q : Exit → Act → World → Prop} {a : Act} {W : World} (h : wpList P ops (LinkD D (chainD P ops D Q l) a.defers) [o] a W) : chainD P ops D Q (o :: l) a W := h
theorem chainD_nil {D : World → Prop} {Q : Exit → Act → World → Prop} {a : Act} {W : World} (h : Q .normal a W) : chainD P ops D Q [] a W := h
theorem chain_stepD {D : World → Prop} {j : Nat} {o : Oper} {l : List Oper} {W : World} {A F : Act} {Q : Exit → Act → World → Prop} (hj : ops[j]? = some o) (he : execOp A.eval o = execOp F.eval o) (hw : Region.wanted o (yielded ops A.tmps) = Region.wanted o (yielded ops F.tmps)) (_hdf : A.defers = F.defers)
    (_hD : D W) (hc : chainD P ops D Q (o :: l) F W) :
    wpOp P ops Q j (fun A' W' => ∃ v, A' = A.put o.dst v ∧ D W' ∧ ∀ W2, Below W'.heap.size W' W2 → chainD P ops D Q l (F.put o.dst v) W2) A W := by
  have pd : ∀ (a : Act) (d : Option Tmp) (v : Value), (a.put d v).defers = a.defers := fun a d v => by cases d <;> rfl
  simp only [chainD, wpList] at hc
  unfold wpOp
  simp only [hj]
  rw [hw]
  split at hc
  · rename_i hwt
    rw [if_pos hwt]
    left
    rcases hc with hc | ⟨_, a', w', hq⟩
    · unfold Oper.wp at hc ⊢
      rw [he]
      generalize (execOp F.eval o).run P W = r at *
      cases r with
      | ok x w' =>
        cases x <;> simp only [Oper.upon] at hc ⊢
        case value v => exact ⟨v, rfl, hc.bl, hc.nx⟩
        case skip => exact ⟨undef, rfl, hc.bl, hc.nx⟩
        case defer d =>
          have := hc.df
          rw [pd] at this
          have := congrArg List.length this
          simp at this
        case enter f args =>
          refine Calls.mono hc fun e w'' h => ?_
          cases e with
          | returned v => exact ⟨v, rfl, h.bl, h.nx⟩
          | panicked ch => exact absurd h.nm (by intro q; cases q)
          | outgrown => obtain ⟨a', w', hq⟩ := h; exact absurd hq.nm (by intro q; cases q)
        case row row args => exact Rows.mono hc fun v w'' h => ⟨v, rfl, h.bl, h.nx⟩
      | halt x w' => cases x <;> simp only [Oper.upon] at hc ⊢ <;> exact absurd hc.nm (by intro q; cases q)
    · exact absurd hq.nm (by intro q; cases q)
  · rename_i hwt
    rw [if_neg hwt]
    exact ⟨undef, rfl, hc.bl, hc.nx⟩
theorem wpAny_of_D {Q' : Exit → Act → World → Prop} {af : Act} (hDc : ∀ W W' : World, D W → Below W.heap.size W W' → D W') (hs : Region.noSelect ops = true)
    (hd : ∀ i, i < ops.size → ∀ k ∈ aft md ops i, k < i) (hdp : ∀ i, p i = true → ∀ k ∈ aft md ops i, p k = true)
    (hap : ∀ k ok i oi, p k = true → p i = false → ops[k]? = some ok → ops[i]? = some oi → (∀ d, oi.dst = some d → d ∉ ok.looksAt ops ∧ ok.dst ≠ some d) ∧ (k ∈ aft md ops i ∨ ∀ d, ok.dst = some d → d ∉ oi.looksAt ops)) :
    ∀ (t f : Nat) (cl : List Nat) (lo : List Oper) (listed : Array Bool) (a : Act) (G : List (Tmp × Value)) (W : World), t = f + cl.length → lo.map some = cl.map (fun k => ops[k]?) → ordB md ops cl = true → cl.Nodup →
      (∀ i ∈ cl, p i = false ∧ listed.getD i false = false) → (∀ i, i < ops.size → p i = false → i ∈ cl ∨ listed.getD i false = true) →
      (∀ q ∈ G, ∃ i o, p i = false ∧ ops[i]? = some o ∧ o.dst = some q.1) → listed.size = ops.size → Closed md ops listed → D W →
      wpAnyP P md ops D p (fun a' => a' = af) f listed a → (∀ W2, Below W.heap.size W W2 → chainD P ops D Q' lo (puts G af) W2) → wpAny P md ops Q' t listed (puts G a) W := by
  have hsel := Region.noSelect_spec hs
  have pd : ∀ (a : Act) (d : Option Tmp) (v : Value), (a.put d v).defers = a.defers := fun a d v => by cases d <;> rfl
  have pds : ∀ (G : List (Tmp × Value)) (a : Act), (puts G a).defers = a.defers := by
    intro G
    induction G with
    | nil => intro a; rfl
    | cons q G ih => intro a; exact (ih _).trans (pd a _ _)
  intro t
  induction t with
  | zero =>
    intro f cl lo listed a G W ht hlo hor hnd hcl hco hG hsz hclo hD h hC
    have hf : f = 0 := by omega
    have hc0 : cl = [] := List.eq_nil_of_length_eq_zero (by omega)
    subst hf; subst hc0
    have hl0 : lo = [] := by simpa using hlo
    subst hl0
    refine ⟨List.eq_nil_iff_forall_not_mem.2 fun i hi => ?_, ?_⟩
    · cases hp : p i with
      | true => have := mem_readyP.2 ⟨hi, hp⟩; rw [h.1] at this; cases this
      | false =>
        have hi2 : i < ops.size := by obtain ⟨_, o, ho, _⟩ := mem_ready.1 hi; exact (Array.getElem?_eq_some_iff.1 ho).1
        rcases hco i hi2 hp with q | q
        · cases q
        · rw [unlisted_of_ready hsz hi] at q; cases q
    · rw [h.2]; exact hC W (Below.refl _ _)
  | succ t ih =>
    intro f cl lo listed a G W ht hlo hor hnd hcl hco hG hsz hclo hD h hC
    refine ⟨fun h0 => ?_, fun i hi => ?_⟩
    · have hrp : readyP md ops p listed = [] := by unfold readyP; rw [h0]; rfl
      have hall : ∀ i, i < ops.size → listed.getD i false = true := all_listed (n := ops.size) hsz (Nat.le_refl _) hd (by unfold readyN; rw [h0]; rfl)
      have hc0 : cl = [] := List.eq_nil_iff_forall_not_mem.2 fun i hi => by
        have h1 := (hcl i hi).2
        by_cases hi2 : i < ops.size
        · rw [hall i hi2] at h1; cases h1
        · have : i ∈ cl := hi
          obtain ⟨j, hj⟩ := List.getElem?_of_mem this
          have e := congrArg (fun l => l[j]?) hlo
          simp only [List.getElem?_map, hj, Option.map_some] at e
          rw [Array.getElem?_eq_none (by omega)] at e
          cases hq : lo[j]? <;> rw [hq] at e <;> simp at e
      subst hc0
      have hl0 : lo = [] := by simpa using hlo
      subst hl0
      have hq : a = af := by
        cases f with
        | zero => exact h.2
        | succ f => exact h.1 hrp
      rw [hq]; exact hC W (Below.refl _ _)
    · have hui := unlisted_of_ready hsz hi
      have hcl' := closed_set hsz hclo hi
      obtain ⟨hun, o, ho, hall⟩ := mem_ready.1 hi
      have hi2 : i < ops.size := (Array.getElem?_eq_some_iff.1 ho).1
      have hset : ∀ j, j ≠ i → (listed.setIfInBounds i true).getD j false = listed.getD j false := fun j hj => getD_set_ne false (fun q => hj q.symm)
      have hseti : (listed.setIfInBounds i true).getD i false = true := by have : i < listed.size := by omega
                                                                           simp [this]
      cases hp : p i with
      | true =>
        have hi3 := mem_readyP.2 ⟨hi, hp⟩
        obtain ⟨f', rfl⟩ : ∃ f', f = f' + 1 := by
          cases f with
          | zero => rw [h.1] at hi3; cases hi3
          | succ f => exact ⟨f, rfl⟩
        refine wpOp_mono (fun A' W' hA => ?_) (qR_wp (G := G) ho (fun cs b => hsel i _ cs b ho) (fun q hq => ?_) hD (h.2 i hi3))
        · obtain ⟨a', rfl, hk, hb⟩ := hA
          refine ih f' cl lo _ a' G W' (by omega) hlo hor hnd (fun j hj => ?_) (fun j hj hpj => ?_) hG (by simpa using hsz) hcl' (hDc _ _ hD hb) hk (fun W2 h2 => hC W2 (below_step hb h2 hb.size))
          · have := hcl j hj
            exact ⟨this.1, by rw [hset j (fun e => by rw [e, hp] at this; cases this.1)]; exact this.2⟩
          · rcases hco j hj hpj with q | q
            · exact .inl q
            · right; rw [hset j (fun e => by rw [e, hp] at hpj; cases hpj)]; exact q
        · obtain ⟨j, oj, hpj, hoj, hdj⟩ := hG q hq
          exact (hap i o j oj hp hpj ho hoj).1 _ hdj
      | false =>
        have hic : i ∈ cl := (hco i hi2 hp).resolve_right fun q => by rw [hui] at q; cases q
        cases cl with
        | nil => cases hic
        | cons x cl =>
          cases lo with
          | nil => simp at hlo
          | cons ox lo =>
            simp only [List.map_cons, List.cons.injEq] at hlo
            simp only [ordB, Bool.and_eq_true, List.all_eq_true] at hor
            obtain ⟨hor1, hor2⟩ := hor
            rw [List.nodup_cons] at hnd
            have hix : i = x := by
              rcases List.mem_cons.1 hic with e | e
              · exact e
              · exfalso
                have h1 := hor1 i e
                rw [List.contains_iff_mem] at h1
                have h2 := sweep_in hclo (List.range ops.size).reverse (aft md ops i) (fun y hy => by
                  obtain ⟨o', e', ho', he', hb', rfl⟩ := aft_mem hy
                  rw [ho] at ho'; cases ho'
                  exact hall e' he' hb') x h1
                rw [(hcl x (by simp)).2] at h2
                cases h2
            subst hix
            have hox : ox = o := by have := hlo.1; rw [ho] at this; exact Option.some.inj this
            subst hox
            obtain ⟨R, eR, hR⟩ := left_puts f listed a h
            have hRl : ∀ q ∈ R, q.1 ∉ ox.looksAt ops := fun q hq => by
              obtain ⟨k, ok, hpk, hku, hok, hdk⟩ := hR q hq
              rcases (hap k ok i ox hpk hp hok ho).2 with hk | hk
              · exfalso
                obtain ⟨o', e', ho', he', hb', rfl⟩ := aft_mem hk
                rw [ho] at ho'; cases ho'
                have h1 := hall e' he' hb'
                have : e'.on < listed.size := by have := (Array.getElem?_eq_some_iff.1 hok).1; omega
                simp [this] at h1 hku
                rw [h1] at hku; cases hku
              · exact hk _ hdk
            have comm : puts G af = puts R (puts G a) := by
              rw [eR]
              have : ∀ (R : List (Tmp × Value)) (a : Act), (∀ q ∈ R, ∀ g ∈ G, some q.1 ≠ some g.1) → puts G (puts R a) = puts R (puts G a) := by
                intro R
                induction R with
                | nil => intro a _; rfl
                | cons q R ih2 =>
                  intro a hq
                  show puts G (puts R (a.put (some q.1) q.2)) = puts R ((puts G a).put (some q.1) q.2)
                  rw [ih2 _ fun q' hq' => hq q' (by simp [hq']), puts_put G a (some q.1) q.2 fun g hg => hq q (by simp) g hg]
              refine this R a fun q hq g hg => ?_
              obtain ⟨k, ok, hpk, _, hok, hdk⟩ := hR q hq
              obtain ⟨j, oj, hpj, hoj, hdj⟩ := hG g hg
              have := ((hap k ok j oj hpk hpj hok hoj).1 _ hdj).2
              rw [hdk] at this
              exact this
            obtain ⟨e1, e2⟩ := exec_puts (ops := ops) ox (fun cs b => hsel i _ cs b ho) R (puts G a) hRl
            rw [← comm] at e1 e2
            have hdf : (puts G a).defers = (puts G af).defers := by rw [pds, pds, eR, pds]
            refine wpOp_mono (fun A' W' hA => ?_) (chain_stepD (Q := Q') (D := D) (l := lo) ho e1.symm e2.symm hdf hD (hC W (Below.refl _ _)))
            obtain ⟨v, rfl, hDW, hnext⟩ := hA
            have fin : ∀ G', (∀ q ∈ G', ∃ i o, p i = false ∧ ops[i]? = some o ∧ o.dst = some q.1) → (puts G a).put ox.dst v = puts G' a → (puts G af).put ox.dst v = puts G' af → wpAny P md ops Q' t (listed.setIfInBounds i true) ((puts G a).put ox.dst v) W' := by
              intro G' hG' g1 g2
              rw [g1]
              rw [g2] at hnext
              refine ih f cl lo _ a G' W' (by simp at ht; omega) hlo.2 hor2 hnd.2 (fun j hj => ?_) (fun j hj hpj => ?_) hG' (by simpa using hsz) hcl' hDW (wpAnyP_set hdp hp f _ a h) hnext
              · have := hcl j (by simp [hj])
                exact ⟨this.1, by rw [hset j (fun e => hnd.1 (e ▸ hj))]; exact this.2⟩
              · by_cases hji : j = i
                · right; rw [hji]; exact hseti
                · rcases hco j hj hpj with q | q
                  · rcases List.mem_cons.1 q with q | q
                    · exact absurd q hji
                    · exact .inl q
                  · right; rw [hset j hji]; exact q
            cases hdo : ox.dst with
            | none => rw [hdo] at fin; exact fin G hG rfl rfl
            | some d =>
              rw [hdo] at fin
              refine fin (G ++ [(d, v)]) (fun q hq => ?_) (puts_snoc G (d, v) a).symm (puts_snoc G (d, v) af).symm
              rcases List.mem_append.1 hq with hq | hq
              · exact hG q hq
              · simp at hq; subst hq; exact ⟨i, ox, hp, ho, hdo⟩
end
/-- **QUIET OPERATIONS AND A CHAIN.** -/
theorem wp_region_chainD (qs : List Bool) (D : World → Prop) {P : Program} {id : Nat} {Q : Exit → Act → World → Prop} {a : Act} {w : World} {ops : List Oper} {af : Act} (hDc : ∀ W W' : World, D W → Below W.heap.size W W' → D W') (hD0 : D w) (hm : P.follows .mixedOrders = true) (hB : chainB qs ops = true) (hd : dstsB a.tmps.size (selT qs ops) = true)
    (h1 : ∀ W0, D W0 → wpQuiet P ops.toArray (fun W => ∃ x, W = over W0.heap.size W0 x) (fun a' => a' = af) (selT qs ops) a)
    (h2 : ∀ W, Below w.heap.size w W → chainD P ops.toArray D Q (selF qs ops) af W) : (Code.region id ops.toArray true).wp P Q a w := by
  simp only [chainB, Bool.and_eq_true, decide_eq_true_eq] at hB
  obtain ⟨⟨⟨⟨⟨hlen, hs⟩, hx⟩, hor⟩, hdd⟩, hap⟩ := hB
  simp only [List.all_eq_true, List.mem_range, Bool.and_eq_true, decide_eq_true_eq, Bool.or_eq_true, Bool.not_eq_true'] at hdd
  have hpl : ∀ i, qs.getD i false = true → i < ops.length := fun i hi => by
    rw [← hlen]
    rcases Nat.lt_or_ge i qs.length with q | q
    · exact q
    · rw [List.getD_eq_getElem?_getD, List.getElem?_eq_none q] at hi; cases hi
  have hR := wpR_of (P := P) (ops := ops.toArray) (D := D) ⟨w, hD0⟩ (selT qs ops) a hd h1
  have hqm : (selT qs ops).map some = (qix qs).map fun k => ops.toArray[k]? := by
    have := selT_map qs ops [] hlen
    rw [this]; simp [qix, List.range_eq_range']
  have hcm : (selF qs ops).map some = (cix qs).map fun k => ops.toArray[k]? := by
    have := selF_map qs ops [] hlen
    rw [this]; simp [cix, List.range_eq_range']
  have hN := wpAnyP_lex (md := .any) (p := fun i => qs.getD i false) hs (qix qs) (selT qs ops) (Array.replicate ops.length false) a hqm hx hR
  refine wp_region_any hm ?_
  have hfalse : ∀ i, (Array.replicate ops.length false).getD i false = false := fun i => by simp [Array.getElem?_replicate]; split <;> rfl
  have hsum : (qix qs).length + (cix qs).length = ops.toArray.size := by
    have : ∀ (l : List Nat) (f : Nat → Bool), (l.filter f).length + (l.filter fun i => !f i).length = l.length := by
      intro l f
      induction l with
      | nil => rfl
      | cons x l ih => simp only [List.filter_cons]; cases f x <;> simp <;> omega
    have := this (List.range qs.length) (fun i => qs.getD i false)
    simp only [qix, cix]
    rw [this]; simp [hlen]
  have key := wpAny_of_D (Q' := Q) (md := .any) (p := fun i => qs.getD i false) (D := D) (af := af) hDc hs (fun i hi k hk => (hdd i (by simpa using hi) k hk).1) (fun i hi k hk => by
      rcases (hdd i (hpl i hi) k hk).2 with q | q
      · rw [hi] at q; cases q
      · exact q)
    (fun k ok i oi hk hi hok hoi => by
      rw [List.all_eq_true] at hap
      have h1 := hap k (List.mem_range.2 (hpl k hk))
      rw [hk] at h1
      simp only [Bool.not_true, Bool.false_or, hok, List.all_eq_true] at h1
      have h2 := h1 i (List.mem_range.2 (by have := (Array.getElem?_eq_some_iff.1 hoi).1; simpa using this))
      rw [hi] at h2
      simp only [Bool.false_or, hoi, Bool.and_eq_true, Bool.or_eq_true] at h2
      refine ⟨fun d hd => ?_, h2.2.imp (fun q => by simpa using q) fun q d hd => ?_⟩
      · have := h2.1
        rw [hd] at this
        simpa using this
      · rw [hd] at q
        simpa using q)
    ((qix qs).length + (cix qs).length) (qix qs).length (cix qs) (selF qs ops) (Array.replicate ops.length false) a [] w.drew rfl hcm hor (List.Pairwise.filter _ List.nodup_range) (fun i hi => ⟨by simpa [cix] using (List.mem_filter.1 hi).2, hfalse i⟩)
    (fun i hi hp => .inl (List.mem_filter.2 ⟨List.mem_range.2 (by rw [hlen]; simpa using hi), by simpa using hp⟩)) (by simp) (by simp) (fun i k hi _ => by rw [hfalse] at hi; cases hi) (hDc _ _ hD0 ((Below.refl _ _).drew)) hN
    (fun W2 h => h2 W2 (((Below.refl _ _).drew).trans (h.mono (by simp))))
  rw [hsum] at key
  exact key
/-- .. with the end of the quiet operations told later. -/
theorem wp_region_chainE (qs : List Bool) (D : World → Prop) {P : Program} {id : Nat} {Q : Exit → Act → World → Prop} {a : Act} {w : World} {ops : List Oper} (hDc : ∀ W W' : World, D W → Below W.heap.size W W' → D W') (hD0 : D w) (hm : P.follows .mixedOrders = true) (hB : chainB qs ops = true) (hd : dstsB a.tmps.size (selT qs ops) = true)
    (h : ∃ af : Act, (∀ W0, D W0 → wpQuiet P ops.toArray (fun W => ∃ x, W = over W0.heap.size W0 x) (fun a' => a' = af) (selT qs ops) a) ∧ ∀ W, Below w.heap.size w W → chainD P ops.toArray D Q (selF qs ops) af W) : (Code.region id ops.toArray true).wp P Q a w := by
  obtain ⟨af, h1, h2⟩ := h
  exact wp_region_chainD qs D hDc hD0 hm hB hd h1 h2
end Go.Proofs.YtpcmflfinlkeiaaGreatDoor
