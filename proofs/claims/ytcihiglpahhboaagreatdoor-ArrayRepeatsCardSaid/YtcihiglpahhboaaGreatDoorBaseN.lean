/- The map of sums, as a datum; what is collected from it. The comparison of weights: it lays blocks, and turns nothing. The sort of the weights by their places. -/
import Derived.Test.YtcihiglpahhboaaGreatDoorBaseF
import Derived.Test.YtcihiglpahhboaaGreatDoorPlainA
import Derived.Test.YtcihiglpahhboaaGreatDoorATr
import Derived.Test.YtcihiglpahhboaaGreatDoorBaseS
import Derived.Test.YtcihiglpahhboaaGreatDoorShelf
import Derived.Sort.Grow
import Derived.Shelf.SlSortCmp.WholeK
namespace Go.Proofs.YtcihiglpahhboaaGreatDoor
open Go.RowKit Go.Shelf
set_option maxRecDepth 100000
/-- How an element of the map reads. -/
def gElem (v : Value) : Option (DataW Unit × List MemPlace) :=
  match v with
  | .agg cs =>
    match cs.toList with
    | [.int .i64 a, .int .i64 b] => some (.agg [.lit (.int .i64 a), .lit (.int .i64 b)], [])
    | _ => none
  | _ => none
def gd (z : G) : DataW Unit := .agg [.lit (.int .i64 z.re), .lit (.int .i64 z.im)]
theorem gElem_mk (z : G) : gElem (.agg #[.int .i64 z.re, .int .i64 z.im]) = some (gd z, []) := rfl
theorem gElem_inv {v : Value} {y : DataW Unit × List MemPlace} (h : gElem v = some y) : ∃ z : G, v = .agg #[.int .i64 z.re, .int .i64 z.im] ∧ y = (gd z, []) := by
  unfold gElem at h
  cases v <;> simp only [reduceCtorEq] at h
  rename_i cs
  split at h
  · rename_i a b e
    refine ⟨⟨a, b⟩, ?_, (Option.some.inj h).symm⟩
    obtain ⟨l⟩ := cs
    have e' : l = [.int .i64 a, .int .i64 b] := e
    subst e'
    rfl
  · cases h
theorem gd_inj {a b : G} (h : gd a = gd b) : a = b := by
  unfold gd at h
  injection h with h
  simp at h
  exact G.ext' h.1 h.2
theorem gElem_eq {v : Value} {z : G} {ps : List MemPlace} (h : gElem v = some (gd z, ps)) : v = .agg #[.int .i64 z.re, .int .i64 z.im] := by
  obtain ⟨z', rfl, e⟩ := gElem_inv h
  have := gd_inj (Prod.mk.inj e).1
  rw [this]
/-- The map holds the sums of these sources. -/
def MapOk (D : DataW Unit) (l : List Src) : Prop := ∀ x y kl, keyOf Tryz.prog 154 (kv x y) = some kl → D.atKey kl (gd .zero) = gd (sumAt l x y)
theorem mapOk_nil : MapOk (.map []) [] := fun _ _ _ _ => rfl
theorem key_ne {x y x' y' : Int} {kl kl' : Lit} (h : keyOf Tryz.prog 154 (kv x y) = some kl) (h' : keyOf Tryz.prog 154 (kv x' y') = some kl') (hne : ¬ (x = x' ∧ y = y')) : kl ≠ kl' := by
  intro e
  subst e
  exact hne (kv_inj (KW.inj h h'))
theorem mapOk_put {D : DataW Unit} {l : List Src} {s : Src} {kl : Lit} (h : MapOk D l) (hD : Maps.IsMap D) (hk : keyOf Tryz.prog 154 (kv s.x s.y) = some kl) : MapOk (D.put kl (gd ((sumAt l s.x s.y).add (own1 s)))) (l ++ [s]) := by
  intro x y kl' hk'
  rw [sumAt_snoc]
  unfold addAt
  by_cases e : s.x = x ∧ s.y = y
  · obtain ⟨rfl, rfl⟩ := e
    obtain rfl : kl = kl' := Option.some.inj (hk.symm.trans hk')
    rw [if_pos ⟨rfl, rfl⟩]
    exact Maps.atKey_put_same hD (KW.key hk) _ _
  · rw [if_neg e, Maps.atKey_put_other (key_ne hk' hk (fun q => e ⟨q.1.symm, q.2.symm⟩))]
    exact h x y kl' hk'
/-- What has been collected while these keys are still to come. -/
structure Coll (l : List Src) (L : List Wt) (left : Lit → Bool) : Prop where
  a : ∀ w ∈ L, w.z = sumAt l w.x w.y ∧ w.z ≠ .zero ∧ ∃ kl, keyOf Tryz.prog 154 (kv w.x w.y) = some kl ∧ left kl = false
  b : ∀ x y kl, keyOf Tryz.prog 154 (kv x y) = some kl → left kl = false → sumAt l x y ≠ .zero → (⟨x, y, sumAt l x y⟩ : Wt) ∈ L
  c : L.Pairwise fun a b => ¬ (a.x = b.x ∧ a.y = b.y)
theorem coll_start {D : DataW Unit} {l : List Src} (h : MapOk D l) : Coll l [] (Maps.has D) where
  a := by simp
  b x y kl hk hl hne := by
    exfalso
    have h1 := h x y kl hk
    rw [Maps.atKey_of_not_has hl] at h1
    exact hne (gd_inj h1).symm
  c := List.Pairwise.nil
theorem same_eq {a b : Lit} (hb : WideAt.IsKeyLit b) (h : a.sameKey b = true) : a = b := (WideAt.sameKey_iff hb).1 h
theorem coll_old {l : List Src} {L : List Wt} {left : Lit → Bool} (h : Coll l L left) (kl : Lit) : ∀ w ∈ L, w.z = sumAt l w.x w.y ∧ w.z ≠ .zero ∧ ∃ k, keyOf Tryz.prog 154 (kv w.x w.y) = some k ∧ (left k && !k.sameKey kl) = false := by
  intro w hw
  obtain ⟨h1, h2, k, h3, h4⟩ := h.a w hw
  exact ⟨h1, h2, k, h3, by rw [h4]; rfl⟩
theorem coll_add {l : List Src} {L : List Wt} {left : Lit → Bool} {x y : Int} {kl : Lit} (h : Coll l L left) (hk : keyOf Tryz.prog 154 (kv x y) = some kl) (hl : left kl = true) (hz : sumAt l x y ≠ .zero) :
    Coll l (L ++ [⟨x, y, sumAt l x y⟩]) (fun z => left z && !z.sameKey kl) where
  a w hw := by
    rcases List.mem_append.1 hw with hw | hw
    · exact coll_old h kl w hw
    · rw [List.mem_singleton] at hw
      subst hw
      exact ⟨rfl, hz, kl, hk, by rw [WideAt.sameKey_self (KW.key hk)]; simp⟩
  b x' y' k hk' hl' hne := by
    rw [List.mem_append]
    by_cases e : left k = false
    · exact .inl (h.b x' y' k hk' e hne)
    · have e1 : left k = true := by simpa using e
      rw [e1] at hl'
      have e2 : k.sameKey kl = true := by simpa using hl'
      have e3 := same_eq (KW.key hk) e2
      subst e3
      obtain ⟨rfl, rfl⟩ := kv_inj (KW.inj hk' hk)
      exact .inr (by simp)
  c := by
    refine List.pairwise_append.2 ⟨h.c, by simp, fun a ha b hb e => ?_⟩
    rw [List.mem_singleton] at hb
    subst hb
    obtain ⟨_, _, k, h3, h4⟩ := h.a a ha
    have e1 : a.x = x := e.1
    have e2 : a.y = y := e.2
    rw [e1, e2, hk] at h3
    rw [← Option.some.inj h3, hl] at h4
    cases h4
theorem coll_skip {l : List Src} {L : List Wt} {left : Lit → Bool} {x y : Int} {kl : Lit} (h : Coll l L left) (hk : keyOf Tryz.prog 154 (kv x y) = some kl) (hz : sumAt l x y = .zero) :
    Coll l L (fun z => left z && !z.sameKey kl) where
  a := coll_old h kl
  b x' y' k hk' hl' hne := by
    by_cases e : left k = false
    · exact h.b x' y' k hk' e hne
    · have e1 : left k = true := by simpa using e
      rw [e1] at hl'
      have e2 : k.sameKey kl = true := by simpa using hl'
      have e3 := same_eq (KW.key hk) e2
      subst e3
      obtain ⟨rfl, rfl⟩ := kv_inj (KW.inj hk' hk)
      exact absurd hz hne
  c := h.c
/-- What was collected, sorted by place, are the weights. -/
theorem coll_end {l : List Src} {L L' : List Wt} {left : Lit → Bool} (hl : LOk l) (h : Coll l L left) (hleft : ∀ k, left k = false) (hp : L'.Perm L) (hs : L'.Pairwise fun a b => ¬ b.lt a) : L' = nrm l := by
  refine IsNrm.eq ⟨?_, fun w => ?_⟩
  · have hc : L'.Pairwise fun a b => ¬ (a.x = b.x ∧ a.y = b.y) := hp.symm.pairwise h.c (fun {a b} hab e => hab ⟨e.1.symm, e.2.symm⟩)
    refine (hs.and hc).imp fun {a b} hab => ?_
    unfold Wt.lt at *
    omega
  · rw [hp.mem_iff]
    constructor
    · intro hw
      have := h.a w hw
      exact ⟨this.1, this.2.1⟩
    · rintro ⟨h1, h2⟩
      obtain ⟨s, hsl, e1, e2⟩ := sumAt_place (by rw [← h1]; exact h2)
      have ho := hl.all s hsl
      have := ho.x1; have := ho.x2; have := ho.y1; have := ho.y2
      obtain ⟨k, hk⟩ := key_some w.x w.y (by omega) (by omega)
      have := h.b w.x w.y k hk (hleft k) (by rw [← h1]; exact h2)
      rw [← h1] at this
      exact this
end Go.Proofs.YtcihiglpahhboaaGreatDoor

namespace Go.Proofs.YtcihiglpahhboaaGreatDoor
open Go.RowKit Go.Shelf
set_option maxRecDepth 100000
theorem drew_same {P : Program} {f : FuncId} {args : Array Value} {w : World} {k : Nat} {v : Value} (h : Calls P f args (w.drewN k) fun e w' => e = .returned v ∧ w' = w.drewN k) :
    Calls P f args (w.drewN k) fun e w' => e = .returned v ∧ ∃ j, w' = w.drewN j := h.mono fun _ _ ⟨he, hw⟩ => ⟨he, k, hw⟩
/-- **THE REGION IN TWO PARTS**, the first one of operations that turn nothing at all. -/
theorem wp_region_partN {P : Program} (n : Nat) {id : Nat} {Q : Exit → Act → World → Prop} {a : Act} {w : World} {ops : List Oper} (hm : P.follows .mixedOrders = true) (hB : partB2 n ops = true)
    (h : wpQuiet P ops.toArray (fun w' => ∃ k, w' = w.drewN k) (fun a' => ∀ w', (∃ k, w' = w.drewN k) → wpList P ops.toArray Q (ops.drop n) a' w') (ops.take n) a) : (Code.region id ops.toArray true).wp P Q a w := by
  simp only [partB2, Bool.and_eq_true, decide_eq_true_eq] at hB
  obtain ⟨⟨⟨⟨hn, hs⟩, hx⟩, hsp⟩, ht⟩ := hB
  obtain ⟨l, r, rfl, hl⟩ : ∃ l r, ops = l ++ r ∧ l.length = n := ⟨ops.take n, ops.drop n, (List.take_append_drop n ops).symm, by rw [List.length_take]; omega⟩
  subst hl
  rw [List.take_left, List.drop_left] at h
  have e : (l ++ r).length - l.length = r.length := by simp
  rw [e] at ht
  refine wp_region_split2 hm hs (by simpa using hx) hsp (C := fun w' => ∃ k, w' = w.drewN k) ⟨1, rfl⟩ ?_
  refine wpQuiet_mono ?_ h
  intro a' h' w' hw'
  exact wpAny_of_list r l.length _ a' w' (fun j o hj => by simpa using List.getElem?_append_right (l₁ := l) (l₂ := r) (i := l.length + j) (by omega) ▸ (by simpa using hj)) ht (h' w' hw')
theorem or_any (A : Option Addr) (n c B : Nat) (xs : List Int) (w : World) (h : Reads w B 1 A n (ints xs)) (hn : n ≤ 1000000000000) :
    Calls Tryz.prog 148 #[.slice A n c] w fun r w' => r = .returned (.int .i64 (fnz xs)) ∧ w = w' := by
  have hl := reads_len h
  have HL := hide hl; clear hl
  go_enter Tryz.func148, Tryz.ntmps148
  go_wp2
  go_loop [8] (fun i => ∃ k : Nat, k ≤ n ∧ i = .int .i64 k ∧ zeros xs k) (fun i => n - (intOf i).toNat)
  case atStart => exact ⟨0, by omega, rfl, by intro y hy; simp at hy⟩
  case round =>
    obtain ⟨k, hk, rfl, hz⟩ := hrel
    by_cases hlt : k < n
    · obtain ⟨ad, x, rfl, _, hx, hc⟩ := reads_at h hlt
      have HX := hide hx; clear hx
      go_wp2
      · go_ret
        exact ⟨by simp; exact (fnz_hit HX.out hz ‹_›).symm, rfl⟩
      · go_round
        case rel => exact ⟨k + 1, by omega, by go_num, zeros_succ hz HX.out ‹_›⟩
        case measure => simp [intOf]; omega
    · go_wp2
      go_ret
      exact ⟨by simp; exact (zeros_end hz (by rw [HL.out]; omega)).symm, rfl⟩
theorem grow3 (W : World) (k : Nat) (a b c : Obj) : (((W.alloc a).alloc b).drewN k).alloc c = Sort.grow (W.drewN k) #[a, b, c] := by
  rw [Sort.alloc_eq_grow, Sort.alloc_eq_grow, Sort.alloc_eq_grow, Sort.grow_grow]
  show Sort.grow (Sort.grow (W.drewN k) (#[a] ++ #[b])) #[c] = _
  rw [Sort.grow_grow]; rfl
/-- The comparison of two weights by their places. -/
def cmpS (a b : Src) : Int := fnz [Lib.compareInt a.x b.x, Lib.compareInt a.y b.y]
set_option maxHeartbeats 2000000 in
theorem compare_any (a b : Src) (W : World) :
    Calls Tryz.prog 132 #[.agg #[.int .i64 a.x, .int .i64 a.y, .int .i64 a.g, .int .i64 a.p], .agg #[.int .i64 b.x, .int .i64 b.y, .int .i64 b.g, .int .i64 b.p]] W fun e w' => e = .returned (.int .i64 (cmpS a b)) ∧ ∃ q os', w' = Sort.grow (W.drewN q) os' := by
  obtain ⟨r1, h1⟩ : ∃ r, Lib.compareInt a.x b.x = r := ⟨_, rfl⟩
  obtain ⟨r2, h2⟩ : ∃ r, Lib.compareInt a.y b.y = r := ⟨_, rfl⟩
  have hC1 : Hid (∀ W, Calls Tryz.prog 149 #[.int .i64 a.x, .int .i64 b.x] W fun e w' => e = .returned (.int .i64 r1) ∧ w' = W) := fun W => by rw [← h1]; exact Tryz.cmp_Compare_int a.x b.x W
  have hC2 : Hid (∀ W, Calls Tryz.prog 149 #[.int .i64 a.y, .int .i64 b.y] W fun e w' => e = .returned (.int .i64 r2) ∧ w' = W) := fun W => by rw [← h2]; exact Tryz.cmp_Compare_int a.y b.y W
  have hE : Hid (cmpS a b = fnz [r1, r2]) := by show _ = _; unfold cmpS; rw [h1, h2]
  rw [hE.out]
  clear h1 h2
  go_enter Tryz.func132, Tryz.ntmps132
  go_upto_region 1 with (fail)
  obtain ⟨w1, e1, hb1, hz1, k0, k1⟩ := box2 W #[.int .i64 a.x, .int .i64 a.y, .int .i64 a.g, .int .i64 a.p] #[.int .i64 b.x, .int .i64 b.y, .int .i64 b.g, .int .i64 b.p] 123 123
  rw [← e1]
  have E1 := hide e1
  clear e1
  have c0 := k0.cell
  have c1 := k1.cell
  refine wp_region_partN 10 (by kernel_rfl) (by kernel_rfl) ?_; simp only [List.take_succ_cons, List.take_zero, List.drop_succ_cons, List.drop_zero]; (repeat (first | go_big_quiet_step (first | (go_at_call 149; with_reducible first | exact drew_same (hC1.out _) | exact drew_same (hC2.out _))) | quiet_step (first | (go_at_call 149; with_reducible first | exact drew_same (hC1.out _) | exact drew_same (hC2.out _))))); refine wpQuiet_nil ?_; rintro W' ⟨k, rfl⟩
  go_wp2_with (go_at_call 148; refine (or_any _ _ _ _ [r1, r2] _ (reads2 _ _ _ _) (by omega)).mono ?_; rintro e w' ⟨rfl, rfl⟩)
  go_ret
  refine ⟨rfl, k, #[.cells #[.int .i64 a.x, .int .i64 a.y, .int .i64 a.g, .int .i64 a.p] 123, .cells #[.int .i64 b.x, .int .i64 b.y, .int .i64 b.g, .int .i64 b.p] 123, .cells #[.int .i64 r1, .int .i64 r2] 3], ?_⟩
  rw [E1.out]
  exact grow3 _ _ _ _ _
end Go.Proofs.YtcihiglpahhboaaGreatDoor

namespace Go.Proofs.YtcihiglpahhboaaGreatDoor
open Go.RowKit Go.Shelf
set_option maxRecDepth 100000
instance : Inhabited Src := ⟨⟨0, 0, 0, 0⟩⟩
theorem flat_srcs (l : List Src) : (Sort.flatK srcCells 4 l.toArray).toList = srcs l := by
  apply List.ext_getElem?
  intro t
  by_cases ht : t < l.length * 4
  · have hk : t / 4 < l.length := by omega
    have h1 := Sort.get_flatK srcCells 4 l.toArray t (by simpa using ht)
    have hs : t < (Sort.flatK srcCells 4 l.toArray).size := by simpa using ht
    have e1 : (Sort.flatK srcCells 4 l.toArray).toList[t]? = some ((Sort.flatK srcCells 4 l.toArray)[t]!) := by
      rw [getElem!_pos _ t hs]; simp [ht]
    rw [e1, h1]
    have e2 : l.toArray[t / 4]! = l[t / 4] := by rw [getElem!_pos _ _ (by simpa using hk)]; simp
    rw [e2]
    have e3 := srcs_at (k := t / 4) (j := t % 4) (List.getElem?_eq_getElem hk) (by omega)
    rw [show t / 4 * 4 + t % 4 = t by omega] at e3
    rw [e3]
    have h4 : t % 4 < 4 := by omega
    generalize t % 4 = j at h4 ⊢
    rcases (show j = 0 ∨ j = 1 ∨ j = 2 ∨ j = 3 by omega) with rfl | rfl | rfl | rfl <;> rfl
  · rw [List.getElem?_eq_none (by simp; omega), List.getElem?_eq_none (by rw [srcs_len]; omega)]
theorem cmp_lt (a b : Src) : cmpS a b < 0 ↔ (a.x < b.x ∨ (a.x = b.x ∧ a.y < b.y)) := by
  unfold cmpS Lib.compareInt
  simp only [fnz]
  repeat' split
  all_goals omega
theorem swo_cmp : Sort.SWO (ltOf cmpS) where
  irrefl a := by
    simp only [ltOf, decide_eq_false_iff_not, cmp_lt]; omega
  trans a b c := by
    simp only [ltOf, decide_eq_true_eq, cmp_lt]; omega
  ntrans a b c := by
    simp only [ltOf, decide_eq_false_iff_not, cmp_lt]; omega
theorem sorted_get {w : World} {g n : Nat} {os : Array Obj} {cur : Array Value} {e : TypeId} (d : Array Src) (hb : w.heap[g]? = some (.cells cur e (0, 0))) :
    (sortWorldK srcCells 4 w g 0 n d os).heap[g]? = some (.cells (Sort.putCells id 0 (Sort.flatK srcCells 4 d) cur) e (0, 0)) := by
  have hg : g < w.heap.size := (Array.getElem?_eq_some_iff.1 hb).1
  unfold sortWorldK
  rw [Sort.heap_grow_old _ _ (by simpa [Sort.putRowK, Sort.putRow, Sort.mapBlock] using hg)]
  simp [Sort.putRowK, Sort.putRow, Sort.mapBlock, Sort.ahead, Array.getElem?_modify, hb, Sort.onCells]
theorem sorted_grown {w : World} {g n : Nat} {os : Array Obj} (d : Array Src) : w.grownBy (sortWorldK srcCells 4 w g 0 n d os) (some g) := by
  unfold sortWorldK
  refine ⟨rfl, rfl, rfl, by simp [Sort.putRowK, Sort.putRow, Sort.mapBlock], fun k hk hne => ?_⟩
  rw [Sort.heap_grow_old _ _ (by simpa [Sort.putRowK, Sort.putRow, Sort.mapBlock] using hk)]
  have : g ≠ k := fun e => hne (by rw [e])
  simp [Sort.putRowK, Sort.putRow, Sort.mapBlock, Sort.ahead, Array.getElem?_modify, this]
theorem take_put (cur : Array Value) (l : List Src) (h : l.length * 4 ≤ cur.size) : (Sort.putCells id 0 (Sort.flatK srcCells 4 l.toArray) cur).toList.take (l.length * 4) = srcs l := by
  rw [← flat_srcs]
  apply List.ext_getElem?
  intro j
  by_cases hj : j < l.length * 4
  · rw [List.getElem?_take_of_lt hj, Array.getElem?_toList, Array.getElem?_toList]
    have h2 : j < (Sort.flatK srcCells 4 l.toArray).size := by simpa using hj
    rw [Array.getElem?_eq_getElem h2]
    simp only [Sort.putCells, Array.getElem?_mapIdx, Array.getElem?_eq_getElem (show j < cur.size by omega), Option.map_some, id]
    rw [if_pos ⟨Nat.zero_le _, by omega⟩, Nat.sub_zero, getElem!_pos _ j h2]
  · rw [List.getElem?_take_eq_none (by omega), List.getElem?_eq_none (by simp; omega)]
theorem sort_none (f : Value) (w : World) : Calls Tryz.prog 131 #[.slice none 0 0, f] w fun e w' => e = .returned (.tuple #[]) ∧ w' = w := by
  have hi : ∀ W, Calls Tryz.prog 158 #[.slice none 0 0, .int .i64 0, .int .i64 0, f] W fun e w' => e = .returned (.tuple #[]) ∧ w' = W := fun W => by
    go_enter Tryz.func158, Tryz.ntmps158
    go_wp2
    refine wp_loop_rounds 1 ?_
    rw [rounds_succ]
    go_wp2
    go_end0
    exact ⟨rfl, rfl⟩
  have hp : ∀ n W, Calls Tryz.prog 146 #[.slice none 0 0, .int .i64 0, .int .i64 0, .int .i64 n, f] W fun e w' => e = .returned (.tuple #[]) ∧ w' = W := fun n W => by
    go_enter Tryz.func146, Tryz.ntmps146
    go_wp2
    refine wp_loop_rounds 1 ?_
    rw [rounds_succ]
    go_wp2_with (go_at_call 158; refine (hi _).mono ?_; rintro e w' ⟨rfl, rfl⟩)
    (try simp only [Exit.inBlock, Exit.then]); refine bodyPost_ret (results_none rfl _ _ _) rfl ?_
    exact ⟨rfl, rfl⟩
  have hl : ∀ W, Calls Tryz.prog 147 #[.int .u64 0] W fun e w' => e = .returned (.int .i64 (Lib.bitLen 0 : Nat)) ∧ w' = W := fun W =>
    Any.bits_Len (SlLaysF0.n15.bits (P := Tryz.prog) (ρ := Tryz.sortW_ren) { Tryz.sortW with }) 0 W (by omega) (by omega)
  go_enter Tryz.func131, Tryz.ntmps131
  go_wp2_with (first | (go_at_call 147; refine (hl _).mono ?_; rintro e w' ⟨rfl, rfl⟩) | (go_at_call 146; refine (hp _ _).mono ?_; rintro e w' ⟨rfl, rfl⟩))
  go_end0
  exact ⟨rfl, rfl⟩
theorem sort_any (B n : Nat) (v : Value) (L : List Wt) (w : World) (hn : L.length = n) (hs : n ≤ 1000) (h : w.ownsRow B 123 4 v n (srcs (L.map asS))) :
    Calls Tryz.prog 131 #[v, .func (.func 132) #[] #[]] w fun e w' => e = .returned (.tuple #[]) ∧ ∃ L' : List Wt, L'.Perm L ∧ (L'.Pairwise fun a b => ¬ b.lt a) ∧ w'.ownsRow B 123 4 v n (srcs (L'.map asS)) ∧ w.grownBy w' v.ownBlock := by
  rcases h.2 with ⟨rfl, h0⟩ | ⟨g, cap, cur, rfl, hbase, hb, h1, h2, h3, h4⟩
  · refine (sort_none _ w).mono ?_
    rintro e w' ⟨rfl, rfl⟩
    obtain rfl : L = [] := List.eq_nil_of_length_eq_zero (by omega)
    exact ⟨rfl, [], .nil, .nil, h, ⟨rfl, rfl, rfl, Nat.le_refl _, fun _ _ _ => rfl⟩⟩
  · have hgl : g < w.heap.size := (Array.getElem?_eq_some_iff.1 hb).1
    have hH : Sort.HoldsK srcCells 4 w g 0 (L.map asS).toArray := by
      intro j hj
      have hj' : j < n * 4 := by simpa [hn] using hj
      refine ⟨?_, by simp [World.frozen?, hb]⟩
      have e1 : (cur.toList.take (n * 4))[j]? = (srcs (L.map asS))[j]? := by rw [h4]
      rw [List.getElem?_take_of_lt hj'] at e1
      simp only [World.cell?, hb, Nat.zero_add]
      simp only [Option.isSome_none, Bool.false_eq_true, if_false]
      rw [← Array.getElem?_toList, e1, ← flat_srcs, Array.getElem?_toList, getElem!_pos _ j hj]
      simp [Array.getElem?_eq_getElem hj]
    have hC : CmpLays Tryz.prog 132 #[] srcCells 4 cmpS g 0 (L.map asS).toArray.size w := fun m os dk _ x y => compare_any x y _
    have hsz : (L.map asS).toArray.size = n := by simp [hn]
    have key := AnyQ.slices_SortFunc Tryz.sortW 4 Tryz.isAgg123 Tryz.sizeOf123 srcCells (fun _ => rfl) (fun s => one_src s) cmpS swo_cmp 132 #[] g 0 cap (L.map asS).toArray w (enters_of Tryz.func132 (by kernel_rfl) rfl) hC hH hgl (by rw [hsz]; omega)
    rw [hsz] at key
    refine key.mono ?_
    rintro e w' ⟨rfl, d', q, os, hP, hS, rfl⟩
    refine ⟨rfl, ?_⟩
    have hsz' : d'.size = n := by rw [hP.1, hsz]
    have hperm : d'.toList.Perm (L.map asS) := by
      have := hP.2.2
      rw [← hsz'] at this
      have t1 : d'.toList.take n = d'.toList := List.take_of_length_le (by simp [hsz'])
      have t2 : (L.map asS).take n = L.map asS := List.take_of_length_le (by simp [hn])
      simp [hsz'] at this
      rwa [t1, t2] at this
    obtain ⟨L', hL'⟩ : ∃ L' : List Wt, d'.toList = L'.map asS := by
      refine ⟨d'.toList.map fun s => ⟨s.x, s.y, ⟨s.g, s.p⟩⟩, ?_⟩
      rw [List.map_map]
      exact (List.map_id'' (fun s => rfl) _).symm
    have hd : d' = (L'.map asS).toArray := by rw [← hL']
    subst hd
    have hlen : L'.length = n := by simpa using hsz'
    refine ⟨L', ?_, ?_, ⟨by rw [srcs_len]; simp [hlen], .inr ⟨g, cap, _, rfl, hbase, sorted_get _ hb, h1, h2, by simp [Sort.putCells, h3], ?_⟩⟩, sorted_grown _⟩
    · have := hperm.map fun s : Src => (⟨s.x, s.y, ⟨s.g, s.p⟩⟩ : Wt)
      simpa [List.map_map, Function.comp_def, asS] using this
    · rw [List.pairwise_iff_getElem]
      intro i j hi hj hij hlt
      have := hS i j (Nat.zero_le _) hij (by omega)
      rw [getElem!_pos _ _ (by simpa using hj), getElem!_pos _ _ (by simpa using hi)] at this
      simp only [ltOf, decide_eq_false_iff_not, cmp_lt, List.getElem_toArray, List.getElem_map] at this
      exact this hlt
    · have := take_put cur (L'.map asS) (by simp [hlen]; rw [h3]; exact Nat.mul_le_mul_right _ h1)
      simpa [hlen] using this
end Go.Proofs.YtcihiglpahhboaaGreatDoor
