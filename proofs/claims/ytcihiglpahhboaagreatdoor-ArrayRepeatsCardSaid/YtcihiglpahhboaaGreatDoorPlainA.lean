/- Words for memory: a slice that reads as a list; a block known whole; append onto a row of the call's own. The lemmas of the kit's pages extra-words and extra-small, which are offered there for copying, set into this claim's namespace; and small lemmas of this claim. Plain mathematics of sources on a lattice: complex integers, powers of i, sources, their errors, paths, pressures. No program in sight. Plain: phases counted to the base 4; scores; the best phases. No program in sight. Plain: the weights of sources: the places that have a sum, in order. No program in sight. Plain: sources that are repeated, turned, shifted, mirrored, steered; and their pressures. No program in sight. Plain: the harmonics of four complex integers, and back. No program in sight. Plain: sums at places of sources that are turned, reversed, taken apart; symmetries. No program in sight. -/
import Derived.Below
import Derived.Laws.OwnMore
import Derived.Deep.AppendLies
import Derived.Deep.Draws
import Derived.Laws.Rows
import Derived.Maps.AppendAt
import Derived.RegionTactic
import Derived.OwnWalk
import Derived.ChangeSame
import Derived.IntWalk
namespace Go.Proofs.YtcihiglpahhboaaGreatDoor
open Go.RowKit
set_option maxRecDepth 100000

theorem hide {p : Prop} (h : p) : Hid p := h

theorem block_of_add (a : Addr) (n : Nat) : (a.add n).block = a.block := by unfold Addr.add; split <;> rfl
theorem add_of_add (a : Addr) (i j : Nat) : (a.add i).add j = a.add (i + j) := by
  unfold Addr.add
  by_cases hi : i = 0 <;> by_cases hj : j = 0 <;> simp [hi, hj, Nat.add_assoc]

def Reads (w : World) (B size : Nat) (A : Option Addr) (n : Nat) (xs : List Value) : Prop :=
  xs.length = n * size ∧ (0 < n → ∃ ad, A = some ad ∧ ad.block < B ∧ ∀ j u, xs[j]? = some u → w.cell? (ad.add j) = some u)

section
variable {w w' : World} {B B' size n : Nat} {A : Option Addr} {xs : List Value}
theorem Reads.none_ : Reads w B size A 0 [] := ⟨by simp, fun h => absurd h (by omega)⟩
theorem Reads.at_ {k : Nat} (h : Reads w B 1 A n xs) (hk : k < n) : ∃ ad u, A = some ad ∧ ad.block < B ∧ xs[k]? = some u ∧ w.cell? (ad.add k) = some u := by
  obtain ⟨ad, e, hb, hc⟩ := h.2 (by omega)
  have hl : k < xs.length := by have := h.1; omega
  exact ⟨ad, xs[k], e, hb, List.getElem?_eq_getElem hl, hc k _ (List.getElem?_eq_getElem hl)⟩
theorem Reads.keep (h : Reads w B size A n xs) (hk : ∀ p : Addr, p.block < B → w'.cell? p = w.cell? p) : Reads w' B size A n xs :=
  ⟨h.1, fun hn => by
    obtain ⟨ad, e, hb, hc⟩ := h.2 hn
    exact ⟨ad, e, hb, fun j u hu => (hk _ (by rw [block_of_add]; exact hb)).trans (hc j u hu)⟩⟩
theorem Reads.more (h : Reads w B size A n xs) (hB : B ≤ B') : Reads w B' size A n xs :=
  ⟨h.1, fun hn => by
    obtain ⟨ad, e, hb, hc⟩ := h.2 hn
    exact ⟨ad, e, by omega, hc⟩⟩
theorem Reads.below (h : Reads w B size A n xs) (hb : Below B w w') : Reads w' B size A n xs := h.keep fun _ hp => hb.cell hp
theorem Reads.drew (h : Reads w B size A n xs) : Reads w.drew B size A n xs := h
theorem Reads.drewN (h : Reads w B size A n xs) (k : Nat) : Reads (w.drewN k) B size A n xs := h
theorem Reads.alloc (h : Reads w B size A n xs) (hB : B ≤ w.heap.size) (o : Obj) : Reads (w.alloc o) B size A n xs := h.keep fun p hp => World.cell?_alloc_lt w o p (by omega)
theorem Reads.setCell (h : Reads w B size A n xs) {p : Addr} (hB : B ≤ p.block) (u : Value) : Reads (w.setCell p u) B size A n xs :=
  h.keep fun q hq => World.cell?_setCell_other w p q u (fun e => by subst e; omega)
theorem Reads.grown (h : Reads w B size A n xs) {row : Option Nat} (hg : w.grownBy w' row) (hB : B ≤ w.heap.size) (hr : ∀ g, row = some g → B ≤ g) : Reads w' B size A n xs :=
  h.keep fun p hp => World.cell?_of_block (hg.block p.block (by omega) (fun e => by have := hr _ e.symm; omega))
theorem Reads.cut (h : Reads w B size A n xs) {k cap : Nat} (hk : k ≤ n) (hc : n ≤ cap) :
    Reads w B size (if cap = k then A else A.map (·.add (k * size))) (n - k) (xs.drop (k * size)) := by
  refine ⟨by rw [List.length_drop, h.1, Nat.sub_mul], fun hn => ?_⟩
  obtain ⟨ad, rfl, hb, hcell⟩ := h.2 (by omega)
  rw [if_neg (by omega)]
  refine ⟨ad.add (k * size), rfl, by rw [block_of_add]; exact hb, fun j u hu => ?_⟩
  rw [add_of_add]
  exact hcell _ u (by rw [← hu, List.getElem?_drop])
theorem Reads.of_own {base : Nat} {e : TypeId} {c : Nat} (h : w.ownsRow base e size (.slice A n c) n xs) : Reads w w.heap.size size A n xs := by
  refine ⟨h.1, fun hn => ?_⟩
  obtain ⟨g, cap, hv, _, hlt⟩ := h.form hn
  have hA : A = some ⟨g, 0, none⟩ := by injection hv
  subst hA
  exact ⟨_, rfl, hlt, h.cells (g := g) rfl⟩
end

def Blk (w : World) (g : Nat) (t : TypeId) (cs : Array Value) : Prop := w.heap[g]? = some (.cells cs t (0, 0))

section
variable {w w' : World} {g : Nat} {t : TypeId} {cs : Array Value}
theorem Blk.lt (h : Blk w g t cs) : g < w.heap.size := by
  rcases Nat.lt_or_ge g w.heap.size with hlt | hge
  · exact hlt
  · unfold Blk at h; rw [Array.getElem?_eq_none hge] at h; cases h
theorem Blk.cell (h : Blk w g t cs) (i : Nat) : w.cell? ⟨g, i, none⟩ = cs[i]? := cell_of_row w g i cs t (0, 0) h
theorem Blk.frozen (h : Blk w g t cs) (i : Nat) : w.frozen? ⟨g, i, none⟩ = false := by
  unfold Blk at h
  simp [World.frozen?, h]
theorem Blk.new (w : World) (t : TypeId) (cs : Array Value) : Blk (w.alloc (.cells cs t)) w.heap.size t cs := heap_alloc_new w _
theorem Blk.drew (h : Blk w g t cs) : Blk w.drew g t cs := h
theorem Blk.drewN (h : Blk w g t cs) (n : Nat) : Blk (w.drewN n) g t cs := h
theorem Blk.alloc (h : Blk w g t cs) (o : Obj) : Blk (w.alloc o) g t cs := (Below.heap_alloc w o g h.lt).trans h
theorem Blk.set_ (h : Blk w g t cs) (i : Nat) (u : Value) : Blk (w.setCell ⟨g, i, none⟩ u) g t (cs.setIfInBounds i u) := by
  unfold Blk at h ⊢
  simp [World.setCell, Array.getElem?_modify, h]
theorem Blk.far (h : Blk w g t cs) {p : Addr} (hp : g ≠ p.block) (u : Value) : Blk (w.setCell p u) g t cs := (Below.heap_setCell w p u g hp).trans h
theorem Blk.below {B : Nat} (h : Blk w g t cs) (hb : Below B w w') (hg : g < B) : Blk w' g t cs := (hb.block g hg).trans h
theorem Blk.grown {row : Option Nat} (h : Blk w g t cs) (hb : w.grownBy w' row) (hg : some g ≠ row) : Blk w' g t cs := (hb.block g h.lt hg).trans h
theorem Blk.ne_ {g' : Nat} {t' : TypeId} {cs' : Array Value} (h : Blk w g t cs) (h' : Blk w g' t' cs') (hne : t ≠ t') : g ≠ g' := by
  rintro rfl
  unfold Blk at h h'
  rw [h] at h'
  injection h' with h'
  injection h' with _ ht
  exact hne ht
theorem own_blk_ne {base : Nat} {e : TypeId} {size n : Nat} {v : Value} {xs : List Value} (h : w.ownsRow base e size v n xs) (hg : Blk w g t cs) (hne : e ≠ t) : v.ownBlock ≠ some g := by
  rcases h.2 with ⟨rfl, _⟩ | ⟨g', cap, cur, rfl, _, hh, _⟩
  · simp [Value.ownBlock]
  · intro he
    have : g' = g := by simpa [Value.ownBlock] using he
    subst this
    exact Blk.ne_ (t := e) hh hg hne rfl
end

section
variable {P : Program} (w : World)

theorem run_append_of_nil (base : Nat) (t ty e : TypeId) (i : TypeInfo) (size : Nat) (ht : P.underlying t = some (.slice e)) (hi : P.info? e = some i)
    (v : Value) (n : Nat) (xs : List Value) (hown : w.ownsRow base e size v n xs) (c : Nat) : (Builtin.append_ #[t, t] ty #[v, .slice none 0 c]).run P w = .ok v w := by
  rcases hown.2 with ⟨rfl, rfl⟩ | ⟨g, cap, cur, rfl, _, _, hnc, _⟩
  · simp [Builtin.append_, run_underlying ht, sizeOf, typeInfo, hi, Builtin.lenOf, Builtin.firstCells]
  · simp [Builtin.append_, run_underlying ht, sizeOf, typeInfo, hi, Builtin.lenOf, Builtin.firstCells, hnc, storeCells]

theorem run_append_any (base : Nat) (t ty e : TypeId) (i : TypeInfo) (z : Value) (size bytes : Nat) (ht : P.underlying t = some (.slice e)) (hi : P.info? e = some i) (hz : i.zero = some z)
    (hsize : i.size = size) (hby : i.bytes = bytes) (hzs : z.cells.size = size) (hsz : 0 < size)
    (v : Value) (n : Nat) (xs : List Value) (hown : w.ownsRow base e size v n xs)
    (B : Nat) (A : Option Addr) (m c : Nat) (news : List Value) (hr : Reads w B size A m news) (h1 : ∀ u ∈ news, u.oneCell' = true)
    (h63 : n + m ≤ maxLen) (hbytes : (n + m) * bytes ≤ 140737488355328) (hbase : base ≤ w.heap.size) :
    ∃ v' w', (Builtin.append_ #[t, t] ty #[v, .slice A m c]).run P w = .ok v' w' ∧ w'.ownsRow base e size v' (n + m) (xs ++ news) ∧ w.grownBy w' v.ownBlock ∧
      (v'.ownBlock = v.ownBlock ∨ v'.ownBlock = some w.heap.size) := by
  rcases A with _ | ad
  · have hm : m = 0 := by
      rcases Nat.eq_zero_or_pos m with h0 | h0
      · exact h0
      · obtain ⟨ad, h, _⟩ := hr.2 h0
        cases h
    subst hm
    have hn : news = [] := List.eq_nil_of_length_eq_zero (by simpa using hr.1)
    subst hn
    exact ⟨v, w, run_append_of_nil w base t ty e i size ht hi v n xs hown c, by simpa using hown, World.grownBy.refl w _, .inl rfl⟩
  · have hcells : ∀ j u, news[j]? = some u → w.cell? (ad.add j) = some u := by
      intro j u hu
      rcases Nat.eq_zero_or_pos m with h0 | h0
      · subst h0
        have hn : news = [] := List.eq_nil_of_length_eq_zero (by simpa using hr.1)
        subst hn
        simp at hu
      · obtain ⟨ad', h, _, hc⟩ := hr.2 h0
        injection h with h
        subst h
        exact hc j u hu
    obtain ⟨v', w', hrun, h2, h3, _, h5⟩ := run_append_own_at (P := P) w base t ty e i z size bytes ht hi hz hsize hby hzs hsz v n xs hown ad m c news hr.1 hcells h1 h63 hbytes hbase
    exact ⟨v', w', hrun, h2, h3, h5⟩

theorem wp_append_any {o : Oper} {a : Act} {K : Act → World → Prop} {Q : Exit → Act → World → Prop} (s x : Operand) (t : TypeId)
    (ho : o.op = .call { callee := .builtin .append, args := #[s, x], argTypes := #[t, t] })
    (base : Nat) (e : TypeId) (i : TypeInfo) (z : Value) (size bytes : Nat) (ht : P.underlying t = some (.slice e)) (hi : P.info? e = some i) (hz : i.zero = some z)
    (hsize : i.size = size) (hby : i.bytes = bytes) (hzs : z.cells.size = size) (hsz : 0 < size)
    (v : Value) (n : Nat) (xs : List Value) (hs : a.eval s = v) (hown : w.ownsRow base e size v n xs)
    (B : Nat) (A : Option Addr) (m c : Nat) (news : List Value) (hx : a.eval x = .slice A m c) (hr : Reads w B size A m news) (h1 : ∀ u ∈ news, u.oneCell' = true)
    (h63 : n + m ≤ maxLen) (hbytes : (n + m) * bytes ≤ 140737488355328) (hbase : base ≤ w.heap.size)
    (h : ∀ v' w', w'.ownsRow base e size v' (n + m) (xs ++ news) → w.grownBy w' v.ownBlock → (v'.ownBlock = v.ownBlock ∨ v'.ownBlock = some w.heap.size) → K (a.put o.dst v') w') : o.wp P a w K Q := by
  obtain ⟨v', w', hrun, h2, h3, h4⟩ := run_append_any (P := P) w base t o.type e i z size bytes ht hi hz hsize hby hzs hsz v n xs hown B A m c news hr h1 h63 hbytes hbase
  unfold Oper.wp execOp
  simp only [ho, resolve, invoke, builtin, Sem.run_bind, Sem.run_pure, Result.andThen_ok, List.map_toArray, List.map_cons, List.map_nil, hs, hx, hrun]
  exact h v' w' h2 h3 h4

theorem wpList_append_any {ops : Array Oper} {rest : List Oper} {o : Oper} {a : Act} {Q : Exit → Act → World → Prop} (hgd : o.guard = none) (s x : Operand) (t : TypeId)
    (ho : o.op = .call { callee := .builtin .append, args := #[s, x], argTypes := #[t, t] })
    (base : Nat) (e : TypeId) (i : TypeInfo) (z : Value) (size bytes : Nat) (ht : P.underlying t = some (.slice e)) (hi : P.info? e = some i) (hz : i.zero = some z)
    (hsize : i.size = size) (hby : i.bytes = bytes) (hzs : z.cells.size = size) (hsz : 0 < size)
    (v : Value) (n : Nat) (xs : List Value) (hs : a.eval s = v) (hown : w.ownsRow base e size v n xs)
    (B : Nat) (A : Option Addr) (m c : Nat) (news : List Value) (hx : a.eval x = .slice A m c) (hr : Reads w B size A m news) (h1 : ∀ u ∈ news, u.oneCell' = true)
    (h63 : n + m ≤ maxLen) (hbytes : (n + m) * bytes ≤ 140737488355328) (hbase : base ≤ w.heap.size)
    (h : ∀ v' w', w'.ownsRow base e size v' (n + m) (xs ++ news) → w.grownBy w' v.ownBlock → (v'.ownBlock = v.ownBlock ∨ v'.ownBlock = some w.heap.size) → wpList P ops Q rest (a.put o.dst v') w') : wpList P ops Q (o :: rest) a w :=
  wpList_plain hgd fun _ hK => wp_append_any w s x t ho base e i z size bytes ht hi hz hsize hby hzs hsz v n xs hs hown B A m c news hx hr h1 h63 hbytes hbase fun v' w' h2 h3 h4 => hK _ _ (h v' w' h2 h3 h4)

theorem step_append_any {ops : Array Oper} {o : Oper} {a : Act} {K : Act → World → Prop} {Q : Exit → Act → World → Prop} {E : Prop} (hgd : o.guard = none) (s x : Operand) (t : TypeId)
    (ho : o.op = .call { callee := .builtin .append, args := #[s, x], argTypes := #[t, t] })
    (base : Nat) (e : TypeId) (i : TypeInfo) (z : Value) (size bytes : Nat) (ht : P.underlying t = some (.slice e)) (hi : P.info? e = some i) (hz : i.zero = some z)
    (hsize : i.size = size) (hby : i.bytes = bytes) (hzs : z.cells.size = size) (hsz : 0 < size)
    (v : Value) (n : Nat) (xs : List Value) (hs : a.eval s = v) (hown : w.ownsRow base e size v n xs)
    (B : Nat) (A : Option Addr) (m c : Nat) (news : List Value) (hx : a.eval x = .slice A m c) (hr : Reads w B size A m news) (h1 : ∀ u ∈ news, u.oneCell' = true)
    (h63 : n + m ≤ maxLen) (hbytes : (n + m) * bytes ≤ 140737488355328) (hbase : base ≤ w.heap.size)
    (h : ∀ v' w', w'.ownsRow base e size v' (n + m) (xs ++ news) → w.grownBy w' v.ownBlock → (v'.ownBlock = v.ownBlock ∨ v'.ownBlock = some w.heap.size) → K (a.put o.dst v') w') :
    if Region.wanted o (yielded ops a.tmps) = true then Oper.wp P o a w K Q else E := by
  have hw : Region.wanted o (yielded ops a.tmps) = true := by simp [Region.wanted, hgd]
  rw [if_pos hw]
  exact wp_append_any w s x t ho base e i z size bytes ht hi hz hsize hby hzs hsz v n xs hs hown B A m c news hx hr h1 h63 hbytes hbase h
end

theorem below_set {B : Nat} {a w : World} {b i : Nat} (h : Below B a w) (hb : B ≤ b) (u : Value) : Below B a (w.setCell ⟨b, i, none⟩ u) := h.setCell (p := ⟨b, i, none⟩) hb u
theorem below_new {B : Nat} {a w : World} (h : Below B a w) (hB : B ≤ a.heap.size) (o : Obj) : Below B a (w.alloc o) := h.alloc (Nat.le_trans hB h.size) o
theorem below_step {B C : Nat} {a w v : World} (h : Below B a w) (k : Below C w v) (hC : B ≤ C) : Below B a v := h.trans (k.mono hC)
theorem below_drewN {B : Nat} {a w : World} (h : Below B a w) (n : Nat) : Below B a (w.drewN n) := ⟨h.os, h.tape, h.output, h.size, h.block⟩

theorem cells_new (w : World) (l : List Value) (t : TypeId) : ∀ j u, l[j]? = some u → (w.alloc (.cells l.toArray t)).cell? ⟨w.heap.size, j, none⟩ = some u := by
  intro j u h
  rw [World.cell?_alloc_new]
  simpa using h
theorem cell_new1 (w : World) (v : Value) (t : TypeId) : ∀ j u, [v][j]? = some u → (w.alloc (.cells #[v] t)).cell? ⟨w.heap.size, j, none⟩ = some u := cells_new w [v] t
theorem one_int (x : Int) : ∀ u ∈ [Value.int .i64 x], u.oneCell' = true := by intro u hu; simp at hu; subst hu; rfl
theorem one_str (x : ByteArray) : ∀ u ∈ [Value.string x], u.oneCell' = true := by intro u hu; simp at hu; subst hu; rfl
theorem le_alloc {B : Nat} {w : World} (h : B ≤ w.heap.size) (o : Obj) : B ≤ (w.alloc o).heap.size := by simp; omega

theorem _root_.Go.World.ownsRow.weaken {w : World} {base base' : Nat} {e : TypeId} {size n : Nat} {v : Value} {xs : List Value} (h : w.ownsRow base e size v n xs) (hb : base' ≤ base) : w.ownsRow base' e size v n xs := by
  obtain ⟨h1, h2⟩ := h
  refine ⟨h1, ?_⟩
  rcases h2 with h2 | ⟨g, cap, cur, hv, hg, r⟩
  · exact .inl h2
  · exact .inr ⟨g, cap, cur, hv, by omega, r⟩
theorem row_below {w w' : World} {base : Nat} {e : TypeId} {size n : Nat} {v : Value} {xs : List Value} (h : w.ownsRow base e size v n xs) (hb : Below w.heap.size w w') : w'.ownsRow base e size v n xs := by
  obtain ⟨h1, h2⟩ := h
  refine ⟨h1, ?_⟩
  rcases h2 with h2 | ⟨g, cap, cur, hv, hg, hh, r⟩
  · exact .inl h2
  · exact .inr ⟨g, cap, cur, hv, hg, (hb.block g (Array.getElem?_eq_some_iff.1 hh).1).trans hh, r⟩

/-! ### append of one element onto a row of the call's own -/
theorem wpList_push {P : Program} {ops : Array Oper} {rest : List Oper} {o : Oper} {a : Act} {Q : Exit → Act → World → Prop} (w : World) (hgd : o.guard = none) (s x : Operand) (t : TypeId)
    (ho : o.op = .call { callee := .builtin .append, args := #[s, x], argTypes := #[t, t] })
    (base : Nat) (e : TypeId) (z : Value) (size bytes : Nat) (ht : P.underlying t = some (.slice e)) (hinfo : (P.info? e).map (fun i => (i.zero, i.size, i.bytes)) = some (some z, size, bytes))
    (hzs : z.cells.size = size) (hsz : 0 < size)
    (v : Value) (n : Nat) (xs : List Value) (hs : a.eval s = v) (hown : w.ownsRow base e size v n xs)
    (g : Nat) (news : List Value) (hx : a.eval x = .slice (some ⟨g, 0, none⟩) 1 1) (hn : news.length = size) (hc : ∀ j u, news[j]? = some u → w.cell? ⟨g, j, none⟩ = some u) (h1 : ∀ u ∈ news, u.oneCell' = true)
    (h63 : n + 1 ≤ maxLen) (hbytes : (n + 1) * bytes ≤ 140737488355328) (hbase : base ≤ w.heap.size)
    (h : ∀ v' w', w'.ownsRow base e size v' (n + 1) (xs ++ news) → Below base w w' → wpList P ops Q rest (a.put o.dst v') w') : wpList P ops Q (o :: rest) a w := by
  obtain ⟨i, hi, hz, hsize, hby⟩ := info_parts hinfo
  refine wpList_append_any w hgd s x t ho base e i z size bytes ht hi hz hsize hby hzs hsz v n xs hs hown (g + 1) (some ⟨g, 0, none⟩) 1 1 news hx ⟨by omega, fun _ => ⟨_, rfl, by simp, fun j u hu => ?_⟩⟩ h1 h63 hbytes hbase
    fun v' w' h2 h3 _ => h v' w' h2 ((Below.refl base w).grown h3 hbase fun k hk => (hown.lt k hk).1)
  have : (⟨g, 0, none⟩ : Addr).add j = ⟨g, j, none⟩ := by unfold Addr.add; split <;> simp_all
  rw [this]
  exact hc j u hu

/-! ### Boxes: what a function lays of its parameters (sizes as inequalities: an equation would be a rule of the walk) -/
theorem box1 (w : World) (c : Array Value) (t : TypeId) :
    ∃ w1, w1 = w.alloc (.cells c t) ∧ Below w.heap.size w w1 ∧ w.heap.size + 1 ≤ w1.heap.size ∧ Blk w1 w.heap.size t c :=
  ⟨_, rfl, (Below.refl _ _).alloc (Nat.le_refl _) _, by simp, Blk.new _ _ _⟩
theorem box2 (w : World) (c d : Array Value) (t u : TypeId) :
    ∃ w1, w1 = (w.alloc (.cells c t)).alloc (.cells d u) ∧ Below w.heap.size w w1 ∧ w.heap.size + 2 ≤ w1.heap.size ∧ Blk w1 w.heap.size t c ∧ Blk w1 (w.heap.size + 1) u d := by
  refine ⟨_, rfl, ((Below.refl _ _).alloc (Nat.le_refl _) _).alloc (by simp) _, by simp, (Blk.new _ _ _).alloc _, ?_⟩
  have h := Blk.new (w.alloc (.cells c t)) u d
  rwa [World.size_alloc] at h
theorem box3 (w : World) (c d e : Array Value) (t u v : TypeId) :
    ∃ w1, w1 = ((w.alloc (.cells c t)).alloc (.cells d u)).alloc (.cells e v) ∧ Below w.heap.size w w1 ∧ w.heap.size + 3 ≤ w1.heap.size ∧ Blk w1 w.heap.size t c ∧ Blk w1 (w.heap.size + 1) u d ∧ Blk w1 (w.heap.size + 2) v e := by
  obtain ⟨w1, e1, h1, h2, h3, h4⟩ := box2 w c d t u
  have hs : w1.heap.size = w.heap.size + 2 := by rw [e1]; simp
  refine ⟨w1.alloc (.cells e v), by rw [e1], h1.alloc (by omega) _, by simp; omega, h3.alloc _, h4.alloc _, ?_⟩
  have h := Blk.new w1 v e
  rwa [hs] at h
theorem box4 (w : World) (c d e f : Array Value) (t u v x : TypeId) :
    ∃ w1, w1 = (((w.alloc (.cells c t)).alloc (.cells d u)).alloc (.cells e v)).alloc (.cells f x) ∧ Below w.heap.size w w1 ∧ w.heap.size + 4 ≤ w1.heap.size ∧ Blk w1 w.heap.size t c ∧ Blk w1 (w.heap.size + 1) u d ∧ Blk w1 (w.heap.size + 2) v e ∧ Blk w1 (w.heap.size + 3) x f := by
  obtain ⟨w1, e1, h1, h2, h3, h4, h5⟩ := box3 w c d e t u v
  have hs : w1.heap.size = w.heap.size + 3 := by rw [e1]; simp
  refine ⟨w1.alloc (.cells f x), by rw [e1], h1.alloc (by omega) _, by simp; omega, h3.alloc _, h4.alloc _, h5.alloc _, ?_⟩
  have h := Blk.new w1 x f
  rwa [hs] at h
end Go.Proofs.YtcihiglpahhboaaGreatDoor

namespace Go.Proofs.YtcihiglpahhboaaGreatDoor
open Go.RowKit
set_option maxRecDepth 100000

/-- The error of a number that is to lie from lo to hi. -/
def rng (n lo hi : Int) : Int := if n < lo ∨ hi < n then 3 else 0
/-- The first number that is not 0. -/
def fnz : List Int → Int
  | [] => 0
  | a :: l => if a = 0 then fnz l else a
theorem fnz_zero {l : List Int} : fnz l = 0 ↔ ∀ x ∈ l, x = 0 := by
  induction l with
  | nil => simp [fnz]
  | cons a l ih => unfold fnz; split <;> simp_all
theorem rng_zero {n lo hi : Int} : rng n lo hi = 0 ↔ lo ≤ n ∧ n ≤ hi := by unfold rng; split <;> omega
/-- An absolute value. -/
def ab (n : Int) : Int := max n (-n)
/-- A number of 64 bits. -/
def wr (n : Int) : Int := IntKind.i64.wrap n
theorem wr_def (n : Int) : wr n = (n + 9223372036854775808) % 18446744073709551616 - 9223372036854775808 := by
  unfold wr IntKind.wrap
  simp [IntKind.signed, IntKind.bits]
  omega
theorem wr_in {n : Int} (h : -9223372036854775808 ≤ n ∧ n ≤ 9223372036854775807) : wr n = n := by rw [wr_def]; omega
theorem wr_add (a b : Int) : wr (wr a + wr b) = wr (a + b) := by simp only [wr_def]; omega
theorem wr_sub (a b : Int) : wr (wr a - wr b) = wr (a - b) := by simp only [wr_def]; omega

/-- A complex integer. -/
structure G where
  re : Int
  im : Int
instance : DecidableEq G := fun a b => decidable_of_iff (a.re = b.re ∧ a.im = b.im) (by cases a; cases b; simp)
theorem G.ext' {a b : G} (h1 : a.re = b.re) (h2 : a.im = b.im) : a = b := by cases a; cases b; simp_all
namespace G
def zero : G := ⟨0, 0⟩
def one : G := ⟨1, 0⟩
def add (a b : G) : G := ⟨a.re + b.re, a.im + b.im⟩
def mul (a b : G) : G := ⟨a.re * b.re - a.im * b.im, a.re * b.im + a.im * b.re⟩
def sub (a b : G) : G := ⟨a.re - b.re, a.im - b.im⟩
def conj (a : G) : G := ⟨a.re, -a.im⟩
def sq (a : G) : Int := a.re * a.re + a.im * a.im
/-- Its parts as numbers of 64 bits. -/
def w (a : G) : G := ⟨wr a.re, wr a.im⟩
/-- The sum of the absolute values of its parts. -/
def nrm (a : G) : Nat := a.re.natAbs + a.im.natAbs
theorem nrm_add (a b : G) : (a.add b).nrm ≤ a.nrm + b.nrm := by simp only [nrm, add]; omega
theorem nrm_mul (a b : G) : (a.mul b).nrm ≤ a.nrm * b.nrm := by
  have h1 := Int.natAbs_mul a.re b.re
  have h2 := Int.natAbs_mul a.im b.im
  have h3 := Int.natAbs_mul a.re b.im
  have h4 := Int.natAbs_mul a.im b.re
  have h5 : (a.re.natAbs + a.im.natAbs) * (b.re.natAbs + b.im.natAbs) = a.re.natAbs * b.re.natAbs + a.im.natAbs * b.im.natAbs + (a.re.natAbs * b.im.natAbs + a.im.natAbs * b.re.natAbs) := by grind
  simp only [nrm, mul]
  rw [h5, ← h1, ← h2, ← h3, ← h4]
  omega
theorem w_in {a : G} (h : a.nrm ≤ 9223372036854775807) : a.w = a := by
  unfold nrm at h
  exact G.ext' (wr_in (by omega)) (wr_in (by omega))
theorem w_add (a b : G) : (a.w.add b.w).w = (a.add b).w := G.ext' (wr_add _ _) (wr_add _ _)
theorem nrm_le {a : G} {n : Nat} (h : a.nrm ≤ n) : -(n : Int) ≤ a.re ∧ a.re ≤ n ∧ -(n : Int) ≤ a.im ∧ a.im ≤ n := by unfold nrm at h; omega
theorem sq_nn (a : G) : 0 ≤ a.sq := by
  have h1 : 0 ≤ a.re * a.re := by rcases Int.le_total 0 a.re with h | h; exact Int.mul_nonneg h h; exact Int.mul_nonneg_of_nonpos_of_nonpos h h
  have h2 : 0 ≤ a.im * a.im := by rcases Int.le_total 0 a.im with h | h; exact Int.mul_nonneg h h; exact Int.mul_nonneg_of_nonpos_of_nonpos h h
  unfold sq; omega
theorem sq_zero {a : G} (h : a.sq = 0) : a = zero := by
  have h1 : 0 ≤ a.re * a.re := by rcases Int.le_total 0 a.re with h | h; exact Int.mul_nonneg h h; exact Int.mul_nonneg_of_nonpos_of_nonpos h h
  have h2 : 0 ≤ a.im * a.im := by rcases Int.le_total 0 a.im with h | h; exact Int.mul_nonneg h h; exact Int.mul_nonneg_of_nonpos_of_nonpos h h
  unfold sq at h
  have e1 : a.re * a.re = 0 := by omega
  have e2 : a.im * a.im = 0 := by omega
  have e1 := Int.mul_eq_zero.1 e1
  have e2 := Int.mul_eq_zero.1 e2
  exact G.ext' (by rcases e1 with e | e <;> exact e) (by rcases e2 with e | e <;> exact e)
end G

/-! ### Powers of i -/
/-- i to the power k. -/
def turnG (k : Nat) : G := if k % 4 = 0 then ⟨1, 0⟩ else if k % 4 = 1 then ⟨0, 1⟩ else if k % 4 = 2 then ⟨-1, 0⟩ else ⟨0, -1⟩
theorem turn_succ (k : Nat) : turnG (k + 1) = (⟨0, 1⟩ : G).mul (turnG k) := by
  have : k % 4 = 0 ∨ k % 4 = 1 ∨ k % 4 = 2 ∨ k % 4 = 3 := by omega
  unfold turnG
  rcases this with h | h | h | h
  · rw [h, show (k + 1) % 4 = 1 by omega]; rfl
  · rw [h, show (k + 1) % 4 = 2 by omega]; rfl
  · rw [h, show (k + 1) % 4 = 3 by omega]; rfl
  · rw [h, show (k + 1) % 4 = 0 by omega]; rfl
theorem turn_nrm (k : Nat) : (turnG k).nrm = 1 := by unfold turnG; repeat' split <;> try rfl
theorem turn_mod (k : Nat) : turnG (k % 4) = turnG k := by unfold turnG; rw [Nat.mod_mod]
/-- One turn more. -/
theorem turn_step (k : Nat) (a : G) : (turnG (k + 1)).mul a = ⟨-((turnG k).mul a).im, ((turnG k).mul a).re⟩ := by
  rw [turn_succ]
  generalize turnG k = t
  apply G.ext' <;> simp only [G.mul] <;> grind
theorem turn_zero (a : G) : (turnG 0).mul a = a := by apply G.ext' <;> simp [turnG, G.mul]
theorem turn_mul_nrm (k : Nat) (a : G) : ((turnG k).mul a).nrm = a.nrm := by
  have h : turnG k = ⟨1, 0⟩ ∨ turnG k = ⟨0, 1⟩ ∨ turnG k = ⟨-1, 0⟩ ∨ turnG k = ⟨0, -1⟩ := by
    unfold turnG
    split
    · exact .inl rfl
    · split
      · exact .inr (.inl rfl)
      · split
        · exact .inr (.inr (.inl rfl))
        · exact .inr (.inr (.inr rfl))
  rcases h with e | e | e | e <;> rw [e] <;> simp [G.mul, G.nrm] <;> omega
/-- i to the power n, times. -/
def turnI (n : Int) : G := turnG (n % 4).toNat
theorem turnI_nat (k : Nat) : turnI (k : Int) = turnG k := by
  unfold turnI
  rw [show ((k : Int) % 4).toNat = k % 4 by omega, turn_mod]
theorem turnI_add (m n : Int) : turnI (m + n) = (turnI m).mul (turnI n) := by
  have h : ∀ z : Int, ∃ q : Nat, q < 4 ∧ z % 4 = q := fun z => ⟨(z % 4).toNat, by omega, by omega⟩
  obtain ⟨a, ha, ea⟩ := h m
  obtain ⟨b, hb, eb⟩ := h n
  have hc : (m + n) % 4 = ((a + b : Nat) : Int) % 4 := by omega
  unfold turnI
  rw [ea, eb, hc]
  have h1 : a = 0 ∨ a = 1 ∨ a = 2 ∨ a = 3 := by omega
  have h2 : b = 0 ∨ b = 1 ∨ b = 2 ∨ b = 3 := by omega
  rcases h1 with rfl | rfl | rfl | rfl <;> rcases h2 with rfl | rfl | rfl | rfl <;> decide +kernel
theorem turnI_emod (n : Int) : turnI (n % 4) = turnI n := by unfold turnI; rw [Int.emod_emod_of_dvd n (Int.dvd_refl 4)]
theorem turnI_nrm (n : Int) : (turnI n).nrm = 1 := turn_nrm _
theorem turnI_mul_nrm (n : Int) (a : G) : ((turnI n).mul a).nrm = a.nrm := turn_mul_nrm _ a
namespace G
theorem mul_comm (a b : G) : a.mul b = b.mul a := by apply G.ext' <;> simp only [mul] <;> grind
theorem mul_assoc (a b c : G) : (a.mul b).mul c = a.mul (b.mul c) := by apply G.ext' <;> simp only [mul] <;> grind
theorem add_comm (a b : G) : a.add b = b.add a := by apply G.ext' <;> simp only [add] <;> omega
theorem add_assoc (a b c : G) : (a.add b).add c = a.add (b.add c) := by apply G.ext' <;> simp only [add] <;> omega
theorem zero_add (a : G) : zero.add a = a := by apply G.ext' <;> simp [add, zero]
theorem add_zero (a : G) : a.add zero = a := by apply G.ext' <;> simp [add, zero]
theorem mul_add (a b c : G) : a.mul (b.add c) = (a.mul b).add (a.mul c) := by apply G.ext' <;> simp only [mul, add] <;> grind
theorem one_mul (a : G) : one.mul a = a := by apply G.ext' <;> simp [mul, one]
theorem mul_zero (a : G) : a.mul zero = zero := by apply G.ext' <;> simp [mul, zero]
theorem sq_mul (a b : G) : (a.mul b).sq = a.sq * b.sq := by simp only [sq, mul]; grind
end G
theorem turnI_sq (n : Int) : (turnI n).sq = 1 := by
  unfold turnI turnG
  repeat' split
  all_goals rfl
/-! ### Sources -/
structure Src where
  x : Int
  y : Int
  g : Int
  p : Int
instance : DecidableEq Src := fun a b => decidable_of_iff (a.x = b.x ∧ a.y = b.y ∧ a.g = b.g ∧ a.p = b.p) (by cases a; cases b; simp)
theorem Src.ext' {a b : Src} (h1 : a.x = b.x) (h2 : a.y = b.y) (h3 : a.g = b.g) (h4 : a.p = b.p) : a = b := by cases a; cases b; simp_all
def Src.err (s : Src) : Int := fnz [rng s.x (-100) 100, rng s.y (-100) 100, rng s.g (-100) 100, rng s.p 0 3]
structure Src.Ok (s : Src) : Prop where
  x1 : -100 ≤ s.x
  x2 : s.x ≤ 100
  y1 : -100 ≤ s.y
  y2 : s.y ≤ 100
  g1 : -100 ≤ s.g
  g2 : s.g ≤ 100
  p1 : 0 ≤ s.p
  p2 : s.p ≤ 3
theorem Src.err_iff {s : Src} : s.err = 0 ↔ s.Ok := by
  unfold Src.err
  rw [fnz_zero]
  simp only [List.mem_cons, List.not_mem_nil, or_false, forall_eq_or_imp, forall_eq, rng_zero]
  exact ⟨fun ⟨a, b, c, d⟩ => ⟨a.1, a.2, b.1, b.2, c.1, c.2, d.1, d.2⟩, fun h => ⟨⟨h.x1, h.x2⟩, ⟨h.y1, h.y2⟩, ⟨h.g1, h.g2⟩, h.p1, h.p2⟩⟩
theorem rng_03 (n lo hi : Int) : rng n lo hi = 0 ∨ rng n lo hi = 3 := by unfold rng; split <;> simp
theorem fnz_03 {l : List Int} (h : ∀ x ∈ l, x = 0 ∨ x = 3) : fnz l = 0 ∨ fnz l = 3 := by
  induction l with
  | nil => exact .inl rfl
  | cons a l ih =>
    unfold fnz
    split
    · exact ih fun x hx => h x (by simp [hx])
    · rcases h a (by simp) with e | e
      · omega
      · exact .inr e
theorem Src.err_03 (s : Src) : s.err = 0 ∨ s.err = 3 := fnz_03 fun x hx => by
  simp only [List.mem_cons, List.not_mem_nil, or_false] at hx
  rcases hx with rfl | rfl | rfl | rfl <;> exact rng_03 _ _ _
/-- The error of a list of sources. -/
def lstErr (l : List Src) : Int := if 16 < l.length then 5 else fnz (l.map Src.err)
structure LOk (l : List Src) : Prop where
  len : l.length ≤ 16
  all : ∀ s ∈ l, s.Ok
theorem lst_iff {l : List Src} : lstErr l = 0 ↔ LOk l := by
  unfold lstErr
  constructor
  · intro h
    split at h
    · omega
    · exact ⟨by omega, fun s hs => Src.err_iff.1 (fnz_zero.1 h _ (List.mem_map.2 ⟨s, hs, rfl⟩))⟩
  · rintro ⟨h1, h2⟩
    rw [if_neg (by omega), fnz_zero]
    intro x hx
    obtain ⟨s, hs, rfl⟩ := List.mem_map.1 hx
    exact Src.err_iff.2 (h2 s hs)
theorem lst_ok {l : List Src} (h : lstErr l = 0) : LOk l := lst_iff.1 h
theorem ok_lst {l : List Src} (h : LOk l) : lstErr l = 0 := lst_iff.2 h
/-- The steps of the directions. -/
def stx (k : Nat) : Int := if k = 2 ∨ k = 6 then 0 else if k = 0 ∨ k = 1 ∨ k = 7 then 1 else -1
def sty (k : Nat) : Int := if k = 0 ∨ k = 4 then 0 else if k = 1 ∨ k = 2 ∨ k = 3 then 1 else -1
theorem stx_in (k : Nat) : -1 ≤ stx k ∧ stx k ≤ 1 := by unfold stx; (repeat' split) <;> omega
theorem sty_in (k : Nat) : -1 ≤ sty k ∧ sty k ≤ 1 := by unfold sty; (repeat' split) <;> omega
def pth (s : Src) (k : Nat) : Int := s.x * stx k + s.y * sty k
theorem mul_step {a t : Int} (h : -1 ≤ t ∧ t ≤ 1) : a * t = -a ∨ a * t = 0 ∨ a * t = a := by
  have : t = -1 ∨ t = 0 ∨ t = 1 := by omega
  rcases this with rfl | rfl | rfl
  · left; omega
  · right; left; omega
  · right; right; omega
theorem pth_in {s : Src} (h : s.Ok) (k : Nat) : -200 ≤ pth s k ∧ pth s k ≤ 200 := by
  have a := mul_step (a := s.x) (stx_in k)
  have b := mul_step (a := s.y) (sty_in k)
  have := h.x1; have := h.x2; have := h.y1; have := h.y2
  unfold pth
  omega
/-- What a source sounds in a direction. -/
def snd (s : Src) (k : Nat) : G := (turnI (s.p + pth s k)).mul ⟨s.g, 0⟩
theorem snd_nrm (s : Src) (k : Nat) : (snd s k).nrm = s.g.natAbs := by unfold snd; rw [turnI_mul_nrm]; simp [G.nrm]
/-- The pressure of sources in a direction. -/
def prs (l : List Src) (k : Nat) : G := l.foldl (fun a s => a.add (snd s k)) .zero
theorem prs_snoc (l : List Src) (s : Src) (k : Nat) : prs (l ++ [s]) k = (prs l k).add (snd s k) := by simp [prs]
theorem prs_nrm {l : List Src} (h : ∀ s ∈ l, s.Ok) (k : Nat) : (prs l k).nrm ≤ 100 * l.length := by
  have key : ∀ (l : List Src) (a : G), (∀ s ∈ l, s.Ok) → (l.foldl (fun a s => a.add (snd s k)) a).nrm ≤ a.nrm + 100 * l.length := by
    intro l
    induction l with
    | nil => intro a _; simp
    | cons s l ih =>
      intro a hl
      have h1 := ih (a.add (snd s k)) fun t ht => hl t (by simp [ht])
      have h2 := G.nrm_add a (snd s k)
      have h3 := snd_nrm s k
      have h4 := hl s (by simp)
      have := h4.g1; have := h4.g2
      simp only [List.foldl_cons, List.length_cons]
      omega
  have := key l .zero h
  simpa [prs, G.nrm, G.zero] using this
theorem prs_in {l : List Src} (h : LOk l) (k : Nat) : (prs l k).nrm ≤ 1600 := by have := prs_nrm h.all k; have := h.len; omega
theorem prs_take {l : List Src} {i : Nat} {s : Src} (h : l[i]? = some s) (k : Nat) : prs (l.take (i + 1)) k = (prs (l.take i) k).add (snd s k) := by
  rw [List.take_add_one, h]; exact prs_snoc _ _ _
end Go.Proofs.YtcihiglpahhboaaGreatDoor

namespace Go.Proofs.YtcihiglpahhboaaGreatDoor
open Go.RowKit
set_option maxRecDepth 100000

/-- A source with another phase. -/
def Src.at (s : Src) (p : Int) : Src := ⟨s.x, s.y, s.g, p⟩
/-- Sources whose phases are the digits of a number to the base 4, the highest one first. -/
def ph : List Src → Nat → List Src
  | [], _ => []
  | s :: r, n => s.at ((n / 4 ^ r.length % 4 : Nat) : Int) :: ph r n
theorem ph_len (l : List Src) (n : Nat) : (ph l n).length = l.length := by induction l with | nil => rfl | cons s r ih => simp [ph, ih]
/-- Are all phases 3? -/
def all3 (l : List Src) : Bool := l.all fun s => s.p == 3
/-- The next phases. -/
def incL : List Src → List Src
  | [] => []
  | s :: r => (if all3 r then s.at ((s.p + 1) % 4) else s) :: incL r
theorem incL_len (l : List Src) : (incL l).length = l.length := by induction l with | nil => rfl | cons s r ih => simp [incL, ih]
theorem next_div (M n : Nat) (hM : 0 < M) : (n + 1) / M = if n % M = M - 1 then n / M + 1 else n / M := by
  have h := Nat.div_add_mod n M
  have hlt := Nat.mod_lt n hM
  split
  · rename_i e
    have : n + 1 = M * (n / M + 1) := by rw [Nat.mul_add]; omega
    rw [this, Nat.mul_div_cancel_left _ hM]
  · rename_i e
    have : n + 1 = M * (n / M) + (n % M + 1) := by omega
    have e2 : (n % M + 1) / M = 0 := Nat.div_eq_of_lt (by omega)
    rw [this, Nat.mul_add_div hM, e2, Nat.add_zero]
theorem all3_ph (l : List Src) (n : Nat) : all3 (ph l n) = decide (n % 4 ^ l.length = 4 ^ l.length - 1) := by
  induction l with
  | nil => simp [ph, all3, Nat.mod_one]
  | cons s r ih =>
    have hM : 0 < 4 ^ r.length := Nat.pos_of_ne_zero (by simp)
    simp only [ph, all3, List.all_cons] at *
    rw [ih, List.length_cons, Nat.pow_succ, Nat.mod_mul]
    have h1 := Nat.mod_lt n hM
    have h2 : n / 4 ^ r.length % 4 < 4 := Nat.mod_lt _ (by omega)
    generalize n / 4 ^ r.length % 4 = c at *
    generalize 4 ^ r.length = M at *
    have : c = 0 ∨ c = 1 ∨ c = 2 ∨ c = 3 := by omega
    rw [Bool.eq_iff_iff]
    simp only [Src.at, Bool.and_eq_true, beq_iff_eq, decide_eq_true_eq]
    rcases this with rfl | rfl | rfl | rfl <;> omega
theorem incL_ph (l : List Src) (n : Nat) : incL (ph l n) = ph l (n + 1) := by
  induction l with
  | nil => rfl
  | cons s r ih =>
    have hM : 0 < 4 ^ r.length := Nat.pos_of_ne_zero (by simp)
    simp only [ph, incL]
    rw [ih, all3_ph, next_div _ n hM]
    congr 1
    by_cases h : n % 4 ^ r.length = 4 ^ r.length - 1
    · simp only [h, decide_true, if_true, Src.at]
      congr 1
      omega
    · simp only [h, decide_false, if_false, Src.at, Bool.false_eq_true]
theorem ph_more {l : List Src} {n : Nat} (h : n < 4 ^ l.length) : all3 (ph l n) = decide (n + 1 = 4 ^ l.length) := by
  rw [all3_ph, Nat.mod_eq_of_lt h]
  apply decide_eq_decide.2
  omega
/-- All phases 0. -/
theorem ph_zero (l : List Src) : ph l 0 = l.map fun s => s.at 0 := by induction l with | nil => rfl | cons s r ih => simp [ph, ih]
theorem ph_at {l : List Src} {n i : Nat} {s : Src} (h : l[i]? = some s) : (ph l n)[i]? = some (s.at ((n / 4 ^ (l.length - 1 - i) % 4 : Nat) : Int)) := by
  induction l generalizing i with
  | nil => simp at h
  | cons a r ih =>
    cases i with
    | zero => simp at h; subst h; simp [ph]
    | succ i =>
      simp only [List.getElem?_cons_succ] at h
      simp only [ph, List.getElem?_cons_succ, List.length_cons, ih h]
      congr 6
      omega
/-- Every choice of phases is one of them. -/
theorem ph_all (l l' : List Src) (hl : l'.length = l.length) (hp : ∀ (i : Nat) (s : Src), l'[i]? = some s → 0 ≤ s.p ∧ s.p ≤ 3 ∧ ∃ t, l[i]? = some t ∧ s = t.at s.p) : ∃ n, n < 4 ^ l.length ∧ l' = ph l n := by
  induction l generalizing l' with
  | nil => exact ⟨0, by simp, by simpa [ph] using hl⟩
  | cons a r ih =>
    cases l' with
    | nil => simp at hl
    | cons b r' =>
      obtain ⟨h1, h2, t, ht, he⟩ := hp 0 b (by simp)
      simp at ht
      subst ht
      obtain ⟨n, hn, rfl⟩ := ih r' (by simpa using hl) fun i s hs => hp (i + 1) s (by simpa using hs)
      have hM : 0 < 4 ^ r.length := Nat.pos_of_ne_zero (by simp)
      have ed : (4 ^ r.length * b.p.toNat + n) / 4 ^ r.length = b.p.toNat := by rw [Nat.mul_add_div hM, Nat.div_eq_of_lt hn]; rfl
      have key : ∀ (r : List Src) (n c : Nat) (k : Nat), r.length ≤ k → ph r (4 ^ k * c + n) = ph r n := by
        intro r
        induction r with
        | nil => intros; rfl
        | cons x r ih =>
          intro n c k hk
          simp only [ph, List.length_cons] at *
          rw [ih n c k (by omega)]
          congr 2
          obtain ⟨j, rfl⟩ : ∃ j, k = r.length + 1 + j := ⟨k - (r.length + 1), by omega⟩
          have : 4 ^ (r.length + 1 + j) * c + n = 4 ^ r.length * (4 * (4 ^ j * c)) + n := by
            rw [Nat.pow_add, Nat.pow_add]; grind
          rw [this, Nat.mul_add_div (Nat.pos_of_ne_zero (by simp)), Nat.mul_add_mod]
      refine ⟨4 ^ r.length * b.p.toNat + n, ?_, ?_⟩
      · rw [List.length_cons, Nat.pow_succ]
        have : b.p.toNat = 0 ∨ b.p.toNat = 1 ∨ b.p.toNat = 2 ∨ b.p.toNat = 3 := by omega
        rcases this with e | e | e | e <;> rw [e] <;> omega
      · simp only [ph]
        rw [ed, key r n _ r.length (by omega)]
        congr 1
        rw [he]
        simp only [Src.at]
        congr 1
        omega
/-! ### Scores -/
/-- The score of sources for an audience. -/
def scr (l : List Src) (a : List Int) : Int := (List.range 8).foldl (fun s k => s + a.getD k 0 * (prs l k).sq) 0
/-- Its first k parts. -/
def scrK (l : List Src) (a : List Int) (k : Nat) : Int := (List.range k).foldl (fun s k => s + a.getD k 0 * (prs l k).sq) 0
theorem scrK_succ (l : List Src) (a : List Int) (k : Nat) : scrK l a (k + 1) = scrK l a k + a.getD k 0 * (prs l k).sq := by simp [scrK, List.range_succ]
/-- The number of the best phases among the first. -/
def bstN (l : List Src) (a : List Int) : Nat → Nat
  | 0 => 0
  | n + 1 => if scr (ph l (bstN l a n)) a < scr (ph l (n + 1)) a then n + 1 else bstN l a n
theorem bstN_le (l : List Src) (a : List Int) (n : Nat) : bstN l a n ≤ n := by
  induction n with
  | zero => exact Nat.le_refl _
  | succ n ih => unfold bstN; split <;> omega
theorem bstN_max (l : List Src) (a : List Int) (n k : Nat) (h : k ≤ n) : scr (ph l k) a ≤ scr (ph l (bstN l a n)) a := by
  induction n with
  | zero =>
    obtain rfl : k = 0 := by omega
    exact Int.le_refl _
  | succ n ih =>
    unfold bstN
    by_cases hk : k = n + 1
    · subst hk
      split <;> omega
    · have := ih (by omega)
      split <;> omega
/-- The best phases. -/
def bst (l : List Src) (a : List Int) : List Src := ph l (bstN l a (4 ^ l.length - 1))
theorem sq_in {z : G} {n : Nat} (h : z.nrm ≤ n) : 0 ≤ z.sq ∧ z.sq ≤ (n : Int) * n := by
  refine ⟨z.sq_nn, ?_⟩
  unfold G.nrm at h
  unfold G.sq
  have h1 : z.re * z.re = (z.re.natAbs : Int) * z.re.natAbs := (Int.natAbs_mul_self' _).symm
  have h2 : z.im * z.im = (z.im.natAbs : Int) * z.im.natAbs := (Int.natAbs_mul_self' _).symm
  rw [h1, h2]
  have h3 : (z.re.natAbs + z.im.natAbs) * (z.re.natAbs + z.im.natAbs) ≤ n * n := Nat.mul_le_mul h h
  have h4 : z.re.natAbs * z.re.natAbs + z.im.natAbs * z.im.natAbs ≤ n * n := by
    have : (z.re.natAbs + z.im.natAbs) * (z.re.natAbs + z.im.natAbs) = z.re.natAbs * z.re.natAbs + z.im.natAbs * z.im.natAbs + 2 * (z.re.natAbs * z.im.natAbs) := by grind
    omega
  exact_mod_cast h4
theorem prs_sq {l : List Src} (h : LOk l) (k : Nat) : 0 ≤ (prs l k).sq ∧ (prs l k).sq ≤ 2560000 := by
  have := sq_in (prs_in h k)
  omega
theorem scrK_in {l : List Src} {a : List Int} (h : LOk l) (ha : ∀ k, -1000 ≤ a.getD k 0 ∧ a.getD k 0 ≤ 1000) (k : Nat) : -2560000000 * (k : Int) ≤ scrK l a k ∧ scrK l a k ≤ 2560000000 * (k : Int) := by
  induction k with
  | zero => simp [scrK]
  | succ k ih =>
    rw [scrK_succ]
    have := ha k
    have := prs_sq h k
    generalize a.getD k 0 = x at *
    generalize (prs l k).sq = y at *
    have h1 : x * y ≤ 1000 * y := Int.mul_le_mul_of_nonneg_right (by omega) (by omega)
    have h2 : -1000 * y ≤ x * y := Int.mul_le_mul_of_nonneg_right (by omega) (by omega)
    omega
end Go.Proofs.YtcihiglpahhboaaGreatDoor

namespace Go.Proofs.YtcihiglpahhboaaGreatDoor
open Go.RowKit
set_option maxRecDepth 100000

/-- A weight: a place and its sum. -/
structure Wt where
  x : Int
  y : Int
  z : G
instance : DecidableEq Wt := fun a b => decidable_of_iff (a.x = b.x ∧ a.y = b.y ∧ a.z = b.z) (by cases a; cases b; simp)
theorem Wt.ext' {a b : Wt} (h1 : a.x = b.x) (h2 : a.y = b.y) (h3 : a.z = b.z) : a = b := by cases a; cases b; simp_all
/-- The order of the weights. -/
def Wt.lt (a b : Wt) : Prop := a.x < b.x ∨ (a.x = b.x ∧ a.y < b.y)
instance (a b : Wt) : Decidable (a.lt b) := by unfold Wt.lt; infer_instance
/-- What a source adds at its place. -/
def own1 (s : Src) : G := (turnI s.p).mul ⟨s.g, 0⟩
theorem own1_nrm (s : Src) : (own1 s).nrm = s.g.natAbs := by unfold own1; rw [turnI_mul_nrm]; simp [G.nrm]
def addAt (x y : Int) (a : G) (s : Src) : G := if s.x = x ∧ s.y = y then a.add (own1 s) else a
/-- The sum at a place. -/
def sumAt (l : List Src) (x y : Int) : G := l.foldl (addAt x y) .zero
theorem sumAt_snoc (l : List Src) (s : Src) (x y : Int) : sumAt (l ++ [s]) x y = addAt x y (sumAt l x y) s := by simp [sumAt]
theorem fold_none {x y : Int} {l : List Src} (h : ∀ s ∈ l, ¬ (s.x = x ∧ s.y = y)) (a : G) : l.foldl (addAt x y) a = a := by
  induction l generalizing a with
  | nil => rfl
  | cons s l ih =>
    have h1 := h s (by simp)
    rw [List.foldl_cons, show addAt x y a s = a from by unfold addAt; rw [if_neg h1]]
    exact ih (fun t ht => h t (by simp [ht])) a
theorem sumAt_none {x y : Int} {l : List Src} (h : ∀ s ∈ l, ¬ (s.x = x ∧ s.y = y)) : sumAt l x y = .zero := fold_none h _
theorem sumAt_place {x y : Int} {l : List Src} (h : sumAt l x y ≠ .zero) : ∃ s ∈ l, s.x = x ∧ s.y = y := by
  rcases Classical.em (∃ s ∈ l, s.x = x ∧ s.y = y) with e | e
  · exact e
  · exact absurd (sumAt_none fun s hs he => e ⟨s, hs, he⟩) h
theorem addAt_nrm (x y : Int) (a : G) {s : Src} (h : s.Ok) : (addAt x y a s).nrm ≤ a.nrm + 100 := by
  unfold addAt
  split
  · have h1 := G.nrm_add a (own1 s)
    have h2 := own1_nrm s
    have := h.g1; have := h.g2
    omega
  · omega
theorem sumAt_nrm {l : List Src} (h : ∀ s ∈ l, s.Ok) (x y : Int) : (sumAt l x y).nrm ≤ 100 * l.length := by
  have key : ∀ (l : List Src) (a : G), (∀ s ∈ l, s.Ok) → (l.foldl (addAt x y) a).nrm ≤ a.nrm + 100 * l.length := by
    intro l
    induction l with
    | nil => intro a _; simp
    | cons s l ih =>
      intro a hl
      have h1 := ih (addAt x y a s) fun t ht => hl t (by simp [ht])
      have h2 := addAt_nrm x y a (hl s (by simp))
      simp only [List.foldl_cons, List.length_cons]
      omega
  have := key l .zero h
  simpa [sumAt, G.nrm, G.zero] using this
theorem sumAt_in {l : List Src} (h : LOk l) (x y : Int) : (sumAt l x y).nrm ≤ 1600 := by have := sumAt_nrm h.all x y; have := h.len; omega
/-! ### The list -/
def insP (p : Int × Int) : List (Int × Int) → List (Int × Int)
  | [] => [p]
  | q :: r => if p.1 < q.1 ∨ (p.1 = q.1 ∧ p.2 < q.2) then p :: q :: r else if p = q then q :: r else q :: insP p r
/-- The places of sources, in order, each once. -/
def plcs : List Src → List (Int × Int)
  | [] => []
  | s :: l => insP (s.x, s.y) (plcs l)
def PLt (p q : Int × Int) : Prop := p.1 < q.1 ∨ (p.1 = q.1 ∧ p.2 < q.2)
theorem insP_mem {p q : Int × Int} {l : List (Int × Int)} : q ∈ insP p l ↔ q = p ∨ q ∈ l := by
  induction l with
  | nil => simp [insP]
  | cons a l ih =>
    unfold insP
    split
    · simp
    · split
      · rename_i e; subst e; simp
      · simp only [List.mem_cons, ih]; grind
theorem insP_sorted {p : Int × Int} {l : List (Int × Int)} (h : l.Pairwise PLt) : (insP p l).Pairwise PLt := by
  induction l with
  | nil => simp [insP]
  | cons a l ih =>
    have h1 := List.pairwise_cons.1 h
    unfold insP
    split
    · rename_i e
      refine List.pairwise_cons.2 ⟨fun q hq => ?_, h⟩
      rcases List.mem_cons.1 hq with rfl | hq
      · exact e
      · have := h1.1 q hq
        unfold PLt at *
        omega
    · split
      · exact h
      · rename_i e1 e2
        refine List.pairwise_cons.2 ⟨fun q hq => ?_, ih h1.2⟩
        rcases insP_mem.1 hq with rfl | hq
        · unfold PLt
          have : ¬ (q.1 = a.1 ∧ q.2 = a.2) := fun e => e2 (Prod.ext e.1 e.2)
          omega
        · exact h1.1 q hq
theorem plcs_mem {l : List Src} {q : Int × Int} : q ∈ plcs l ↔ ∃ s ∈ l, s.x = q.1 ∧ s.y = q.2 := by
  induction l with
  | nil => simp [plcs]
  | cons s l ih =>
    simp only [plcs, insP_mem, ih, List.mem_cons, exists_eq_or_imp]
    constructor
    · rintro (rfl | h)
      · exact .inl ⟨rfl, rfl⟩
      · exact .inr h
    · rintro (⟨h1, h2⟩ | h)
      · exact .inl (Prod.ext h1.symm h2.symm)
      · exact .inr h
theorem plcs_sorted (l : List Src) : (plcs l).Pairwise PLt := by
  induction l with
  | nil => simp [plcs]
  | cons s l ih => exact insP_sorted ih
/-- The weights at all places, those that are 0 as well. -/
def allW (l : List Src) : List Wt := (plcs l).map fun q => ⟨q.1, q.2, sumAt l q.1 q.2⟩
/-- The weights. -/
def nrm (l : List Src) : List Wt := (allW l).filter fun w => decide (w.z ≠ .zero)
theorem allW_sorted (l : List Src) : (allW l).Pairwise Wt.lt := List.pairwise_map.2 ((plcs_sorted l).imp fun h => h)
theorem allW_mem {l : List Src} {w : Wt} : w ∈ allW l ↔ (∃ s ∈ l, s.x = w.x ∧ s.y = w.y) ∧ w.z = sumAt l w.x w.y := by
  unfold allW
  rw [List.mem_map]
  constructor
  · rintro ⟨q, hq, rfl⟩
    exact ⟨plcs_mem.1 hq, rfl⟩
  · rintro ⟨h1, h2⟩
    exact ⟨(w.x, w.y), plcs_mem.2 h1, Wt.ext' rfl rfl h2.symm⟩
/-- What the weights are. -/
structure IsNrm (l : List Src) (L : List Wt) : Prop where
  sorted : L.Pairwise Wt.lt
  mem : ∀ w, w ∈ L ↔ w.z = sumAt l w.x w.y ∧ w.z ≠ .zero
theorem nrm_is (l : List Src) : IsNrm l (nrm l) where
  sorted := (allW_sorted l).sublist List.filter_sublist
  mem w := by
    unfold nrm
    rw [List.mem_filter, allW_mem, decide_eq_true_eq]
    constructor
    · rintro ⟨⟨_, h2⟩, h3⟩; exact ⟨h2, h3⟩
    · rintro ⟨h2, h3⟩; exact ⟨⟨sumAt_place (by rw [← h2]; exact h3), h2⟩, h3⟩
theorem Wt.lt_irrefl (a : Wt) : ¬ a.lt a := by unfold Wt.lt; omega
theorem lt_nodup {L : List Wt} (h : L.Pairwise Wt.lt) : L.Nodup := h.imp fun {a b} hab e => by subst e; exact Wt.lt_irrefl _ hab
theorem lt_ext {L L' : List Wt} (h : L.Pairwise Wt.lt) (h' : L'.Pairwise Wt.lt) (hm : ∀ w, w ∈ L ↔ w ∈ L') : L = L' := by
  have hp : L.Perm L' := (List.perm_ext_iff_of_nodup (lt_nodup h) (lt_nodup h')).2 hm
  refine List.Perm.eq_of_pairwise (le := fun a b => a.lt b) (fun a b _ _ h1 h2 => ?_) h h' hp
  unfold Wt.lt at h1 h2
  omega
theorem IsNrm.uniq {l l' : List Src} {L L' : List Wt} (h : IsNrm l L) (h' : IsNrm l' L') (hs : ∀ x y, sumAt l x y = sumAt l' x y) : L = L' :=
  lt_ext h.sorted h'.sorted fun w => by rw [h.mem, h'.mem, hs]
theorem IsNrm.eq {l : List Src} {L : List Wt} (h : IsNrm l L) : L = nrm l := h.uniq (nrm_is l) fun _ _ => rfl
theorem nrm_congr {l l' : List Src} (h : ∀ x y, sumAt l x y = sumAt l' x y) : nrm l = nrm l' := (nrm_is l).uniq (nrm_is l') h
theorem nrm_sums {l l' : List Src} (h : nrm l = nrm l') (x y : Int) : sumAt l x y = sumAt l' x y := by
  have h1 := (nrm_is l).mem ⟨x, y, sumAt l x y⟩
  have h2 := (nrm_is l').mem ⟨x, y, sumAt l x y⟩
  have h3 := (nrm_is l).mem ⟨x, y, sumAt l' x y⟩
  have h4 := (nrm_is l').mem ⟨x, y, sumAt l' x y⟩
  rw [h] at h1 h3
  simp only [true_and] at *
  by_cases e : sumAt l x y = .zero
  · by_cases e' : sumAt l' x y = .zero
    · rw [e, e']
    · exact (h3.1 (h4.2 e')).1.symm
  · exact (h2.1 (h1.2 e)).1
theorem nrm_iff {l l' : List Src} : nrm l = nrm l' ↔ ∀ x y, sumAt l x y = sumAt l' x y := ⟨nrm_sums, nrm_congr⟩
theorem allW_len (l : List Src) : (allW l).length ≤ l.length := by
  unfold allW
  rw [List.length_map]
  induction l with
  | nil => simp [plcs]
  | cons s l ih =>
    have key : ∀ (p : Int × Int) (L : List (Int × Int)), (insP p L).length ≤ L.length + 1 := by
      intro p L
      induction L with
      | nil => simp [insP]
      | cons a L ih => unfold insP; repeat' split
                       all_goals (simp only [List.length_cons] at *; omega)
    have := key (s.x, s.y) (plcs l)
    simp only [plcs, List.length_cons]
    omega
end Go.Proofs.YtcihiglpahhboaaGreatDoor

namespace Go.Proofs.YtcihiglpahhboaaGreatDoor
open Go.RowKit
set_option maxRecDepth 100000

theorem prs_fold (l : List Src) (k : Nat) (a : G) : l.foldl (fun a s => a.add (snd s k)) a = a.add (prs l k) := by
  induction l generalizing a with
  | nil => simp [prs, G.add_zero]
  | cons s l ih =>
    simp only [prs, List.foldl_cons]
    rw [ih, ih, G.zero_add, G.add_assoc]
theorem prs_cons (s : Src) (l : List Src) (k : Nat) : prs (s :: l) k = (snd s k).add (prs l k) := by
  show (s :: l).foldl _ _ = _
  rw [List.foldl_cons, prs_fold, G.zero_add]
theorem prs_nil (k : Nat) : prs [] k = .zero := rfl
theorem prs_app (l r : List Src) (k : Nat) : prs (l ++ r) k = (prs l k).add (prs r k) := by
  show (l ++ r).foldl _ _ = _
  rw [List.foldl_append, prs_fold]; rfl
theorem prs_rev (l : List Src) (k : Nat) : prs l.reverse k = prs l k := by
  induction l with
  | nil => rfl
  | cons s l ih => rw [List.reverse_cons, prs_app, ih, prs_cons, prs_cons, prs_nil, G.add_zero, G.add_comm]
theorem prs_map (g : Src → Src) (c : G) (k k' : Nat) {l : List Src} (h : ∀ s ∈ l, snd (g s) k' = c.mul (snd s k)) : prs (l.map g) k' = c.mul (prs l k) := by
  induction l with
  | nil => simp [prs_nil, G.mul_zero]
  | cons s l ih => rw [List.map_cons, prs_cons, prs_cons, G.mul_add, h s (by simp), ih fun t ht => h t (by simp [ht])]
/-! ### Repeated -/
def rep1 (s o : Src) : Src := ⟨s.x + o.x, s.y + o.y, s.g * o.g, (s.p + o.p) % 4⟩
def rep (l b : List Src) : List Src := l.flatMap fun s => b.map (rep1 s)
theorem snd_rep (s o : Src) (k : Nat) : snd (rep1 s o) k = (snd s k).mul (snd o k) := by
  unfold snd
  have e : turnI ((rep1 s o).p + pth (rep1 s o) k) = (turnI (s.p + pth s k)).mul (turnI (o.p + pth o k)) := by
    rw [← turnI_add, ← turnI_emod, ← turnI_emod (s.p + _ + _)]
    congr 1
    simp only [rep1, pth, Int.add_mul]
    omega
  rw [e]
  simp only [rep1]
  generalize turnI (s.p + pth s k) = a
  generalize turnI (o.p + pth o k) = b
  apply G.ext' <;> simp only [G.mul] <;> grind
theorem prs_rep (l b : List Src) (k : Nat) : prs (rep l b) k = (prs l k).mul (prs b k) := by
  induction l with
  | nil => simp [rep, prs_nil]; rw [G.mul_comm, G.mul_zero]
  | cons s l ih =>
    show prs (b.map (rep1 s) ++ rep l b) k = _
    rw [prs_app, ih, prs_cons, prs_map (rep1 s) (snd s k) k k fun t _ => snd_rep s t k]
    rw [G.mul_comm (G.add _ _), G.mul_add, G.mul_comm (prs b k), G.mul_comm (prs b k)]
/-! ### Turned -/
def trn1 (s : Src) : Src := ⟨-s.y, s.x, s.g, s.p⟩
theorem lt8 {k : Nat} (h : k < 8) : k = 0 ∨ k = 1 ∨ k = 2 ∨ k = 3 ∨ k = 4 ∨ k = 5 ∨ k = 6 ∨ k = 7 := by omega
theorem stx_turn {k : Nat} (h : k < 8) : stx ((k + 2) % 8) = -sty k := by rcases lt8 h with rfl | rfl | rfl | rfl | rfl | rfl | rfl | rfl <;> rfl
theorem sty_turn {k : Nat} (h : k < 8) : sty ((k + 2) % 8) = stx k := by rcases lt8 h with rfl | rfl | rfl | rfl | rfl | rfl | rfl | rfl <;> rfl
theorem snd_turn (s : Src) {k : Nat} (h : k < 8) : snd (trn1 s) ((k + 2) % 8) = snd s k := by
  have e : pth (trn1 s) ((k + 2) % 8) = pth s k := by
    simp only [pth, trn1, stx_turn h, sty_turn h]
    rw [Int.neg_mul_neg, Int.add_comm]
  unfold snd
  rw [e]
  rfl
theorem prs_turn (l : List Src) {k : Nat} (h : k < 8) : prs (l.map trn1) ((k + 2) % 8) = prs l k := by
  rw [prs_map trn1 .one k _ fun s _ => by rw [snd_turn s h, G.one_mul], G.one_mul]
/-- Turned n times. -/
def trn (n : Nat) (s : Src) : Src := Nat.rec s (fun _ t => trn1 t) n
theorem trn_zero (s : Src) : trn 0 s = s := rfl
theorem trn_succ (n : Nat) (s : Src) : trn (n + 1) s = trn1 (trn n s) := rfl
theorem trn1_ok {s : Src} (h : s.Ok) : (trn1 s).Ok := ⟨by have := h.y2; simp only [trn1]; omega, by have := h.y1; simp only [trn1]; omega, h.x1, h.x2, h.g1, h.g2, h.p1, h.p2⟩
theorem trn_ok {s : Src} (h : s.Ok) (n : Nat) : (trn n s).Ok := by
  induction n with
  | zero => exact h
  | succ n ih => exact trn1_ok ih
/-! ### Shifted -/
def shf (x y : Int) (s : Src) : Src := ⟨s.x + x, s.y + y, s.g, s.p⟩
theorem snd_shift (x y : Int) (s : Src) (k : Nat) : snd (shf x y s) k = (turnI (x * stx k + y * sty k)).mul (snd s k) := by
  unfold snd
  rw [← G.mul_assoc, ← turnI_add]
  congr 2
  simp only [shf, pth, Int.add_mul]
  omega
theorem prs_shift (x y : Int) (l : List Src) (k : Nat) : prs (l.map (shf x y)) k = (turnI (x * stx k + y * sty k)).mul (prs l k) := prs_map _ _ k k fun s _ => snd_shift x y s k
/-! ### Mirrored -/
def mir (w : Int) (soft : Bool) (s : Src) : Src := ⟨2 * w - s.x, s.y, if soft then -s.g else s.g, s.p⟩
def oth (k : Nat) : Nat := if k = 0 then 4 else if k = 1 then 3 else if k = 3 then 1 else if k = 4 then 0 else if k = 5 then 7 else if k = 7 then 5 else k
theorem stx_oth {k : Nat} (h : k < 8) : stx (oth k) = -stx k := by rcases lt8 h with rfl | rfl | rfl | rfl | rfl | rfl | rfl | rfl <;> rfl
theorem sty_oth {k : Nat} (h : k < 8) : sty (oth k) = sty k := by rcases lt8 h with rfl | rfl | rfl | rfl | rfl | rfl | rfl | rfl <;> rfl
def G.neg (a : G) : G := ⟨-a.re, -a.im⟩
theorem snd_mir (w : Int) (s : Src) {k : Nat} (h : k < 8) (soft : Bool) : snd (mir w soft s) k = (if soft then (turnI (2 * w * stx k)).neg else turnI (2 * w * stx k)).mul (snd s (oth k)) := by
  have e : turnI ((mir w soft s).p + pth (mir w soft s) k) = (turnI (2 * w * stx k)).mul (turnI (s.p + pth s (oth k))) := by
    rw [← turnI_add]
    congr 1
    simp only [mir, pth, stx_oth h, sty_oth h, Int.sub_mul, Int.mul_neg]
    omega
  unfold snd
  rw [e]
  generalize turnI (2 * w * stx k) = a
  generalize turnI (s.p + pth s (oth k)) = b
  cases soft <;> apply G.ext' <;> simp [mir, G.mul, G.neg] <;> grind
theorem prs_mir (w : Int) (l : List Src) {k : Nat} (h : k < 8) (soft : Bool) : prs (l ++ l.map (mir w soft)) k = (prs l k).add ((if soft then (turnI (2 * w * stx k)).neg else turnI (2 * w * stx k)).mul (prs l (oth k))) := by
  rw [prs_app, prs_map _ _ (oth k) k fun s _ => snd_mir w s h soft]
/-! ### Steered -/
def str (d : Nat) (s : Src) : Src := ⟨s.x, s.y, s.g, if s.g < 0 then ((-pth s d) % 4 + 2) % 4 else (-pth s d) % 4⟩
theorem snd_str (s : Src) (d : Nat) : snd (str d s) d = ⟨ab s.g, 0⟩ := by
  have ep : pth (str d s) d = pth s d := rfl
  unfold snd
  rw [ep]
  by_cases h : s.g < 0
  · have e : turnI ((str d s).p + pth s d) = ⟨-1, 0⟩ := by
      rw [← turnI_emod]
      have : ((str d s).p + pth s d) % 4 = 2 := by simp only [str, if_pos h]; omega
      rw [this]; rfl
    rw [e]
    simp only [G.mul, str, ab]
    apply G.ext' <;> simp <;> omega
  · have e : turnI ((str d s).p + pth s d) = ⟨1, 0⟩ := by
      rw [← turnI_emod]
      have : ((str d s).p + pth s d) % 4 = 0 := by simp only [str, if_neg h]; omega
      rw [this]; rfl
    rw [e]
    simp only [G.mul, str, ab]
    apply G.ext' <;> simp <;> omega
/-- The sum of the absolute gains. -/
def gsum (l : List Src) : Int := (l.map fun s => ab s.g).sum
theorem prs_str (l : List Src) (d : Nat) : prs (l.map (str d)) d = ⟨gsum l, 0⟩ := by
  induction l with
  | nil => rfl
  | cons s l ih =>
    rw [List.map_cons, prs_cons, ih, snd_str]
    simp [gsum, G.add]
theorem prs_gsum (l : List Src) (k : Nat) : ((prs l k).nrm : Int) ≤ gsum l := by
  induction l with
  | nil => simp [prs_nil, gsum, G.nrm, G.zero]
  | cons s l ih =>
    rw [prs_cons]
    have h1 := G.nrm_add (snd s k) (prs l k)
    have h2 := snd_nrm s k
    have h3 : gsum (s :: l) = ab s.g + gsum l := by simp [gsum]
    have h4 : (s.g.natAbs : Int) = ab s.g := by unfold ab; omega
    omega
theorem str_ok {s : Src} (h : s.Ok) (d : Nat) : (str d s).Ok := ⟨h.x1, h.x2, h.y1, h.y2, h.g1, h.g2, by simp only [str]; split <;> omega, by simp only [str]; split <;> omega⟩
/-! ### Sources in a row -/
def bino : Nat → Nat → Int
  | _, 0 => 1
  | 0, _ + 1 => 0
  | n + 1, k + 1 => bino n k + bino n (k + 1)
def row (n : Nat) (x y : Int) : List Src := (List.range n).map fun (k : Nat) => ⟨(k : Int) * x, (k : Int) * y, bino (n - 1) k, 0⟩
/-- The pressure of a row, by the path of its step. -/
def rowP (n : Nat) (t : Int) : G := (List.range n).foldl (fun a (k : Nat) => a.add ((turnI ((k : Int) * t)).mul ⟨bino (n - 1) k, 0⟩)) .zero
theorem foldl_same {α β : Type} {f g : β → α → β} (h : ∀ a b, f a b = g a b) {b : β} {l : List α} : l.foldl f b = l.foldl g b := by
  have : f = g := by funext a b; exact h a b
  rw [this]
theorem prs_row (n : Nat) (x y : Int) (k : Nat) : prs (row n x y) k = rowP n (x * stx k + y * sty k) := by
  unfold prs row rowP
  rw [List.foldl_map]
  refine foldl_same fun a j => ?_
  unfold snd
  have e : (0 : Int) + pth ⟨(j : Int) * x, (j : Int) * y, bino (n - 1) j, 0⟩ k = (j : Int) * (x * stx k + y * sty k) := by simp only [pth]; grind
  show a.add ((turnI (0 + pth ⟨(j : Int) * x, (j : Int) * y, bino (n - 1) j, 0⟩ k)).mul _) = _
  rw [e]
theorem turn_mul4 (k : Nat) (t : Int) : turnI (k * t) = turnI (k * (t % 4)) := by
  rw [← turnI_emod, ← turnI_emod ((k : Int) * (t % 4)), Int.mul_emod, Int.mul_emod (k : Int) (t % 4), Int.emod_emod_of_dvd t (Int.dvd_refl 4)]
theorem rowP_mod (n : Nat) (t : Int) : rowP n t = rowP n (t % 4) := by
  unfold rowP
  refine foldl_same fun a j => ?_
  rw [turn_mul4]
theorem rowP_two (m : Nat) (h : m < 9) (t : Int) : rowP (m + 1) t = (rowP m t).mul (rowP 2 t) ∨ m = 0 := by
  rw [rowP_mod (m + 1), rowP_mod m, rowP_mod 2]
  have h1 : t % 4 = 0 ∨ t % 4 = 1 ∨ t % 4 = 2 ∨ t % 4 = 3 := by omega
  have h2 : m = 0 ∨ m = 1 ∨ m = 2 ∨ m = 3 ∨ m = 4 ∨ m = 5 ∨ m = 6 ∨ m = 7 ∨ m = 8 := by omega
  rcases h2 with rfl | rfl | rfl | rfl | rfl | rfl | rfl | rfl | rfl
  · exact .inr rfl
  all_goals (left; rcases h1 with e | e | e | e <;> rw [e] <;> decide +kernel)
end Go.Proofs.YtcihiglpahhboaaGreatDoor

namespace Go.Proofs.YtcihiglpahhboaaGreatDoor
open Go.RowKit
set_option maxRecDepth 100000

def trm (sign : Int) (p : List G) (m k : Nat) : G := (turnI (sign * m * k)).mul (p.getD k .zero)
def trP (sign : Int) (p : List G) (m n : Nat) : G := (List.range n).foldl (fun a k => a.add (trm sign p m k)) .zero
/-- The sums of four numbers, each times i to the power sign m k. -/
def trs (sign : Int) (p : List G) : List G := (List.range 4).map fun m => trP sign p m 4
theorem trP_succ (sign : Int) (p : List G) (m n : Nat) : trP sign p m (n + 1) = (trP sign p m n).add (trm sign p m n) := by simp [trP, List.range_succ]
/-- A bound of the parts of numbers. -/
def Bnd (p : List G) (b : Nat) : Prop := ∀ k, (p.getD k .zero).nrm ≤ b
theorem trm_nrm (sign : Int) {p : List G} {b : Nat} (h : Bnd p b) (m k : Nat) : (trm sign p m k).nrm ≤ b := by unfold trm; rw [turnI_mul_nrm]; exact h k
theorem trP_nrm (sign : Int) {p : List G} {b : Nat} (h : Bnd p b) (m n : Nat) : (trP sign p m n).nrm ≤ n * b := by
  induction n with
  | zero => simp [trP, G.nrm, G.zero]
  | succ n ih =>
    rw [trP_succ]
    have := G.nrm_add (trP sign p m n) (trm sign p m n)
    have := trm_nrm sign h m n
    rw [Nat.succ_mul]
    omega
theorem turn0 : turnI 0 = ⟨1, 0⟩ := rfl
theorem turn1 : turnI 1 = ⟨0, 1⟩ := rfl
theorem turn2 : turnI 2 = ⟨-1, 0⟩ := rfl
theorem turn3 : turnI 3 = ⟨0, -1⟩ := rfl
theorem turn4 : turnI 4 = ⟨1, 0⟩ := rfl
theorem turn6 : turnI 6 = ⟨-1, 0⟩ := rfl
theorem turn9 : turnI 9 = ⟨0, 1⟩ := rfl
theorem turnm1 : turnI (-1) = ⟨0, -1⟩ := rfl
theorem turnm2 : turnI (-2) = ⟨-1, 0⟩ := rfl
theorem turnm3 : turnI (-3) = ⟨0, 1⟩ := rfl
theorem turnm4 : turnI (-4) = ⟨1, 0⟩ := rfl
theorem turnm6 : turnI (-6) = ⟨-1, 0⟩ := rfl
theorem turnm9 : turnI (-9) = ⟨0, -1⟩ := rfl
theorem trs_one (a b c d : G) : trs 1 [a, b, c, d] = [⟨a.re + b.re + c.re + d.re, a.im + b.im + c.im + d.im⟩, ⟨a.re - b.im - c.re + d.im, a.im + b.re - c.im - d.re⟩, ⟨a.re - b.re + c.re - d.re, a.im - b.im + c.im - d.im⟩, ⟨a.re + b.im - c.re - d.im, a.im - b.re - c.im + d.re⟩] := by
  simp [trs, trP, trm, List.range_succ, G.zero, turn0, turn1, turn2, turn3, turn4, turn6, turn9, G.mul, G.add]
  omega
theorem trs_neg (a b c d : G) : trs (-1) [a, b, c, d] = [⟨a.re + b.re + c.re + d.re, a.im + b.im + c.im + d.im⟩, ⟨a.re + b.im - c.re - d.im, a.im - b.re - c.im + d.re⟩, ⟨a.re - b.re + c.re - d.re, a.im - b.im + c.im - d.im⟩, ⟨a.re - b.im - c.re + d.im, a.im + b.re - c.im - d.re⟩] := by
  simp [trs, trP, trm, List.range_succ, G.zero, turn0, turnm1, turnm2, turnm3, turnm4, turnm6, turnm9, G.mul, G.add]
  omega
/-- Four numbers come back, four times as large. -/
theorem trs_back (a b c d : G) : trs 1 (trs (-1) [a, b, c, d]) = [⟨4 * a.re, 4 * a.im⟩, ⟨4 * b.re, 4 * b.im⟩, ⟨4 * c.re, 4 * c.im⟩, ⟨4 * d.re, 4 * d.im⟩] := by
  rw [trs_neg, trs_one]
  simp
  omega
/-- The levels of the harmonics are four times those of the numbers. -/
theorem trs_levels (a b c d : G) : ((trs (-1) [a, b, c, d]).map G.sq).sum = 4 * (a.sq + b.sq + c.sq + d.sq) := by
  rw [trs_neg]
  simp only [List.map_cons, List.map_nil, List.sum_cons, List.sum_nil, G.sq]
  grind
end Go.Proofs.YtcihiglpahhboaaGreatDoor

namespace Go.Proofs.YtcihiglpahhboaaGreatDoor
open Go.RowKit
set_option maxRecDepth 100000

theorem own1_trn (s : Src) : own1 (trn1 s) = own1 s := rfl
theorem sumAt_turn (l : List Src) (x y : Int) : sumAt (l.map trn1) x y = sumAt l y (-x) := by
  unfold sumAt
  rw [List.foldl_map]
  refine foldl_same fun a s => ?_
  unfold addAt
  rw [own1_trn]
  have : ((trn1 s).x = x ∧ (trn1 s).y = y) ↔ (s.x = y ∧ s.y = -x) := by simp only [trn1]; omega
  simp only [this]
theorem map_trn_succ (l : List Src) (n : Nat) : l.map (trn (n + 1)) = (l.map (trn n)).map trn1 := by rw [List.map_map]; rfl
theorem map_trn_zero (l : List Src) : l.map (trn 0) = l := by
  have : trn 0 = id := rfl
  rw [this, List.map_id]
theorem sumAt_trn2 (l : List Src) (x y : Int) : sumAt (l.map (trn 2)) x y = sumAt l (-x) (-y) := by rw [map_trn_succ, sumAt_turn, map_trn_succ, sumAt_turn, map_trn_zero]
theorem sumAt_trn3 (l : List Src) (x y : Int) : sumAt (l.map (trn 3)) x y = sumAt l (-y) x := by rw [map_trn_succ, sumAt_turn, sumAt_trn2]; simp
theorem sumAt_trn1 (l : List Src) (x y : Int) : sumAt (l.map (trn 1)) x y = sumAt l y (-x) := by rw [map_trn_succ, sumAt_turn, map_trn_zero]
/-- The symmetries of sources. -/
def sym (l : List Src) : List Nat := (List.range 4).filter fun n => decide (nrm (l.map (trn n)) = nrm l)
theorem sym0 (l : List Src) : nrm (l.map (trn 0)) = nrm l := by rw [map_trn_zero]
theorem sym13 {l : List Src} : nrm (l.map (trn 1)) = nrm l ↔ nrm (l.map (trn 3)) = nrm l := by
  rw [nrm_iff, nrm_iff]
  simp only [sumAt_trn1, sumAt_trn3]
  constructor
  · intro h x y
    have := h (-y) x
    rw [← this]; simp
  · intro h x y
    have := h y (-x)
    rw [← this]; simp
theorem sym12 {l : List Src} (h : nrm (l.map (trn 1)) = nrm l) : nrm (l.map (trn 2)) = nrm l := by
  rw [nrm_iff] at *
  simp only [sumAt_trn1, sumAt_trn2] at *
  intro x y
  rw [← h x y, ← h y (-x)]
theorem sym_cases (l : List Src) : sym l = [0] ∨ sym l = [0, 2] ∨ sym l = [0, 1, 2, 3] := by
  have h0 := sym0 l
  by_cases h1 : nrm (l.map (trn 1)) = nrm l
  · have h2 := sym12 h1
    have h3 := sym13.1 h1
    right; right
    simp [sym, List.range_succ, h0, h1, h2, h3]
  · have h3 : ¬ nrm (l.map (trn 3)) = nrm l := fun e => h1 (sym13.2 e)
    by_cases h2 : nrm (l.map (trn 2)) = nrm l
    · right; left
      simp [sym, List.range_succ, h0, h1, h2, h3]
    · left
      simp [sym, List.range_succ, h0, h1, h2, h3]
theorem sym_turn (l : List Src) : sym (l.map trn1) = sym l := by
  unfold sym
  refine List.filter_congr fun n hn => ?_
  have hn : n = 0 ∨ n = 1 ∨ n = 2 ∨ n = 3 := by simp at hn; omega
  apply decide_eq_decide.2
  rw [nrm_iff, nrm_iff]
  rcases hn with rfl | rfl | rfl | rfl
  · simp only [map_trn_zero]
  · simp only [sumAt_trn1, sumAt_turn]
    exact ⟨fun h x y => by have := h (-y) x; simpa using this, fun h x y => by have := h y (-x); simpa using this⟩
  · simp only [sumAt_trn2, sumAt_turn]
    exact ⟨fun h x y => by have := h (-y) x; simpa using this, fun h x y => by have := h y (-x); simpa using this⟩
  · simp only [sumAt_trn3, sumAt_turn]
    exact ⟨fun h x y => by have := h (-y) x; simpa using this, fun h x y => by have := h y (-x); simpa using this⟩
/-! ### Reversed, and one of them taken apart -/
theorem addAt_comm (x y : Int) (a : G) (s t : Src) : addAt x y (addAt x y a s) t = addAt x y (addAt x y a t) s := by
  unfold addAt
  repeat' split
  all_goals first | rfl | (rw [G.add_assoc, G.add_assoc, G.add_comm (own1 s)])
theorem addAt_fold (x y : Int) (l : List Src) (a : G) (s : Src) : l.foldl (addAt x y) (addAt x y a s) = addAt x y (l.foldl (addAt x y) a) s := by
  induction l generalizing a with
  | nil => rfl
  | cons t l ih => rw [List.foldl_cons, List.foldl_cons, addAt_comm, ih]
theorem sumAt_cons (l : List Src) (s : Src) (x y : Int) : sumAt (s :: l) x y = addAt x y (sumAt l x y) s := by
  unfold sumAt
  rw [List.foldl_cons, addAt_fold]
theorem sumAt_rev (l : List Src) (x y : Int) : sumAt l.reverse x y = sumAt l x y := by
  induction l with
  | nil => rfl
  | cons s l ih => rw [List.reverse_cons, sumAt_snoc, ih, sumAt_cons]
/-- A source taken apart into two at its place. -/
theorem own1_apart (s : Src) (m : Int) : (own1 ⟨s.x, s.y, m, s.p⟩).add (own1 ⟨s.x, s.y, s.g - m, s.p⟩) = own1 s := by
  unfold own1
  generalize turnI s.p = a
  apply G.ext' <;> simp only [G.mul, G.add] <;> grind
theorem sumAt_apart (l : List Src) (s : Src) (m : Int) (x y : Int) : sumAt ((⟨s.x, s.y, m, s.p⟩ :: l) ++ [⟨s.x, s.y, s.g - m, s.p⟩]) x y = sumAt (s :: l) x y := by
  rw [sumAt_snoc, sumAt_cons, sumAt_cons]
  have := own1_apart s m
  unfold addAt
  split
  · rw [G.add_assoc, this]
  · rfl
theorem snd_apart (s : Src) (m : Int) (k : Nat) : (snd ⟨s.x, s.y, m, s.p⟩ k).add (snd ⟨s.x, s.y, s.g - m, s.p⟩ k) = snd s k := by
  unfold snd
  show G.add (G.mul (turnI (s.p + pth s k)) _) (G.mul (turnI (s.p + pth s k)) _) = _
  generalize turnI (s.p + pth s k) = a
  apply G.ext' <;> simp only [G.mul, G.add] <;> grind
theorem prs_apart (l : List Src) (s : Src) (m : Int) (k : Nat) : prs ((⟨s.x, s.y, m, s.p⟩ :: l) ++ [⟨s.x, s.y, s.g - m, s.p⟩]) k = prs (s :: l) k := by
  rw [prs_app, prs_cons, prs_cons, prs_cons, prs_nil, G.add_zero, G.add_assoc, G.add_comm (prs l k), ← G.add_assoc, snd_apart]
end Go.Proofs.YtcihiglpahhboaaGreatDoor
