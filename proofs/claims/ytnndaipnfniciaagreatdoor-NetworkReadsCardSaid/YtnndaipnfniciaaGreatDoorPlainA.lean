/- Words for memory: a slice that reads as a list; a block known whole; append onto a row of the call's own. The lemmas of the kit's pages extra-words and extra-small, which are offered there for copying, set into this claim's namespace; and small lemmas of this claim. Plain mathematics of ladders: complex integers, elements, chain matrices. No program in sight. Plain mathematics of ladders: reversed and dual ladders; powers. No program in sight. Plain mathematics of polynomials: lists of coefficients without last zeros. No program in sight. Plain mathematics of quotients: lowest terms, and which of two is less. No program in sight. Plain mathematics: levels of ladders. No program in sight. Plain mathematics: the first level below another one; errors. No program in sight. Plain mathematics: the values of the polynomials of a ladder are the entries of its chain matrix. No program in sight. -/
import Derived.Below
import Derived.Laws.OwnMore
import Derived.Deep.AppendLies
import Derived.Deep.Draws
import Derived.Laws.Rows
import Derived.Maps.AppendAt
import Derived.RegionTactic
import Derived.OwnWalk
import Derived.ChangeSame
import Derived.IntWalk
namespace Go.Proofs.YtnndaipnfniciaaGreatDoor
open Go.RowKit
set_option maxRecDepth 100000

theorem hide {p : Prop} (h : p) : Hid p := h

theorem block_of_add (a : Addr) (n : Nat) : (a.add n).block = a.block := by unfold Addr.add; split <;> rfl
theorem add_of_add (a : Addr) (i j : Nat) : (a.add i).add j = a.add (i + j) := by
  unfold Addr.add
  by_cases hi : i = 0 <;> by_cases hj : j = 0 <;> simp [hi, hj, Nat.add_assoc]

def Reads (w : World) (B size : Nat) (A : Option Addr) (n : Nat) (xs : List Value) : Prop :=
  xs.length = n * size ∧ (0 < n → ∃ ad, A = some ad ∧ ad.block < B ∧ ∀ j u, xs[j]? = some u → w.cell? (ad.add j) = some u)

section
variable {w w' : World} {B B' size n : Nat} {A : Option Addr} {xs : List Value}
theorem Reads.none_ : Reads w B size A 0 [] := ⟨by simp, fun h => absurd h (by omega)⟩
theorem Reads.at_ {k : Nat} (h : Reads w B 1 A n xs) (hk : k < n) : ∃ ad u, A = some ad ∧ ad.block < B ∧ xs[k]? = some u ∧ w.cell? (ad.add k) = some u := by
  obtain ⟨ad, e, hb, hc⟩ := h.2 (by omega)
  have hl : k < xs.length := by have := h.1; omega
  exact ⟨ad, xs[k], e, hb, List.getElem?_eq_getElem hl, hc k _ (List.getElem?_eq_getElem hl)⟩
theorem Reads.keep (h : Reads w B size A n xs) (hk : ∀ p : Addr, p.block < B → w'.cell? p = w.cell? p) : Reads w' B size A n xs :=
  ⟨h.1, fun hn => by
    obtain ⟨ad, e, hb, hc⟩ := h.2 hn
    exact ⟨ad, e, hb, fun j u hu => (hk _ (by rw [block_of_add]; exact hb)).trans (hc j u hu)⟩⟩
theorem Reads.more (h : Reads w B size A n xs) (hB : B ≤ B') : Reads w B' size A n xs :=
  ⟨h.1, fun hn => by
    obtain ⟨ad, e, hb, hc⟩ := h.2 hn
    exact ⟨ad, e, by omega, hc⟩⟩
theorem Reads.below (h : Reads w B size A n xs) (hb : Below B w w') : Reads w' B size A n xs := h.keep fun _ hp => hb.cell hp
theorem Reads.drew (h : Reads w B size A n xs) : Reads w.drew B size A n xs := h
theorem Reads.drewN (h : Reads w B size A n xs) (k : Nat) : Reads (w.drewN k) B size A n xs := h
theorem Reads.alloc (h : Reads w B size A n xs) (hB : B ≤ w.heap.size) (o : Obj) : Reads (w.alloc o) B size A n xs := h.keep fun p hp => World.cell?_alloc_lt w o p (by omega)
theorem Reads.setCell (h : Reads w B size A n xs) {p : Addr} (hB : B ≤ p.block) (u : Value) : Reads (w.setCell p u) B size A n xs :=
  h.keep fun q hq => World.cell?_setCell_other w p q u (fun e => by subst e; omega)
theorem Reads.grown (h : Reads w B size A n xs) {row : Option Nat} (hg : w.grownBy w' row) (hB : B ≤ w.heap.size) (hr : ∀ g, row = some g → B ≤ g) : Reads w' B size A n xs :=
  h.keep fun p hp => World.cell?_of_block (hg.block p.block (by omega) (fun e => by have := hr _ e.symm; omega))
theorem Reads.cut (h : Reads w B size A n xs) {k cap : Nat} (hk : k ≤ n) (hc : n ≤ cap) :
    Reads w B size (if cap = k then A else A.map (·.add (k * size))) (n - k) (xs.drop (k * size)) := by
  refine ⟨by rw [List.length_drop, h.1, Nat.sub_mul], fun hn => ?_⟩
  obtain ⟨ad, rfl, hb, hcell⟩ := h.2 (by omega)
  rw [if_neg (by omega)]
  refine ⟨ad.add (k * size), rfl, by rw [block_of_add]; exact hb, fun j u hu => ?_⟩
  rw [add_of_add]
  exact hcell _ u (by rw [← hu, List.getElem?_drop])
theorem Reads.of_own {base : Nat} {e : TypeId} {c : Nat} (h : w.ownsRow base e size (.slice A n c) n xs) : Reads w w.heap.size size A n xs := by
  refine ⟨h.1, fun hn => ?_⟩
  obtain ⟨g, cap, hv, _, hlt⟩ := h.form hn
  have hA : A = some ⟨g, 0, none⟩ := by injection hv
  subst hA
  exact ⟨_, rfl, hlt, h.cells (g := g) rfl⟩
end

def Blk (w : World) (g : Nat) (t : TypeId) (cs : Array Value) : Prop := w.heap[g]? = some (.cells cs t (0, 0))

section
variable {w w' : World} {g : Nat} {t : TypeId} {cs : Array Value}
theorem Blk.lt (h : Blk w g t cs) : g < w.heap.size := by
  rcases Nat.lt_or_ge g w.heap.size with hlt | hge
  · exact hlt
  · unfold Blk at h; rw [Array.getElem?_eq_none hge] at h; cases h
theorem Blk.cell (h : Blk w g t cs) (i : Nat) : w.cell? ⟨g, i, none⟩ = cs[i]? := cell_of_row w g i cs t (0, 0) h
theorem Blk.frozen (h : Blk w g t cs) (i : Nat) : w.frozen? ⟨g, i, none⟩ = false := by
  unfold Blk at h
  simp [World.frozen?, h]
theorem Blk.new (w : World) (t : TypeId) (cs : Array Value) : Blk (w.alloc (.cells cs t)) w.heap.size t cs := heap_alloc_new w _
theorem Blk.drew (h : Blk w g t cs) : Blk w.drew g t cs := h
theorem Blk.drewN (h : Blk w g t cs) (n : Nat) : Blk (w.drewN n) g t cs := h
theorem Blk.alloc (h : Blk w g t cs) (o : Obj) : Blk (w.alloc o) g t cs := (Below.heap_alloc w o g h.lt).trans h
theorem Blk.set_ (h : Blk w g t cs) (i : Nat) (u : Value) : Blk (w.setCell ⟨g, i, none⟩ u) g t (cs.setIfInBounds i u) := by
  unfold Blk at h ⊢
  simp [World.setCell, Array.getElem?_modify, h]
theorem Blk.far (h : Blk w g t cs) {p : Addr} (hp : g ≠ p.block) (u : Value) : Blk (w.setCell p u) g t cs := (Below.heap_setCell w p u g hp).trans h
theorem Blk.below {B : Nat} (h : Blk w g t cs) (hb : Below B w w') (hg : g < B) : Blk w' g t cs := (hb.block g hg).trans h
theorem Blk.grown {row : Option Nat} (h : Blk w g t cs) (hb : w.grownBy w' row) (hg : some g ≠ row) : Blk w' g t cs := (hb.block g h.lt hg).trans h
theorem Blk.ne_ {g' : Nat} {t' : TypeId} {cs' : Array Value} (h : Blk w g t cs) (h' : Blk w g' t' cs') (hne : t ≠ t') : g ≠ g' := by
  rintro rfl
  unfold Blk at h h'
  rw [h] at h'
  injection h' with h'
  injection h' with _ ht
  exact hne ht
theorem own_blk_ne {base : Nat} {e : TypeId} {size n : Nat} {v : Value} {xs : List Value} (h : w.ownsRow base e size v n xs) (hg : Blk w g t cs) (hne : e ≠ t) : v.ownBlock ≠ some g := by
  rcases h.2 with ⟨rfl, _⟩ | ⟨g', cap, cur, rfl, _, hh, _⟩
  · simp [Value.ownBlock]
  · intro he
    have : g' = g := by simpa [Value.ownBlock] using he
    subst this
    exact Blk.ne_ (t := e) hh hg hne rfl
end

section
variable {P : Program} (w : World)

theorem run_append_of_nil (base : Nat) (t ty e : TypeId) (i : TypeInfo) (size : Nat) (ht : P.underlying t = some (.slice e)) (hi : P.info? e = some i)
    (v : Value) (n : Nat) (xs : List Value) (hown : w.ownsRow base e size v n xs) (c : Nat) : (Builtin.append_ #[t, t] ty #[v, .slice none 0 c]).run P w = .ok v w := by
  rcases hown.2 with ⟨rfl, rfl⟩ | ⟨g, cap, cur, rfl, _, _, hnc, _⟩
  · simp [Builtin.append_, run_underlying ht, sizeOf, typeInfo, hi, Builtin.lenOf, Builtin.firstCells]
  · simp [Builtin.append_, run_underlying ht, sizeOf, typeInfo, hi, Builtin.lenOf, Builtin.firstCells, hnc, storeCells]

theorem run_append_any (base : Nat) (t ty e : TypeId) (i : TypeInfo) (z : Value) (size bytes : Nat) (ht : P.underlying t = some (.slice e)) (hi : P.info? e = some i) (hz : i.zero = some z)
    (hsize : i.size = size) (hby : i.bytes = bytes) (hzs : z.cells.size = size) (hsz : 0 < size)
    (v : Value) (n : Nat) (xs : List Value) (hown : w.ownsRow base e size v n xs)
    (B : Nat) (A : Option Addr) (m c : Nat) (news : List Value) (hr : Reads w B size A m news) (h1 : ∀ u ∈ news, u.oneCell' = true)
    (h63 : n + m ≤ maxLen) (hbytes : (n + m) * bytes ≤ 140737488355328) (hbase : base ≤ w.heap.size) :
    ∃ v' w', (Builtin.append_ #[t, t] ty #[v, .slice A m c]).run P w = .ok v' w' ∧ w'.ownsRow base e size v' (n + m) (xs ++ news) ∧ w.grownBy w' v.ownBlock ∧
      (v'.ownBlock = v.ownBlock ∨ v'.ownBlock = some w.heap.size) := by
  rcases A with _ | ad
  · have hm : m = 0 := by
      rcases Nat.eq_zero_or_pos m with h0 | h0
      · exact h0
      · obtain ⟨ad, h, _⟩ := hr.2 h0
        cases h
    subst hm
    have hn : news = [] := List.eq_nil_of_length_eq_zero (by simpa using hr.1)
    subst hn
    exact ⟨v, w, run_append_of_nil w base t ty e i size ht hi v n xs hown c, by simpa using hown, World.grownBy.refl w _, .inl rfl⟩
  · have hcells : ∀ j u, news[j]? = some u → w.cell? (ad.add j) = some u := by
      intro j u hu
      rcases Nat.eq_zero_or_pos m with h0 | h0
      · subst h0
        have hn : news = [] := List.eq_nil_of_length_eq_zero (by simpa using hr.1)
        subst hn
        simp at hu
      · obtain ⟨ad', h, _, hc⟩ := hr.2 h0
        injection h with h
        subst h
        exact hc j u hu
    obtain ⟨v', w', hrun, h2, h3, _, h5⟩ := run_append_own_at (P := P) w base t ty e i z size bytes ht hi hz hsize hby hzs hsz v n xs hown ad m c news hr.1 hcells h1 h63 hbytes hbase
    exact ⟨v', w', hrun, h2, h3, h5⟩

theorem wp_append_any {o : Oper} {a : Act} {K : Act → World → Prop} {Q : Exit → Act → World → Prop} (s x : Operand) (t : TypeId)
    (ho : o.op = .call { callee := .builtin .append, args := #[s, x], argTypes := #[t, t] })
    (base : Nat) (e : TypeId) (i : TypeInfo) (z : Value) (size bytes : Nat) (ht : P.underlying t = some (.slice e)) (hi : P.info? e = some i) (hz : i.zero = some z)
    (hsize : i.size = size) (hby : i.bytes = bytes) (hzs : z.cells.size = size) (hsz : 0 < size)
    (v : Value) (n : Nat) (xs : List Value) (hs : a.eval s = v) (hown : w.ownsRow base e size v n xs)
    (B : Nat) (A : Option Addr) (m c : Nat) (news : List Value) (hx : a.eval x = .slice A m c) (hr : Reads w B size A m news) (h1 : ∀ u ∈ news, u.oneCell' = true)
    (h63 : n + m ≤ maxLen) (hbytes : (n + m) * bytes ≤ 140737488355328) (hbase : base ≤ w.heap.size)
    (h : ∀ v' w', w'.ownsRow base e size v' (n + m) (xs ++ news) → w.grownBy w' v.ownBlock → (v'.ownBlock = v.ownBlock ∨ v'.ownBlock = some w.heap.size) → K (a.put o.dst v') w') : o.wp P a w K Q := by
  obtain ⟨v', w', hrun, h2, h3, h4⟩ := run_append_any (P := P) w base t o.type e i z size bytes ht hi hz hsize hby hzs hsz v n xs hown B A m c news hr h1 h63 hbytes hbase
  unfold Oper.wp execOp
  simp only [ho, resolve, invoke, builtin, Sem.run_bind, Sem.run_pure, Result.andThen_ok, List.map_toArray, List.map_cons, List.map_nil, hs, hx, hrun]
  exact h v' w' h2 h3 h4

theorem wpList_append_any {ops : Array Oper} {rest : List Oper} {o : Oper} {a : Act} {Q : Exit → Act → World → Prop} (hgd : o.guard = none) (s x : Operand) (t : TypeId)
    (ho : o.op = .call { callee := .builtin .append, args := #[s, x], argTypes := #[t, t] })
    (base : Nat) (e : TypeId) (i : TypeInfo) (z : Value) (size bytes : Nat) (ht : P.underlying t = some (.slice e)) (hi : P.info? e = some i) (hz : i.zero = some z)
    (hsize : i.size = size) (hby : i.bytes = bytes) (hzs : z.cells.size = size) (hsz : 0 < size)
    (v : Value) (n : Nat) (xs : List Value) (hs : a.eval s = v) (hown : w.ownsRow base e size v n xs)
    (B : Nat) (A : Option Addr) (m c : Nat) (news : List Value) (hx : a.eval x = .slice A m c) (hr : Reads w B size A m news) (h1 : ∀ u ∈ news, u.oneCell' = true)
    (h63 : n + m ≤ maxLen) (hbytes : (n + m) * bytes ≤ 140737488355328) (hbase : base ≤ w.heap.size)
    (h : ∀ v' w', w'.ownsRow base e size v' (n + m) (xs ++ news) → w.grownBy w' v.ownBlock → (v'.ownBlock = v.ownBlock ∨ v'.ownBlock = some w.heap.size) → wpList P ops Q rest (a.put o.dst v') w') : wpList P ops Q (o :: rest) a w :=
  wpList_plain hgd fun _ hK => wp_append_any w s x t ho base e i z size bytes ht hi hz hsize hby hzs hsz v n xs hs hown B A m c news hx hr h1 h63 hbytes hbase fun v' w' h2 h3 h4 => hK _ _ (h v' w' h2 h3 h4)

theorem step_append_any {ops : Array Oper} {o : Oper} {a : Act} {K : Act → World → Prop} {Q : Exit → Act → World → Prop} {E : Prop} (hgd : o.guard = none) (s x : Operand) (t : TypeId)
    (ho : o.op = .call { callee := .builtin .append, args := #[s, x], argTypes := #[t, t] })
    (base : Nat) (e : TypeId) (i : TypeInfo) (z : Value) (size bytes : Nat) (ht : P.underlying t = some (.slice e)) (hi : P.info? e = some i) (hz : i.zero = some z)
    (hsize : i.size = size) (hby : i.bytes = bytes) (hzs : z.cells.size = size) (hsz : 0 < size)
    (v : Value) (n : Nat) (xs : List Value) (hs : a.eval s = v) (hown : w.ownsRow base e size v n xs)
    (B : Nat) (A : Option Addr) (m c : Nat) (news : List Value) (hx : a.eval x = .slice A m c) (hr : Reads w B size A m news) (h1 : ∀ u ∈ news, u.oneCell' = true)
    (h63 : n + m ≤ maxLen) (hbytes : (n + m) * bytes ≤ 140737488355328) (hbase : base ≤ w.heap.size)
    (h : ∀ v' w', w'.ownsRow base e size v' (n + m) (xs ++ news) → w.grownBy w' v.ownBlock → (v'.ownBlock = v.ownBlock ∨ v'.ownBlock = some w.heap.size) → K (a.put o.dst v') w') :
    if Region.wanted o (yielded ops a.tmps) = true then Oper.wp P o a w K Q else E := by
  have hw : Region.wanted o (yielded ops a.tmps) = true := by simp [Region.wanted, hgd]
  rw [if_pos hw]
  exact wp_append_any w s x t ho base e i z size bytes ht hi hz hsize hby hzs hsz v n xs hs hown B A m c news hx hr h1 h63 hbytes hbase h
end

theorem below_set {B : Nat} {a w : World} {b i : Nat} (h : Below B a w) (hb : B ≤ b) (u : Value) : Below B a (w.setCell ⟨b, i, none⟩ u) := h.setCell (p := ⟨b, i, none⟩) hb u
theorem below_new {B : Nat} {a w : World} (h : Below B a w) (hB : B ≤ a.heap.size) (o : Obj) : Below B a (w.alloc o) := h.alloc (Nat.le_trans hB h.size) o
theorem below_step {B C : Nat} {a w v : World} (h : Below B a w) (k : Below C w v) (hC : B ≤ C) : Below B a v := h.trans (k.mono hC)
theorem below_drewN {B : Nat} {a w : World} (h : Below B a w) (n : Nat) : Below B a (w.drewN n) := ⟨h.os, h.tape, h.output, h.size, h.block⟩

theorem cells_new (w : World) (l : List Value) (t : TypeId) : ∀ j u, l[j]? = some u → (w.alloc (.cells l.toArray t)).cell? ⟨w.heap.size, j, none⟩ = some u := by
  intro j u h
  rw [World.cell?_alloc_new]
  simpa using h
theorem cell_new1 (w : World) (v : Value) (t : TypeId) : ∀ j u, [v][j]? = some u → (w.alloc (.cells #[v] t)).cell? ⟨w.heap.size, j, none⟩ = some u := cells_new w [v] t
theorem one_int (x : Int) : ∀ u ∈ [Value.int .i64 x], u.oneCell' = true := by intro u hu; simp at hu; subst hu; rfl
theorem one_str (x : ByteArray) : ∀ u ∈ [Value.string x], u.oneCell' = true := by intro u hu; simp at hu; subst hu; rfl
theorem le_alloc {B : Nat} {w : World} (h : B ≤ w.heap.size) (o : Obj) : B ≤ (w.alloc o).heap.size := by simp; omega

theorem _root_.Go.World.ownsRow.weaken {w : World} {base base' : Nat} {e : TypeId} {size n : Nat} {v : Value} {xs : List Value} (h : w.ownsRow base e size v n xs) (hb : base' ≤ base) : w.ownsRow base' e size v n xs := by
  obtain ⟨h1, h2⟩ := h
  refine ⟨h1, ?_⟩
  rcases h2 with h2 | ⟨g, cap, cur, hv, hg, r⟩
  · exact .inl h2
  · exact .inr ⟨g, cap, cur, hv, by omega, r⟩
theorem row_below {w w' : World} {base : Nat} {e : TypeId} {size n : Nat} {v : Value} {xs : List Value} (h : w.ownsRow base e size v n xs) (hb : Below w.heap.size w w') : w'.ownsRow base e size v n xs := by
  obtain ⟨h1, h2⟩ := h
  refine ⟨h1, ?_⟩
  rcases h2 with h2 | ⟨g, cap, cur, hv, hg, hh, r⟩
  · exact .inl h2
  · exact .inr ⟨g, cap, cur, hv, hg, (hb.block g (Array.getElem?_eq_some_iff.1 hh).1).trans hh, r⟩

/-! ### append of one element onto a row of the call's own -/
theorem wpList_push {P : Program} {ops : Array Oper} {rest : List Oper} {o : Oper} {a : Act} {Q : Exit → Act → World → Prop} (w : World) (hgd : o.guard = none) (s x : Operand) (t : TypeId)
    (ho : o.op = .call { callee := .builtin .append, args := #[s, x], argTypes := #[t, t] })
    (base : Nat) (e : TypeId) (z : Value) (size bytes : Nat) (ht : P.underlying t = some (.slice e)) (hinfo : (P.info? e).map (fun i => (i.zero, i.size, i.bytes)) = some (some z, size, bytes))
    (hzs : z.cells.size = size) (hsz : 0 < size)
    (v : Value) (n : Nat) (xs : List Value) (hs : a.eval s = v) (hown : w.ownsRow base e size v n xs)
    (g : Nat) (news : List Value) (hx : a.eval x = .slice (some ⟨g, 0, none⟩) 1 1) (hn : news.length = size) (hc : ∀ j u, news[j]? = some u → w.cell? ⟨g, j, none⟩ = some u) (h1 : ∀ u ∈ news, u.oneCell' = true)
    (h63 : n + 1 ≤ maxLen) (hbytes : (n + 1) * bytes ≤ 140737488355328) (hbase : base ≤ w.heap.size)
    (h : ∀ v' w', w'.ownsRow base e size v' (n + 1) (xs ++ news) → Below base w w' → wpList P ops Q rest (a.put o.dst v') w') : wpList P ops Q (o :: rest) a w := by
  obtain ⟨i, hi, hz, hsize, hby⟩ := info_parts hinfo
  refine wpList_append_any w hgd s x t ho base e i z size bytes ht hi hz hsize hby hzs hsz v n xs hs hown (g + 1) (some ⟨g, 0, none⟩) 1 1 news hx ⟨by omega, fun _ => ⟨_, rfl, by simp, fun j u hu => ?_⟩⟩ h1 h63 hbytes hbase
    fun v' w' h2 h3 _ => h v' w' h2 ((Below.refl base w).grown h3 hbase fun k hk => (hown.lt k hk).1)
  have : (⟨g, 0, none⟩ : Addr).add j = ⟨g, j, none⟩ := by unfold Addr.add; split <;> simp_all
  rw [this]
  exact hc j u hu

/-! ### Boxes: what a function lays of its parameters (sizes as inequalities: an equation would be a rule of the walk) -/
theorem box1 (w : World) (c : Array Value) (t : TypeId) :
    ∃ w1, w1 = w.alloc (.cells c t) ∧ Below w.heap.size w w1 ∧ w.heap.size + 1 ≤ w1.heap.size ∧ Blk w1 w.heap.size t c :=
  ⟨_, rfl, (Below.refl _ _).alloc (Nat.le_refl _) _, by simp, Blk.new _ _ _⟩
theorem box2 (w : World) (c d : Array Value) (t u : TypeId) :
    ∃ w1, w1 = (w.alloc (.cells c t)).alloc (.cells d u) ∧ Below w.heap.size w w1 ∧ w.heap.size + 2 ≤ w1.heap.size ∧ Blk w1 w.heap.size t c ∧ Blk w1 (w.heap.size + 1) u d := by
  refine ⟨_, rfl, ((Below.refl _ _).alloc (Nat.le_refl _) _).alloc (by simp) _, by simp, (Blk.new _ _ _).alloc _, ?_⟩
  have h := Blk.new (w.alloc (.cells c t)) u d
  rwa [World.size_alloc] at h
theorem box3 (w : World) (c d e : Array Value) (t u v : TypeId) :
    ∃ w1, w1 = ((w.alloc (.cells c t)).alloc (.cells d u)).alloc (.cells e v) ∧ Below w.heap.size w w1 ∧ w.heap.size + 3 ≤ w1.heap.size ∧ Blk w1 w.heap.size t c ∧ Blk w1 (w.heap.size + 1) u d ∧ Blk w1 (w.heap.size + 2) v e := by
  obtain ⟨w1, e1, h1, h2, h3, h4⟩ := box2 w c d t u
  have hs : w1.heap.size = w.heap.size + 2 := by rw [e1]; simp
  refine ⟨w1.alloc (.cells e v), by rw [e1], h1.alloc (by omega) _, by simp; omega, h3.alloc _, h4.alloc _, ?_⟩
  have h := Blk.new w1 v e
  rwa [hs] at h
theorem box4 (w : World) (c d e f : Array Value) (t u v x : TypeId) :
    ∃ w1, w1 = (((w.alloc (.cells c t)).alloc (.cells d u)).alloc (.cells e v)).alloc (.cells f x) ∧ Below w.heap.size w w1 ∧ w.heap.size + 4 ≤ w1.heap.size ∧ Blk w1 w.heap.size t c ∧ Blk w1 (w.heap.size + 1) u d ∧ Blk w1 (w.heap.size + 2) v e ∧ Blk w1 (w.heap.size + 3) x f := by
  obtain ⟨w1, e1, h1, h2, h3, h4, h5⟩ := box3 w c d e t u v
  have hs : w1.heap.size = w.heap.size + 3 := by rw [e1]; simp
  refine ⟨w1.alloc (.cells f x), by rw [e1], h1.alloc (by omega) _, by simp; omega, h3.alloc _, h4.alloc _, h5.alloc _, ?_⟩
  have h := Blk.new w1 x f
  rwa [hs] at h
end Go.Proofs.YtnndaipnfniciaaGreatDoor

namespace Go.Proofs.YtnndaipnfniciaaGreatDoor
open Go.RowKit
set_option maxRecDepth 100000

/-- The error of a number that is to lie from lo to hi. -/
def rng (n lo hi : Int) : Int := if n < lo ∨ hi < n then 3 else 0
/-- The first number that is not 0. -/
def fnz : List Int → Int
  | [] => 0
  | a :: l => if a = 0 then fnz l else a
theorem fnz_zero {l : List Int} : fnz l = 0 ↔ ∀ x ∈ l, x = 0 := by
  induction l with
  | nil => simp [fnz]
  | cons a l ih => unfold fnz; split <;> simp_all
theorem rng_zero {n lo hi : Int} : rng n lo hi = 0 ↔ lo ≤ n ∧ n ≤ hi := by unfold rng; split <;> omega
/-- An absolute value. -/
def ab (n : Int) : Int := max n (-n)
/-- A number of 64 bits. -/
def wr (n : Int) : Int := IntKind.i64.wrap n
theorem wr_def (n : Int) : wr n = (n + 9223372036854775808) % 18446744073709551616 - 9223372036854775808 := by
  unfold wr IntKind.wrap
  simp [IntKind.signed, IntKind.bits]
  omega
theorem wr_in {n : Int} (h : -9223372036854775808 ≤ n ∧ n ≤ 9223372036854775807) : wr n = n := by rw [wr_def]; omega
theorem wr_add (a b : Int) : wr (wr a + wr b) = wr (a + b) := by simp only [wr_def]; omega
theorem wr_sub (a b : Int) : wr (wr a - wr b) = wr (a - b) := by simp only [wr_def]; omega

/-- A complex integer. -/
structure G where
  re : Int
  im : Int
instance : DecidableEq G := fun a b => decidable_of_iff (a.re = b.re ∧ a.im = b.im) (by cases a; cases b; simp)
theorem G.ext' {a b : G} (h1 : a.re = b.re) (h2 : a.im = b.im) : a = b := by cases a; cases b; simp_all
namespace G
def zero : G := ⟨0, 0⟩
def one : G := ⟨1, 0⟩
def add (a b : G) : G := ⟨a.re + b.re, a.im + b.im⟩
def mul (a b : G) : G := ⟨a.re * b.re - a.im * b.im, a.re * b.im + a.im * b.re⟩
def sub (a b : G) : G := ⟨a.re - b.re, a.im - b.im⟩
def conj (a : G) : G := ⟨a.re, -a.im⟩
def sq (a : G) : Int := a.re * a.re + a.im * a.im
/-- Its parts as numbers of 64 bits. -/
def w (a : G) : G := ⟨wr a.re, wr a.im⟩
/-- The sum of the absolute values of its parts. -/
def nrm (a : G) : Nat := a.re.natAbs + a.im.natAbs
theorem nrm_add (a b : G) : (a.add b).nrm ≤ a.nrm + b.nrm := by simp only [nrm, add]; omega
theorem nrm_mul (a b : G) : (a.mul b).nrm ≤ a.nrm * b.nrm := by
  have h1 := Int.natAbs_mul a.re b.re
  have h2 := Int.natAbs_mul a.im b.im
  have h3 := Int.natAbs_mul a.re b.im
  have h4 := Int.natAbs_mul a.im b.re
  have h5 : (a.re.natAbs + a.im.natAbs) * (b.re.natAbs + b.im.natAbs) = a.re.natAbs * b.re.natAbs + a.im.natAbs * b.im.natAbs + (a.re.natAbs * b.im.natAbs + a.im.natAbs * b.re.natAbs) := by grind
  simp only [nrm, mul]
  rw [h5, ← h1, ← h2, ← h3, ← h4]
  omega
theorem w_in {a : G} (h : a.nrm ≤ 9223372036854775807) : a.w = a := by
  unfold nrm at h
  exact G.ext' (wr_in (by omega)) (wr_in (by omega))
theorem w_add (a b : G) : (a.w.add b.w).w = (a.add b).w := G.ext' (wr_add _ _) (wr_add _ _)
theorem nrm_le {a : G} {n : Nat} (h : a.nrm ≤ n) : -(n : Int) ≤ a.re ∧ a.re ≤ n ∧ -(n : Int) ≤ a.im ∧ a.im ≤ n := by unfold nrm at h; omega
theorem sq_nn (a : G) : 0 ≤ a.sq := by
  have h1 : 0 ≤ a.re * a.re := by rcases Int.le_total 0 a.re with h | h; exact Int.mul_nonneg h h; exact Int.mul_nonneg_of_nonpos_of_nonpos h h
  have h2 : 0 ≤ a.im * a.im := by rcases Int.le_total 0 a.im with h | h; exact Int.mul_nonneg h h; exact Int.mul_nonneg_of_nonpos_of_nonpos h h
  unfold sq; omega
theorem sq_zero {a : G} (h : a.sq = 0) : a = zero := by
  have h1 : 0 ≤ a.re * a.re := by rcases Int.le_total 0 a.re with h | h; exact Int.mul_nonneg h h; exact Int.mul_nonneg_of_nonpos_of_nonpos h h
  have h2 : 0 ≤ a.im * a.im := by rcases Int.le_total 0 a.im with h | h; exact Int.mul_nonneg h h; exact Int.mul_nonneg_of_nonpos_of_nonpos h h
  unfold sq at h
  have e1 : a.re * a.re = 0 := by omega
  have e2 : a.im * a.im = 0 := by omega
  have e1 := Int.mul_eq_zero.1 e1
  have e2 := Int.mul_eq_zero.1 e2
  exact G.ext' (by rcases e1 with e | e <;> exact e) (by rcases e2 with e | e <;> exact e)
end G

/-- A chain matrix. -/
structure Mat where
  a : G
  b : G
  c : G
  d : G
theorem Mat.ext' {x y : Mat} (h1 : x.a = y.a) (h2 : x.b = y.b) (h3 : x.c = y.c) (h4 : x.d = y.d) : x = y := by cases x; cases y; simp_all
instance : DecidableEq Mat := fun x y => decidable_of_iff (x.a = y.a ∧ x.b = y.b ∧ x.c = y.c ∧ x.d = y.d) (by cases x; cases y; simp)
namespace Mat
def id : Mat := ⟨.one, .zero, .zero, .one⟩
def mul (x y : Mat) : Mat := ⟨(x.a.mul y.a).add (x.b.mul y.c), (x.a.mul y.b).add (x.b.mul y.d), (x.c.mul y.a).add (x.d.mul y.c), (x.c.mul y.b).add (x.d.mul y.d)⟩
def w (x : Mat) : Mat := ⟨x.a.w, x.b.w, x.c.w, x.d.w⟩
def det (x : Mat) : G := (x.a.mul x.d).sub (x.b.mul x.c)
/-- Rows of no more than n. -/
def In (x : Mat) (n : Nat) : Prop := x.a.nrm + x.b.nrm ≤ n ∧ x.c.nrm + x.d.nrm ≤ n
theorem In.w {x : Mat} {n : Nat} (h : x.In n) (hn : n ≤ 9223372036854775807) : x.w = x := by
  obtain ⟨h1, h2⟩ := h
  exact Mat.ext' (G.w_in (by omega)) (G.w_in (by omega)) (G.w_in (by omega)) (G.w_in (by omega))
theorem In.mul {x y : Mat} {n m : Nat} (hx : x.In n) (hy : y.In m) : (x.mul y).In (n * m) := by
  have key : ∀ p q : G, p.nrm + q.nrm ≤ n → ((p.mul y.a).add (q.mul y.c)).nrm + ((p.mul y.b).add (q.mul y.d)).nrm ≤ n * m := by
    intro p q h
    have a1 := G.nrm_add (p.mul y.a) (q.mul y.c)
    have a2 := G.nrm_add (p.mul y.b) (q.mul y.d)
    have m1 := G.nrm_mul p y.a
    have m2 := G.nrm_mul q y.c
    have m3 := G.nrm_mul p y.b
    have m4 := G.nrm_mul q y.d
    have t1 : p.nrm * y.a.nrm + p.nrm * y.b.nrm ≤ p.nrm * m := by rw [← Nat.mul_add]; exact Nat.mul_le_mul_left _ hy.1
    have t2 : q.nrm * y.c.nrm + q.nrm * y.d.nrm ≤ q.nrm * m := by rw [← Nat.mul_add]; exact Nat.mul_le_mul_left _ hy.2
    have t3 : p.nrm * m + q.nrm * m ≤ n * m := by rw [← Nat.add_mul]; exact Nat.mul_le_mul_right _ h
    omega
  exact ⟨key _ _ hx.1, key _ _ hx.2⟩
theorem det_mul (x y : Mat) : (x.mul y).det = x.det.mul y.det := by
  apply G.ext' <;> simp only [det, mul, G.mul, G.add, G.sub] <;> grind
theorem mul_assoc (x y z : Mat) : (x.mul y).mul z = x.mul (y.mul z) := by
  apply Mat.ext' <;> apply G.ext' <;> simp only [mul, G.mul, G.add] <;> grind
theorem id_mul (x : Mat) : id.mul x = x := by
  apply Mat.ext' <;> apply G.ext' <;> simp [mul, id, G.mul, G.add, G.one, G.zero]
theorem mul_id (x : Mat) : x.mul id = x := by
  apply Mat.ext' <;> apply G.ext' <;> simp [mul, id, G.mul, G.add, G.one, G.zero]
end Mat

/-! ### Elements -/
def kBlock : ByteArray := { data := #[98, 108, 111, 99, 107] }
def kSeries : ByteArray := { data := #[115, 101, 114, 105, 101, 115] }
def kShunt : ByteArray := { data := #[115, 104, 117, 110, 116] }
def kTrap : ByteArray := { data := #[116, 114, 97, 112] }
/-- An element: its kind and its two numbers. -/
structure El where
  kind : ByteArray
  a : Int
  b : Int
namespace El
def known (x : El) : Bool := decide (x.kind = kBlock ∨ x.kind = kSeries ∨ x.kind = kShunt ∨ x.kind = kTrap)
def divides (x : El) : Bool := decide (x.kind = kBlock ∨ x.kind = kTrap)
def err (x : El) : Int := fnz [if x.known then 0 else 13, rng x.a 0 8, rng x.b 0 8, if x.divides && x.a == 0 && x.b == 0 then 6 else 0]
def val (x : El) (w : Int) : G := ⟨x.a, w * x.b⟩
def mat (x : El) (v : G) : Mat := if x.kind = kSeries then ⟨.one, v, .zero, .one⟩ else if x.kind = kShunt then ⟨.one, .zero, v, .one⟩ else if x.kind = kBlock then ⟨v, .one, .zero, v⟩ else ⟨v, .zero, .one, v⟩
structure Ok (x : El) : Prop where
  kn : x.known = true
  al : 0 ≤ x.a
  ah : x.a ≤ 8
  bl : 0 ≤ x.b
  bh : x.b ≤ 8
  nz : x.divides = true → ¬ (x.a = 0 ∧ x.b = 0)
theorem err_ok {x : El} (h : x.err = 0) : x.Ok := by
  unfold err at h
  rw [fnz_zero] at h
  simp only [List.mem_cons, List.not_mem_nil, or_false, forall_eq_or_imp, forall_eq] at h
  obtain ⟨h1, h2, h3, h4⟩ := h
  rw [rng_zero] at h2 h3
  refine ⟨by cases hk : x.known <;> simp_all, h2.1, h2.2, h3.1, h3.2, fun hd hz => ?_⟩
  rw [hd, hz.1, hz.2] at h4
  simp at h4
theorem ok_err {x : El} (h : x.Ok) : x.err = 0 := by
  unfold err
  rw [fnz_zero]
  simp only [List.mem_cons, List.not_mem_nil, or_false, forall_eq_or_imp, forall_eq]
  refine ⟨by rw [h.kn]; rfl, rng_zero.2 ⟨h.al, h.ah⟩, rng_zero.2 ⟨h.bl, h.bh⟩, ?_⟩
  cases hd : x.divides
  · simp
  · have := h.nz hd
    by_cases ha : x.a = 0
    · have hb : ¬ x.b = 0 := fun e => this ⟨ha, e⟩
      simp [hb]
    · simp [ha]
theorem val_nrm {x : El} (h : x.Ok) {w : Int} (h1 : 1 ≤ w) (h8 : w ≤ 8) : (x.val w).nrm ≤ 72 := by
  have h2 := h.al; have h3 := h.ah; have h4 := h.bl; have h5 := h.bh
  have h6 : 0 ≤ w * x.b := Int.mul_nonneg (by omega) h4
  have h7 : w * x.b ≤ 8 * 8 := Int.mul_le_mul h8 h5 h4 (by omega)
  unfold val G.nrm
  simp only
  omega
theorem mat_in {x : El} {v : G} (h : v.nrm ≤ 72) : (x.mat v).In 73 := by
  have e1 : G.one.nrm = 1 := rfl
  have e0 : G.zero.nrm = 0 := rfl
  unfold mat Mat.In
  repeat' split
  all_goals (simp only [e1, e0]; omega)
theorem mat_det {x : El} (h : x.known = true) (v : G) : (x.mat v).det = if x.divides then v.mul v else .one := by
  have n1 : ¬ kSeries = kBlock := by decide
  have n2 : ¬ kSeries = kTrap := by decide
  have n3 : ¬ kShunt = kBlock := by decide
  have n4 : ¬ kShunt = kTrap := by decide
  have n5 : ¬ kBlock = kSeries := by decide
  have n6 : ¬ kBlock = kShunt := by decide
  have n7 : ¬ kTrap = kSeries := by decide
  have n8 : ¬ kTrap = kShunt := by decide
  have n9 : ¬ kShunt = kSeries := by decide
  have n11 : ¬ kTrap = kBlock := by decide
  unfold known at h
  rw [decide_eq_true_iff] at h
  unfold mat divides
  rcases h with h | h | h | h <;> rw [h] <;> simp [n1, n2, n3, n4, n5, n6, n7, n8, n9, n11, Mat.det, G.mul, G.sub, G.one, G.zero]
end El
/-- The error of a ladder. -/
def ladErr (l : List El) : Int := if 5 < l.length then 5 else fnz (l.map El.err)
/-- The error of a ladder and a frequency. -/
def atErr (l : List El) (w : Int) : Int := fnz [ladErr l, rng w 1 8]
/-- The chain matrix behind a matrix. -/
def chn (w : Int) (m : Mat) (l : List El) : Mat := l.foldl (fun m x => m.mul (x.mat (x.val w))) m
/-- The divisor behind a divisor. -/
def dvs (w : Int) (d : G) (l : List El) : G := l.foldl (fun d x => if x.divides then d.mul (x.val w) else d) d
structure LadOk (l : List El) : Prop where
  len : l.length ≤ 5
  all : ∀ x ∈ l, x.Ok
theorem lad_ok {l : List El} (h : ladErr l = 0) : LadOk l := by
  unfold ladErr at h
  split at h
  · omega
  · rw [fnz_zero] at h
    exact ⟨by omega, fun x hx => El.err_ok (h _ (List.mem_map_of_mem hx))⟩
theorem ok_lad {l : List El} (h : LadOk l) : ladErr l = 0 := by
  unfold ladErr
  rw [if_neg (by have := h.len; omega), fnz_zero]
  intro e he
  obtain ⟨x, hx, rfl⟩ := List.mem_map.1 he
  exact El.ok_err (h.all x hx)
theorem chn_in {w : Int} (h1 : 1 ≤ w) (h8 : w ≤ 8) : ∀ (l : List El) (m : Mat) (n : Nat), (∀ x ∈ l, x.Ok) → m.In n → (chn w m l).In (n * 73 ^ l.length) := by
  intro l
  induction l with
  | nil => intro m n _ h; simpa [chn] using h
  | cons x l ih =>
    intro m n hl h
    have := ih (m.mul (x.mat (x.val w))) (n * 73) (fun y hy => hl y (by simp [hy])) (h.mul (El.mat_in (El.val_nrm (hl x (by simp)) h1 h8)))
    rw [List.length_cons, Nat.pow_succ, Nat.mul_comm (73 ^ l.length) 73, ← Nat.mul_assoc]
    exact this
theorem dvs_in {w : Int} (h1 : 1 ≤ w) (h8 : w ≤ 8) : ∀ (l : List El) (d : G) (n : Nat), (∀ x ∈ l, x.Ok) → d.nrm ≤ n → (dvs w d l).nrm ≤ n * 73 ^ l.length := by
  intro l
  induction l with
  | nil => intro d n _ h; simpa [dvs] using h
  | cons x l ih =>
    intro d n hl h
    have hv := El.val_nrm (hl x (by simp)) h1 h8
    have hm : (if x.divides then d.mul (x.val w) else d).nrm ≤ n * 73 := by
      split
      · exact Nat.le_trans (G.nrm_mul _ _) (Nat.mul_le_mul h (by omega))
      · omega
    have := ih (if x.divides then d.mul (x.val w) else d) (n * 73) (fun y hy => hl y (by simp [hy])) hm
    rw [List.length_cons, Nat.pow_succ, Nat.mul_comm (73 ^ l.length) 73, ← Nat.mul_assoc]
    exact this
theorem id_in : Mat.id.In 1 := ⟨by decide, by decide⟩
theorem pow73 {k : Nat} (h : k ≤ 5) : 1 * 73 ^ k ≤ 2073071593 := by
  have : k = 0 ∨ k = 1 ∨ k = 2 ∨ k = 3 ∨ k = 4 ∨ k = 5 := by omega
  rcases this with rfl | rfl | rfl | rfl | rfl | rfl <;> decide
theorem chain_in {l : List El} {w : Int} (h : LadOk l) (h1 : 1 ≤ w) (h8 : w ≤ 8) : (chn w .id l).In 2073071593 := by
  have := chn_in h1 h8 l _ _ h.all id_in
  have hp := pow73 h.len
  exact ⟨Nat.le_trans this.1 hp, Nat.le_trans this.2 hp⟩
theorem div_in {l : List El} {w : Int} (h : LadOk l) (h1 : 1 ≤ w) (h8 : w ≤ 8) : (dvs w .one l).nrm ≤ 2073071593 :=
  Nat.le_trans (dvs_in h1 h8 l _ 1 h.all (by decide)) (pow73 h.len)
theorem chn_append (w : Int) (m : Mat) (l r : List El) : chn w m (l ++ r) = chn w (chn w m l) r := by simp [chn]
theorem chn_mul (w : Int) : ∀ (r : List El) (m p : Mat), chn w (m.mul p) r = m.mul (chn w p r) := by
  intro r
  induction r with
  | nil => intro m p; rfl
  | cons x r ih => intro m p; show chn w ((m.mul p).mul _) r = _; rw [Mat.mul_assoc, ih]; rfl
theorem chn_start (w : Int) (m : Mat) (r : List El) : chn w m r = m.mul (chn w .id r) := by
  have := chn_mul w r m .id
  rwa [Mat.mul_id] at this
end Go.Proofs.YtnndaipnfniciaaGreatDoor

namespace Go.Proofs.YtnndaipnfniciaaGreatDoor
open Go.RowKit
set_option maxRecDepth 100000

theorem chn_cons (w : Int) (x : El) (l : List El) : chn w .id (x :: l) = (x.mat (x.val w)).mul (chn w .id l) := by
  show chn w (Mat.id.mul _) l = _
  rw [Mat.id_mul, chn_start]
theorem dvs_mul (w : Int) : ∀ (l : List El) (d e : G), dvs w (d.mul e) l = d.mul (dvs w e l) := by
  intro l
  induction l with
  | nil => intro d e; rfl
  | cons x l ih =>
    intro d e
    show dvs w (if x.divides then (d.mul e).mul (x.val w) else d.mul e) l = d.mul (dvs w (if x.divides then e.mul (x.val w) else e) l)
    rw [← ih]
    split
    · congr 1
      apply G.ext' <;> simp only [G.mul] <;> grind
    · rfl
theorem G.mul_one (d : G) : d.mul .one = d := by apply G.ext' <;> simp [G.mul, G.one]
theorem G.one_mul (d : G) : G.one.mul d = d := by apply G.ext' <;> simp [G.mul, G.one]
theorem G.mul_comm (a b : G) : a.mul b = b.mul a := by apply G.ext' <;> simp only [G.mul] <;> grind
theorem dvs_start (w : Int) (d : G) (l : List El) : dvs w d l = d.mul (dvs w .one l) := by
  have := dvs_mul w l d .one
  rwa [G.mul_one] at this
theorem dvs_cons (w : Int) (x : El) (l : List El) : dvs w .one (x :: l) = if x.divides then (x.val w).mul (dvs w .one l) else dvs w .one l := by
  show dvs w (if x.divides then G.one.mul (x.val w) else G.one) l = _
  split
  · rw [G.one_mul, dvs_start]
  · rfl
theorem dvs_append (w : Int) (l r : List El) : dvs w .one (l ++ r) = (dvs w .one l).mul (dvs w .one r) := by
  show (l ++ r).foldl _ _ = _
  rw [List.foldl_append]
  exact dvs_start w _ r
theorem chn_join (w : Int) (l r : List El) : chn w .id (l ++ r) = (chn w .id l).mul (chn w .id r) := by rw [chn_append, chn_start]
theorem det_chn {w : Int} : ∀ {l : List El}, (∀ x ∈ l, x.known = true) → (chn w .id l).det = (dvs w .one l).mul (dvs w .one l) := by
  intro l
  induction l with
  | nil => intro _; apply G.ext' <;> simp [chn, dvs, Mat.det, Mat.id, G.mul, G.sub, G.one, G.zero]
  | cons x l ih =>
    intro h
    rw [chn_cons, dvs_cons, Mat.det_mul, El.mat_det (h x (by simp)), ih (fun y hy => h y (by simp [hy]))]
    split
    · apply G.ext' <;> simp only [G.mul] <;> grind
    · rw [G.one_mul]

/-! ### Reversed, dual -/
def Mat.rev (m : Mat) : Mat := ⟨m.d, m.b, m.c, m.a⟩
def Mat.dual (m : Mat) : Mat := ⟨m.d, m.c, m.b, m.a⟩
theorem Mat.rev_mul (x y : Mat) : (x.mul y).rev = y.rev.mul x.rev := by
  apply Mat.ext' <;> apply G.ext' <;> simp only [Mat.rev, Mat.mul, G.mul, G.add] <;> grind
theorem Mat.dual_mul (x y : Mat) : (x.mul y).dual = x.dual.mul y.dual := by
  apply Mat.ext' <;> apply G.ext' <;> simp only [Mat.dual, Mat.mul, G.mul, G.add] <;> grind
theorem El.mat_rev (x : El) (v : G) : (x.mat v).rev = x.mat v := by unfold El.mat; repeat' split <;> try rfl
def dualKind (k : ByteArray) : ByteArray := if k = kBlock then kTrap else if k = kSeries then kShunt else if k = kShunt then kSeries else kBlock
def El.dual (x : El) : El := ⟨dualKind x.kind, x.a, x.b⟩
theorem El.kinds {x : El} (h : x.known = true) : x.kind = kBlock ∨ x.kind = kSeries ∨ x.kind = kShunt ∨ x.kind = kTrap := by
  unfold El.known at h; exact of_decide_eq_true h
theorem El.mat_dual {x : El} (h : x.known = true) (v : G) : x.dual.mat v = (x.mat v).dual := by
  have n1 : ¬ kSeries = kBlock := by decide
  have n3 : ¬ kShunt = kBlock := by decide
  have n5 : ¬ kBlock = kSeries := by decide
  have n6 : ¬ kBlock = kShunt := by decide
  have n7 : ¬ kTrap = kSeries := by decide
  have n8 : ¬ kTrap = kShunt := by decide
  have n9 : ¬ kShunt = kSeries := by decide
  have n11 : ¬ kTrap = kBlock := by decide
  unfold El.dual dualKind El.mat
  rcases El.kinds h with h | h | h | h <;> rw [h] <;> simp [n1, n3, n5, n6, n7, n8, n9, n11, Mat.dual]
theorem chn_rev (w : Int) (l : List El) : chn w .id l.reverse = (chn w .id l).rev := by
  induction l with
  | nil => rfl
  | cons x l ih =>
    rw [List.reverse_cons, chn_join, ih, chn_cons w x l, Mat.rev_mul, El.mat_rev, chn_cons w x []]
    exact congrArg _ (Mat.mul_id _)
theorem chn_dual {w : Int} : ∀ {l : List El}, (∀ x ∈ l, x.known = true) → chn w .id (l.map El.dual) = (chn w .id l).dual := by
  intro l
  induction l with
  | nil => intro _; rfl
  | cons x l ih =>
    intro h
    rw [List.map_cons, chn_cons, chn_cons, Mat.dual_mul, ih (fun y hy => h y (by simp [hy])), show x.dual.val w = x.val w from rfl, El.mat_dual (h x (by simp))]

/-! ### Powers -/
/-- The real part of a number times the conjugate of another one. -/
def pw (p q : G) : Int := p.re * q.re + p.im * q.im
theorem pw_conj (p q : G) : (p.mul q.conj).re = pw p q := by simp only [G.mul, G.conj, pw]; grind
/-- What a matrix makes of a column. -/
def Mat.ap (m : Mat) (p q : G) : G × G := ((m.a.mul p).add (m.b.mul q), (m.c.mul p).add (m.d.mul q))
theorem Mat.ap_mul (x y : Mat) (p q : G) : (x.mul y).ap p q = x.ap (y.ap p q).1 (y.ap p q).2 := by
  unfold Mat.ap
  refine Prod.ext ?_ ?_ <;> apply G.ext' <;> simp only [Mat.mul, G.mul, G.add] <;> grind
/-- The power that an element takes. -/
def El.loss (x : El) (v p q : G) : Int := v.re * (if x.kind = kSeries ∨ x.kind = kBlock then q.sq else p.sq)
theorem El.pw_ap {x : El} (h : x.known = true) (v p q : G) : pw ((x.mat v).ap p q).1 ((x.mat v).ap p q).2 = (if x.divides then v.sq else 1) * pw p q + x.loss v p q := by
  have n1 : ¬ kSeries = kBlock := by decide
  have n2 : ¬ kSeries = kTrap := by decide
  have n3 : ¬ kShunt = kBlock := by decide
  have n4 : ¬ kShunt = kTrap := by decide
  have n5 : ¬ kBlock = kSeries := by decide
  have n6 : ¬ kBlock = kShunt := by decide
  have n7 : ¬ kTrap = kSeries := by decide
  have n8 : ¬ kTrap = kShunt := by decide
  have n9 : ¬ kShunt = kSeries := by decide
  have n11 : ¬ kTrap = kBlock := by decide
  unfold El.mat El.divides El.loss
  rcases El.kinds h with h | h | h | h <;> rw [h] <;> simp only [n1, n2, n3, n4, n5, n6, n7, n8, n9, n11, if_true, if_false, or_true, true_or, or_self, decide_true, decide_false, Mat.ap, pw, G.mul, G.add, G.sq, G.one, G.zero, Bool.false_eq_true] <;> grind
/-- What a ladder takes ahead of a column. -/
def lossOf (w : Int) (p q : G) : List El → Int
  | [] => 0
  | x :: l => (if x.divides then (x.val w).sq else 1) * lossOf w p q l + x.loss (x.val w) ((chn w .id l).ap p q).1 ((chn w .id l).ap p q).2
theorem Mat.ap_id (p q : G) : Mat.id.ap p q = (p, q) := by
  refine Prod.ext ?_ ?_ <;> apply G.ext' <;> simp [Mat.ap, Mat.id, G.mul, G.add, G.one, G.zero]
theorem pw_chn {w : Int} (p q : G) : ∀ {l : List El}, (∀ x ∈ l, x.known = true) → pw ((chn w .id l).ap p q).1 ((chn w .id l).ap p q).2 = (dvs w .one l).sq * pw p q + lossOf w p q l := by
  intro l
  induction l with
  | nil => intro _; rw [show chn w .id ([] : List El) = .id from rfl, Mat.ap_id]; simp [dvs, G.sq, G.one, lossOf]
  | cons x l ih =>
    intro h
    have := ih (fun y hy => h y (by simp [hy]))
    rw [chn_cons, Mat.ap_mul, El.pw_ap (h x (by simp)), this, dvs_cons, lossOf]
    split
    · simp only [G.sq, G.mul]; grind
    · grind
theorem El.loss_nn {x : El} (h : x.Ok) (w : Int) (p q : G) : 0 ≤ x.loss (x.val w) p q := by
  unfold El.loss
  exact Int.mul_nonneg h.al (by split <;> exact G.sq_nn _)
theorem lossOf_nn {w : Int} (p q : G) : ∀ {l : List El}, (∀ x ∈ l, x.Ok) → 0 ≤ lossOf w p q l := by
  intro l
  induction l with
  | nil => intro _; simp [lossOf]
  | cons x l ih =>
    intro h
    have h1 := ih (fun y hy => h y (by simp [hy]))
    have h2 := El.loss_nn (h x (by simp)) w ((chn w .id l).ap p q).1 ((chn w .id l).ap p q).2
    have h3 : 0 ≤ (if x.divides then (x.val w).sq else 1) := by split; exact G.sq_nn _; decide
    have := Int.mul_nonneg h3 h1
    rw [lossOf]; omega
theorem lossOf_zero {w : Int} (p q : G) : ∀ {l : List El}, (∀ x ∈ l, x.a = 0) → lossOf w p q l = 0 := by
  intro l
  induction l with
  | nil => intro _; simp [lossOf]
  | cons x l ih =>
    intro h
    rw [lossOf, ih (fun y hy => h y (by simp [hy]))]
    unfold El.loss
    rw [show (x.val w).re = 0 from h x (by simp)]
    simp
end Go.Proofs.YtnndaipnfniciaaGreatDoor

namespace Go.Proofs.YtnndaipnfniciaaGreatDoor
open Go.RowKit
set_option maxRecDepth 100000

/-- The coefficient at a place. -/
def co (l : List Int) (k : Nat) : Int := (l[k]?).getD 0
/-- Without last zeros. -/
def trim : List Int → List Int
  | [] => []
  | a :: l => if a = 0 ∧ trim l = [] then [] else a :: trim l
theorem co_nil (k : Nat) : co [] k = 0 := by simp [co]
theorem co_cons_zero (a : Int) (l : List Int) : co (a :: l) 0 = a := by simp [co]
theorem co_cons_succ (a : Int) (l : List Int) (k : Nat) : co (a :: l) (k + 1) = co l k := by simp [co]
theorem co_trim (l : List Int) : ∀ k, co (trim l) k = co l k := by
  induction l with
  | nil => intro k; rfl
  | cons a l ih =>
    intro k
    unfold trim
    split
    · rename_i h
      rw [co_nil]
      cases k with
      | zero => rw [co_cons_zero]; exact h.1.symm
      | succ k => rw [co_cons_succ, ← ih, h.2, co_nil]
    · cases k with
      | zero => rw [co_cons_zero, co_cons_zero]
      | succ k => rw [co_cons_succ, co_cons_succ, ih]
theorem trim_zero {l : List Int} (h : ∀ k, co l k = 0) : trim l = [] := by
  induction l with
  | nil => rfl
  | cons a l ih =>
    unfold trim
    rw [if_pos ⟨h 0, ih fun k => h (k + 1)⟩]
theorem trim_ext : ∀ {l m : List Int}, (∀ k, co l k = co m k) → trim l = trim m := by
  intro l
  induction l with
  | nil => intro m h; rw [trim_zero (l := m) (fun k => by rw [← h, co_nil])]; rfl
  | cons a l ih =>
    intro m h
    cases m with
    | nil => rw [trim_zero (l := a :: l) (fun k => by rw [h, co_nil])]; rfl
    | cons b m =>
      have h0 : a = b := h 0
      have := ih (m := m) (fun k => h (k + 1))
      unfold trim
      rw [h0, this]
theorem trim_trim (l : List Int) : trim (trim l) = trim l := trim_ext (co_trim l)
/-- It has no last zeros. -/
def Trim (l : List Int) : Prop := trim l = l
theorem trim_is (l : List Int) : Trim (trim l) := trim_trim l
theorem Trim.ext {l m : List Int} (hl : Trim l) (hm : Trim m) (h : ∀ k, co l k = co m k) : l = m := by
  rw [← hl, ← hm]; exact trim_ext h
theorem trim_len (l : List Int) : (trim l).length ≤ l.length := by
  induction l with
  | nil => exact Nat.le_refl _
  | cons a l ih => unfold trim; split <;> simp <;> omega
/-- The loop that drops the last zeros. -/
theorem trim_take (l : List Int) (n : Nat) (h : ∀ k, n ≤ k → co l k = 0) : trim (l.take n) = trim l := by
  refine trim_ext fun k => ?_
  unfold co
  rw [List.getElem?_take]
  split
  · rfl
  · have := h k (by omega)
    unfold co at this
    rw [this]; rfl
theorem trim_last {l : List Int} (h : l = [] ∨ co l (l.length - 1) ≠ 0) : Trim l := by
  induction l with
  | nil => rfl
  | cons a l ih =>
    unfold Trim trim
    rcases h with h | h
    · cases h
    · cases l with
      | nil =>
        have : a ≠ 0 := h
        rw [if_neg (fun e => this e.1)]; rfl
      | cons b l =>
        have h2 : co (b :: l) ((b :: l).length - 1) ≠ 0 := by
          simp only [List.length_cons, Nat.add_sub_cancel] at h ⊢
          rwa [co_cons_succ] at h
        have := ih (.inr h2)
        unfold Trim at this
        rw [this]; simp
theorem last_trim {l : List Int} (h : Trim l) : l = [] ∨ co l (l.length - 1) ≠ 0 := by
  rcases Nat.eq_zero_or_pos l.length with h0 | h0
  · exact .inl (List.eq_nil_of_length_eq_zero h0)
  · right
    intro hz
    have h1 : trim (l.take (l.length - 1)) = trim l := trim_take l _ fun k hk => by
      rcases Nat.lt_or_ge k l.length with q | q
      · have : k = l.length - 1 := by omega
        rw [this]; exact hz
      · unfold co; rw [List.getElem?_eq_none q]; rfl
    unfold Trim at h
    rw [h] at h1
    have := trim_len (l.take (l.length - 1))
    rw [h1, List.length_take] at this
    omega

/-! ### Products -/
/-- out with x b added from place i on. -/
def addRow (out : List Int) (i : Nat) (x : Int) (b : List Int) : List Int := out.mapIdx fun j y => if i ≤ j then y + x * co b (j - i) else y
theorem addRow_len (out : List Int) (i : Nat) (x : Int) (b : List Int) : (addRow out i x b).length = out.length := by simp [addRow]
theorem co_addRow {out : List Int} {i : Nat} {x : Int} {b : List Int} {k : Nat} (hk : k < out.length) : co (addRow out i x b) k = co out k + (if i ≤ k then x * co b (k - i) else 0) := by
  have e : (addRow out i x b)[k]? = some (if i ≤ k then out[k] + x * co b (k - i) else out[k]) := by
    unfold addRow; rw [List.getElem?_mapIdx, List.getElem?_eq_getElem hk]; rfl
  have e2 : co out k = out[k] := by unfold co; rw [List.getElem?_eq_getElem hk]; rfl
  rw [e2]
  show ((addRow out i x b)[k]?).getD 0 = _
  rw [e, Option.getD_some]
  split <;> omega
/-- The sum of all x[i] b[k - i] for the first places i. -/
def cv (a b : List Int) (k : Nat) : Nat → Int
  | 0 => 0
  | n + 1 => cv a b k n + (if n ≤ k then co a n * co b (k - n) else 0)
/-- out with a b added, by the first n rows. -/
def addRows (out a b : List Int) : Nat → List Int
  | 0 => out
  | n + 1 => addRow (addRows out a b n) n (co a n) b
theorem addRows_len (out a b : List Int) (n : Nat) : (addRows out a b n).length = out.length := by
  induction n with
  | zero => rfl
  | succ n ih => show (addRow _ _ _ _).length = _; rw [addRow_len, ih]
theorem co_addRows {out a b : List Int} {n k : Nat} (hk : k < out.length) : co (addRows out a b n) k = co out k + cv a b k n := by
  induction n with
  | zero => simp [addRows, cv]
  | succ n ih =>
    show co (addRow _ _ _ _) k = _
    rw [co_addRow (by rw [addRows_len]; exact hk), ih, cv]
    omega
theorem cv_stop (a b : List Int) (k : Nat) {n m : Nat} (h : a.length ≤ n) (hm : n ≤ m) : cv a b k m = cv a b k n := by
  induction m with
  | zero => have : n = 0 := by omega
            rw [this]
  | succ m ih =>
    rcases Nat.lt_or_ge n (m + 1) with q | q
    · rw [cv, ih (by omega)]
      have : co a m = 0 := by unfold co; rw [List.getElem?_eq_none (by omega)]; rfl
      rw [this]; simp
    · have : n = m + 1 := by omega
      rw [this]
theorem cv_top (a b : List Int) (k : Nat) {n : Nat} (h : k + 1 ≤ n) : cv a b k n = cv a b k (k + 1) := by
  induction n with
  | zero => omega
  | succ n ih =>
    rcases Nat.lt_or_ge k n with q | q
    · rw [cv, ih (by omega), if_neg (by omega)]; simp
    · have : n = k := by omega
      rw [this]
/-- The coefficient of a product. -/
def pc (a b : List Int) (k : Nat) : Int := cv a b k (k + 1)
theorem cv_all {a b : List Int} {k : Nat} : cv a b k a.length = pc a b k := by
  unfold pc
  rcases Nat.lt_or_ge k a.length with q | q
  · exact cv_top a b k (by omega)
  · exact (cv_stop a b k (Nat.le_refl _) (by omega)).symm
theorem pc_far {a b : List Int} {k : Nat} (h : a.length + b.length ≤ k) : pc a b k = 0 := by
  have key : ∀ n, n ≤ a.length → cv a b k n = 0 := by
    intro n
    induction n with
    | zero => intro _; rfl
    | succ n ih =>
      intro hn
      rw [cv, ih (by omega)]
      have : co b (k - n) = 0 := by unfold co; rw [List.getElem?_eq_none (by omega)]; rfl
      rw [this]; simp
  rw [← cv_all]; exact key _ (Nat.le_refl _)
/-- p with a b added, without last zeros: of the program. -/
def padd (p a b : List Int) : List Int := trim (addRows (p ++ List.replicate (max p.length (a.length + b.length) - p.length) 0) a b a.length)
theorem co_pad (p : List Int) (n k : Nat) : co (p ++ List.replicate n 0) k = co p k := by
  unfold co
  rw [List.getElem?_append]
  split
  · rfl
  · rw [List.getElem?_replicate, List.getElem?_eq_none (l := p) (by omega)]
    split <;> rfl
theorem co_padd (p a b : List Int) (k : Nat) : co (padd p a b) k = co p k + pc a b k := by
  unfold padd
  rw [co_trim]
  rcases Nat.lt_or_ge k (max p.length (a.length + b.length)) with q | q
  · rw [co_addRows (by rw [List.length_append, List.length_replicate]; omega), co_pad, cv_all]
  · have e1 : co (addRows (p ++ List.replicate (max p.length (a.length + b.length) - p.length) 0) a b a.length) k = 0 := by
      unfold co; rw [List.getElem?_eq_none (by rw [addRows_len, List.length_append, List.length_replicate]; omega)]; rfl
    rw [e1, pc_far (by omega)]
    have : co p k = 0 := by unfold co; rw [List.getElem?_eq_none (by omega)]; rfl
    omega
theorem padd_trim (p a b : List Int) : Trim (padd p a b) := trim_is _
theorem pc_nil (b : List Int) (k : Nat) : pc [] b k = 0 := by
  have := cv_all (a := []) (b := b) (k := k)
  rw [← this]; rfl
theorem pc_nil_right (a : List Int) (k : Nat) : pc a [] k = 0 := by
  have key : ∀ n, cv a [] k n = 0 := by
    intro n
    induction n with
    | zero => rfl
    | succ n ih => rw [cv, ih, co_nil]; simp
  exact key _
theorem pc_one_right (a : List Int) (k : Nat) : pc a [1] k = co a k := by
  unfold pc
  rw [cv]
  have key : ∀ n, n ≤ k → cv a [1] k n = 0 := by
    intro n
    induction n with
    | zero => intro _; rfl
    | succ n ih =>
      intro hn
      rw [cv, ih (by omega), if_pos (by omega)]
      obtain ⟨j, hj⟩ : ∃ j, k - n = j + 1 := ⟨k - n - 1, by omega⟩
      rw [hj, co_cons_succ, co_nil]; simp
  rw [key k (Nat.le_refl _), if_pos (Nat.le_refl _), Nat.sub_self, co_cons_zero]
  omega
/-! ### The polynomials of the reference -/
def rplus (a b : List Int) : List Int := trim (List.ofFn (n := max a.length b.length) fun i => co a i + co b i)
def rtimes (a b : List Int) : List Int := padd [] a b
theorem co_ofFn (n : Nat) (f : Nat → Int) (k : Nat) : co (List.ofFn (n := n) fun i => f i) k = if k < n then f k else 0 := by
  unfold co
  rw [List.getElem?_ofFn]
  split <;> rfl
theorem co_rplus (a b : List Int) (k : Nat) : co (rplus a b) k = co a k + co b k := by
  unfold rplus
  rw [co_trim, co_ofFn (max a.length b.length) (fun i => co a i + co b i)]
  split
  · rfl
  · have h1 : co a k = 0 := by unfold co; rw [List.getElem?_eq_none (by omega)]; rfl
    have h2 : co b k = 0 := by unfold co; rw [List.getElem?_eq_none (by omega)]; rfl
    omega
theorem co_rtimes (a b : List Int) (k : Nat) : co (rtimes a b) k = pc a b k := by unfold rtimes; rw [co_padd, co_nil]; omega
/-- Polynomials of a matrix. -/
structure PM where
  a : List Int
  b : List Int
  c : List Int
  d : List Int
theorem PM.ext' {x y : PM} (h1 : x.a = y.a) (h2 : x.b = y.b) (h3 : x.c = y.c) (h4 : x.d = y.d) : x = y := by cases x; cases y; simp_all
def PM.id : PM := ⟨[1], [], [], [1]⟩
def El.pv (x : El) : List Int := trim [x.a, x.b]
/-- The polynomials of an element: 0, 1 or its value. -/
def El.pm (x : El) : PM := if x.kind = kSeries then ⟨[1], x.pv, [], [1]⟩ else if x.kind = kShunt then ⟨[1], [], x.pv, [1]⟩ else if x.kind = kBlock then ⟨x.pv, [1], [], x.pv⟩ else ⟨x.pv, [], [1], x.pv⟩
/-- The program's step. -/
def PM.mul (m e : PM) : PM := ⟨padd (padd [] m.a e.a) m.b e.c, padd (padd [] m.a e.b) m.b e.d, padd (padd [] m.c e.a) m.d e.c, padd (padd [] m.c e.b) m.d e.d⟩
/-- The reference's step. -/
def PM.step (m : PM) (x : El) : PM :=
  if x.kind = kSeries then ⟨m.a, rplus (rtimes m.a x.pv) m.b, m.c, rplus (rtimes m.c x.pv) m.d⟩
  else if x.kind = kShunt then ⟨rplus m.a (rtimes m.b x.pv), m.b, rplus m.c (rtimes m.d x.pv), m.d⟩
  else if x.kind = kBlock then ⟨rtimes m.a x.pv, rplus m.a (rtimes m.b x.pv), rtimes m.c x.pv, rplus m.c (rtimes m.d x.pv)⟩
  else ⟨rplus (rtimes m.a x.pv) m.b, rtimes m.b x.pv, rplus (rtimes m.c x.pv) m.d, rtimes m.d x.pv⟩
structure PM.T (m : PM) : Prop where
  a : Trim m.a
  b : Trim m.b
  c : Trim m.c
  d : Trim m.d
theorem PM.mul_t (m e : PM) : (m.mul e).T := ⟨padd_trim _ _ _, padd_trim _ _ _, padd_trim _ _ _, padd_trim _ _ _⟩
theorem PM.id_t : PM.id.T := ⟨rfl, rfl, rfl, rfl⟩
theorem step_mul {m : PM} (h : m.T) (x : El) : m.step x = m.mul x.pm := by
  have key : ∀ (u p q e f : List Int), Trim u → (∀ k, co u k = pc p e k + pc q f k) → u = padd (padd [] p e) q f := fun u p q e f hu hk =>
    hu.ext (padd_trim _ _ _) fun k => by rw [co_padd, co_padd, co_nil, hk]; omega
  unfold PM.step El.pm PM.mul
  repeat' split
  all_goals
    apply PM.ext'
    all_goals
      refine key _ _ _ _ _ (by first | exact h.a | exact h.b | exact h.c | exact h.d | exact trim_is _) fun k => ?_
      simp only [co_rplus, co_rtimes, pc_nil_right, pc_one_right]
      try omega
/-- The polynomials of a ladder, behind some. -/
def pch (m : PM) (l : List El) : PM := l.foldl (fun m x => m.mul x.pm) m
def pdv (d : List Int) (l : List El) : List Int := l.foldl (fun d x => if x.divides then padd [] d x.pv else d) d
end Go.Proofs.YtnndaipnfniciaaGreatDoor

namespace Go.Proofs.YtnndaipnfniciaaGreatDoor
open Go.RowKit
set_option maxRecDepth 100000

/-- A quotient. -/
structure Rt where
  n : Int
  d : Int
instance : DecidableEq Rt := fun a b => decidable_of_iff (a.n = b.n ∧ a.d = b.d) (by cases a; cases b; simp)
/-- In lowest terms. -/
def low (n d : Nat) : Rt := ⟨(n / Nat.gcd n d : Nat), (d / Nat.gcd n d : Nat)⟩
theorem low_pos {n d : Nat} (hd : 0 < d) : 0 ≤ (low n d).n ∧ 1 ≤ (low n d).d := by
  have hg : 0 < Nat.gcd n d := Nat.gcd_pos_of_pos_right _ hd
  have : 0 < d / Nat.gcd n d := Nat.div_pos (Nat.le_of_dvd hd (Nat.gcd_dvd_right _ _)) hg
  exact ⟨Int.natCast_nonneg _, Int.ofNat_le.2 this⟩
theorem low_le {n d : Nat} : (low n d).n ≤ n ∧ (low n d).d ≤ d := by
  unfold low
  exact ⟨Int.ofNat_le.2 (Nat.div_le_self n (Nat.gcd n d)), Int.ofNat_le.2 (Nat.div_le_self d (Nat.gcd n d))⟩
/-- The first one is less. -/
def Rt.lt (a b : Rt) : Bool := decide (a.n * b.d < b.n * a.d)
structure Rt.Pos (a : Rt) : Prop where
  n : 0 ≤ a.n
  d : 1 ≤ a.d
theorem emod_form (x y : Int) : x = (x / y) * y + x % y := by have := Int.mul_ediv_add_emod x y; rw [Int.mul_comm] at this; omega
theorem lt_whole {a b : Rt} (ha : a.Pos) (hb : b.Pos) (h : a.n / a.d ≠ b.n / b.d) : a.lt b = decide (a.n / a.d < b.n / b.d) := by
  have h1 := ha.d; have h2 := hb.d
  have m1 := Int.emod_nonneg a.n (show a.d ≠ 0 by omega)
  have m2 := Int.emod_nonneg b.n (show b.d ≠ 0 by omega)
  have l1 := Int.emod_lt_of_pos a.n (show 0 < a.d by omega)
  have l2 := Int.emod_lt_of_pos b.n (show 0 < b.d by omega)
  have e1 := emod_form a.n a.d
  have e2 := emod_form b.n b.d
  have key : ∀ (x y p q r t : Int), 1 ≤ p → 1 ≤ q → 0 ≤ r → r < p → 0 ≤ t → x < y → (x * p + r) * q < (y * q + t) * p := by
    intro x y p q r t hp hq hr hrp ht hxy
    have s1 : x * p + r < (x + 1) * p := by rw [Int.add_mul]; omega
    have s2 : (x + 1) * p ≤ y * p := Int.mul_le_mul_of_nonneg_right (by omega) (by omega)
    have s3 : (x * p + r) * q < (y * p) * q := Int.mul_lt_mul_of_pos_right (by omega) (by omega)
    have s4 : (y * p) * q = y * q * p := by grind
    have s5 : y * q * p ≤ (y * q + t) * p := Int.mul_le_mul_of_nonneg_right (by omega) (by omega)
    omega
  unfold Rt.lt
  rcases Int.lt_or_gt_of_ne h with q | q
  · have := key (a.n / a.d) (b.n / b.d) a.d b.d (a.n % a.d) (b.n % b.d) h1 h2 m1 l1 m2 q
    rw [← e1, ← e2] at this
    rw [decide_eq_true this, decide_eq_true q]
  · have := key (b.n / b.d) (a.n / a.d) b.d a.d (b.n % b.d) (a.n % a.d) h2 h1 m2 l2 m1 q
    rw [← e1, ← e2] at this
    rw [decide_eq_false (by omega), decide_eq_false (by omega)]
theorem lt_same {a b : Rt} (h : a.n / a.d = b.n / b.d) : a.lt b = decide ((a.n % a.d) * b.d < (b.n % b.d) * a.d) := by
  unfold Rt.lt
  have e1 := emod_form a.n a.d
  have e2 := emod_form b.n b.d
  have : (a.n * b.d < b.n * a.d) ↔ ((a.n % a.d) * b.d < (b.n % b.d) * a.d) := by
    have s1 : a.n * b.d = (a.n / a.d) * a.d * b.d + (a.n % a.d) * b.d := by rw [← Int.add_mul, ← e1]
    have s2 : b.n * a.d = (b.n / b.d) * b.d * a.d + (b.n % b.d) * a.d := by rw [← Int.add_mul, ← e2]
    rw [h] at s1
    have s3 : (b.n / b.d) * a.d * b.d = (b.n / b.d) * b.d * a.d := by grind
    omega
  exact decide_eq_decide.2 this
theorem lt_same0 {a b : Rt} (ha : a.Pos) (hb : b.Pos) (h : a.n / a.d = b.n / b.d) (h0 : b.n % b.d = 0) : a.lt b = false := by
  rw [lt_same h, h0, Int.zero_mul]
  have h1 := ha.d; have h2 := hb.d
  have m1 := Int.emod_nonneg a.n (show a.d ≠ 0 by omega)
  have := Int.mul_nonneg m1 (show 0 ≤ b.d by omega)
  exact decide_eq_false (by omega)
theorem lt_same1 {a b : Rt} (ha : a.Pos) (hb : b.Pos) (h : a.n / a.d = b.n / b.d) (h0 : a.n % a.d = 0) (h3 : b.n % b.d ≠ 0) : a.lt b = true := by
  rw [lt_same h, h0, Int.zero_mul]
  have h1 := ha.d; have h2 := hb.d
  have m2 := Int.emod_nonneg b.n (show b.d ≠ 0 by omega)
  have := Int.mul_pos (show 0 < b.n % b.d by omega) (show 0 < a.d by omega)
  exact decide_eq_true this
theorem lt_same2 {a b : Rt} (h : a.n / a.d = b.n / b.d) : a.lt b = (Rt.mk b.d (b.n % b.d)).lt (Rt.mk a.d (a.n % a.d)) := by
  rw [lt_same h]
  unfold Rt.lt
  simp only
  rw [Int.mul_comm b.d, Int.mul_comm a.d]
theorem turn_pos {a : Rt} (ha : a.Pos) (h3 : a.n % a.d ≠ 0) : (Rt.mk a.d (a.n % a.d)).Pos := by
  have h1 := ha.d
  have m1 := Int.emod_nonneg a.n (show a.d ≠ 0 by omega)
  exact ⟨by simp only; omega, by simp only; omega⟩
end Go.Proofs.YtnndaipnfniciaaGreatDoor

namespace Go.Proofs.YtnndaipnfniciaaGreatDoor
open Go.RowKit
set_option maxRecDepth 100000
theorem G.sq_le {a : G} {n : Nat} (h : a.nrm ≤ n) : a.sq ≤ ((n * n : Nat) : Int) := by
  have e1 : a.re * a.re = ((a.re.natAbs * a.re.natAbs : Nat) : Int) := (Int.natAbs_mul_self (a := a.re)).symm
  have e2 : a.im * a.im = ((a.im.natAbs * a.im.natAbs : Nat) : Int) := (Int.natAbs_mul_self (a := a.im)).symm
  have h2 : a.nrm * a.nrm ≤ n * n := Nat.mul_le_mul h h
  have h3 : a.nrm * a.nrm = a.re.natAbs * a.re.natAbs + a.im.natAbs * a.im.natAbs + 2 * (a.re.natAbs * a.im.natAbs) := by unfold G.nrm; grind
  unfold G.sq; rw [e1, e2]; omega
theorem G.sq_pos {a : G} (h : ¬ a = .zero) : 0 < a.sq := by
  have := G.sq_nn a
  rcases Int.lt_or_eq_of_le this with q | q
  · exact q
  · exact absurd (G.sq_zero q.symm) h
theorem G.ne_zero {a : G} (h : ¬ a = .zero) : ¬ a.re = 0 ∨ ¬ a.im = 0 := by
  by_cases h1 : a.re = 0
  · exact .inr fun h2 => h (G.ext' h1 h2)
  · exact .inl h1
/-- The level of a ladder at a frequency; its error. -/
def lvR (l : List El) (f : Int) : Rt := low (dvs f .one l).sq.toNat (chn f .id l).a.sq.toNat
def lvE (l : List El) (f : Int) : Int := if (chn f .id l).a = .zero then 17 else 0
theorem sq_in63 {a : G} (h : a.nrm ≤ 2073071593) : a.sq ≤ 4297625829703557649 := by
  have := G.sq_le h
  have e : (2073071593 * 2073071593 : Nat) = 4297625829703557649 := by decide
  rw [e] at this
  exact this
theorem lv_in {l : List El} {f : Int} (h : LadOk l) (h1 : 1 ≤ f) (h8 : f ≤ 8) : (dvs f .one l).sq ≤ 4297625829703557649 ∧ (chn f .id l).a.sq ≤ 4297625829703557649 := by
  have hc := chain_in h h1 h8
  have hd := div_in h h1 h8
  exact ⟨sq_in63 hd, sq_in63 (by have := hc.1; omega)⟩
theorem lvR_pos {l : List El} {f : Int} (h : ¬ (chn f .id l).a = .zero) : (lvR l f).Pos := by
  have := G.sq_pos h
  have h2 := low_pos (n := (dvs f .one l).sq.toNat) (d := (chn f .id l).a.sq.toNat) (by omega)
  exact ⟨h2.1, h2.2⟩
theorem lvR_le {l : List El} {f : Int} (hl : LadOk l) (h1 : 1 ≤ f) (h8 : f ≤ 8) : (lvR l f).n ≤ 4297625829703557649 ∧ (lvR l f).d ≤ 4297625829703557649 := by
  have hb := lv_in hl h1 h8
  have := low_le (n := (dvs f .one l).sq.toNat) (d := (chn f .id l).a.sq.toNat)
  unfold lvR
  omega
/-- The levels from a frequency on. -/
def tab (l : List El) (f : Int) (n : Nat) : List Rt := (List.range n).map fun (i : Nat) => lvR l (f + i)
theorem tab_len (l : List El) (f : Int) (n : Nat) : (tab l f n).length = n := by simp [tab]
theorem tab_snoc (l : List El) (f : Int) (n : Nat) : tab l f (n + 1) = tab l f n ++ [lvR l (f + n)] := by simp [tab, List.range_succ]
theorem tab_at {l : List El} {f : Int} {n k : Nat} (h : k < n) : (tab l f n)[k]? = some (lvR l (f + k)) := by
  simp [tab, List.getElem?_map, List.getElem?_range h]
/-- No pole among the first frequencies. -/
def noPole (l : List El) (f : Int) (n : Nat) : Prop := ∀ i : Nat, i < n → ¬ (chn (f + i) .id l).a = .zero
/-- The error of a table. -/
def tabErr (l : List El) (a b : Int) : Int := fnz [ladErr l, rng a 1 8, rng b 1 8, if b < a then 11 else 0]
theorem tab_zero {l : List El} {a b : Int} (h : tabErr l a b = 0) : ladErr l = 0 ∧ 1 ≤ a ∧ b ≤ 8 ∧ a ≤ b := by
  unfold tabErr at h
  rw [fnz_zero] at h
  simp only [List.mem_cons, List.not_mem_nil, or_false, forall_eq_or_imp, forall_eq] at h
  obtain ⟨h1, h2, h3, h4⟩ := h
  rw [rng_zero] at h2 h3
  refine ⟨h1, h2.1, h3.2, ?_⟩
  split at h4 <;> omega
/-- The place of the greatest one among the first ones. -/
def pkN (t : List Rt) : Nat → Nat
  | 0 => 0
  | k + 1 => if (match t[pkN t k]?, t[k]? with | some x, some y => x.lt y | _, _ => false) = true then k else pkN t k
theorem pkN_le (t : List Rt) : ∀ k, pkN t k ≤ k := by
  intro k
  induction k with
  | zero => exact Nat.le_refl _
  | succ k ih =>
    unfold pkN
    generalize (match t[pkN t k]?, t[k]? with | some x, some y => x.lt y | _, _ => false) = b
    cases b <;> simp <;> omega
theorem pkN_lt (t : List Rt) {k : Nat} (h : 0 < k) : pkN t k < k := by
  cases k with
  | zero => omega
  | succ k =>
    have := pkN_le t k
    unfold pkN
    generalize (match t[pkN t k]?, t[k]? with | some x, some y => x.lt y | _, _ => false) = b
    cases b <;> simp <;> omega
theorem pkN_succ {t : List Rt} {k : Nat} {x y : Rt} (h1 : t[pkN t k]? = some x) (h2 : t[k]? = some y) : pkN t (k + 1) = if x.lt y = true then k else pkN t k := by
  conv => lhs; unfold pkN
  rw [h1, h2]
/-- The place of the first one below a level. -/
def blN (t : List Rt) (x : Rt) : Nat → Option Nat
  | 0 => none
  | k + 1 => match blN t x k with
    | some i => some i
    | none => if (match t[k]? with | some y => y.lt x | none => false) = true then some k else none
end Go.Proofs.YtnndaipnfniciaaGreatDoor

namespace Go.Proofs.YtnndaipnfniciaaGreatDoor
open Go.RowKit
set_option maxRecDepth 100000
theorem blN_succ {t : List Rt} {x y : Rt} {k : Nat} (h : t[k]? = some y) (h0 : blN t x k = none) : blN t x (k + 1) = if y.lt x = true then some k else none := by
  conv => lhs; unfold blN
  rw [h0, h]
theorem blN_stay {t : List Rt} {x : Rt} {k i : Nat} (h : blN t x k = some i) : ∀ m, k ≤ m → blN t x m = some i := by
  intro m
  induction m with
  | zero => intro hm; rw [show k = 0 by omega] at h; exact h
  | succ m ih =>
    intro hm
    rcases Nat.lt_or_ge k (m + 1) with q | q
    · conv => lhs; unfold blN
      rw [ih (by omega)]
    · rw [show m + 1 = k by omega]; exact h
theorem blN_hit {t : List Rt} {x y : Rt} {k n : Nat} (h : t[k]? = some y) (h0 : blN t x k = none) (h1 : y.lt x = true) (hn : k < n) : blN t x n = some k :=
  blN_stay (k := k + 1) (by rw [blN_succ h h0, if_pos h1]) n hn
theorem blN_miss {t : List Rt} {x y : Rt} {k : Nat} (h : t[k]? = some y) (h0 : blN t x k = none) (h1 : y.lt x = false) : blN t x (k + 1) = none := by
  rw [blN_succ h h0, h1]; rfl
theorem fnz_mem (l : List Int) : fnz l = 0 ∨ fnz l ∈ l := by
  induction l with
  | nil => exact .inl rfl
  | cons a l ih =>
    unfold fnz
    split
    · rcases ih with h | h
      · exact .inl h
      · exact .inr (List.mem_cons_of_mem _ h)
    · exact .inr (by simp)
theorem fnz_pre (E : Int) : ∀ l : List Int, ¬ fnz l = 0 → fnz (l ++ [E]) = fnz l := by
  intro l
  induction l with
  | nil => intro h; exact absurd rfl h
  | cons a l ih =>
    intro h
    rw [List.cons_append]
    unfold fnz at h ⊢
    split
    · rename_i h0; rw [if_pos h0] at h; exact ih h
    · rfl
theorem rng_or (n a b : Int) : rng n a b = 0 ∨ rng n a b = 3 := by unfold rng; split <;> simp
theorem el_err_or (x : El) : x.err = 0 ∨ x.err = 13 ∨ x.err = 3 ∨ x.err = 6 := by
  rcases fnz_mem [if x.known then (0 : Int) else 13, rng x.a 0 8, rng x.b 0 8, if (x.divides && x.a == 0 && x.b == 0) = true then 6 else 0] with h | h
  · exact .inl h
  · have e : x.err ∈ [if x.known then (0 : Int) else 13, rng x.a 0 8, rng x.b 0 8, if (x.divides && x.a == 0 && x.b == 0) = true then 6 else 0] := h
    simp only [List.mem_cons, List.not_mem_nil, or_false] at e
    have r1 := rng_or x.a 0 8
    have r2 := rng_or x.b 0 8
    rcases e with e | e | e | e
    · split at e <;> omega
    · omega
    · omega
    · split at e <;> omega
theorem lad_err_or (l : List El) : ladErr l = 0 ∨ ladErr l = 5 ∨ ladErr l = 13 ∨ ladErr l = 3 ∨ ladErr l = 6 := by
  unfold ladErr
  split
  · simp
  · rcases fnz_mem (l.map El.err) with h | h
    · exact .inl h
    · obtain ⟨x, _, hx⟩ := List.mem_map.1 h
      have := el_err_or x
      omega
theorem tab_ne (l : List El) (a b : Int) : ¬ tabErr l a b = 17 := by
  intro h
  rcases fnz_mem [ladErr l, rng a 1 8, rng b 1 8, if b < a then (11 : Int) else 0] with e | e
  · unfold tabErr at h; omega
  · have e : tabErr l a b ∈ [ladErr l, rng a 1 8, rng b 1 8, if b < a then (11 : Int) else 0] := e
    simp only [List.mem_cons, List.not_mem_nil, or_false] at e
    have r0 := lad_err_or l
    have r1 := rng_or a 1 8
    have r2 := rng_or b 1 8
    rcases e with e | e | e | e
    · omega
    · omega
    · omega
    · split at e <;> omega
end Go.Proofs.YtnndaipnfniciaaGreatDoor

namespace Go.Proofs.YtnndaipnfniciaaGreatDoor
open Go.RowKit
set_option maxRecDepth 100000

theorem G.add_zero (a : G) : a.add .zero = a := by apply G.ext' <;> simp [G.add, G.zero]
theorem G.zero_add (a : G) : G.zero.add a = a := by apply G.ext' <;> simp [G.add, G.zero]
theorem G.mul_zero (a : G) : a.mul .zero = .zero := by apply G.ext' <;> simp [G.mul, G.zero]
/-- A real number. -/
def G.of (x : Int) : G := ⟨x, 0⟩
/-- The sum of the first coefficients, each times the power of z. -/
def evf (z : G) (f : Nat → Int) : Nat → G
  | 0 => .zero
  | n + 1 => (G.of (f 0)).add (z.mul (evf z (fun k => f (k + 1)) n))
theorem evf_congr (z : G) : ∀ (n : Nat) (f g : Nat → Int), (∀ k, f k = g k) → evf z f n = evf z g n := by
  intro n
  induction n with
  | zero => intro f g _; rfl
  | succ n ih => intro f g h; rw [evf, evf, h 0, ih _ _ fun k => h (k + 1)]
theorem evf_zero (z : G) : ∀ (n : Nat) (f : Nat → Int), (∀ k, f k = 0) → evf z f n = .zero := by
  intro n
  induction n with
  | zero => intro f _; rfl
  | succ n ih => intro f h; rw [evf, h 0, ih _ fun k => h (k + 1), G.mul_zero]; rfl
theorem evf_add (z : G) : ∀ (n : Nat) (f g : Nat → Int), evf z (fun k => f k + g k) n = (evf z f n).add (evf z g n) := by
  intro n
  induction n with
  | zero => intro f g; rfl
  | succ n ih =>
    intro f g
    rw [evf, evf, evf, ih]
    apply G.ext' <;> simp only [G.add, G.mul, G.of] <;> grind
theorem evf_scale (z : G) (a : Int) : ∀ (n : Nat) (f : Nat → Int), evf z (fun k => a * f k) n = (G.of a).mul (evf z f n) := by
  intro n
  induction n with
  | zero => intro f; exact (G.mul_zero _).symm
  | succ n ih =>
    intro f
    rw [evf, evf, ih]
    apply G.ext' <;> simp only [G.add, G.mul, G.of] <;> grind
/-- The value of a polynomial. -/
def ev (z : G) (l : List Int) : G := evf z (co l) l.length
theorem ev_more (z : G) : ∀ (l : List Int) (n : Nat), l.length ≤ n → evf z (co l) n = ev z l := by
  intro l
  induction l with
  | nil => intro n _; exact evf_zero z n _ co_nil
  | cons a l ih =>
    intro n hn
    obtain ⟨m, rfl⟩ : ∃ m, n = m + 1 := ⟨n - 1, by simp at hn; omega⟩
    have e : ∀ m, evf z (fun k => co (a :: l) (k + 1)) m = evf z (co l) m := fun m => evf_congr z m _ _ fun k => co_cons_succ a l k
    show (G.of _).add (z.mul (evf z (fun k => co (a :: l) (k + 1)) m)) = (G.of _).add (z.mul (evf z (fun k => co (a :: l) (k + 1)) l.length))
    rw [e, e, ih m (by simpa using hn)]; rfl
theorem ev_cons (z : G) (a : Int) (l : List Int) : ev z (a :: l) = (G.of a).add (z.mul (ev z l)) := by
  show (G.of _).add (z.mul (evf z (fun k => co (a :: l) (k + 1)) l.length)) = _
  rw [evf_congr z _ _ _ fun k => co_cons_succ a l k]; rfl
theorem ev_ext (z : G) {l m : List Int} (h : ∀ k, co l k = co m k) : ev z l = ev z m := by
  rw [← ev_more z l (max l.length m.length) (by omega), ← ev_more z m (max l.length m.length) (by omega)]
  exact evf_congr z _ _ _ h
theorem ev_trim (z : G) (l : List Int) : ev z (trim l) = ev z l := ev_ext z (co_trim l)
theorem cv_shift (a : Int) (l b : List Int) (k : Nat) : ∀ n, cv (a :: l) b (k + 1) (n + 1) = a * co b (k + 1) + cv l b k n := by
  intro n
  induction n with
  | zero => simp [cv, co_cons_zero]
  | succ n ih =>
    rw [cv, ih, cv, co_cons_succ]
    by_cases h : n ≤ k
    · rw [if_pos (by omega), if_pos h, show k + 1 - (n + 1) = k - n by omega]; omega
    · rw [if_neg (by omega), if_neg h]; omega
theorem pc_cons_succ (a : Int) (l b : List Int) (k : Nat) : pc (a :: l) b (k + 1) = a * co b (k + 1) + pc l b k := cv_shift a l b k (k + 1)
theorem pc_cons_zero (a : Int) (l b : List Int) : pc (a :: l) b 0 = a * co b 0 := by simp [pc, cv, co_cons_zero]
theorem evf_pc (z : G) (b : List Int) : ∀ (a : List Int) (n : Nat), a.length + b.length ≤ n → evf z (pc a b) n = (ev z a).mul (ev z b) := by
  intro a
  induction a with
  | nil =>
    intro n _
    rw [evf_zero z n _ (pc_nil b)]
    exact (by rw [G.mul_comm]; exact (G.mul_zero _).symm : G.zero = G.zero.mul (ev z b))
  | cons x a ih =>
    intro n hn
    obtain ⟨m, rfl⟩ : ∃ m, n = m + 1 := ⟨n - 1, by simp at hn; omega⟩
    have h1 : evf z (fun k => pc (x :: a) b (k + 1)) m = ((G.of x).mul (evf z (fun k => co b (k + 1)) m)).add (evf z (pc a b) m) := by
      rw [evf_congr z m _ (fun k => x * co b (k + 1) + pc a b k) (pc_cons_succ x a b), evf_add, evf_scale]
    have h2 : ev z b = (G.of (co b 0)).add (z.mul (evf z (fun k => co b (k + 1)) m)) := by
      rw [← ev_more z b (m + 1) (by simp at hn; omega)]; rfl
    rw [evf, h1, pc_cons_zero, ih m (by simp at hn; omega), ev_cons]
    generalize evf z (fun k => co b (k + 1)) m = q at h2
    rw [h2]
    apply G.ext' <;> simp only [G.add, G.mul, G.of] <;> grind
theorem ev_padd (z : G) (p a b : List Int) : ev z (padd p a b) = (ev z p).add ((ev z a).mul (ev z b)) := by
  have e : ∀ N, evf z (co (padd p a b)) N = (evf z (co p) N).add (evf z (pc a b) N) := fun N => by
    rw [← evf_add]; exact evf_congr z N _ _ (co_padd p a b)
  have := e (max (padd p a b).length (max p.length (a.length + b.length)))
  rwa [ev_more z (padd p a b) _ (by omega), ev_more z p _ (by omega), evf_pc z b a _ (by omega)] at this
theorem ev_nil (z : G) : ev z [] = .zero := rfl
theorem ev_one (z : G) : ev z [1] = .one := by
  rw [ev_cons, ev_nil, G.mul_zero]; rfl
/-- i times a frequency. -/
def iw (w : Int) : G := ⟨0, w⟩
theorem ev_pv (x : El) (w : Int) : ev (iw w) x.pv = x.val w := by
  unfold El.pv
  rw [ev_trim, ev_cons, ev_cons, ev_nil, G.mul_zero]
  apply G.ext' <;> simp [G.add, G.mul, G.of, G.zero, iw, El.val]
/-- The values of polynomials of a matrix. -/
def PM.ev (m : PM) (w : Int) : Mat := ⟨Go.Proofs.YtnndaipnfniciaaGreatDoor.ev (iw w) m.a, Go.Proofs.YtnndaipnfniciaaGreatDoor.ev (iw w) m.b, Go.Proofs.YtnndaipnfniciaaGreatDoor.ev (iw w) m.c, Go.Proofs.YtnndaipnfniciaaGreatDoor.ev (iw w) m.d⟩
theorem ev_mul (m e : PM) (w : Int) : (m.mul e).ev w = (m.ev w).mul (e.ev w) := by
  apply Mat.ext' <;> simp only [PM.ev, PM.mul, Mat.mul, ev_padd, ev_nil, G.zero_add]
theorem ev_pm (x : El) (w : Int) : x.pm.ev w = x.mat (x.val w) := by
  unfold El.pm El.mat
  repeat' split
  all_goals (apply Mat.ext' <;> simp only [PM.ev, ev_one, ev_nil, ev_pv])
theorem ev_id (w : Int) : PM.id.ev w = .id := by apply Mat.ext' <;> simp only [PM.ev, PM.id, ev_one, ev_nil, Mat.id]
theorem ev_pch (w : Int) : ∀ (l : List El) (m : PM), (pch m l).ev w = chn w (m.ev w) l := by
  intro l
  induction l with
  | nil => intro m; rfl
  | cons x l ih => intro m; show (pch (m.mul x.pm) l).ev w = _; rw [ih, ev_mul, ev_pm]; rfl
theorem ev_pdv (w : Int) : ∀ (l : List El) (d : List Int), Go.Proofs.YtnndaipnfniciaaGreatDoor.ev (iw w) (pdv d l) = dvs w (Go.Proofs.YtnndaipnfniciaaGreatDoor.ev (iw w) d) l := by
  intro l
  induction l with
  | nil => intro d; rfl
  | cons x l ih =>
    intro d
    show Go.Proofs.YtnndaipnfniciaaGreatDoor.ev (iw w) (pdv (if x.divides then padd [] d x.pv else d) l) = dvs w (if x.divides then (Go.Proofs.YtnndaipnfniciaaGreatDoor.ev (iw w) d).mul (x.val w) else _) l
    rw [ih]
    split
    · rw [ev_padd, ev_nil, G.zero_add, ev_pv]
    · rfl
end Go.Proofs.YtnndaipnfniciaaGreatDoor
