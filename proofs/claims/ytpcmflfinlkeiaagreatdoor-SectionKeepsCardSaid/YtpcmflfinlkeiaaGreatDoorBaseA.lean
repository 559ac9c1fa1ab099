/- Words for memory: a slice that reads as a list; a block known whole; append onto a row of the call's own. The lemmas of the kit's pages extra-words and extra-small, which are offered there for copying, set into this claim's namespace; and small lemmas of this claim. Plain mathematics of sections: no program in sight. Plain mathematics of runs. Plain: Go's quotient and the floor. Regions that draw their order: worlds that lie over a given one. 'over B w x': x, if x is w below block B; else w. The contracts of the small checks of package section: when, within, checkTap, checkValue. The contracts of the arithmetic of sections: abs, unit, margin, raw, limited, step of the program; abs, Unit, Floor, raw, Step, Room, Stable of the reference. The contracts of the reference's Floor, raw, Step, Room, Stable, and of the program's Stable's parts. The contracts of Stable (the reference's), Small, Bound (the reference's), and the plain words of a bound. Lists of numbers: first, First, SameInts, Few. -/
import Derived.Below
import Derived.Laws.OwnMore
import Derived.Deep.AppendLies
import Derived.Deep.Draws
import Derived.Laws.Rows
import Derived.Maps.AppendAt
import Derived.RegionTactic
import Derived.OwnWalk
import Derived.ChangeSame
import Derived.IntWalk
import Derived.Deep.QuietTactic
import Derived.BigQuiet
import Derived.Deep.RegionHeld3
import Derived.Test.YtpcmflfinlkeiaaGreatDoorProg
import Derived.WalkKit
import Derived.WalkSpells
import Derived.WalkLawsBesides
import Derived.BigRegion
import Derived.Deep.DeepMust
namespace Go.Proofs.YtpcmflfinlkeiaaGreatDoor
open Go.RowKit
set_option maxRecDepth 100000

theorem hide {p : Prop} (h : p) : Hid p := h

theorem block_of_add (a : Addr) (n : Nat) : (a.add n).block = a.block := by unfold Addr.add; split <;> rfl
theorem add_of_add (a : Addr) (i j : Nat) : (a.add i).add j = a.add (i + j) := by
  unfold Addr.add
  by_cases hi : i = 0 <;> by_cases hj : j = 0 <;> simp [hi, hj, Nat.add_assoc]

def Reads (w : World) (B size : Nat) (A : Option Addr) (n : Nat) (xs : List Value) : Prop :=
  xs.length = n * size ∧ (0 < n → ∃ ad, A = some ad ∧ ad.block < B ∧ ∀ j u, xs[j]? = some u → w.cell? (ad.add j) = some u)

section
variable {w w' : World} {B B' size n : Nat} {A : Option Addr} {xs : List Value}
theorem Reads.none_ : Reads w B size A 0 [] := ⟨by simp, fun h => absurd h (by omega)⟩
theorem Reads.at_ {k : Nat} (h : Reads w B 1 A n xs) (hk : k < n) : ∃ ad u, A = some ad ∧ ad.block < B ∧ xs[k]? = some u ∧ w.cell? (ad.add k) = some u := by
  obtain ⟨ad, e, hb, hc⟩ := h.2 (by omega)
  have hl : k < xs.length := by have := h.1; omega
  exact ⟨ad, xs[k], e, hb, List.getElem?_eq_getElem hl, hc k _ (List.getElem?_eq_getElem hl)⟩
theorem Reads.keep (h : Reads w B size A n xs) (hk : ∀ p : Addr, p.block < B → w'.cell? p = w.cell? p) : Reads w' B size A n xs :=
  ⟨h.1, fun hn => by
    obtain ⟨ad, e, hb, hc⟩ := h.2 hn
    exact ⟨ad, e, hb, fun j u hu => (hk _ (by rw [block_of_add]; exact hb)).trans (hc j u hu)⟩⟩
theorem Reads.more (h : Reads w B size A n xs) (hB : B ≤ B') : Reads w B' size A n xs :=
  ⟨h.1, fun hn => by
    obtain ⟨ad, e, hb, hc⟩ := h.2 hn
    exact ⟨ad, e, by omega, hc⟩⟩
theorem Reads.below (h : Reads w B size A n xs) (hb : Below B w w') : Reads w' B size A n xs := h.keep fun _ hp => hb.cell hp
theorem Reads.drew (h : Reads w B size A n xs) : Reads w.drew B size A n xs := h
theorem Reads.drewN (h : Reads w B size A n xs) (k : Nat) : Reads (w.drewN k) B size A n xs := h
theorem Reads.alloc (h : Reads w B size A n xs) (hB : B ≤ w.heap.size) (o : Obj) : Reads (w.alloc o) B size A n xs := h.keep fun p hp => World.cell?_alloc_lt w o p (by omega)
theorem Reads.setCell (h : Reads w B size A n xs) {p : Addr} (hB : B ≤ p.block) (u : Value) : Reads (w.setCell p u) B size A n xs :=
  h.keep fun q hq => World.cell?_setCell_other w p q u (fun e => by subst e; omega)
theorem Reads.grown (h : Reads w B size A n xs) {row : Option Nat} (hg : w.grownBy w' row) (hB : B ≤ w.heap.size) (hr : ∀ g, row = some g → B ≤ g) : Reads w' B size A n xs :=
  h.keep fun p hp => World.cell?_of_block (hg.block p.block (by omega) (fun e => by have := hr _ e.symm; omega))
theorem Reads.cut (h : Reads w B size A n xs) {k cap : Nat} (hk : k ≤ n) (hc : n ≤ cap) :
    Reads w B size (if cap = k then A else A.map (·.add (k * size))) (n - k) (xs.drop (k * size)) := by
  refine ⟨by rw [List.length_drop, h.1, Nat.sub_mul], fun hn => ?_⟩
  obtain ⟨ad, rfl, hb, hcell⟩ := h.2 (by omega)
  rw [if_neg (by omega)]
  refine ⟨ad.add (k * size), rfl, by rw [block_of_add]; exact hb, fun j u hu => ?_⟩
  rw [add_of_add]
  exact hcell _ u (by rw [← hu, List.getElem?_drop])
theorem Reads.of_own {base : Nat} {e : TypeId} {c : Nat} (h : w.ownsRow base e size (.slice A n c) n xs) : Reads w w.heap.size size A n xs := by
  refine ⟨h.1, fun hn => ?_⟩
  obtain ⟨g, cap, hv, _, hlt⟩ := h.form hn
  have hA : A = some ⟨g, 0, none⟩ := by injection hv
  subst hA
  exact ⟨_, rfl, hlt, h.cells (g := g) rfl⟩
end

def Blk (w : World) (g : Nat) (t : TypeId) (cs : Array Value) : Prop := w.heap[g]? = some (.cells cs t (0, 0))

section
variable {w w' : World} {g : Nat} {t : TypeId} {cs : Array Value}
theorem Blk.lt (h : Blk w g t cs) : g < w.heap.size := by
  rcases Nat.lt_or_ge g w.heap.size with hlt | hge
  · exact hlt
  · unfold Blk at h; rw [Array.getElem?_eq_none hge] at h; cases h
theorem Blk.cell (h : Blk w g t cs) (i : Nat) : w.cell? ⟨g, i, none⟩ = cs[i]? := cell_of_row w g i cs t (0, 0) h
theorem Blk.frozen (h : Blk w g t cs) (i : Nat) : w.frozen? ⟨g, i, none⟩ = false := by
  unfold Blk at h
  simp [World.frozen?, h]
theorem Blk.new (w : World) (t : TypeId) (cs : Array Value) : Blk (w.alloc (.cells cs t)) w.heap.size t cs := heap_alloc_new w _
theorem Blk.drew (h : Blk w g t cs) : Blk w.drew g t cs := h
theorem Blk.drewN (h : Blk w g t cs) (n : Nat) : Blk (w.drewN n) g t cs := h
theorem Blk.alloc (h : Blk w g t cs) (o : Obj) : Blk (w.alloc o) g t cs := (Below.heap_alloc w o g h.lt).trans h
theorem Blk.set_ (h : Blk w g t cs) (i : Nat) (u : Value) : Blk (w.setCell ⟨g, i, none⟩ u) g t (cs.setIfInBounds i u) := by
  unfold Blk at h ⊢
  simp [World.setCell, Array.getElem?_modify, h]
theorem Blk.far (h : Blk w g t cs) {p : Addr} (hp : g ≠ p.block) (u : Value) : Blk (w.setCell p u) g t cs := (Below.heap_setCell w p u g hp).trans h
theorem Blk.below {B : Nat} (h : Blk w g t cs) (hb : Below B w w') (hg : g < B) : Blk w' g t cs := (hb.block g hg).trans h
theorem Blk.grown {row : Option Nat} (h : Blk w g t cs) (hb : w.grownBy w' row) (hg : some g ≠ row) : Blk w' g t cs := (hb.block g h.lt hg).trans h
theorem Blk.ne_ {g' : Nat} {t' : TypeId} {cs' : Array Value} (h : Blk w g t cs) (h' : Blk w g' t' cs') (hne : t ≠ t') : g ≠ g' := by
  rintro rfl
  unfold Blk at h h'
  rw [h] at h'
  injection h' with h'
  injection h' with _ ht
  exact hne ht
theorem own_blk_ne {base : Nat} {e : TypeId} {size n : Nat} {v : Value} {xs : List Value} (h : w.ownsRow base e size v n xs) (hg : Blk w g t cs) (hne : e ≠ t) : v.ownBlock ≠ some g := by
  rcases h.2 with ⟨rfl, _⟩ | ⟨g', cap, cur, rfl, _, hh, _⟩
  · simp [Value.ownBlock]
  · intro he
    have : g' = g := by simpa [Value.ownBlock] using he
    subst this
    exact Blk.ne_ (t := e) hh hg hne rfl
end

section
variable {P : Program} (w : World)

theorem run_append_of_nil (base : Nat) (t ty e : TypeId) (i : TypeInfo) (size : Nat) (ht : P.underlying t = some (.slice e)) (hi : P.info? e = some i)
    (v : Value) (n : Nat) (xs : List Value) (hown : w.ownsRow base e size v n xs) (c : Nat) : (Builtin.append_ #[t, t] ty #[v, .slice none 0 c]).run P w = .ok v w := by
  rcases hown.2 with ⟨rfl, rfl⟩ | ⟨g, cap, cur, rfl, _, _, hnc, _⟩
  · simp [Builtin.append_, run_underlying ht, sizeOf, typeInfo, hi, Builtin.lenOf, Builtin.firstCells]
  · simp [Builtin.append_, run_underlying ht, sizeOf, typeInfo, hi, Builtin.lenOf, Builtin.firstCells, hnc, storeCells]

theorem run_append_any (base : Nat) (t ty e : TypeId) (i : TypeInfo) (z : Value) (size bytes : Nat) (ht : P.underlying t = some (.slice e)) (hi : P.info? e = some i) (hz : i.zero = some z)
    (hsize : i.size = size) (hby : i.bytes = bytes) (hzs : z.cells.size = size) (hsz : 0 < size)
    (v : Value) (n : Nat) (xs : List Value) (hown : w.ownsRow base e size v n xs)
    (B : Nat) (A : Option Addr) (m c : Nat) (news : List Value) (hr : Reads w B size A m news) (h1 : ∀ u ∈ news, u.oneCell' = true)
    (h63 : n + m ≤ maxLen) (hbytes : (n + m) * bytes ≤ 140737488355328) (hbase : base ≤ w.heap.size) :
    ∃ v' w', (Builtin.append_ #[t, t] ty #[v, .slice A m c]).run P w = .ok v' w' ∧ w'.ownsRow base e size v' (n + m) (xs ++ news) ∧ w.grownBy w' v.ownBlock ∧
      (v'.ownBlock = v.ownBlock ∨ v'.ownBlock = some w.heap.size) := by
  rcases A with _ | ad
  · have hm : m = 0 := by
      rcases Nat.eq_zero_or_pos m with h0 | h0
      · exact h0
      · obtain ⟨ad, h, _⟩ := hr.2 h0
        cases h
    subst hm
    have hn : news = [] := List.eq_nil_of_length_eq_zero (by simpa using hr.1)
    subst hn
    exact ⟨v, w, run_append_of_nil w base t ty e i size ht hi v n xs hown c, by simpa using hown, World.grownBy.refl w _, .inl rfl⟩
  · have hcells : ∀ j u, news[j]? = some u → w.cell? (ad.add j) = some u := by
      intro j u hu
      rcases Nat.eq_zero_or_pos m with h0 | h0
      · subst h0
        have hn : news = [] := List.eq_nil_of_length_eq_zero (by simpa using hr.1)
        subst hn
        simp at hu
      · obtain ⟨ad', h, _, hc⟩ := hr.2 h0
        injection h with h
        subst h
        exact hc j u hu
    obtain ⟨v', w', hrun, h2, h3, _, h5⟩ := run_append_own_at (P := P) w base t ty e i z size bytes ht hi hz hsize hby hzs hsz v n xs hown ad m c news hr.1 hcells h1 h63 hbytes hbase
    exact ⟨v', w', hrun, h2, h3, h5⟩

theorem wp_append_any {o : Oper} {a : Act} {K : Act → World → Prop} {Q : Exit → Act → World → Prop} (s x : Operand) (t : TypeId)
    (ho : o.op = .call { callee := .builtin .append, args := #[s, x], argTypes := #[t, t] })
    (base : Nat) (e : TypeId) (i : TypeInfo) (z : Value) (size bytes : Nat) (ht : P.underlying t = some (.slice e)) (hi : P.info? e = some i) (hz : i.zero = some z)
    (hsize : i.size = size) (hby : i.bytes = bytes) (hzs : z.cells.size = size) (hsz : 0 < size)
    (v : Value) (n : Nat) (xs : List Value) (hs : a.eval s = v) (hown : w.ownsRow base e size v n xs)
    (B : Nat) (A : Option Addr) (m c : Nat) (news : List Value) (hx : a.eval x = .slice A m c) (hr : Reads w B size A m news) (h1 : ∀ u ∈ news, u.oneCell' = true)
    (h63 : n + m ≤ maxLen) (hbytes : (n + m) * bytes ≤ 140737488355328) (hbase : base ≤ w.heap.size)
    (h : ∀ v' w', w'.ownsRow base e size v' (n + m) (xs ++ news) → w.grownBy w' v.ownBlock → (v'.ownBlock = v.ownBlock ∨ v'.ownBlock = some w.heap.size) → K (a.put o.dst v') w') : o.wp P a w K Q := by
  obtain ⟨v', w', hrun, h2, h3, h4⟩ := run_append_any (P := P) w base t o.type e i z size bytes ht hi hz hsize hby hzs hsz v n xs hown B A m c news hr h1 h63 hbytes hbase
  unfold Oper.wp execOp
  simp only [ho, resolve, invoke, builtin, Sem.run_bind, Sem.run_pure, Result.andThen_ok, List.map_toArray, List.map_cons, List.map_nil, hs, hx, hrun]
  exact h v' w' h2 h3 h4

theorem wpList_append_any {ops : Array Oper} {rest : List Oper} {o : Oper} {a : Act} {Q : Exit → Act → World → Prop} (hgd : o.guard = none) (s x : Operand) (t : TypeId)
    (ho : o.op = .call { callee := .builtin .append, args := #[s, x], argTypes := #[t, t] })
    (base : Nat) (e : TypeId) (i : TypeInfo) (z : Value) (size bytes : Nat) (ht : P.underlying t = some (.slice e)) (hi : P.info? e = some i) (hz : i.zero = some z)
    (hsize : i.size = size) (hby : i.bytes = bytes) (hzs : z.cells.size = size) (hsz : 0 < size)
    (v : Value) (n : Nat) (xs : List Value) (hs : a.eval s = v) (hown : w.ownsRow base e size v n xs)
    (B : Nat) (A : Option Addr) (m c : Nat) (news : List Value) (hx : a.eval x = .slice A m c) (hr : Reads w B size A m news) (h1 : ∀ u ∈ news, u.oneCell' = true)
    (h63 : n + m ≤ maxLen) (hbytes : (n + m) * bytes ≤ 140737488355328) (hbase : base ≤ w.heap.size)
    (h : ∀ v' w', w'.ownsRow base e size v' (n + m) (xs ++ news) → w.grownBy w' v.ownBlock → (v'.ownBlock = v.ownBlock ∨ v'.ownBlock = some w.heap.size) → wpList P ops Q rest (a.put o.dst v') w') : wpList P ops Q (o :: rest) a w :=
  wpList_plain hgd fun _ hK => wp_append_any w s x t ho base e i z size bytes ht hi hz hsize hby hzs hsz v n xs hs hown B A m c news hx hr h1 h63 hbytes hbase fun v' w' h2 h3 h4 => hK _ _ (h v' w' h2 h3 h4)

theorem step_append_any {ops : Array Oper} {o : Oper} {a : Act} {K : Act → World → Prop} {Q : Exit → Act → World → Prop} {E : Prop} (hgd : o.guard = none) (s x : Operand) (t : TypeId)
    (ho : o.op = .call { callee := .builtin .append, args := #[s, x], argTypes := #[t, t] })
    (base : Nat) (e : TypeId) (i : TypeInfo) (z : Value) (size bytes : Nat) (ht : P.underlying t = some (.slice e)) (hi : P.info? e = some i) (hz : i.zero = some z)
    (hsize : i.size = size) (hby : i.bytes = bytes) (hzs : z.cells.size = size) (hsz : 0 < size)
    (v : Value) (n : Nat) (xs : List Value) (hs : a.eval s = v) (hown : w.ownsRow base e size v n xs)
    (B : Nat) (A : Option Addr) (m c : Nat) (news : List Value) (hx : a.eval x = .slice A m c) (hr : Reads w B size A m news) (h1 : ∀ u ∈ news, u.oneCell' = true)
    (h63 : n + m ≤ maxLen) (hbytes : (n + m) * bytes ≤ 140737488355328) (hbase : base ≤ w.heap.size)
    (h : ∀ v' w', w'.ownsRow base e size v' (n + m) (xs ++ news) → w.grownBy w' v.ownBlock → (v'.ownBlock = v.ownBlock ∨ v'.ownBlock = some w.heap.size) → K (a.put o.dst v') w') :
    if Region.wanted o (yielded ops a.tmps) = true then Oper.wp P o a w K Q else E := by
  have hw : Region.wanted o (yielded ops a.tmps) = true := by simp [Region.wanted, hgd]
  rw [if_pos hw]
  exact wp_append_any w s x t ho base e i z size bytes ht hi hz hsize hby hzs hsz v n xs hs hown B A m c news hx hr h1 h63 hbytes hbase h
end

theorem below_set {B : Nat} {a w : World} {b i : Nat} (h : Below B a w) (hb : B ≤ b) (u : Value) : Below B a (w.setCell ⟨b, i, none⟩ u) := h.setCell (p := ⟨b, i, none⟩) hb u
theorem below_new {B : Nat} {a w : World} (h : Below B a w) (hB : B ≤ a.heap.size) (o : Obj) : Below B a (w.alloc o) := h.alloc (Nat.le_trans hB h.size) o
theorem below_step {B C : Nat} {a w v : World} (h : Below B a w) (k : Below C w v) (hC : B ≤ C) : Below B a v := h.trans (k.mono hC)
theorem below_drewN {B : Nat} {a w : World} (h : Below B a w) (n : Nat) : Below B a (w.drewN n) := ⟨h.os, h.tape, h.output, h.size, h.block⟩

theorem cells_new (w : World) (l : List Value) (t : TypeId) : ∀ j u, l[j]? = some u → (w.alloc (.cells l.toArray t)).cell? ⟨w.heap.size, j, none⟩ = some u := by
  intro j u h
  rw [World.cell?_alloc_new]
  simpa using h
theorem cell_new1 (w : World) (v : Value) (t : TypeId) : ∀ j u, [v][j]? = some u → (w.alloc (.cells #[v] t)).cell? ⟨w.heap.size, j, none⟩ = some u := cells_new w [v] t
theorem one_int (x : Int) : ∀ u ∈ [Value.int .i64 x], u.oneCell' = true := by intro u hu; simp at hu; subst hu; rfl
theorem one_str (x : ByteArray) : ∀ u ∈ [Value.string x], u.oneCell' = true := by intro u hu; simp at hu; subst hu; rfl
theorem le_alloc {B : Nat} {w : World} (h : B ≤ w.heap.size) (o : Obj) : B ≤ (w.alloc o).heap.size := by simp; omega

theorem _root_.Go.World.ownsRow.weaken {w : World} {base base' : Nat} {e : TypeId} {size n : Nat} {v : Value} {xs : List Value} (h : w.ownsRow base e size v n xs) (hb : base' ≤ base) : w.ownsRow base' e size v n xs := by
  obtain ⟨h1, h2⟩ := h
  refine ⟨h1, ?_⟩
  rcases h2 with h2 | ⟨g, cap, cur, hv, hg, r⟩
  · exact .inl h2
  · exact .inr ⟨g, cap, cur, hv, by omega, r⟩
theorem row_below {w w' : World} {base : Nat} {e : TypeId} {size n : Nat} {v : Value} {xs : List Value} (h : w.ownsRow base e size v n xs) (hb : Below w.heap.size w w') : w'.ownsRow base e size v n xs := by
  obtain ⟨h1, h2⟩ := h
  refine ⟨h1, ?_⟩
  rcases h2 with h2 | ⟨g, cap, cur, hv, hg, hh, r⟩
  · exact .inl h2
  · exact .inr ⟨g, cap, cur, hv, hg, (hb.block g (Array.getElem?_eq_some_iff.1 hh).1).trans hh, r⟩

/-! ### append of one element onto a row of the call's own -/
theorem wpList_push {P : Program} {ops : Array Oper} {rest : List Oper} {o : Oper} {a : Act} {Q : Exit → Act → World → Prop} (w : World) (hgd : o.guard = none) (s x : Operand) (t : TypeId)
    (ho : o.op = .call { callee := .builtin .append, args := #[s, x], argTypes := #[t, t] })
    (base : Nat) (e : TypeId) (z : Value) (size bytes : Nat) (ht : P.underlying t = some (.slice e)) (hinfo : (P.info? e).map (fun i => (i.zero, i.size, i.bytes)) = some (some z, size, bytes))
    (hzs : z.cells.size = size) (hsz : 0 < size)
    (v : Value) (n : Nat) (xs : List Value) (hs : a.eval s = v) (hown : w.ownsRow base e size v n xs)
    (g : Nat) (news : List Value) (hx : a.eval x = .slice (some ⟨g, 0, none⟩) 1 1) (hn : news.length = size) (hc : ∀ j u, news[j]? = some u → w.cell? ⟨g, j, none⟩ = some u) (h1 : ∀ u ∈ news, u.oneCell' = true)
    (h63 : n + 1 ≤ maxLen) (hbytes : (n + 1) * bytes ≤ 140737488355328) (hbase : base ≤ w.heap.size)
    (h : ∀ v' w', w'.ownsRow base e size v' (n + 1) (xs ++ news) → Below base w w' → wpList P ops Q rest (a.put o.dst v') w') : wpList P ops Q (o :: rest) a w := by
  obtain ⟨i, hi, hz, hsize, hby⟩ := info_parts hinfo
  refine wpList_append_any w hgd s x t ho base e i z size bytes ht hi hz hsize hby hzs hsz v n xs hs hown (g + 1) (some ⟨g, 0, none⟩) 1 1 news hx ⟨by omega, fun _ => ⟨_, rfl, by simp, fun j u hu => ?_⟩⟩ h1 h63 hbytes hbase
    fun v' w' h2 h3 _ => h v' w' h2 ((Below.refl base w).grown h3 hbase fun k hk => (hown.lt k hk).1)
  have : (⟨g, 0, none⟩ : Addr).add j = ⟨g, j, none⟩ := by unfold Addr.add; split <;> simp_all
  rw [this]
  exact hc j u hu

/-! ### Boxes: what a function lays of its parameters (sizes as inequalities: an equation would be a rule of the walk) -/
theorem box1 (w : World) (c : Array Value) (t : TypeId) :
    ∃ w1, w1 = w.alloc (.cells c t) ∧ Below w.heap.size w w1 ∧ w.heap.size + 1 ≤ w1.heap.size ∧ Blk w1 w.heap.size t c :=
  ⟨_, rfl, (Below.refl _ _).alloc (Nat.le_refl _) _, by simp, Blk.new _ _ _⟩
theorem box2 (w : World) (c d : Array Value) (t u : TypeId) :
    ∃ w1, w1 = (w.alloc (.cells c t)).alloc (.cells d u) ∧ Below w.heap.size w w1 ∧ w.heap.size + 2 ≤ w1.heap.size ∧ Blk w1 w.heap.size t c ∧ Blk w1 (w.heap.size + 1) u d := by
  refine ⟨_, rfl, ((Below.refl _ _).alloc (Nat.le_refl _) _).alloc (by simp) _, by simp, (Blk.new _ _ _).alloc _, ?_⟩
  have h := Blk.new (w.alloc (.cells c t)) u d
  rwa [World.size_alloc] at h
theorem box3 (w : World) (c d e : Array Value) (t u v : TypeId) :
    ∃ w1, w1 = ((w.alloc (.cells c t)).alloc (.cells d u)).alloc (.cells e v) ∧ Below w.heap.size w w1 ∧ w.heap.size + 3 ≤ w1.heap.size ∧ Blk w1 w.heap.size t c ∧ Blk w1 (w.heap.size + 1) u d ∧ Blk w1 (w.heap.size + 2) v e := by
  obtain ⟨w1, e1, h1, h2, h3, h4⟩ := box2 w c d t u
  have hs : w1.heap.size = w.heap.size + 2 := by rw [e1]; simp
  refine ⟨w1.alloc (.cells e v), by rw [e1], h1.alloc (by omega) _, by simp; omega, h3.alloc _, h4.alloc _, ?_⟩
  have h := Blk.new w1 v e
  rwa [hs] at h
theorem box4 (w : World) (c d e f : Array Value) (t u v x : TypeId) :
    ∃ w1, w1 = (((w.alloc (.cells c t)).alloc (.cells d u)).alloc (.cells e v)).alloc (.cells f x) ∧ Below w.heap.size w w1 ∧ w.heap.size + 4 ≤ w1.heap.size ∧ Blk w1 w.heap.size t c ∧ Blk w1 (w.heap.size + 1) u d ∧ Blk w1 (w.heap.size + 2) v e ∧ Blk w1 (w.heap.size + 3) x f := by
  obtain ⟨w1, e1, h1, h2, h3, h4, h5⟩ := box3 w c d e t u v
  have hs : w1.heap.size = w.heap.size + 3 := by rw [e1]; simp
  refine ⟨w1.alloc (.cells f x), by rw [e1], h1.alloc (by omega) _, by simp; omega, h3.alloc _, h4.alloc _, h5.alloc _, ?_⟩
  have h := Blk.new w1 x f
  rwa [hs] at h
end Go.Proofs.YtpcmflfinlkeiaaGreatDoor

namespace Go.Proofs.YtpcmflfinlkeiaaGreatDoor
open Go.RowKit
set_option maxRecDepth 100000

/-- The error of a number that is to lie from lo to hi. -/
def rng (n lo hi : Int) : Int := if n < lo ∨ hi < n then 3 else 0

/-- The error of a tap, of an input or an output. -/
def vErr (n : Int) : Int := rng n (-32767) 32767

structure Sec where
  b0 : Int
  b1 : Int
  b2 : Int
  a1 : Int
  a2 : Int
  sh : Int

structure St where
  x1 : Int
  x2 : Int
  y1 : Int
  y2 : Int

/-- A section that is valid. -/
structure Sec.Ok (s : Sec) : Prop where
  b0l : -32767 ≤ s.b0
  b0h : s.b0 ≤ 32767
  b1l : -32767 ≤ s.b1
  b1h : s.b1 ≤ 32767
  b2l : -32767 ≤ s.b2
  b2h : s.b2 ≤ 32767
  a1l : -32767 ≤ s.a1
  a1h : s.a1 ≤ 32767
  a2l : -32767 ≤ s.a2
  a2h : s.a2 ≤ 32767
  shl : 0 ≤ s.sh
  shh : s.sh ≤ 15

/-- A state that is valid. -/
structure St.Ok (x : St) : Prop where
  x1l : -32767 ≤ x.x1
  x1h : x.x1 ≤ 32767
  x2l : -32767 ≤ x.x2
  x2h : x.x2 ≤ 32767
  y1l : -32767 ≤ x.y1
  y1h : x.y1 ≤ 32767
  y2l : -32767 ≤ x.y2
  y2h : x.y2 ≤ 32767

/-- The unit of a section. -/
def Sec.unit (s : Sec) : Int := 2 ^ s.sh.toNat
/-- An absolute value. -/
def ab (n : Int) : Int := max n (-n)
/-- The unit less the taps of the output. -/
def Sec.room (s : Sec) : Int := s.unit - ab s.a1 - ab s.a2
/-- The sum of a step. -/
def Sec.sum (s : Sec) (x : St) (i : Int) : Int := s.b0 * i + s.b1 * x.x1 + s.b2 * x.x2 - s.a1 * x.y1 - s.a2 * x.y2
/-- The raw output of a step. -/
def Sec.raw (s : Sec) (x : St) (i : Int) : Int := s.sum x i / s.unit
/-- A number within the limits of a value. -/
def lim (n : Int) : Int := max (-32767) (min 32767 n)
/-- The output of a step. -/
def Sec.out (s : Sec) (x : St) (i : Int) : Int := lim (s.raw x i)
/-- The state behind a step. -/
def Sec.next (s : Sec) (x : St) (i : Int) : St := ⟨i, x.x1, s.out x i, x.y1⟩

theorem unit_bd {s : Sec} (h : s.Ok) : 1 ≤ s.unit ∧ s.unit ≤ 32768 := by
  have h1 := h.shl
  have h2 := h.shh
  have h3 : s.sh.toNat ≤ 15 := by omega
  unfold Sec.unit
  generalize s.sh.toNat = k at h3
  rcases k with _ | _ | _ | _ | _ | _ | _ | _ | _ | _ | _ | _ | _ | _ | _ | _ | k
  all_goals first | omega | (simp; done) | decide

/-- Powers of 2. -/
def pow2 (k : Nat) : Int := 2 ^ k
theorem pow2_succ (k : Nat) : pow2 (k + 1) = 2 * pow2 k := by unfold pow2; rw [Int.pow_succ]; omega
theorem pow2_bd {k : Nat} (h : k ≤ 15) : 1 ≤ pow2 k ∧ pow2 k ≤ 32768 := by
  unfold pow2
  rcases k with _ | _ | _ | _ | _ | _ | _ | _ | _ | _ | _ | _ | _ | _ | _ | _ | k
  all_goals first | omega | (simp; done) | decide

theorem ab_bd {n m : Int} (h1 : -m ≤ n) (h2 : n ≤ m) : 0 ≤ ab n ∧ ab n ≤ m := by unfold ab; omega

theorem mul_bd {a b : Int} (h1 : -32768 ≤ a) (h2 : a ≤ 32768) (h3 : -32768 ≤ b) (h4 : b ≤ 32768) : -1073741824 ≤ a * b ∧ a * b ≤ 1073741824 := by
  have e : a.natAbs ≤ 32768 := by omega
  have f : b.natAbs ≤ 32768 := by omega
  have g : (a * b).natAbs ≤ 32768 * 32768 := by rw [Int.natAbs_mul]; exact Nat.mul_le_mul e f
  omega

theorem sum_bd {s : Sec} {x : St} {i : Int} (h : s.Ok) (hx : x.Ok) (h1 : -32767 ≤ i) (h2 : i ≤ 32767) : -5368709120 ≤ s.sum x i ∧ s.sum x i ≤ 5368709120 := by
  have a := @mul_bd s.b0 i (by have := h.b0l; omega) (by have := h.b0h; omega) (by omega) (by omega)
  have b := @mul_bd s.b1 x.x1 (by have := h.b1l; omega) (by have := h.b1h; omega) (by have := hx.x1l; omega) (by have := hx.x1h; omega)
  have c := @mul_bd s.b2 x.x2 (by have := h.b2l; omega) (by have := h.b2h; omega) (by have := hx.x2l; omega) (by have := hx.x2h; omega)
  have d := @mul_bd s.a1 x.y1 (by have := h.a1l; omega) (by have := h.a1h; omega) (by have := hx.y1l; omega) (by have := hx.y1h; omega)
  have e := @mul_bd s.a2 x.y2 (by have := h.a2l; omega) (by have := h.a2h; omega) (by have := hx.y2l; omega) (by have := hx.y2h; omega)
  unfold Sec.sum
  omega

theorem lim_bd (n : Int) : -32767 ≤ lim n ∧ lim n ≤ 32767 := by unfold lim; omega

theorem next_ok {s : Sec} {x : St} {i : Int} (hx : x.Ok) (h1 : -32767 ≤ i) (h2 : i ≤ 32767) : (s.next x i).Ok := by
  have := lim_bd (s.raw x i)
  exact ⟨h1, h2, hx.x1l, hx.x1h, this.1, this.2, hx.y1l, hx.y1h⟩

/-! ### Errors -/
def inB (n lo hi : Int) : Bool := decide (lo ≤ n ∧ n ≤ hi)
theorem inB_iff {n lo hi : Int} : inB n lo hi = true ↔ lo ≤ n ∧ n ≤ hi := by unfold inB; simp
theorem rng_eq (n lo hi : Int) : rng n lo hi = if inB n lo hi then 0 else 3 := by unfold rng inB; split <;> simp <;> omega
theorem vErr_eq (n : Int) : vErr n = if inB n (-32767) 32767 then 0 else 3 := rng_eq n _ _

def Sec.okB (s : Sec) : Bool := inB s.b0 (-32767) 32767 && inB s.b1 (-32767) 32767 && inB s.b2 (-32767) 32767 && inB s.a1 (-32767) 32767 && inB s.a2 (-32767) 32767 && inB s.sh 0 15
def St.okB (x : St) : Bool := inB x.x1 (-32767) 32767 && inB x.x2 (-32767) 32767 && inB x.y1 (-32767) 32767 && inB x.y2 (-32767) 32767
theorem Sec.ok_iff {s : Sec} : s.okB = true ↔ s.Ok := by
  unfold Sec.okB
  simp only [Bool.and_eq_true, inB_iff]
  exact ⟨fun ⟨⟨⟨⟨⟨a, b⟩, c⟩, d⟩, e⟩, f⟩ => ⟨a.1, a.2, b.1, b.2, c.1, c.2, d.1, d.2, e.1, e.2, f.1, f.2⟩,
    fun h => ⟨⟨⟨⟨⟨⟨h.b0l, h.b0h⟩, h.b1l, h.b1h⟩, h.b2l, h.b2h⟩, h.a1l, h.a1h⟩, h.a2l, h.a2h⟩, h.shl, h.shh⟩⟩
theorem St.ok_iff {x : St} : x.okB = true ↔ x.Ok := by
  unfold St.okB
  simp only [Bool.and_eq_true, inB_iff]
  exact ⟨fun ⟨⟨⟨a, b⟩, c⟩, d⟩ => ⟨a.1, a.2, b.1, b.2, c.1, c.2, d.1, d.2⟩, fun h => ⟨⟨⟨⟨h.x1l, h.x1h⟩, h.x2l, h.x2h⟩, h.y1l, h.y1h⟩, h.y2l, h.y2h⟩⟩
/-- The error of a section, of a state, of a signal. -/
def Sec.err (s : Sec) : Int := if s.okB then 0 else 3
def St.err (x : St) : Int := if x.okB then 0 else 3
def vB (n : Int) : Bool := inB n (-32767) 32767
def sigErr (l : List Int) : Int := if 4096 < l.length then 5 else if l.all vB then 0 else 3
theorem Sec.err_ok {s : Sec} (h : s.err = 0) : s.Ok := by
  unfold Sec.err at h
  split at h
  · exact Sec.ok_iff.1 (by assumption)
  · omega
theorem Sec.err_of {s : Sec} (h : s.Ok) : s.err = 0 := by unfold Sec.err; rw [if_pos (Sec.ok_iff.2 h)]
theorem St.err_ok {s : St} (h : s.err = 0) : s.Ok := by
  unfold St.err at h
  split at h
  · exact St.ok_iff.1 (by assumption)
  · omega
theorem St.err_of {s : St} (h : s.Ok) : s.err = 0 := by unfold St.err; rw [if_pos (St.ok_iff.2 h)]
theorem sigErr_ok {l : List Int} (h : sigErr l = 0) : l.length ≤ 4096 ∧ ∀ x ∈ l, -32767 ≤ x ∧ x ≤ 32767 := by
  unfold sigErr at h
  split at h
  · omega
  · split at h
    · rename_i h1
      exact ⟨by omega, fun x hx => inB_iff.1 (List.all_eq_true.1 h1 x hx)⟩
    · omega
theorem sigErr_of {l : List Int} (h1 : l.length ≤ 4096) (h : ∀ x ∈ l, -32767 ≤ x ∧ x ≤ 32767) : sigErr l = 0 := by
  unfold sigErr
  have h2 : l.all vB = true := List.all_eq_true.2 fun x hx => inB_iff.2 (h x hx)
  rw [if_neg (by omega), if_pos h2]

/-- The first number that is not 0, or 0. -/
def fnz : List Int → Int
  | [] => 0
  | x :: xs => if x = 0 then fnz xs else x
theorem fnz_bools (l : List Bool) : fnz (l.map fun b => if b then 0 else 3) = if l.all id then 0 else 3 := by
  induction l with
  | nil => rfl
  | cons b l ih => cases b <;> simp [fnz, ih]
theorem sec_err_eq (s : Sec) : fnz [fnz [vErr s.b0, vErr s.b1, vErr s.b2, vErr s.a1, vErr s.a2], rng s.sh 0 15] = s.err := by
  have e1 := fnz_bools [inB s.b0 (-32767) 32767, inB s.b1 (-32767) 32767, inB s.b2 (-32767) 32767, inB s.a1 (-32767) 32767, inB s.a2 (-32767) 32767]
  simp only [List.map_cons, List.map_nil, ← vErr_eq] at e1
  rw [e1, rng_eq]
  have e2 := fnz_bools [[inB s.b0 (-32767) 32767, inB s.b1 (-32767) 32767, inB s.b2 (-32767) 32767, inB s.a1 (-32767) 32767, inB s.a2 (-32767) 32767].all id, inB s.sh 0 15]
  simp only [List.map_cons, List.map_nil] at e2
  rw [e2]
  simp [Sec.err, Sec.okB, and_assoc]
theorem st_err_eq (s : St) : fnz [vErr s.x1, vErr s.x2, vErr s.y1, vErr s.y2] = s.err := by
  have e1 := fnz_bools [inB s.x1 (-32767) 32767, inB s.x2 (-32767) 32767, inB s.y1 (-32767) 32767, inB s.y2 (-32767) 32767]
  simp only [List.map_cons, List.map_nil, ← vErr_eq] at e1
  rw [e1]
  simp [St.err, St.okB, and_assoc]
theorem fnz_vals (l : List Int) : fnz (l.map vErr) = if l.all vB then 0 else 3 := by
  have := fnz_bools (l.map vB)
  rw [List.map_map] at this
  rw [show vErr = (fun b => if b = true then 0 else 3) ∘ vB from funext fun n => vErr_eq n]
  rw [this]
  simp
theorem sig_err_eq (l : List Int) : fnz [if 4096 < l.length then 5 else 0, fnz (l.map vErr)] = sigErr l := by
  rw [fnz_vals]
  unfold sigErr
  by_cases h : 4096 < l.length
  · simp [fnz, h]
  · by_cases h2 : l.all vB <;> simp [fnz, h, h2]
end Go.Proofs.YtpcmflfinlkeiaaGreatDoor

namespace Go.Proofs.YtpcmflfinlkeiaaGreatDoor
open Go.RowKit

/-- The outputs and the states behind them, step by step. -/
def Sec.trace (s : Sec) : St → List Int → List (Int × St)
  | _, [] => []
  | y, x :: xs => (s.out y x, s.next y x) :: s.trace (s.next y x) xs
/-- The state behind all steps. -/
def Sec.after (s : Sec) : St → List Int → St
  | y, [] => y
  | y, x :: xs => s.after (s.next y x) xs
/-- The outputs. -/
def Sec.outs (s : Sec) (y : St) (xs : List Int) : List Int := (s.trace y xs).map (·.1)

theorem trace_len (s : Sec) (y : St) (xs : List Int) : (s.trace y xs).length = xs.length := by
  induction xs generalizing y with
  | nil => rfl
  | cons x xs ih => simp [Sec.trace, ih]
theorem trace_snoc (s : Sec) (y : St) (xs : List Int) (x : Int) : s.trace y (xs ++ [x]) = s.trace y xs ++ [(s.out (s.after y xs) x, s.next (s.after y xs) x)] := by
  induction xs generalizing y with
  | nil => rfl
  | cons a l ih => simp [Sec.trace, Sec.after, ih]
theorem after_snoc (s : Sec) (y : St) (xs : List Int) (x : Int) : s.after y (xs ++ [x]) = s.next (s.after y xs) x := by
  induction xs generalizing y with
  | nil => rfl
  | cons a l ih => simp [Sec.after, ih]
theorem trace_append (s : Sec) (y : St) (xs zs : List Int) : s.trace y (xs ++ zs) = s.trace y xs ++ s.trace (s.after y xs) zs := by
  induction xs generalizing y with
  | nil => rfl
  | cons a l ih => simp [Sec.trace, Sec.after, ih]
theorem after_append (s : Sec) (y : St) (xs zs : List Int) : s.after y (xs ++ zs) = s.after (s.after y xs) zs := by
  induction xs generalizing y with
  | nil => rfl
  | cons a l ih => simp [Sec.after, ih]
theorem outs_len (s : Sec) (y : St) (xs : List Int) : (s.outs y xs).length = xs.length := by simp [Sec.outs, trace_len]
theorem outs_snoc (s : Sec) (y : St) (xs : List Int) (x : Int) : s.outs y (xs ++ [x]) = s.outs y xs ++ [s.out (s.after y xs) x] := by simp [Sec.outs, trace_snoc]
theorem after_ok {s : Sec} {y : St} (hy : y.Ok) : ∀ {xs : List Int}, (∀ x ∈ xs, -32767 ≤ x ∧ x ≤ 32767) → (s.after y xs).Ok := by
  intro xs
  induction xs generalizing y with
  | nil => intro _; exact hy
  | cons a l ih => intro h; exact ih (next_ok hy (h a (by simp)).1 (h a (by simp)).2) fun x hx => h x (by simp [hx])
theorem outs_bd {s : Sec} {y : St} {xs : List Int} : ∀ x ∈ s.outs y xs, -32767 ≤ x ∧ x ≤ 32767 := by
  induction xs generalizing y with
  | nil => intro x hx; simp [Sec.outs, Sec.trace] at hx
  | cons a l ih =>
    intro x hx
    simp only [Sec.outs, Sec.trace, List.map_cons, List.mem_cons] at hx
    rcases hx with rfl | hx
    · exact lim_bd _
    · exact ih x hx
/-- The trace of the first k inputs, and one more. -/
theorem trace_take_succ (s : Sec) (y : St) {xs : List Int} {k : Nat} {x : Int} (h : xs[k]? = some x) :
    s.trace y (xs.take (k + 1)) = s.trace y (xs.take k) ++ [(s.out (s.after y (xs.take k)) x, s.next (s.after y (xs.take k)) x)] := by
  rw [List.take_add_one, h]; exact trace_snoc _ _ _ _
theorem after_take_succ (s : Sec) (y : St) {xs : List Int} {k : Nat} {x : Int} (h : xs[k]? = some x) : s.after y (xs.take (k + 1)) = s.next (s.after y (xs.take k)) x := by
  rw [List.take_add_one, h]; exact after_snoc _ _ _ _
/-- The state behind a trace. -/
def lastSt (y : St) (pre : List (Int × St)) : St := (pre.getLast?.map (·.2)).getD y
theorem lastSt_nil (y : St) : lastSt y [] = y := rfl
theorem lastSt_snoc (y : St) (pre : List (Int × St)) (p : Int × St) : lastSt y (pre ++ [p]) = p.2 := by simp [lastSt]
theorem lastSt_trace (s : Sec) (y : St) (xs : List Int) : lastSt y (s.trace y xs) = s.after y xs := by
  rcases List.eq_nil_or_concat xs with rfl | ⟨l, a, rfl⟩
  · rfl
  · rw [List.concat_eq_append, trace_snoc, lastSt_snoc, after_snoc]
/-- What may come next. -/
def Sec.nx (s : Sec) (y : St) (xs : List Int) (pre : List (Int × St)) (p : Int × St) : Prop :=
  ∃ k x, xs[k]? = some x ∧ pre = s.trace y (xs.take k) ∧ p = (s.out (s.after y (xs.take k)) x, s.next (s.after y (xs.take k)) x)
end Go.Proofs.YtpcmflfinlkeiaaGreatDoor

namespace Go.Proofs.YtpcmflfinlkeiaaGreatDoor
open Go.RowKit
set_option maxRecDepth 100000

theorem tdiv_cases (a b : Int) (hb : 1 ≤ b) : (a.tdiv b = a / b ∧ a.tdiv b * b ≤ a ∧ a - b < a.tdiv b * b) ∨ (a.tdiv b = a / b + 1 ∧ a < a.tdiv b * b ∧ a.tdiv b * b < a + b) := by
  have h1 := Int.tdiv_eq_ediv (a := a) (b := b)
  have h2 := Int.mul_ediv_add_emod a b
  have h3 := Int.emod_nonneg a (show b ≠ 0 by omega)
  have h4 := Int.emod_lt_of_pos a (show 0 < b by omega)
  by_cases hc : 0 ≤ a ∨ b ∣ a
  · left
    rw [if_pos hc, Int.add_zero] at h1
    rw [h1, Int.mul_comm]
    omega
  · right
    rw [if_neg hc, Int.sign_eq_one_of_pos (by omega)] at h1
    rw [h1, Int.add_mul, Int.one_mul, Int.mul_comm]
    have : a % b ≠ 0 := fun e => hc (Or.inr (Int.dvd_of_emod_eq_zero e))
    omega

theorem floor_yes {a b : Int} (hb : 1 ≤ b) (h : a < a.tdiv b * b) : a.tdiv b - 1 = a / b := by
  rcases tdiv_cases a b hb with ⟨_, h2, _⟩ | ⟨h1, _, _⟩ <;> omega
theorem floor_no {a b : Int} (hb : 1 ≤ b) (h : a.tdiv b * b ≤ a) : a.tdiv b = a / b := by
  rcases tdiv_cases a b hb with ⟨h1, _, _⟩ | ⟨_, h2, _⟩ <;> omega
theorem tdiv_bd {a b m : Int} (hb : 1 ≤ b) (h1 : -m ≤ a) (h2 : a ≤ m) (hm : b ≤ m) : -m - m ≤ a.tdiv b * b ∧ a.tdiv b * b ≤ m + m := by
  rcases tdiv_cases a b hb with ⟨_, _, _⟩ | ⟨_, _, _⟩ <;> omega
theorem ediv_bd {a b m : Int} (hb : 1 ≤ b) (h1 : -m ≤ a) (h2 : a ≤ m) (hm : 0 ≤ m) : -m ≤ a / b ∧ a / b ≤ m := by
  constructor
  · have := Int.le_ediv_of_mul_le (a := -m) (b := a) (c := b) (by omega) (by
      have : m * 1 ≤ m * b := Int.mul_le_mul_of_nonneg_left hb hm
      rw [Int.neg_mul]; omega)
    exact this
  · have h := Int.ediv_le_self (a := m) b hm
    have := Int.ediv_le_ediv (c := b) (by omega) h2
    omega
theorem tdiv_self_bd {a b m : Int} (hb : 1 ≤ b) (h1 : -m ≤ a) (h2 : a ≤ m) (hm : 0 ≤ m) : -m ≤ a.tdiv b ∧ a.tdiv b ≤ m + 1 := by
  have := ediv_bd hb h1 h2 hm
  rcases tdiv_cases a b hb with ⟨h, _, _⟩ | ⟨h, _, _⟩ <;> omega
end Go.Proofs.YtpcmflfinlkeiaaGreatDoor

namespace Go.Proofs.YtpcmflfinlkeiaaGreatDoor
open Go.RowKit
set_option maxRecDepth 100000

open Classical in
/-- The world x where it is w below block number B; w else. -/
noncomputable def over (B : Nat) (w x : World) : World := if Below B w x then x else w

theorem over_below (B : Nat) (w x : World) : Below B w (over B w x) := by
  unfold over
  split
  · assumption
  · exact Below.refl _ _
theorem over_eq {B : Nat} {w x : World} (h : Below B w x) : x = over B w x := by unfold over; rw [if_pos h]

theorem over_cell {B b i : Nat} {w : World} (x : World) (h : b < B) : (over B w x).cell? ⟨b, i, none⟩ = w.cell? ⟨b, i, none⟩ := (over_below B w x).cell (p := ⟨b, i, none⟩) h
theorem over_frozen {B b i : Nat} {w : World} (x : World) (h : b < B) : (over B w x).frozen? ⟨b, i, none⟩ = w.frozen? ⟨b, i, none⟩ := (over_below B w x).frozen (p := ⟨b, i, none⟩) h

theorem over_blk {B b : Nat} {t : TypeId} {cs : Array Value} {w : World} (h : Blk w b t cs) (hb : b < B) : ∀ (i : Nat) (x : World), (over B w x).cell? ⟨b, i, none⟩ = cs[i]? :=
  fun i x => (over_cell x hb).trans (h.cell i)

/-- A region whose operations read, and whose callees make memory of their own alone: one walk serves all orders. -/
theorem wp_region_over (B : Nat) {P : Program} {id : Nat} {Q : Exit → Act → World → Prop} {a : Act} {w : World} {l : List Oper} (hm : P.follows .mixedOrders = true) (hB : Region.lexB .any l.toArray = true)
    (h : wpQuiet P l.toArray (fun w' => ∃ x, w' = over B w x) (fun a' => ∀ w', (∃ x, w' = over B w x) → Q .normal a' w') l a) : (Code.region id l.toArray true).wp P Q a w :=
  wp_region_quiet (C := fun w' => ∃ x, w' = over B w x) hm hB ⟨w.drew, over_eq ((Below.refl _ _).drew)⟩ (by simpa using h)

/-- A callee's contract in such a region. -/
theorem over_call {P : Program} {f : FuncId} {args : Array Value} {B : Nat} {w x : World} {v : Value} (hB : B ≤ w.heap.size)
    (h : Calls P f args (over B w x) fun e w' => e = .returned v ∧ Below (over B w x).heap.size (over B w x) w') :
    Calls P f args (over B w x) fun e w' => e = .returned v ∧ ∃ y, w' = over B w y :=
  h.mono fun _ _ ⟨he, hb⟩ => ⟨he, _, over_eq ((over_below B w x).trans (hb.mono (Nat.le_trans hB (over_below B w x).size)))⟩
theorem over_same {P : Program} {f : FuncId} {args : Array Value} {B : Nat} {w x : World} {v : Value}
    (h : Calls P f args (over B w x) fun e w' => e = .returned v ∧ over B w x = w') :
    Calls P f args (over B w x) fun e w' => e = .returned v ∧ ∃ y, w' = over B w y :=
  h.mono fun _ _ ⟨he, hb⟩ => ⟨he, x, hb.symm⟩
/-- One where the world does not change is one where nothing old changes. -/
theorem below_same {P : Program} {f : FuncId} {args : Array Value} {w : World} {v : Value} (h : Calls P f args w fun e w' => e = .returned v ∧ w = w') :
    Calls P f args w fun e w' => e = .returned v ∧ Below w.heap.size w w' :=
  h.mono fun _ _ ⟨he, hb⟩ => ⟨he, by rw [← hb]; exact Below.refl _ _⟩
end Go.Proofs.YtpcmflfinlkeiaaGreatDoor

namespace Go.Proofs.YtpcmflfinlkeiaaGreatDoor
open Go.RowKit
set_option maxRecDepth 100000


set_option maxHeartbeats 400000 in
theorem when_any (b : Bool) (e : Int) (w : World) :
    Calls Tryz.prog 39 #[.bool b, .int .i64 e] w fun r w' => r = .returned (.int .i64 (if b then e else 0)) ∧ w = w' := by
  cases b
  · go_enter Tryz.func39, Tryz.ntmps39
    go_wp2
    go_ret
    exact ⟨rfl, rfl⟩
  · go_enter Tryz.func39, Tryz.ntmps39
    go_wp2
    go_ret
    exact ⟨rfl, rfl⟩

set_option maxHeartbeats 400000 in
theorem within_any (n lo hi : Int) (w : World) :
    Calls Tryz.prog 65 #[.int .i64 n, .int .i64 lo, .int .i64 hi] w fun r w' => r = .returned (.int .i64 (rng n lo hi)) ∧ w = w' := by
  go_enter Tryz.func65, Tryz.ntmps65
  go_wp2_with (go_at_call 39; refine (when_any _ _ _).mono ?_; rintro e w' ⟨rfl, rfl⟩)
  all_goals (go_ret; exact ⟨by unfold rng; simp; omega, rfl⟩)

theorem checkTap_any (n : Int) (w : World) :
    Calls Tryz.prog 86 #[.int .i64 n] w fun r w' => r = .returned (.int .i64 (vErr n)) ∧ w = w' := by
  go_enter Tryz.func86, Tryz.ntmps86
  go_wp2_with (go_at_call 65; refine (within_any _ _ _ _).mono ?_; rintro e w' ⟨rfl, rfl⟩)
  go_ret
  exact ⟨rfl, rfl⟩

theorem checkValue_any (n : Int) (w : World) :
    Calls Tryz.prog 64 #[.int .i64 n] w fun r w' => r = .returned (.int .i64 (vErr n)) ∧ w = w' := by
  go_enter Tryz.func64, Tryz.ntmps64
  go_wp2_with (go_at_call 65; refine (within_any _ _ _ _).mono ?_; rintro e w' ⟨rfl, rfl⟩)
  go_ret
  exact ⟨rfl, rfl⟩

/-- The reference's own check of a range. -/
theorem checkRange_any (n lo hi : Int) (w : World) :
    Calls Tryz.prog 83 #[.int .i64 n, .int .i64 lo, .int .i64 hi] w fun r w' => r = .returned (.int .i64 (rng n lo hi)) ∧ w = w' := by
  go_enter Tryz.func83, Tryz.ntmps83
  go_wp2
  all_goals (go_ret; exact ⟨by unfold rng; simp; omega, rfl⟩)

theorem checkInput_any (n : Int) (w : World) :
    Calls Tryz.prog 55 #[.int .i64 n] w fun r w' => r = .returned (.int .i64 (vErr n)) ∧ w = w' := by
  go_enter Tryz.func55, Tryz.ntmps55
  go_wp2_with (go_at_call 83; refine (checkRange_any _ _ _ _).mono ?_; rintro e w' ⟨rfl, rfl⟩)
  go_ret
  exact ⟨rfl, rfl⟩

theorem limited_any (n : Int) (w : World) :
    Calls Tryz.prog 62 #[.int .i64 n] w fun r w' => r = .returned (.int .i64 (lim n)) ∧ w = w' := by
  go_enter Tryz.func62, Tryz.ntmps62
  go_wp2
  all_goals (go_ret; exact ⟨by simp [lim]; omega, rfl⟩)

end Go.Proofs.YtpcmflfinlkeiaaGreatDoor

namespace Go.Proofs.YtpcmflfinlkeiaaGreatDoor
open Go.RowKit
set_option maxRecDepth 100000

theorem abs_any (n : Int) (w : World) (h1 : -9223372036854775807 ≤ n) (h2 : n ≤ 9223372036854775807) :
    Calls Tryz.prog 70 #[.int .i64 n] w fun r w' => r = .returned (.int .i64 (ab n)) ∧ w = w' := by
  go_enter Tryz.func70, Tryz.ntmps70
  go_wp2
  all_goals (go_ret; exact ⟨by simp [ab]; omega, rfl⟩)

theorem unit_any (s : Sec) (w : World) (h : s.Ok) :
    Calls Tryz.prog 63 #[.agg #[.int .i64 s.b0, .int .i64 s.b1, .int .i64 s.b2, .int .i64 s.a1, .int .i64 s.a2, .int .i64 s.sh]] w fun r w' => r = .returned (.int .i64 s.unit) ∧ Below w.heap.size w w' := by
  have h1 := h.shl
  have h2 := h.shh
  have hu := unit_bd h
  have e : wrap64 (2 ^ s.sh.toNat) = s.unit := by unfold Sec.unit at *; rw [IntWalk.wrap64_in _ (by omega)]
  have E := hide e; clear e
  go_enter Tryz.func63, Tryz.ntmps63
  go_wp2
  go_ret
  exact ⟨by simp [E.out], (Below.refl _ _).alloc (Nat.le_refl _) _⟩

theorem margin_any (s : Sec) (w : World) (h : s.Ok) :
    Calls Tryz.prog 69 #[.agg #[.int .i64 s.b0, .int .i64 s.b1, .int .i64 s.b2, .int .i64 s.a1, .int .i64 s.a2, .int .i64 s.sh]] w fun r w' => r = .returned (.int .i64 s.room) ∧ Below w.heap.size w w' := by
  go_enter Tryz.func69, Tryz.ntmps69
  go_wp2
  obtain ⟨w1, e1, hb0, hz, hk⟩ := box1 w #[.int .i64 s.b0, .int .i64 s.b1, .int .i64 s.b2, .int .i64 s.a1, .int .i64 s.a2, .int .i64 s.sh] 53
  rw [← e1]; clear e1
  have c0 := over_blk (B := w1.heap.size) hk (by omega)
  have hu := unit_bd h
  have q1 := ab_bd h.a1l h.a1h
  have q2 := ab_bd h.a2l h.a2h
  refine wp_region_over w1.heap.size (by kernel_rfl) (by kernel_rfl) ?_; (repeat (first | go_big_quiet_step (first | (go_at_call 63; exact over_call (Nat.le_refl _) (unit_any s _ h)) | (go_at_call 70; exact over_same (abs_any _ _ (by have := h.a1l; have := h.a2l; omega) (by have := h.a1h; have := h.a2h; omega)))) | quiet_step (first | (go_at_call 63; exact over_call (Nat.le_refl _) (unit_any s _ h)) | (go_at_call 70; exact over_same (abs_any _ _ (by have := h.a1l; have := h.a2l; omega) (by have := h.a1h; have := h.a2h; omega)))))); refine wpQuiet_nil ?_; rintro W ⟨x, rfl⟩
  go_wp2
  go_ret
  exact ⟨by simp [Sec.room], hb0.trans ((over_below _ _ _).mono (by omega))⟩

theorem raw_any (s : Sec) (y : St) (i : Int) (w : World) (h : s.Ok) (hy : y.Ok) (h1 : -32767 ≤ i) (h2 : i ≤ 32767) :
    Calls Tryz.prog 61 #[.agg #[.int .i64 s.b0, .int .i64 s.b1, .int .i64 s.b2, .int .i64 s.a1, .int .i64 s.a2, .int .i64 s.sh], .agg #[.int .i64 y.x1, .int .i64 y.x2, .int .i64 y.y1, .int .i64 y.y2], .int .i64 i] w fun r w' => r = .returned (.int .i64 (s.raw y i)) ∧ Below w.heap.size w w' := by
  have a := @mul_bd s.b0 i (by have := h.b0l; omega) (by have := h.b0h; omega) (by omega) (by omega)
  have b := @mul_bd s.b1 y.x1 (by have := h.b1l; omega) (by have := h.b1h; omega) (by have := hy.x1l; omega) (by have := hy.x1h; omega)
  have c := @mul_bd s.b2 y.x2 (by have := h.b2l; omega) (by have := h.b2h; omega) (by have := hy.x2l; omega) (by have := hy.x2h; omega)
  have d := @mul_bd s.a1 y.y1 (by have := h.a1l; omega) (by have := h.a1h; omega) (by have := hy.y1l; omega) (by have := hy.y1h; omega)
  have e := @mul_bd s.a2 y.y2 (by have := h.a2l; omega) (by have := h.a2h; omega) (by have := hy.y2l; omega) (by have := hy.y2h; omega)
  have g1 := h.shl
  have g2 := h.shh
  go_enter Tryz.func61, Tryz.ntmps61
  go_wp2
  go_ret
  exact ⟨by simp [Sec.raw, Sec.sum, Sec.unit], ((Below.refl _ _).alloc (Nat.le_refl _) _).alloc (by simp) _⟩

theorem step_any (s : Sec) (y : St) (i : Int) (w : World) (h : s.Ok) (hy : y.Ok) (h1 : -32767 ≤ i) (h2 : i ≤ 32767) :
    Calls Tryz.prog 68 #[.agg #[.int .i64 s.b0, .int .i64 s.b1, .int .i64 s.b2, .int .i64 s.a1, .int .i64 s.a2, .int .i64 s.sh], .agg #[.int .i64 y.x1, .int .i64 y.x2, .int .i64 y.y1, .int .i64 y.y2], .int .i64 i] w fun r w' => r = .returned (.tuple #[.int .i64 (s.out y i), .agg #[.int .i64 (s.next y i).x1, .int .i64 (s.next y i).x2, .int .i64 (s.next y i).y1, .int .i64 (s.next y i).y2]]) ∧ Below w.heap.size w w' := by
  go_enter Tryz.func68, Tryz.ntmps68
  go_wp2_with fail
  obtain ⟨w1, e1, hb0, hz, k0, k1, k2⟩ := box3 w #[.int .i64 s.b0, .int .i64 s.b1, .int .i64 s.b2, .int .i64 s.a1, .int .i64 s.a2, .int .i64 s.sh] #[.int .i64 y.x1, .int .i64 y.x2, .int .i64 y.y1, .int .i64 y.y2] #[.int .i64 0, .int .i64 0, .int .i64 0, .int .i64 0] 53 61 61
  rw [← e1]; clear e1
  refine (raw_any s y i _ h hy h1 h2).mono ?_
  rintro e w2 ⟨rfl, hb1⟩
  have hb2 : Below w.heap.size w w2 := below_step hb0 hb1 (by omega)
  have k0' := k0.below hb1 (by omega)
  have k1' := k1.below hb1 (by omega)
  have k2' := k2.below hb1 (by omega)
  have c1 := k1'.cell
  have c2 := k2'.cell
  have f2 := k2'.frozen
  go_wp2_with (go_at_call 62; refine (limited_any _ _).mono ?_; rintro e w' ⟨rfl, rfl⟩)
  go_region
  go_wp2
  refine bodyPost_ret (v := .tuple #[.int .i64 (s.out y i), .agg #[.int .i64 (s.next y i).x1, .int .i64 (s.next y i).x2, .int .i64 (s.next y i).y1, .int .i64 (s.next y i).y2]]) (by simp [results, Tryz.results68, go_sem, c2, Sec.out, Sec.next]) rfl ?_
  exact ⟨rfl, (by repeat (first | exact hb2 | exact Below.refl _ _ | refine Below.drew ?_ | refine below_drewN ?_ _ | refine below_set ?_ (by omega) _ | refine below_new ?_ (by omega) _))⟩

/-! ### The reference -/

end Go.Proofs.YtpcmflfinlkeiaaGreatDoor

namespace Go.Proofs.YtpcmflfinlkeiaaGreatDoor
open Go.RowKit
set_option maxRecDepth 100000

end Go.Proofs.YtpcmflfinlkeiaaGreatDoor

namespace Go.Proofs.YtpcmflfinlkeiaaGreatDoor
open Go.RowKit
set_option maxRecDepth 100000

/-- Whether a section without rounding is stable. -/
def Sec.stab (s : Sec) : Bool := decide (ab s.a2 < s.unit ∧ ab s.a1 < s.unit + s.a2)

/-- The bound of a contractive section. -/
def Sec.bound (s : Sec) (input : Int) : Int := -((-(input * (ab s.b0 + ab s.b1 + ab s.b2))) / s.room)

theorem nums_bd {s : Sec} (h : s.Ok) : 0 ≤ ab s.b0 + ab s.b1 + ab s.b2 ∧ ab s.b0 + ab s.b1 + ab s.b2 ≤ 98301 := by
  have q1 := ab_bd h.b0l h.b0h
  have q2 := ab_bd h.b1l h.b1h
  have q3 := ab_bd h.b2l h.b2h
  omega
theorem input_bd {s : Sec} (h : s.Ok) {i : Int} (h1 : 0 ≤ i) (h2 : i ≤ 32767) : 0 ≤ i * (ab s.b0 + ab s.b1 + ab s.b2) ∧ i * (ab s.b0 + ab s.b1 + ab s.b2) ≤ 3221028867 := by
  have q := nums_bd h
  constructor
  · exact Int.mul_nonneg h1 q.1
  · have := Int.mul_le_mul h2 q.2 q.1 (by omega)
    omega
theorem room_bd {s : Sec} (h : s.Ok) : s.room ≤ 32768 ∧ -65534 ≤ s.room := by
  have q1 := ab_bd h.a1l h.a1h
  have q2 := ab_bd h.a2l h.a2h
  have := unit_bd h
  unfold Sec.room
  omega

end Go.Proofs.YtpcmflfinlkeiaaGreatDoor

namespace Go.Proofs.YtpcmflfinlkeiaaGreatDoor
open Go.RowKit
set_option maxRecDepth 100000

theorem fnz_all {xs : List Int} (h : ∀ x ∈ xs, x = 0) : fnz xs = 0 := by
  induction xs with
  | nil => rfl
  | cons a l ih => unfold fnz; rw [if_pos (h a (by simp))]; exact ih fun x hx => h x (by simp [hx])
theorem fnz_hit {xs : List Int} {k : Nat} {x : Int} (hx : xs[k]? = some x) (h : ∀ y ∈ xs.take k, y = 0) (hne' : (x != 0) = true) : fnz xs = x := by
  have hne : x ≠ 0 := by simpa using hne'
  clear hne'
  induction xs generalizing k with
  | nil => simp at hx
  | cons a l ih =>
    unfold fnz
    cases k with
    | zero =>
      simp at hx
      rw [if_neg (by omega)]
      exact hx
    | succ k =>
      rw [if_pos (h a (by simp))]
      exact ih (by simpa using hx) fun y hy => h y (by simp [hy])

theorem own_slice {w : World} {base size n : Nat} {e : TypeId} {v : Value} {xs : List Value} (h : w.ownsRow base e size v n xs) : ∃ A c, v = .slice A n c ∧ Reads w w.heap.size size A n xs := by
  rcases h.2 with ⟨rfl, rfl⟩ | ⟨g, cap, cur, rfl, _⟩
  · exact ⟨none, 0, rfl, Reads.of_own h⟩
  · exact ⟨_, cap, rfl, Reads.of_own h⟩

/-- Numbers as cells. -/
def ints (xs : List Int) : List Value := xs.map (Value.int .i64)
theorem ints_len (xs : List Int) : (ints xs).length = xs.length := by simp [ints]
theorem ints_at {xs : List Int} {k : Nat} {u : Value} (h : (ints xs)[k]? = some u) : ∃ x, xs[k]? = some x ∧ u = .int .i64 x := by
  simp only [ints, List.getElem?_map, Option.map_eq_some_iff] at h
  obtain ⟨x, h1, h2⟩ := h
  exact ⟨x, h1, h2.symm⟩
theorem ints_one (xs : List Int) : ∀ u ∈ ints xs, u.oneCell' = true := by
  intro u hu
  simp only [ints, List.mem_map] at hu
  obtain ⟨x, _, rfl⟩ := hu
  rfl
theorem reads_len {w : World} {B n : Nat} {A : Option Addr} {xs : List Int} (h : Reads w B 1 A n (ints xs)) : xs.length = n := by
  have := h.1
  rw [ints_len] at this
  omega
theorem reads_at {w : World} {B n k : Nat} {A : Option Addr} {xs : List Int} (h : Reads w B 1 A n (ints xs)) (hk : k < n) :
    ∃ ad x, A = some ad ∧ ad.block < B ∧ xs[k]? = some x ∧ w.cell? (ad.add k) = some (.int .i64 x) := by
  obtain ⟨ad, u, h1, h2, h3, h4⟩ := h.at_ hk
  obtain ⟨x, h5, rfl⟩ := ints_at h3
  exact ⟨ad, x, h1, h2, h5, h4⟩

/-- What came ahead of place k was 0. -/
def zeros (xs : List Int) (k : Nat) : Prop := ∀ y ∈ xs.take k, y = 0
theorem zeros_succ {xs : List Int} {k : Nat} {x : Int} (h : zeros xs k) (hx : xs[k]? = some x) (h0' : (x != 0) = false) : zeros xs (k + 1) := by
  have h0 : x = 0 := by simpa using h0'
  intro y hy
  rw [List.take_add_one, hx] at hy
  simp at hy
  rcases hy with hy | hy
  · exact h y hy
  · omega
theorem zeros_end {xs : List Int} {k : Nat} (h : zeros xs k) (hk : xs.length ≤ k) : fnz xs = 0 :=
  fnz_all fun x hx => h x (by rw [List.take_of_length_le hk]; exact hx)

theorem first_any (A : Option Addr) (n c B : Nat) (xs : List Int) (w : World) (h : Reads w B 1 A n (ints xs)) (hn : n ≤ 1000000000000) :
    Calls Tryz.prog 38 #[.slice A n c] w fun r w' => r = .returned (.int .i64 (fnz xs)) ∧ w = w' := by
  have hl := reads_len h
  have HL := hide hl; clear hl
  go_enter Tryz.func38, Tryz.ntmps38
  go_wp2
  go_loop [7] (fun i => ∃ k : Nat, k ≤ n ∧ i = .int .i64 k ∧ zeros xs k) (fun i => n - (intOf i).toNat)
  case atStart => exact ⟨0, by omega, rfl, by intro y hy; simp at hy⟩
  case round =>
    obtain ⟨k, hk, rfl, hz⟩ := hrel
    by_cases hlt : k < n
    · obtain ⟨ad, x, rfl, _, hx, hc⟩ := reads_at h hlt
      have HX := hide hx; clear hx
      go_wp2
      · go_ret
        exact ⟨by simp; exact (fnz_hit HX.out hz ‹_›).symm, rfl⟩
      · go_round
        case rel => exact ⟨k + 1, by omega, by go_num, zeros_succ hz HX.out ‹_›⟩
        case measure => simp [intOf]; omega
    · go_wp2
      go_ret
      exact ⟨by simp; exact (zeros_end hz (by rw [HL.out]; omega)).symm, rfl⟩

theorem info_int : (Tryz.prog.info? 3).map (fun i => (i.zero, i.size, i.bytes)) = some (some (.int .i64 0), 1, 8) := by kernel_rfl
theorem info_errno : (Tryz.prog.info? 25).map (fun i => (i.zero, i.size, i.bytes)) = some (some (.int .i64 0), 1, 8) := by kernel_rfl

theorem ints_snoc (xs : List Int) (x : Int) : ints (xs ++ [x]) = ints xs ++ [.int .i64 x] := by simp [ints]
theorem map_snoc (g : Int → Int) {xs : List Int} {k : Nat} {x : Int} (h : xs[k]? = some x) : ints ((xs.take (k + 1)).map g) = ints ((xs.take k).map g) ++ [.int .i64 (g x)] := by
  rw [List.take_add_one, h]; simp [ints]
theorem take_snoc {xs : List Int} {k : Nat} {x : Int} (h : xs[k]? = some x) : xs.take (k + 1) = xs.take k ++ [x] := by rw [List.take_add_one, h]; rfl

set_option maxHeartbeats 400000 in
/-- mapped, at a function of numbers that leaves memory alone. -/
theorem mapped_any (f : Nat) (g : Int → Int) (hcf : ∀ a W, Sem.run Tryz.prog (callFunc f #[a]) W = .ok (.enter f #[a]) W) (hf : ∀ x W, Calls Tryz.prog f #[.int .i64 x] W fun r W' => r = .returned (.int .i64 (g x)) ∧ W = W')
    (A : Option Addr) (n c : Nat) (xs : List Int) (w : World) (h : Reads w w.heap.size 1 A n (ints xs)) (hn : n ≤ 1000000000000) :
    Calls Tryz.prog 85 #[.slice A n c, .func (.func f) #[] #[]] w fun r w' => ∃ A' c', r = .returned (.slice A' n c') ∧ Reads w' w'.heap.size 1 A' n (ints (xs.map g)) ∧ Below w.heap.size w w' := by
  have hl := reads_len h
  have HL := hide hl; clear hl
  have HF := hide hf; clear hf
  go_enter Tryz.func85, Tryz.ntmps85
  go_wp2
  go_loopw [5, 10] (fun v i wr => ∃ k : Nat, k ≤ n ∧ i = .int .i64 k ∧ wr.ownsRow w.heap.size 25 1 v k (ints ((xs.take k).map g)) ∧ Below w.heap.size w wr) (fun _ i _ => n - (intOf i).toNat)
  case atStart => exact ⟨0, by omega, rfl, by simp [ints, World.ownsRow_nil], Below.refl _ _⟩
  case round =>
    obtain ⟨k, hk, rfl, ho, hb⟩ := hrel
    by_cases hlt : k < n
    · have hr := h.below hb
      obtain ⟨ad, x, rfl, _, hx, hc⟩ := reads_at hr hlt
      have HX := hide hx; clear hx
      have hsz := hb.size
      have A1 : k + 1 ≤ maxLen := by unfold maxLen; omega
      have A2 : (k + 1) * 8 ≤ 140737488355328 := by omega
      clear h hr
      go_wp2_with fail
      refine (HF.out x _).mono ?_
      rintro e w' ⟨rfl, rfl⟩
      go_wp2_with (at_builtin; refine wpList_push _ rfl (.tmp 14) (.tmp 18) _ rfl w.heap.size 25 (.int .i64 0) 1 8 Tryz.underlying132 info_errno rfl (by decide) _ k _ rfl (ho.alloc _) wr.heap.size [.int .i64 (g x)] rfl rfl (cell_new1 _ _ _) (one_int _) A1 A2 (le_alloc hsz _) ?_; intro v1 w1 ho1 hb1)
      exact ⟨⟨k + 1, by omega, by go_num, by rw [map_snoc g HX.out]; exact ho1, (hb.alloc hsz _).trans hb1⟩, by simp [intOf]; omega⟩
    · go_wp2
      go_ret
      obtain rfl : k = n := by omega
      rw [List.take_of_length_le (by rw [HL.out]; omega)] at ho
      obtain ⟨A', c', rfl, hr⟩ := own_slice ho
      exact ⟨A', c', rfl, hr, hb⟩
theorem reads_new (w : World) (xs : List Int) (t : TypeId) (n : Nat) (hn : n = xs.length) : Reads (w.alloc (.cells (ints xs).toArray t)) (w.heap.size + 1) 1 (some ⟨w.heap.size, 0, none⟩) n (ints xs) := by
  refine ⟨by rw [ints_len]; omega, fun _ => ⟨_, rfl, by simp, fun j u hu => ?_⟩⟩
  have : (⟨w.heap.size, 0, none⟩ : Addr).add j = ⟨w.heap.size, j, none⟩ := by unfold Addr.add; split <;> simp_all
  rw [this]
  exact cells_new _ _ _ j u hu
theorem reads2 (w : World) (a b : Int) (t : TypeId) : Reads (w.alloc (.cells #[.int .i64 a, .int .i64 b] t)) (w.heap.size + 1) 1 (some ⟨w.heap.size, 0, none⟩) 2 (ints [a, b]) := reads_new w [a, b] t 2 rfl
theorem reads3 (w : World) (a b c : Int) (t : TypeId) : Reads (w.alloc (.cells #[.int .i64 a, .int .i64 b, .int .i64 c] t)) (w.heap.size + 1) 1 (some ⟨w.heap.size, 0, none⟩) 3 (ints [a, b, c]) := reads_new w [a, b, c] t 3 rfl
theorem reads4 (w : World) (a b c d : Int) (t : TypeId) : Reads (w.alloc (.cells #[.int .i64 a, .int .i64 b, .int .i64 c, .int .i64 d] t)) (w.heap.size + 1) 1 (some ⟨w.heap.size, 0, none⟩) 4 (ints [a, b, c, d]) := reads_new w [a, b, c, d] t 4 rfl
theorem reads_block {w : World} {g : Nat} {t : TypeId} {n m : Nat} {xs : List Int} (h : Blk w g t (xs.map (Value.int .i64)).toArray) (hn : n ≤ xs.length) (hm : g < m) : Reads w m 1 (some ⟨g, 0, none⟩) n (ints (xs.take n)) := by
  refine ⟨by simp [ints]; omega, fun _ => ⟨_, rfl, hm, fun j u hu => ?_⟩⟩
  have : (⟨g, 0, none⟩ : Addr).add j = ⟨g, j, none⟩ := by unfold Addr.add; split <;> simp_all
  rw [this, h.cell]
  simp only [ints, List.map_take, List.getElem?_take] at hu
  split at hu
  · simpa using hu
  · cases hu

theorem enters_value : ∀ a W, Sem.run Tryz.prog (callFunc 64 #[a]) W = .ok (.enter 64 #[a]) W := fun _ _ => by kernel_rfl
theorem enters_tap : ∀ a W, Sem.run Tryz.prog (callFunc 86 #[a]) W = .ok (.enter 86 #[a]) W := fun _ _ => by kernel_rfl
end Go.Proofs.YtpcmflfinlkeiaaGreatDoor
