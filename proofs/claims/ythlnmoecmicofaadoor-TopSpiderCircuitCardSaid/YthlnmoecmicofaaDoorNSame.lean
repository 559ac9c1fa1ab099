/- The contract of SameInts; an append that tells what grew; small words. -/
import Derived.Test.YthlnmoecmicofaaDoorNFin
namespace Go.Proofs.YthlnmoecmicofaaDoor
open Go.RowKit Go.Shelf
set_option maxRecDepth 100000

theorem wpList_pushG {P : Program} {ops : Array Oper} {rest : List Oper} {o : Oper} {a : Act} {Q : Exit → Act → World → Prop} (w : World) (hgd : o.guard = none) (s x : Operand) (t : TypeId)
    (ho : o.op = .call { callee := .builtin .append, args := #[s, x], argTypes := #[t, t] })
    (base : Nat) (e : TypeId) (z : Value) (size bytes : Nat) (ht : P.underlying t = some (.slice e)) (hinfo : (P.info? e).map (fun i => (i.zero, i.size, i.bytes)) = some (some z, size, bytes))
    (hzs : z.cells.size = size) (hsz : 0 < size)
    (v : Value) (n : Nat) (xs : List Value) (hs : a.eval s = v) (hown : w.ownsRow base e size v n xs)
    (g : Nat) (news : List Value) (hx : a.eval x = .slice (some ⟨g, 0, none⟩) 1 1) (hn : news.length = size) (hc : ∀ j u, news[j]? = some u → w.cell? ⟨g, j, none⟩ = some u) (h1 : ∀ u ∈ news, u.oneCell' = true)
    (h63 : n + 1 ≤ maxLen) (hbytes : (n + 1) * bytes ≤ 140737488355328) (hbase : base ≤ w.heap.size)
    (h : ∀ v' w', w'.ownsRow base e size v' (n + 1) (xs ++ news) → w.grownBy w' v.ownBlock → Below base w w' → wpList P ops Q rest (a.put o.dst v') w') : wpList P ops Q (o :: rest) a w := by
  obtain ⟨i, hi, hz, hsize, hby⟩ := info_parts hinfo
  refine wpList_append_any w hgd s x t ho base e i z size bytes ht hi hz hsize hby hzs hsz v n xs hs hown (g + 1) (some ⟨g, 0, none⟩) 1 1 news hx ⟨by omega, fun _ => ⟨_, rfl, by simp, fun j u hu => ?_⟩⟩ h1 h63 hbytes hbase
    fun v' w' h2 h3 _ => h v' w' h2 h3 ((Below.refl base w).grown h3 hbase fun k hk => (hown.lt k hk).1)
  have : (⟨g, 0, none⟩ : Addr).add j = ⟨g, j, none⟩ := by unfold Addr.add; split <;> simp_all
  rw [this]
  exact hc j u hu

/-- The first k numbers agree. -/
def agree (xs ys : List Int) (k : Nat) : Prop := ∀ j, j < k → xs[j]? = ys[j]?
theorem agree_succ {xs ys : List Int} {k : Nat} {x y : Int} (h : agree xs ys k) (hx : xs[k]? = some x) (hy : ys[k]? = some y) (he : (x != y) = false) : agree xs ys (k + 1) := by
  intro j hj
  by_cases e : j = k
  · subst e
    have : x = y := by simpa using he
    rw [hx, hy, this]
  · exact h j (by omega)
theorem agree_end {xs ys : List Int} {k : Nat} (h : agree xs ys k) (h1 : xs.length ≤ k) (h2 : xs.length = ys.length) : xs = ys := by
  apply List.ext_getElem?
  intro j
  by_cases hj : j < k
  · exact h j hj
  · rw [List.getElem?_eq_none (by omega), List.getElem?_eq_none (by omega)]
theorem agree_not {xs ys : List Int} {k : Nat} {x y : Int} (hx : xs[k]? = some x) (hy : ys[k]? = some y) (he : (x != y) = true) : xs ≠ ys := by
  rintro rfl
  rw [hx] at hy
  simp_all

set_option maxHeartbeats 400000 in
theorem sameInts_any (A : Option Addr) (n c B : Nat) (xs : List Int) (A' : Option Addr) (m c' B' : Nat) (ys : List Int) (w : World) (h : Reads w B 1 A n (ints xs)) (h' : Reads w B' 1 A' m (ints ys)) (hB : B ≤ w.heap.size) (hB' : B' ≤ w.heap.size) (hn : n ≤ 1000000000000) (hm : m ≤ 1000000000000) :
    Calls Tryd.prog 25 #[.slice A n c, .slice A' m c'] w fun r w' => r = .returned (.bool (decide (xs = ys))) ∧ Below w.heap.size w w' := by
  have hl := reads_len h
  have hl' := reads_len h'
  by_cases hnm : n = m
  · have h2 : xs.length = ys.length := by omega
    have HL := hide hl; clear hl
    have HL' := hide hl'; clear hl'
    have H2 := hide h2; clear h2
    obtain rfl := hnm
    go_enter Tryd.func25, Tryd.ntmps25
    go_wp2
    go_loopw [5] (fun i wr => ∃ k : Nat, k ≤ n ∧ i = .int .i64 k ∧ agree xs ys k ∧ Below w.heap.size w wr) (fun i _ => n - (intOf i).toNat)
    case atStart => exact ⟨0, by omega, rfl, by intro j hj; omega, Below.refl _ _⟩
    case round =>
      obtain ⟨k, hk, rfl, hz, hb⟩ := hrel
      by_cases hlt : k < n
      · have hr := h.below (hb.mono hB)
        have hr' := h'.below (hb.mono hB')
        obtain ⟨ad, x, rfl, q1, hx, hc⟩ := reads_at hr hlt
        obtain ⟨ad', x', rfl, q2, hx', hc'⟩ := reads_at hr' hlt
        have HX := hide hx; clear hx
        have HX' := hide hx'; clear hx'
        have e1 : ∀ W, (over wr.heap.size wr W).cell? (ad.add k) = some (.int .i64 x) := fun W => ((over_below wr.heap.size wr W).cell (p := ad.add k) (by rw [block_of_add]; have := hb.size; omega)).trans hc
        have e2 : ∀ W, (over wr.heap.size wr W).cell? (ad'.add k) = some (.int .i64 x') := fun W => ((over_below wr.heap.size wr W).cell (p := ad'.add k) (by rw [block_of_add]; have := hb.size; omega)).trans hc'
        clear hc hc' h h' hr hr'
        go_wp2
        refine wp_region_over wr.heap.size (by kernel_rfl) (by kernel_rfl) ?_; (repeat (first | go_big_quiet_step (fail) | quiet_step (fail))); refine wpQuiet_nil ?_; rintro W ⟨x, rfl⟩
        go_wp2
        · go_ret
          exact ⟨by simp; exact agree_not HX.out HX'.out ‹_›, below_step hb (over_below _ _ _) hb.size⟩
        · go_roundw
          case rel => exact ⟨k + 1, by omega, by go_num, agree_succ hz HX.out HX'.out ‹_›, below_step hb (over_below _ _ _) hb.size⟩
          case measure => simp [intOf]; omega
      · go_wp2
        go_ret
        exact ⟨by simp; exact agree_end hz (by rw [HL.out]; omega) H2.out, hb⟩
  · have hne : xs ≠ ys := by rintro rfl; omega
    have HN := hide hne; clear hne hl hl'
    have ht : ((n : Int) != (m : Int)) = true := by simp; omega
    go_enter Tryd.func25, Tryd.ntmps25
    go_wp2
    go_ret
    exact ⟨by simp; exact HN.out, Below.refl _ _⟩
end Go.Proofs.YthlnmoecmicofaaDoor
