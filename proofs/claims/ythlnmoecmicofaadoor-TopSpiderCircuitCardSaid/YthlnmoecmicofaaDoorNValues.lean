/- The iterator values of a ladder: its contract. -/
import Derived.Test.YthlnmoecmicofaaDoorNFns
import Derived.Sort.CutIn
namespace Go.Proofs.YthlnmoecmicofaaDoor
open Go.RowKit Go.Shelf
set_option maxRecDepth 100000
attribute [local go_sem] Oper.semAt_some

/-- The types of the cells that the iterator must find as they were. -/
def valT : List TypeId := [3]
def encV (f : Int) (x : El) : Array Value := #[.agg #[.string (kDual x.kind), .bool (kDiv x.kind), kFn x.kind], .agg #[.int .i64 x.a, .int .i64 (f * x.b)]]
def nextV (l pre : List El) (x : El) : Prop := ∃ k, pre = l.take k ∧ l[k]? = some x
theorem KMap.hush {W W' : World} {g : Nat} (h : KMap W g) (hk : KeepsOthers W W') : KMap W' g := hk.same _ _ h rfl

set_option maxHeartbeats 2000000 in
theorem values1_in (n : Nat) (hn : 1 ≤ n) (lp Bl Bw n0 n1 : Nat) (f : Int) (A : Option Addr) (m c : Nat) (l : List El) (hok : ∀ x ∈ l, x.Ok) (hf1 : 1 ≤ f) (hf8 : f ≤ 8) (hm : m ≤ 1000000000000)
    (J : List El → World → Prop) (hJ : ∀ s A B, J s A → Hush valT n1 A.heap.size A B → J s B)
    (hY : ∀ pre x W1, J pre W1 → nextV l pre x → YieldAt Fence.wide (n - 1) Tryd.prog lp (encV f x) W1 fun e W' => e = .returned (.bool true) ∧ J (pre ++ [x]) W' ∧ Kept valT n0 n1 W1 W')
    (W : World) (kl : Blk W Bl 41 #[.slice A m c]) (kw : Blk W Bw 3 #[.int .i64 f]) (hnw : n1 ≤ Bw) (hR : Reads W n0 3 A m (els l)) (hn0 : n0 ≤ W.heap.size) (hn1 : n1 ≤ W.heap.size) (h0 : J [] W) :
    CallsIn Fence.wide n Tryd.prog 100 #[.func (.yield lp) #[] #[], .pointer (some ⟨Bl, 0, none⟩), .pointer (some ⟨Bw, 0, none⟩)] W fun e W' => (∃ v, e = .returned v) ∧ ∃ ys, ys = l ∧ J ys W' := by
  have HL := hide (els_reads_len hR)
  refine callsIn_of_wp Tryd.func100 rfl trivial ?_ rfl
  simp only [Tryd.ntmps100, List.size_toArray, List.length_cons, List.length_nil, Nat.reduceAdd, Nat.reduceSub, Array.replicate_succ, Array.replicate_zero, List.push_toArray, List.append_toArray, List.nil_append, List.cons_append]
  gi_wp2
  refine ⟨trivial, ?_⟩
  refine (callsIn_wide.2 (kinds_g W)).mono ?_
  rintro e W0 ⟨gK, rfl, hK0, hgK, hb0⟩
  have cl := (kl.below hb0 kl.lt).cell
  have kw0 := kw.below hb0 kw.lt
  have j0 := hJ _ _ _ h0 (hush_of_below (Hush.refl valT n1 W.heap.size W) hb0)
  have hR0 := hR.below (hb0.mono hn0)
  have hs0 := hb0.size
  clear h0 kl kw hR
  gi_wp2
  gi_loopw [10] (fun i wr => ∃ k : Nat, k ≤ m ∧ i = .int .i64 k ∧ J (l.take k) wr ∧ KMap wr gK ∧ Blk wr Bw 3 #[.int .i64 f] ∧ Reads wr n0 3 A m (els l) ∧ n0 ≤ wr.heap.size ∧ n1 ≤ wr.heap.size)
    (fun i _ => m - (intOf i).toNat)
  case atStart => exact ⟨0, by omega, rfl, j0, hK0, kw0, hR0, by omega, by omega⟩
  case round =>
    obtain ⟨k, hk, rfl, hj, hK, kw, hR, hz0, hz1⟩ := hrel
    clear j0 hK0 kw0 hR0 cl hb0 hs0
    by_cases hlt : k < m
    · obtain ⟨ad, x, rfl, hadb, hxk, hcx⟩ := els_hit hR hlt hz0
      obtain ⟨q0, q1, q2⟩ := hcx wr (Below.refl _ _)
      have hx := hok x (List.mem_of_getElem? hxk)
      have HX := hide hxk
      have HOK := hide hx
      have hw1 : IntKind.i64.wrap (f * x.b) = f * x.b := by
        have h2 := hx.bl; have h3 := hx.bh
        have h4 : 0 ≤ f * x.b := Int.mul_nonneg (by omega) h2
        have h5 : f * x.b ≤ 8 * 8 := Int.mul_le_mul hf8 h3 h2 (by omega)
        exact IntWalk.i64_in _ (by omega)
      clear hxk hcx hx
      gi_upto_region 4 with (fail)
      obtain ⟨w1, e1, hb1, hz2, k1⟩ := box1 wr #[.string x.kind, .int .i64 x.a, .int .i64 x.b] 62
      have hh1 : Hush valT n1 wr.heap.size wr w1 := by rw [e1]; exact hush_alloc (Hush.refl _ _ _ _) _
      rw [← e1]; clear e1 q0 q1 q2
      have j1 := hJ _ _ _ hj hh1
      have hK1 := hK.below hb1
      have kw1 := kw.below hb1 kw.lt
      have hR1 := hR.below (hb1.mono hz0)
      have hl1 := (kmap_get hK1 x.kind).2
      have c1 := k1.cell
      have cw := kw1.cell
      obtain ⟨fn, tmps, assign, body, hyl, hRd⟩ := hY _ x w1 j1 ⟨k, rfl, HX.out⟩
      unfold encV at hyl
      (try dsimp only at hyl)
      clear hY hj hK kw hR hh1
      gi_wp2
      refine hRd.mono ?_
      rintro e W5 ⟨rfl, hJ5, hk5⟩
      have hs5 := hk5.others.size
      clear c1 cw hl1
      gi_wp2
      go_roundw
      case rel =>
        refine ⟨k + 1, by omega, by go_num, by rw [List.take_add_one, HX.out]; exact hJ5, hK1.hush hk5.others, hk5.blk kw1 hnw rfl, hR1.below hk5.below, by omega, by omega⟩
      case measure => simp [intOf]; omega
    · gi_wp2
      obtain rfl : k = m := by omega
      go_end0
      exact ⟨⟨_, rfl⟩, l, rfl, by rw [List.take_of_length_le (by rw [HL.out]; omega)] at hj; exact hj⟩

theorem values_in (n : Nat) (f : Int) (A : Option Addr) (m c : Nat) (w : World) :
    CallsIn Fence.wide n Tryd.prog 77 #[.slice A m c, .int .i64 f] w fun e w' => e = .returned (.func (.func 100) #[] #[.pointer (some ⟨w.heap.size, 0, none⟩), .pointer (some ⟨w.heap.size + 1, 0, none⟩)]) ∧
      Below w.heap.size w w' ∧ w.heap.size + 2 ≤ w'.heap.size ∧ Blk w' w.heap.size 41 #[.slice A m c] ∧ Blk w' (w.heap.size + 1) 3 #[.int .i64 f] := by
  obtain ⟨w3, e3, hb3, hz3, k0, k1⟩ := box2 w #[.slice A m c] #[.int .i64 f] 41 3
  refine callsIn_of_wp Tryd.func77 rfl trivial ?_ rfl
  simp only [Tryd.ntmps77, List.size_toArray, List.length_cons, List.length_nil, Nat.reduceAdd, Nat.reduceSub, Array.replicate_succ, Array.replicate_zero, List.push_toArray, List.append_toArray, List.nil_append, List.cons_append]
  gi_wp2
  go_ret
  rw [← e3]
  exact ⟨rfl, hb3, hz3, k0, k1⟩

/-- The iterator's contract in the caller's words. -/
theorem values_all (n : Nat) (hn : 1 ≤ n) (Bl Bw n0 n1 : Nat) (f : Int) (A : Option Addr) (m c : Nat) (l : List El) (hok : ∀ x ∈ l, x.Ok) (hf1 : 1 ≤ f) (hf8 : f ≤ 8) (hm : m ≤ 1000000000000)
    (w : World) (kl : Blk w Bl 41 #[.slice A m c]) (kw : Blk w Bw 3 #[.int .i64 f]) (hnw : n1 ≤ Bw) (hR : Reads w n0 3 A m (els l)) (hn0 : n0 ≤ w.heap.size) (hn1 : n1 ≤ w.heap.size) :
    SeqAll n Tryd.prog 100 #[.pointer (some ⟨Bl, 0, none⟩), .pointer (some ⟨Bw, 0, none⟩)] (encV f) valT n0 n1 (fun ys => ys = l) (nextV l) w :=
  fun lp J W hW hJ hY h0 => values1_in n hn lp Bl Bw n0 n1 f A m c l hok hf1 hf8 hm J hJ hY W (kl.below hW kl.lt) (kw.below hW kw.lt) hnw (hR.below (hW.mono hn0)) (by have := hW.size; omega) (by have := hW.size; omega) h0
end Go.Proofs.YthlnmoecmicofaaDoor
