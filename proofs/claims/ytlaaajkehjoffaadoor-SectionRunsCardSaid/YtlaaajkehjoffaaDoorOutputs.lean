/- The iterator outputs of a section: its contract. -/
import Derived.Test.YtlaaajkehjoffaaDoorRange
import Derived.Test.YtlaaajkehjoffaaDoorMath2
import Derived.Test.YtlaaajkehjoffaaDoorChecks2
import Derived.Sort.CutIn
namespace Go.Proofs.YtlaaajkehjoffaaDoor
open Go.RowKit Go.Shelf
set_option maxRecDepth 100000
attribute [local go_sem] Oper.semAt_some

/-- The types of the iterator's own cells. -/
def ownT : List TypeId := [32, 34]

set_option maxHeartbeats 2000000 in
theorem outputs1_in (n : Nat) (hn : 1 ≤ n) (l Bx Bl Bs n0 n1 : Nat) (s : Sec) (y : St) (A : Option Addr) (m c : Nat) (xs : List Int) (hs : s.Ok) (hy : y.Ok) (hx : ∀ x ∈ xs, -32767 ≤ x ∧ x ≤ 32767) (hm : m ≤ 1000000000000)
    (J : List (Int × St) → World → Prop) (hJ : ∀ s A B, J s A → Hush ownT n1 A.heap.size A B → J s B)
    (hY : ∀ pre p W1, J pre W1 → s.nx y xs pre p → YieldAt Fence.wide (n - 1) Tryd.prog l #[.int .i64 p.1, .agg #[.int .i64 p.2.x1, .int .i64 p.2.x2, .int .i64 p.2.y1, .int .i64 p.2.y2]] W1 fun e W' => e = .returned (.bool true) ∧ J (pre ++ [p]) W' ∧ Kept ownT n0 n1 W1 W')
    (W : World) (kx : Blk W Bx 34 #[.int .i64 y.x1, .int .i64 y.x2, .int .i64 y.y1, .int .i64 y.y2]) (kl : Blk W Bl 26 #[.slice A m c]) (ks : Blk W Bs 32 #[.int .i64 s.b0, .int .i64 s.b1, .int .i64 s.b2, .int .i64 s.a1, .int .i64 s.a2, .int .i64 s.sh]) (hns : n1 ≤ Bs) (hR : Reads W n0 1 A m (ints xs)) (hn0 : n0 ≤ W.heap.size) (hn1 : n1 ≤ W.heap.size) (h0 : J [] W) :
    CallsIn Fence.wide n Tryd.prog 97 #[.func (.yield l) #[] #[], .pointer (some ⟨Bx, 0, none⟩), .pointer (some ⟨Bl, 0, none⟩), .pointer (some ⟨Bs, 0, none⟩)] W fun e W' => (∃ v, e = .returned v) ∧ ∃ ys, ys = s.trace y xs ∧ J ys W' := by
  have cx := kx.cell
  have cl := kl.cell
  have lx := kx.lt
  have ll := kl.lt
  have ls := ks.lt
  have hl := reads_len hR
  have HL := hide hl; clear hl
  refine callsIn_of_wp Tryd.func97 rfl trivial ?_ rfl
  simp only [Tryd.ntmps97, List.size_toArray, List.length_cons, List.length_nil, Nat.reduceAdd, Nat.reduceSub, Array.replicate_succ, Array.replicate_zero, List.push_toArray, List.append_toArray, List.nil_append, List.cons_append]
  gi_wp2
  obtain ⟨W0, e0, hb0, hz0, kn⟩ := box1 W #[.int .i64 y.x1, .int .i64 y.x2, .int .i64 y.y1, .int .i64 y.y2] 34
  rw [← e0]
  have hh0 : Hush ownT n1 W.heap.size W W0 := by rw [e0]; exact hush_alloc (Hush.refl _ _ _ _) _
  clear e0
  gi_loopw [13] (fun i wr => ∃ k : Nat, k ≤ m ∧ i = .int .i64 k ∧ J (s.trace y (xs.take k)) wr ∧ Blk wr W.heap.size 34 #[.int .i64 (s.after y (xs.take k)).x1, .int .i64 (s.after y (xs.take k)).x2, .int .i64 (s.after y (xs.take k)).y1, .int .i64 (s.after y (xs.take k)).y2] ∧ Blk wr Bs 32 #[.int .i64 s.b0, .int .i64 s.b1, .int .i64 s.b2, .int .i64 s.a1, .int .i64 s.a2, .int .i64 s.sh] ∧ Reads wr n0 1 A m (ints xs) ∧ n0 ≤ wr.heap.size)
    (fun i _ => m - (intOf i).toNat)
  case atStart =>
    exact ⟨0, by omega, rfl, hJ _ _ _ h0 hh0, kn, ks.below hb0 (by omega), hR.below (hb0.mono (by omega)), by omega⟩
  case round =>
    obtain ⟨k, hk, rfl, hj, k1, k2, hr, hn⟩ := hrel
    by_cases hlt : k < m
    · obtain ⟨ad, x, rfl, hadb, hxk, hc⟩ := reads_at hr hlt
      have hxb := hx x (List.mem_of_getElem? hxk)
      have hz := after_ok (s := s) hy (xs := xs.take k) (fun a ha => hx a (List.mem_of_mem_take ha))
      have HX := hide hxk; clear hxk
      obtain ⟨z, ez⟩ : ∃ z, z = s.after y (xs.take k) := ⟨_, rfl⟩
      rw [← ez] at k1 hz
      have EZ := hide ez; clear ez
      have c1 := k1.cell
      have c2 := k2.cell
      have f1 := k1.frozen
      have l1 := k1.lt
      clear hb0 hh0 kn kx kl ks cx cl h0 hR
      gi_upto_region 6 with (refine ⟨trivial, ?_⟩; gi_at_call 73; refine (callsIn_wide.2 (step_any s z x _ ‹s.Ok› hz hxb.1 hxb.2)).mono ?_; rintro e w2 ⟨rfl, hb2⟩; have k1' := k1.below hb2 l1; have k2' := k2.below hb2 k2.lt; have c1' := k1'.cell; have f1' := k1'.frozen; have l2 := hb2.size; have l3 := Nat.lt_of_lt_of_le l1 l2)
      obtain ⟨w3, e3, k3, z3, o3, b3, h3, _, _⟩ := set4 w2 W.heap.size 34 _ _ _ _ (.int .i64 (s.next z x).x1) (.int .i64 (s.next z x).x2) (.int .i64 (s.next z x).y1) (.int .i64 (s.next z x).y2) k1'
      rw [← e3]; clear e3
      obtain ⟨w4, e4, hb4, z4, k4⟩ := box1 w3 #[.int .i64 (s.next z x).x1, .int .i64 (s.next z x).x2, .int .i64 (s.next z x).y1, .int .i64 (s.next z x).y2] 34
      have h4 := hush_alloc (h3 _ _ _ _ (hush_of_below (Hush.refl ownT n1 wr.heap.size wr) hb2) hn1 rfl) (.cells #[.int .i64 (s.next z x).x1, .int .i64 (s.next z x).x2, .int .i64 (s.next z x).y1, .int .i64 (s.next z x).y2] 34)
      rw [← e4] at h4 ⊢; clear e4
      rw [z3] at k4 z4
      have k3' := k3.below hb4 (by omega)
      have k2'' := (o3 Bs _ _ (fun e => by rw [e] at k2'; exact absurd k2' (by intro k; exact Blk.ne_ k k1' (by decide) rfl)) k2').below hb4 (by have := k2'.lt; omega)
      have r4 : Reads w4 n0 1 (some ad) m (ints xs) := (((hr.below (hb2.mono hn)).below (b3 n0 (by omega))).below (hb4.mono (by omega)))
      have j4 := hJ _ _ _ hj h4
      obtain ⟨fn, tmps, assign, body, hyl, hRd⟩ := hY _ (s.out z x, s.next z x) w4 j4 ⟨k, x, HX.out, rfl, by rw [EZ.out]⟩
      dsimp only at hyl
      have c4 := k4.cell
      clear hY hj hb2 k1' k2' c1' f1' k3 z3 o3 b3 h3 hb4 h4 c1 f1 c2 hc k1 k2 hr
      gi_wp2
      refine hRd.mono ?_
      rintro e W5 ⟨rfl, hJ5, hk5⟩
      clear c4
      gi_wp2
      go_roundw
      case rel =>
        refine ⟨k + 1, by omega, by go_num, by rw [trace_take_succ s y HX.out, ← EZ.out]; exact hJ5, by rw [after_take_succ s y HX.out, ← EZ.out]; exact hk5.blk k3' hn1 rfl, hk5.blk k2'' hns rfl, r4.below hk5.below, ?_⟩
        have := hk5.others.size
        omega
      case measure => simp [intOf]; omega
    · gi_wp2
      obtain rfl : k = m := by omega
      go_end0
      exact ⟨⟨_, rfl⟩, _, by rw [List.take_of_length_le (by rw [HL.out]; omega)], hj⟩

theorem outputs_in (n : Nat) (s : Sec) (y : St) (A : Option Addr) (m c : Nat) (w : World) :
    CallsIn Fence.wide n Tryd.prog 67 #[.agg #[.int .i64 s.b0, .int .i64 s.b1, .int .i64 s.b2, .int .i64 s.a1, .int .i64 s.a2, .int .i64 s.sh], .agg #[.int .i64 y.x1, .int .i64 y.x2, .int .i64 y.y1, .int .i64 y.y2], .slice A m c] w fun e w' => e = .returned (.func (.func 97) #[] #[.pointer (some ⟨w.heap.size + 1, 0, none⟩), .pointer (some ⟨w.heap.size + 2, 0, none⟩), .pointer (some ⟨w.heap.size, 0, none⟩)]) ∧
      Below w.heap.size w w' ∧ w.heap.size + 3 ≤ w'.heap.size ∧ Blk w' w.heap.size 32 #[.int .i64 s.b0, .int .i64 s.b1, .int .i64 s.b2, .int .i64 s.a1, .int .i64 s.a2, .int .i64 s.sh] ∧ Blk w' (w.heap.size + 1) 34 #[.int .i64 y.x1, .int .i64 y.x2, .int .i64 y.y1, .int .i64 y.y2] ∧ Blk w' (w.heap.size + 2) 26 #[.slice A m c] := by
  obtain ⟨w3, e3, hb3, hz3, k0, k1, k2⟩ := box3 w #[.int .i64 s.b0, .int .i64 s.b1, .int .i64 s.b2, .int .i64 s.a1, .int .i64 s.a2, .int .i64 s.sh] #[.int .i64 y.x1, .int .i64 y.x2, .int .i64 y.y1, .int .i64 y.y2] #[.slice A m c] 32 34 26
  refine callsIn_of_wp Tryd.func67 rfl trivial ?_ rfl
  simp only [Tryd.ntmps67, List.size_toArray, List.length_cons, List.length_nil, Nat.reduceAdd, Nat.reduceSub, Array.replicate_succ, Array.replicate_zero, List.push_toArray, List.append_toArray, List.nil_append, List.cons_append]
  gi_wp2
  go_ret
  rw [← e3]
  exact ⟨rfl, hb3, hz3, k0, k1, k2⟩

/-- The iterator's contract in the caller's words: at a world w in which its three boxes and the slice lie. -/
theorem outputs_all (n : Nat) (hn : 1 ≤ n) (Bx Bl Bs n0 n1 : Nat) (s : Sec) (y : St) (A : Option Addr) (m c : Nat) (xs : List Int) (hs : s.Ok) (hy : y.Ok) (hx : ∀ x ∈ xs, -32767 ≤ x ∧ x ≤ 32767) (hm : m ≤ 1000000000000)
    (w : World) (kx : Blk w Bx 34 #[.int .i64 y.x1, .int .i64 y.x2, .int .i64 y.y1, .int .i64 y.y2]) (kl : Blk w Bl 26 #[.slice A m c]) (ks : Blk w Bs 32 #[.int .i64 s.b0, .int .i64 s.b1, .int .i64 s.b2, .int .i64 s.a1, .int .i64 s.a2, .int .i64 s.sh]) (hns : n1 ≤ Bs) (hR : Reads w n0 1 A m (ints xs)) (hn0 : n0 ≤ w.heap.size) (hn1 : n1 ≤ w.heap.size) :
    SeqAll n Tryd.prog 97 #[.pointer (some ⟨Bx, 0, none⟩), .pointer (some ⟨Bl, 0, none⟩), .pointer (some ⟨Bs, 0, none⟩)] (fun p : Int × St => #[.int .i64 p.1, .agg #[.int .i64 p.2.x1, .int .i64 p.2.x2, .int .i64 p.2.y1, .int .i64 p.2.y2]]) ownT n0 n1 (fun ys => ys = s.trace y xs) (s.nx y xs) w :=
  fun l J W hW hJ hY h0 => outputs1_in n hn l Bx Bl Bs n0 n1 s y A m c xs hs hy hx hm J hJ hY W (kx.below hW kx.lt) (kl.below hW kl.lt) (ks.below hW ks.lt) hns (hR.below (hW.mono hn0)) (by have := hW.size; omega) (by have := hW.size; omega) h0
end Go.Proofs.YtlaaajkehjoffaaDoor
