/- The iterator outputs of a section: its contract. The contract of from: the outputs of a signal, and the state behind it. The contracts of From and Run. The contracts of Run, Step, Mirror, Contractive. The reference's CheckSignal. The reference's From and Run. The reference's Saturations. -/
import Derived.Test.YtpcmflfinlkeiaaGreatDoorBaseB
import Derived.Test.YtpcmflfinlkeiaaGreatDoorBaseA
import Derived.Sort.CutIn
import Derived.Deep.RegionHeld3
namespace Go.Proofs.YtpcmflfinlkeiaaGreatDoor
open Go.RowKit Go.Shelf
set_option maxRecDepth 100000
attribute [local go_sem] Oper.semAt_some

/-- The types of the iterator's own cells. -/
def ownT : List TypeId := [53, 61]

set_option maxHeartbeats 2000000 in
theorem outputs1_in (n : Nat) (hn : 1 ≤ n) (l Bx Bl Bs n0 n1 : Nat) (s : Sec) (y : St) (A : Option Addr) (m c : Nat) (xs : List Int) (hs : s.Ok) (hy : y.Ok) (hx : ∀ x ∈ xs, -32767 ≤ x ∧ x ≤ 32767) (hm : m ≤ 1000000000000)
    (J : List (Int × St) → World → Prop) (hJ : ∀ s A B, J s A → Hush ownT n1 A.heap.size A B → J s B)
    (hY : ∀ pre p W1, J pre W1 → s.nx y xs pre p → YieldAt Fence.wide (n - 1) Tryz.prog l #[.int .i64 p.1, .agg #[.int .i64 p.2.x1, .int .i64 p.2.x2, .int .i64 p.2.y1, .int .i64 p.2.y2]] W1 fun e W' => e = .returned (.bool true) ∧ J (pre ++ [p]) W' ∧ Kept ownT n0 n1 W1 W')
    (W : World) (kx : Blk W Bx 61 #[.int .i64 y.x1, .int .i64 y.x2, .int .i64 y.y1, .int .i64 y.y2]) (kl : Blk W Bl 23 #[.slice A m c]) (ks : Blk W Bs 53 #[.int .i64 s.b0, .int .i64 s.b1, .int .i64 s.b2, .int .i64 s.a1, .int .i64 s.a2, .int .i64 s.sh]) (hns : n1 ≤ Bs) (hR : Reads W n0 1 A m (ints xs)) (hn0 : n0 ≤ W.heap.size) (hn1 : n1 ≤ W.heap.size) (h0 : J [] W) :
    CallsIn Fence.wide n Tryz.prog 87 #[.func (.yield l) #[] #[], .pointer (some ⟨Bx, 0, none⟩), .pointer (some ⟨Bl, 0, none⟩), .pointer (some ⟨Bs, 0, none⟩)] W fun e W' => (∃ v, e = .returned v) ∧ ∃ ys, ys = s.trace y xs ∧ J ys W' := by
  have cx := kx.cell
  have cl := kl.cell
  have lx := kx.lt
  have ll := kl.lt
  have ls := ks.lt
  have hl := reads_len hR
  have HL := hide hl; clear hl
  refine callsIn_of_wp Tryz.func87 rfl trivial ?_ rfl
  simp only [Tryz.ntmps87, List.size_toArray, List.length_cons, List.length_nil, Nat.reduceAdd, Nat.reduceSub, Array.replicate_succ, Array.replicate_zero, List.push_toArray, List.append_toArray, List.nil_append, List.cons_append]
  gi_wp2
  obtain ⟨W0, e0, hb0, hz0, kn⟩ := box1 W #[.int .i64 y.x1, .int .i64 y.x2, .int .i64 y.y1, .int .i64 y.y2] 61
  rw [← e0]
  have hh0 : Hush ownT n1 W.heap.size W W0 := by rw [e0]; exact hush_alloc (Hush.refl _ _ _ _) _
  clear e0
  gi_loopw [13] (fun i wr => ∃ k : Nat, k ≤ m ∧ i = .int .i64 k ∧ J (s.trace y (xs.take k)) wr ∧ Blk wr W.heap.size 61 #[.int .i64 (s.after y (xs.take k)).x1, .int .i64 (s.after y (xs.take k)).x2, .int .i64 (s.after y (xs.take k)).y1, .int .i64 (s.after y (xs.take k)).y2] ∧ Blk wr Bs 53 #[.int .i64 s.b0, .int .i64 s.b1, .int .i64 s.b2, .int .i64 s.a1, .int .i64 s.a2, .int .i64 s.sh] ∧ Reads wr n0 1 A m (ints xs) ∧ n0 ≤ wr.heap.size)
    (fun i _ => m - (intOf i).toNat)
  case atStart =>
    exact ⟨0, by omega, rfl, hJ _ _ _ h0 hh0, kn, ks.below hb0 (by omega), hR.below (hb0.mono (by omega)), by omega⟩
  case round =>
    obtain ⟨k, hk, rfl, hj, k1, k2, hr, hn⟩ := hrel
    by_cases hlt : k < m
    · obtain ⟨ad, x, rfl, hadb, hxk, hc⟩ := reads_at hr hlt
      have hxb := hx x (List.mem_of_getElem? hxk)
      have hz := after_ok (s := s) hy (xs := xs.take k) (fun a ha => hx a (List.mem_of_mem_take ha))
      have HX := hide hxk; clear hxk
      obtain ⟨z, ez⟩ : ∃ z, z = s.after y (xs.take k) := ⟨_, rfl⟩
      rw [← ez] at k1 hz
      have EZ := hide ez; clear ez
      have c1 := k1.cell
      have c2 := k2.cell
      have f1 := k1.frozen
      have l1 := k1.lt
      clear hb0 hh0 kn kx kl ks cx cl h0 hR
      gi_upto_region 6 with (refine ⟨trivial, ?_⟩; gi_at_call 68; refine (callsIn_wide.2 (step_any s z x _ ‹s.Ok› hz hxb.1 hxb.2)).mono ?_; rintro e w2 ⟨rfl, hb2⟩; have k1' := k1.below hb2 l1; have k2' := k2.below hb2 k2.lt; have c1' := k1'.cell; have f1' := k1'.frozen; have l2 := hb2.size; have l3 := Nat.lt_of_lt_of_le l1 l2)
      obtain ⟨w3, e3, k3, z3, o3, b3, h3, _, _⟩ := set4 w2 W.heap.size 61 _ _ _ _ (.int .i64 (s.next z x).x1) (.int .i64 (s.next z x).x2) (.int .i64 (s.next z x).y1) (.int .i64 (s.next z x).y2) k1'
      rw [← e3]; clear e3
      obtain ⟨w4, e4, hb4, z4, k4⟩ := box1 w3 #[.int .i64 (s.next z x).x1, .int .i64 (s.next z x).x2, .int .i64 (s.next z x).y1, .int .i64 (s.next z x).y2] 61
      have h4 := hush_alloc (h3 _ _ _ _ (hush_of_below (Hush.refl ownT n1 wr.heap.size wr) hb2) hn1 rfl) (.cells #[.int .i64 (s.next z x).x1, .int .i64 (s.next z x).x2, .int .i64 (s.next z x).y1, .int .i64 (s.next z x).y2] 61)
      rw [← e4] at h4 ⊢; clear e4
      rw [z3] at k4 z4
      have k3' := k3.below hb4 (by omega)
      have k2'' := (o3 Bs _ _ (fun e => by rw [e] at k2'; exact absurd k2' (by intro k; exact Blk.ne_ k k1' (by decide) rfl)) k2').below hb4 (by have := k2'.lt; omega)
      have r4 : Reads w4 n0 1 (some ad) m (ints xs) := (((hr.below (hb2.mono hn)).below (b3 n0 (by omega))).below (hb4.mono (by omega)))
      have j4 := hJ _ _ _ hj h4
      obtain ⟨fn, tmps, assign, body, hyl, hRd⟩ := hY _ (s.out z x, s.next z x) w4 j4 ⟨k, x, HX.out, rfl, by rw [EZ.out]⟩
      dsimp only at hyl
      have c4 := k4.cell
      clear hY hj hb2 k1' k2' c1' f1' k3 z3 o3 b3 h3 hb4 h4 c1 f1 c2 hc k1 k2 hr
      gi_wp2
      refine hRd.mono ?_
      rintro e W5 ⟨rfl, hJ5, hk5⟩
      clear c4
      gi_wp2
      go_roundw
      case rel =>
        refine ⟨k + 1, by omega, by go_num, by rw [trace_take_succ s y HX.out, ← EZ.out]; exact hJ5, by rw [after_take_succ s y HX.out, ← EZ.out]; exact hk5.blk k3' hn1 rfl, hk5.blk k2'' hns rfl, r4.below hk5.below, ?_⟩
        have := hk5.others.size
        omega
      case measure => simp [intOf]; omega
    · gi_wp2
      obtain rfl : k = m := by omega
      go_end0
      exact ⟨⟨_, rfl⟩, _, by rw [List.take_of_length_le (by rw [HL.out]; omega)], hj⟩

theorem outputs_in (n : Nat) (s : Sec) (y : St) (A : Option Addr) (m c : Nat) (w : World) :
    CallsIn Fence.wide n Tryz.prog 60 #[.agg #[.int .i64 s.b0, .int .i64 s.b1, .int .i64 s.b2, .int .i64 s.a1, .int .i64 s.a2, .int .i64 s.sh], .agg #[.int .i64 y.x1, .int .i64 y.x2, .int .i64 y.y1, .int .i64 y.y2], .slice A m c] w fun e w' => e = .returned (.func (.func 87) #[] #[.pointer (some ⟨w.heap.size + 1, 0, none⟩), .pointer (some ⟨w.heap.size + 2, 0, none⟩), .pointer (some ⟨w.heap.size, 0, none⟩)]) ∧
      Below w.heap.size w w' ∧ w.heap.size + 3 ≤ w'.heap.size ∧ Blk w' w.heap.size 53 #[.int .i64 s.b0, .int .i64 s.b1, .int .i64 s.b2, .int .i64 s.a1, .int .i64 s.a2, .int .i64 s.sh] ∧ Blk w' (w.heap.size + 1) 61 #[.int .i64 y.x1, .int .i64 y.x2, .int .i64 y.y1, .int .i64 y.y2] ∧ Blk w' (w.heap.size + 2) 23 #[.slice A m c] := by
  obtain ⟨w3, e3, hb3, hz3, k0, k1, k2⟩ := box3 w #[.int .i64 s.b0, .int .i64 s.b1, .int .i64 s.b2, .int .i64 s.a1, .int .i64 s.a2, .int .i64 s.sh] #[.int .i64 y.x1, .int .i64 y.x2, .int .i64 y.y1, .int .i64 y.y2] #[.slice A m c] 53 61 23
  refine callsIn_of_wp Tryz.func60 rfl trivial ?_ rfl
  simp only [Tryz.ntmps60, List.size_toArray, List.length_cons, List.length_nil, Nat.reduceAdd, Nat.reduceSub, Array.replicate_succ, Array.replicate_zero, List.push_toArray, List.append_toArray, List.nil_append, List.cons_append]
  gi_wp2
  go_ret
  rw [← e3]
  exact ⟨rfl, hb3, hz3, k0, k1, k2⟩

/-- The iterator's contract in the caller's words: at a world w in which its three boxes and the slice lie. -/
theorem outputs_all (n : Nat) (hn : 1 ≤ n) (Bx Bl Bs n0 n1 : Nat) (s : Sec) (y : St) (A : Option Addr) (m c : Nat) (xs : List Int) (hs : s.Ok) (hy : y.Ok) (hx : ∀ x ∈ xs, -32767 ≤ x ∧ x ≤ 32767) (hm : m ≤ 1000000000000)
    (w : World) (kx : Blk w Bx 61 #[.int .i64 y.x1, .int .i64 y.x2, .int .i64 y.y1, .int .i64 y.y2]) (kl : Blk w Bl 23 #[.slice A m c]) (ks : Blk w Bs 53 #[.int .i64 s.b0, .int .i64 s.b1, .int .i64 s.b2, .int .i64 s.a1, .int .i64 s.a2, .int .i64 s.sh]) (hns : n1 ≤ Bs) (hR : Reads w n0 1 A m (ints xs)) (hn0 : n0 ≤ w.heap.size) (hn1 : n1 ≤ w.heap.size) :
    SeqAll n Tryz.prog 87 #[.pointer (some ⟨Bx, 0, none⟩), .pointer (some ⟨Bl, 0, none⟩), .pointer (some ⟨Bs, 0, none⟩)] (fun p : Int × St => #[.int .i64 p.1, .agg #[.int .i64 p.2.x1, .int .i64 p.2.x2, .int .i64 p.2.y1, .int .i64 p.2.y2]]) ownT n0 n1 (fun ys => ys = s.trace y xs) (s.nx y xs) w :=
  fun l J W hW hJ hY h0 => outputs1_in n hn l Bx Bl Bs n0 n1 s y A m c xs hs hy hx hm J hJ hY W (kx.below hW kx.lt) (kl.below hW kl.lt) (ks.below hW ks.lt) hns (hR.below (hW.mono hn0)) (by have := hW.size; omega) (by have := hW.size; omega) h0
end Go.Proofs.YtpcmflfinlkeiaaGreatDoor

namespace Go.Proofs.YtpcmflfinlkeiaaGreatDoor
open Go.RowKit Go.Shelf
set_option maxRecDepth 100000
attribute [local go_sem] Oper.semAt_some

/-- The invariant of the loop in from. -/
def FromI (w : World) (y : St) (pre : List (Int × St)) (W : World) : Prop :=
  (∃ v, Blk W (w.heap.size + 3) 23 #[v] ∧ W.ownsRow w.heap.size 3 1 v pre.length (ints (pre.map (·.1)))) ∧ Blk W (w.heap.size + 1) 61 #[.int .i64 (lastSt y pre).x1, .int .i64 (lastSt y pre).x2, .int .i64 (lastSt y pre).y1, .int .i64 (lastSt y pre).y2] ∧ Blk W (w.heap.size + 2) 61 #[.int .i64 0, .int .i64 0, .int .i64 0, .int .i64 0] ∧ Below w.heap.size w W

theorem fromI_hush {w : World} {y : St} {nC : Nat} (hC : w.heap.size ≤ nC) {T : List TypeId} (hT : T.contains 23 = false) (hT2 : T.contains 3 = false) (s : List (Int × St)) (A B : World) (h : FromI w y s A) (hh : Hush T (w.heap.size + 4) nC A B) : FromI w y s B := by
  obtain ⟨⟨v, h1, h2⟩, h3, h4, h5⟩ := h
  exact ⟨⟨v, hh.blk h1 (fun _ => hT), hh.row h2 hT2⟩, hh.blk h3 (fun h => by omega), hh.blk h4 (fun h => by omega), hh.below h5 (by omega) hC (Nat.le_refl _)⟩

set_option maxHeartbeats 2000000 in
theorem from_in (n : Nat) (hn : 3 ≤ n) (s : Sec) (y : St) (A : Option Addr) (m c : Nat) (xs : List Int) (w : World) (hs : s.Ok) (hy : y.Ok) (hx : ∀ x ∈ xs, -32767 ≤ x ∧ x ≤ 32767) (hm : m ≤ 1000000000000) (hR : Reads w w.heap.size 1 A m (ints xs)) :
    CallsIn Fence.wide n Tryz.prog 66 #[.agg #[.int .i64 s.b0, .int .i64 s.b1, .int .i64 s.b2, .int .i64 s.a1, .int .i64 s.a2, .int .i64 s.sh], .agg #[.int .i64 y.x1, .int .i64 y.x2, .int .i64 y.y1, .int .i64 y.y2], .slice A m c] w fun e w' => ∃ v, e = .returned (.tuple #[v, .agg #[.int .i64 (s.after y xs).x1, .int .i64 (s.after y xs).x2, .int .i64 (s.after y xs).y1, .int .i64 (s.after y xs).y2]]) ∧ w'.ownsRow w.heap.size 3 1 v m (ints (s.outs y xs)) ∧ Below w.heap.size w w' := by
  refine callsIn_of_wp_marks Tryz.func66 rfl trivial ?_ rfl
  simp only [Tryz.ntmps66, List.size_toArray, List.length_cons, List.length_nil, Nat.reduceAdd, Nat.reduceSub, Array.replicate_succ, Array.replicate_zero, List.push_toArray, List.append_toArray, List.nil_append, List.cons_append]
  gi_wp2_with fail
  obtain ⟨w1, e1, hb1, hz1, k0, k1, k2, k3⟩ := box4 w #[.int .i64 s.b0, .int .i64 s.b1, .int .i64 s.b2, .int .i64 s.a1, .int .i64 s.a2, .int .i64 s.sh] #[.int .i64 y.x1, .int .i64 y.x2, .int .i64 y.y1, .int .i64 y.y2] #[.int .i64 0, .int .i64 0, .int .i64 0, .int .i64 0] #[.slice none 0 0] 53 61 61 23
  rw [← e1]
  have hs1 : w1.heap.size = w.heap.size + 4 := by rw [e1]; simp
  clear e1
  refine ⟨trivial, fun _ => by omega, ?_⟩
  refine (outputs_in (n - 1) s y A m c _).mono ?_
  rintro e w2 ⟨rfl, hb2, hz2, q0, q1, q2⟩
  have hbb : Below w.heap.size w w2 := below_step hb1 hb2 (by omega)
  have HS1 := hide hs1; clear hs1
  have hI0 : FromI w y [] w2 := ⟨⟨_, k3.below hb2 (by have := HS1.out; omega), by simpa [ints] using World.ownsRow_nil w2 _ _ _⟩, k1.below hb2 (by omega), k2.below hb2 (by omega), hbb⟩
  gi_wp2
  refine wpIn_rangeAll (by omega) (gf := 87) (lb := #[.pointer (some ⟨w1.heap.size + 1, 0, none⟩), .pointer (some ⟨w1.heap.size + 2, 0, none⟩), .pointer (some ⟨w1.heap.size, 0, none⟩)]) rfl (enters_of Tryz.func87 (by kernel_rfl) rfl)
    (outputs_all (n - 1) (by omega) _ _ _ w.heap.size (w.heap.size + 4) s y A m c xs hs hy hx hm w2 q1 q2 q0 (by omega) (hR.below hbb) hbb.size (by omega)) hbb.size (fun _ => rfl)
    (FromI w y) (fun s A B h hh => fromI_hush hbb.size rfl rfl s A B h hh) hI0
    (fun pre p b W => FromI w y pre W ∧ ∃ Bn, w.heap.size + 4 ≤ Bn ∧ Blk W Bn 61 #[.int .i64 p.2.x1, .int .i64 p.2.x2, .int .i64 p.2.y1, .int .i64 p.2.y2] ∧ b = { tmps := #[.agg #[.int .i64 s.b0, .int .i64 s.b1, .int .i64 s.b2, .int .i64 s.a1, .int .i64 s.a2, .int .i64 s.sh], .agg #[.int .i64 y.x1, .int .i64 y.x2, .int .i64 y.y1, .int .i64 y.y2], .slice A m c, .pointer (some ⟨w.heap.size, 0, none⟩), .pointer (some ⟨w.heap.size + 1, 0, none⟩), undef, .slice none 0 0, .pointer (some ⟨w.heap.size + 1 + 1, 0, none⟩), .pointer (some ⟨w.heap.size + 1 + 1 + 1, 0, none⟩), .int .i64 p.1, .pointer (some ⟨Bn, 0, none⟩), .agg #[.int .i64 s.b0, .int .i64 s.b1, .int .i64 s.b2, .int .i64 s.a1, .int .i64 s.a2, .int .i64 s.sh], .agg #[.int .i64 y.x1, .int .i64 y.x2, .int .i64 y.y1, .int .i64 y.y2], .slice A m c, .func (.func 87) #[] #[.pointer (some ⟨w1.heap.size + 1, 0, none⟩), .pointer (some ⟨w1.heap.size + 2, 0, none⟩), .pointer (some ⟨w1.heap.size, 0, none⟩)], .int .i64 p.1, .agg #[.int .i64 p.2.x1, .int .i64 p.2.x2, .int .i64 p.2.y1, .int .i64 p.2.y2], undef, undef, undef, undef, undef, undef, undef], defers := [] })
    (fun pre p b A B h hh => ⟨fromI_hush hbb.size rfl rfl _ _ _ h.1 hh, by obtain ⟨_, Bn, h1, h2, h3⟩ := h; exact ⟨Bn, h1, hh.blk h2 (fun _ => rfl), h3⟩⟩)
    ?assign ?body ?done
  case assign =>
    intro l pre p W hW hI hnx
    have hIs := hI
    obtain ⟨⟨v, h1, h2⟩, h3, h4, h5⟩ := hI
    gi_wp2
    have hn4 := h5.size
    exact ⟨Kept.alloc W h5.size _, fromI_hush (nC := w.heap.size) (Nat.le_refl _) (T := []) rfl rfl _ _ _ hIs (hush_alloc (Hush.refl _ _ _ _) _), W.heap.size, by omega, Blk.new _ _ _, rfl⟩
  case body =>
    rintro l pre p b W hW ⟨⟨⟨v, h1, h2⟩, h3, h4, h5⟩, Bn, hBn, kB, rfl⟩ ⟨k, x, hxk, hpre, hp⟩
    have hlen : pre.length < m := by
      have hl := reads_len hR
      have : k < xs.length := (List.getElem?_eq_some_iff.1 hxk).1
      rw [hpre, trace_len, List.length_take]
      omega
    have c1 := h1.cell
    have f1 := h1.frozen
    have c3 := h3.cell
    have f3 := h3.frozen
    have cB := kB.cell
    have l1 := h1.lt
    have l3 := h3.lt
    have lB := kB.lt
    have hn4 := h5.size
    have A1 : pre.length + 1 ≤ maxLen := by unfold maxLen; omega
    have A2 : (pre.length + 1) * 8 ≤ 140737488355328 := by omega
    clear hxk hpre hp HS1
    gi_wp2_with (gi_at_builtin; refine wpListIn_push _ rfl (.tmp 17) (.tmp 19) _ rfl w.heap.size 3 (.int .i64 0) 1 8 Tryz.underlying23 info_int rfl (by decide) _ _ _ rfl (h2.alloc _) W.heap.size [.int .i64 p.1] rfl rfl (cell_new1 _ _ _) (one_int _) A1 A2 (le_alloc hn4 _) ?_; intro g1 d1 w3 ho1 hg1; have b1 := grown_blk (h2.alloc _) hg1 (h1.alloc _) (by decide); have b3 := grown_blk (h2.alloc _) hg1 (h3.alloc _) (by decide); have b4 := grown_blk (h2.alloc _) hg1 (h4.alloc _) (by decide); have bB := grown_blk (h2.alloc _) hg1 (kB.alloc _) (by decide); have c1' := b1.cell; have f1' := b1.frozen; have c3' := b3.cell; have f3' := b3.frozen; have cB' := bB.cell)
    have b1' := b1.set_ 0 (.slice (some ⟨g1, 0, none⟩) (pre.length + 1) d1)
    have n1 : w.heap.size + 1 ≠ w.heap.size + 3 := by omega
    have n2 : w.heap.size + 2 ≠ w.heap.size + 3 := by omega
    have b3' := b3.far (p := ⟨w.heap.size + 3, 0, none⟩) n1 (.slice (some ⟨g1, 0, none⟩) (pre.length + 1) d1)
    have b4' := b4.far (p := ⟨w.heap.size + 3, 0, none⟩) n2 (.slice (some ⟨g1, 0, none⟩) (pre.length + 1) d1)
    have r3' := ownsRow_setCell_other ho1 (a := ⟨w.heap.size + 3, 0, none⟩) (own_blk_ne ho1 b1 (by decide)) (.slice (some ⟨g1, 0, none⟩) (pre.length + 1) d1)
    have y1 := Kept.alloc (T := ownT) (n1 := w.heap.size + 4) W hn4 (.cells #[.int .i64 p.1] 3)
    have y2 := Kept.row (T := ownT) (n0 := w.heap.size) (n1 := w.heap.size + 4) (h2.alloc (.cells #[.int .i64 p.1] 3)) rfl (Nat.le_refl _) (le_alloc hn4 _) hg1
    have y3 := Kept.set (T := ownT) (n0 := w.heap.size) (n1 := w.heap.size + 4) (i := 0) b1 (by omega) (fun _ => rfl) (.slice (some ⟨g1, 0, none⟩) (pre.length + 1) d1)
    obtain ⟨w5, e5, k5, z5, o5, bb5, hh5, kk5, rr5⟩ := set4 (w3.setCell ⟨w.heap.size + 3, 0, none⟩ (.slice (some ⟨g1, 0, none⟩) (pre.length + 1) d1)) (w.heap.size + 1) 61 _ _ _ _ (.int .i64 p.2.x1) (.int .i64 p.2.x2) (.int .i64 p.2.y1) (.int .i64 p.2.y2) b3'
    have y4 := kk5 ownT w.heap.size (w.heap.size + 4) (by omega) (fun h => by omega)
    have yy := ((y1.trans y2).trans y3).trans y4
    show Kept ownT w.heap.size (w.heap.size + 4) W _ ∧ FromI w y (pre ++ [p]) _
    rw [← e5]
    refine ⟨yy, ⟨_, o5 _ _ _ (by omega) b1', ?_⟩, ?_, o5 _ _ _ (by omega) b4', h5.trans yy.below⟩
    · have := rr5 _ _ _ _ _ _ (by decide) r3'
      rw [List.length_append, List.map_append, List.length_singleton]
      simpa [ints] using this
    · rw [lastSt_snoc]; exact k5
  case done =>
    rintro D ys W hD rfl ⟨⟨v, h1, h2⟩, h3, h4, h5⟩ hK
    rw [lastSt_trace] at h3
    have c1 := h1.cell
    have c3 := h3.cell
    have c4 := h4.cell
    have f4 := h4.frozen
    gi_wp2
    gi_region
    obtain ⟨w5, e5, k5, z5, o5, bb5, hh5, kk5, rr5⟩ := set4 W (w.heap.size + 2) 61 _ _ _ _ (.int .i64 (s.after y xs).x1) (.int .i64 (s.after y xs).x2) (.int .i64 (s.after y xs).y1) (.int .i64 (s.after y xs).y2) h4
    have hK5 := (kk5 [] 0 0 (Nat.zero_le _) (fun _ => rfl)).others.same D _ hK rfl
    have hb5 := h5.trans (bb5 w.heap.size (by omega))
    have r5 := rr5 _ _ _ _ _ _ (by decide) h2
    have ne : w.heap.size + 2 ≠ D := by
      rintro rfl
      unfold Blk at k5
      rw [k5] at hK5
      cases hK5
    rw [← e5]
    clear e5
    gi_wp2
    refine ⟨by simp, .inl ⟨_, _, rfl, run_takeDeferred (w := w5.drew) hK5, ?_⟩⟩
    have k6 : Blk (w5.drew.putObj D (.deferred none)) (w.heap.size + 2) 61 #[.int .i64 (s.after y xs).x1, .int .i64 (s.after y xs).x2, .int .i64 (s.after y xs).y1, .int .i64 (s.after y xs).y2] := (World.putObj_heap_other ne).trans k5
    have c6 := k6.cell
    refine ⟨.tuple #[v, .agg #[.int .i64 (s.after y xs).x1, .int .i64 (s.after y xs).x2, .int .i64 (s.after y xs).y1, .int .i64 (s.after y xs).y2]], by simp [results, Tryz.results66, go_sem, c6], v, rfl, ?_, ?_⟩
    · have := ownsRow_putObj (W := w5.drew) r5 (.deferred none) hK5 rfl
      rw [trace_len, show xs.length = m from reads_len hR] at this
      exact this
    · exact (hb5.drew).trans (belowK_b (w := w) (Nat.le_refl _) w5.drew D _ _ (by have := hbb.size; omega) hK5 rfl rfl)
  
theorem from_any (s : Sec) (y : St) (A : Option Addr) (m c : Nat) (xs : List Int) (w : World) (hs : s.Ok) (hy : y.Ok) (hx : ∀ x ∈ xs, -32767 ≤ x ∧ x ≤ 32767) (hm : m ≤ 1000000000000) (hR : Reads w w.heap.size 1 A m (ints xs)) :
    Calls Tryz.prog 66 #[.agg #[.int .i64 s.b0, .int .i64 s.b1, .int .i64 s.b2, .int .i64 s.a1, .int .i64 s.a2, .int .i64 s.sh], .agg #[.int .i64 y.x1, .int .i64 y.x2, .int .i64 y.y1, .int .i64 y.y2], .slice A m c] w fun e w' => ∃ v, e = .returned (.tuple #[v, .agg #[.int .i64 (s.after y xs).x1, .int .i64 (s.after y xs).x2, .int .i64 (s.after y xs).y1, .int .i64 (s.after y xs).y2]]) ∧ w'.ownsRow w.heap.size 3 1 v m (ints (s.outs y xs)) ∧ Below w.heap.size w w' :=
  callsIn_wide.1 (from_in 3 (Nat.le_refl _) s y A m c xs w hs hy hx hm hR)
end Go.Proofs.YtpcmflfinlkeiaaGreatDoor

namespace Go.Proofs.YtpcmflfinlkeiaaGreatDoor
open Go.RowKit Go.Shelf
set_option maxRecDepth 100000

/-- The error of From. -/
def fromErr (s : Sec) (y : St) (xs : List Int) : Int := fnz [s.err, y.err, sigErr xs]
theorem fnz3_zero {a b c : Int} (h : fnz [a, b, c] = 0) : a = 0 ∧ b = 0 ∧ c = 0 := by
  simp only [fnz] at h
  split at h
  · split at h
    · split at h
      · exact ⟨‹_›, ‹_›, ‹_›⟩
      · omega
    · omega
  · omega
theorem fnz2_zero {a b : Int} (h : fnz [a, b] = 0) : a = 0 ∧ b = 0 := by
  simp only [fnz] at h
  split at h
  · split at h
    · exact ⟨‹_›, ‹_›⟩
    · omega
  · omega
def St.zero : St := ⟨0, 0, 0, 0⟩
theorem zero_ok : St.zero.Ok := ⟨by decide, by decide, by decide, by decide, by decide, by decide, by decide, by decide⟩

set_option maxHeartbeats 1000000 in
theorem From_ok (s : Sec) (y : St) (A : Option Addr) (m c : Nat) (xs : List Int) (w : World) (he : fromErr s y xs = 0) (hm : m ≤ 1000000000000) (hR : Reads w w.heap.size 1 A m (ints xs)) :
    Calls Tryz.prog 58 #[.agg #[.int .i64 s.b0, .int .i64 s.b1, .int .i64 s.b2, .int .i64 s.a1, .int .i64 s.a2, .int .i64 s.sh], .agg #[.int .i64 y.x1, .int .i64 y.x2, .int .i64 y.y1, .int .i64 y.y2], .slice A m c] w fun e w' => ∃ v, e = .returned (.tuple #[v, .agg #[.int .i64 (s.after y xs).x1, .int .i64 (s.after y xs).x2, .int .i64 (s.after y xs).y1, .int .i64 (s.after y xs).y2], .int .i64 0]) ∧ w'.ownsRow w.heap.size 3 1 v m (ints (s.outs y xs)) ∧ Below w.heap.size w w' := by
  obtain ⟨a1, a2, a3⟩ := fnz3_zero he
  have hs := Sec.err_ok a1
  have hy := St.err_ok a2
  have hx := (sigErr_ok a3).2
  clear a1 a2 a3
  have HE := hide he; clear he
  go_enter Tryz.func58, Tryz.ntmps58
  go_wp2
  obtain ⟨w1, e1, hb1, hz1, k0, k1, k2⟩ := box3 w #[.int .i64 s.b0, .int .i64 s.b1, .int .i64 s.b2, .int .i64 s.a1, .int .i64 s.a2, .int .i64 s.sh] #[.int .i64 y.x1, .int .i64 y.x2, .int .i64 y.y1, .int .i64 y.y2] #[.int .i64 0, .int .i64 0, .int .i64 0, .int .i64 0] 53 61 61
  rw [← e1]; clear e1
  have c0 : ∀ i W, Below w1.heap.size w1 W → W.cell? ⟨w.heap.size, i, none⟩ = (#[.int .i64 s.b0, .int .i64 s.b1, .int .i64 s.b2, .int .i64 s.a1, .int .i64 s.a2, .int .i64 s.sh] : Array Value)[i]? := fun i W h => (k0.below h (by omega)).cell i
  have c1 : ∀ i W, Below w1.heap.size w1 W → W.cell? ⟨w.heap.size + 1, i, none⟩ = (#[.int .i64 y.x1, .int .i64 y.x2, .int .i64 y.y1, .int .i64 y.y2] : Array Value)[i]? := fun i W h => (k1.below h (by omega)).cell i
  have r0 : ∀ W, Below w1.heap.size w1 W → Reads W W.heap.size 1 A m (ints xs) := fun W h => ((hR.below hb1).below (h.mono hb1.size)).more (Nat.le_trans hb1.size h.size)
  have R0 := hide r0; clear r0
  go_region_held3 (fun W => Below w1.heap.size w1 W) (first | exact (Below.refl _ _).drew | (with_reducible assumption) | exact below_new ‹Below w1.heap.size w1 _› (Nat.le_refl _) _ | (refine below_set (below_set (below_set (below_set (by assumption) (by omega) _) (by omega) _) (by omega) _) (by omega) _)) (first
    | (go_at_call 56; refine (checkSection_any s _).mono ?_; rintro e W' ⟨rfl, hbW⟩; have hS := below_step ‹Below w1.heap.size w1 _› hbW (Below.size ‹Below w1.heap.size w1 _›))
    | (go_at_call 67; refine (checkState_any y _).mono ?_; rintro e W' ⟨rfl, hbW⟩; have hS := below_step ‹Below w1.heap.size w1 _› hbW (Below.size ‹Below w1.heap.size w1 _›))
    | (go_at_call 59; refine (checkSignal_any _ _ _ _ _ (R0.out _ ‹Below w1.heap.size w1 _›) hm).mono ?_; rintro e W' ⟨rfl, hbW⟩; have hS := below_step ‹Below w1.heap.size w1 _› hbW (Below.size ‹Below w1.heap.size w1 _›))
    | (go_at_call 38; with_reducible (refine (first_any _ _ _ _ _ _ (reads3 _ _ _ _ _) (by omega)).mono ?_); rintro e W' ⟨rfl, rfl⟩))
  have hB : Below w1.heap.size w1 _ := ‹Below w1.heap.size w1 _›
  generalize World.alloc W' _ = w4 at hB ⊢
  have hb4 : Below w.heap.size w w4 := below_step hb1 hB (by omega)
  have c0' := (k0.below hB (by omega)).cell
  have c1' := (k1.below hB (by omega)).cell
  have k2' := k2.below hB (by omega)
  have t1 : (fnz [s.err, y.err, sigErr xs] != 0) = false := by rw [show fnz [s.err, y.err, sigErr xs] = 0 from HE.out]; rfl
  have r4 := R0.out _ hB
  clear c0 c1 k0 k1 k2 R0 hbW hS hR hb1
  go_wp2_with (go_at_call 66; refine (from_any s y A m c xs _ hs hy hx hm r4).mono ?_; rintro e w5 ⟨v, rfl, ho, hb5⟩)
  obtain ⟨w6, e6, hb6, hz6, k6⟩ := box1 w5 #[.int .i64 (s.after y xs).x1, .int .i64 (s.after y xs).x2, .int .i64 (s.after y xs).y1, .int .i64 (s.after y xs).y2] 61
  rw [← e6]; clear e6
  have k2'' := (k2'.below hb5 (by have := hB.size; omega)).below hb6 (by have := hB.size; have := hb5.size; omega)
  have c6 := k6.cell
  have c2 := k2''.cell
  have f2 := k2''.frozen
  have ho6 := row_below ho hb6
  have hb7 : Below w.heap.size w w6 := below_step (below_step hb4 hb5 (hb4.size)) hb6 (Nat.le_trans hb4.size hb5.size)
  go_region
  obtain ⟨w7, e7, k7, z7, o7, b7, _, _, rr7⟩ := set4 w6 (w.heap.size + 2) 61 _ _ _ _ (.int .i64 (s.after y xs).x1) (.int .i64 (s.after y xs).x2) (.int .i64 (s.after y xs).y1) (.int .i64 (s.after y xs).y2) k2''
  rw [← e7]; clear e7
  have c7 := k7.cell
  go_wp2
  refine bodyPost_ret (v := .tuple #[v, .agg #[.int .i64 (s.after y xs).x1, .int .i64 (s.after y xs).x2, .int .i64 (s.after y xs).y1, .int .i64 (s.after y xs).y2], .int .i64 0]) (by simp [results, Tryz.results58, go_sem, c7]) rfl ?_
  exact ⟨v, rfl, (rr7 _ _ _ _ _ _ (by decide) ho6).weaken hb4.size, (hb7.trans (b7 _ (by omega))).drew⟩

theorem From_bad (s : Sec) (y : St) (A : Option Addr) (m c : Nat) (xs : List Int) (w : World) (he : (fromErr s y xs != 0) = true) (hm : m ≤ 1000000000000) (hR : Reads w w.heap.size 1 A m (ints xs)) :
    Calls Tryz.prog 58 #[.agg #[.int .i64 s.b0, .int .i64 s.b1, .int .i64 s.b2, .int .i64 s.a1, .int .i64 s.a2, .int .i64 s.sh], .agg #[.int .i64 y.x1, .int .i64 y.x2, .int .i64 y.y1, .int .i64 y.y2], .slice A m c] w fun e w' => e = .returned (.tuple #[.slice none 0 0, .agg #[.int .i64 St.zero.x1, .int .i64 St.zero.x2, .int .i64 St.zero.y1, .int .i64 St.zero.y2], .int .i64 (fromErr s y xs)]) ∧ Below w.heap.size w w' := by
  have HE := hide he; clear he
  go_enter Tryz.func58, Tryz.ntmps58
  go_wp2
  obtain ⟨w1, e1, hb1, hz1, k0, k1, k2⟩ := box3 w #[.int .i64 s.b0, .int .i64 s.b1, .int .i64 s.b2, .int .i64 s.a1, .int .i64 s.a2, .int .i64 s.sh] #[.int .i64 y.x1, .int .i64 y.x2, .int .i64 y.y1, .int .i64 y.y2] #[.int .i64 0, .int .i64 0, .int .i64 0, .int .i64 0] 53 61 61
  rw [← e1]; clear e1
  have c0 : ∀ i W, Below w1.heap.size w1 W → W.cell? ⟨w.heap.size, i, none⟩ = (#[.int .i64 s.b0, .int .i64 s.b1, .int .i64 s.b2, .int .i64 s.a1, .int .i64 s.a2, .int .i64 s.sh] : Array Value)[i]? := fun i W h => (k0.below h (by omega)).cell i
  have c1 : ∀ i W, Below w1.heap.size w1 W → W.cell? ⟨w.heap.size + 1, i, none⟩ = (#[.int .i64 y.x1, .int .i64 y.x2, .int .i64 y.y1, .int .i64 y.y2] : Array Value)[i]? := fun i W h => (k1.below h (by omega)).cell i
  have r0 : ∀ W, Below w1.heap.size w1 W → Reads W W.heap.size 1 A m (ints xs) := fun W h => ((hR.below hb1).below (h.mono hb1.size)).more (Nat.le_trans hb1.size h.size)
  have R0 := hide r0; clear r0
  go_region_held3 (fun W => Below w1.heap.size w1 W) (first | exact (Below.refl _ _).drew | (with_reducible assumption) | exact below_new ‹Below w1.heap.size w1 _› (Nat.le_refl _) _ | (refine below_set (below_set (below_set (below_set (by assumption) (by omega) _) (by omega) _) (by omega) _) (by omega) _)) (first
    | (go_at_call 56; refine (checkSection_any s _).mono ?_; rintro e W' ⟨rfl, hbW⟩; have hS := below_step ‹Below w1.heap.size w1 _› hbW (Below.size ‹Below w1.heap.size w1 _›))
    | (go_at_call 67; refine (checkState_any y _).mono ?_; rintro e W' ⟨rfl, hbW⟩; have hS := below_step ‹Below w1.heap.size w1 _› hbW (Below.size ‹Below w1.heap.size w1 _›))
    | (go_at_call 59; refine (checkSignal_any _ _ _ _ _ (R0.out _ ‹Below w1.heap.size w1 _›) hm).mono ?_; rintro e W' ⟨rfl, hbW⟩; have hS := below_step ‹Below w1.heap.size w1 _› hbW (Below.size ‹Below w1.heap.size w1 _›))
    | (go_at_call 38; with_reducible (refine (first_any _ _ _ _ _ _ (reads3 _ _ _ _ _) (by omega)).mono ?_); rintro e W' ⟨rfl, rfl⟩))
  have hB : Below w1.heap.size w1 _ := ‹Below w1.heap.size w1 _›
  generalize World.alloc W' _ = w4 at hB ⊢
  have hb4 : Below w.heap.size w w4 := below_step hb1 hB (by omega)
  have k2' := k2.below hB (by omega)
  have t1 : (fnz [s.err, y.err, sigErr xs] != 0) = true := HE.out
  have c2 := k2'.cell
  have f2 := k2'.frozen
  clear c0 c1 k0 k1 k2 R0 hbW hS hR hb1
  go_wp2
  refine bodyPost_ret (v := .tuple #[.slice none 0 0, .agg #[.int .i64 St.zero.x1, .int .i64 St.zero.x2, .int .i64 St.zero.y1, .int .i64 St.zero.y2], .int .i64 (fromErr s y xs)]) (by simp [results, Tryz.results58, go_sem, c2, St.zero, fromErr]) rfl ?_
  exact ⟨rfl, (by repeat (first | exact hb4 | exact Below.refl _ _ | refine Below.drew ?_ | refine below_drewN ?_ _ | refine below_set ?_ (by omega) _ | refine below_new ?_ (by omega) _))⟩
end Go.Proofs.YtpcmflfinlkeiaaGreatDoor

namespace Go.Proofs.YtpcmflfinlkeiaaGreatDoor
open Go.RowKit Go.Shelf
set_option maxRecDepth 100000

/-- The error of Run. -/
def runErr (s : Sec) (xs : List Int) : Int := fnz [s.err, sigErr xs]
theorem fromErr_zero (s : Sec) (xs : List Int) : fromErr s St.zero xs = runErr s xs := by
  have h : St.zero.err = 0 := St.err_of zero_ok
  unfold fromErr runErr
  rw [h]
  simp [fnz]

theorem Run_ok (s : Sec) (A : Option Addr) (m c : Nat) (xs : List Int) (w : World) (he : runErr s xs = 0) (hm : m ≤ 1000000000000) (hR : Reads w w.heap.size 1 A m (ints xs)) :
    Calls Tryz.prog 22 #[.agg #[.int .i64 s.b0, .int .i64 s.b1, .int .i64 s.b2, .int .i64 s.a1, .int .i64 s.a2, .int .i64 s.sh], .slice A m c] w fun e w' => ∃ v, e = .returned (.tuple #[v, .int .i64 0]) ∧ w'.ownsRow w.heap.size 3 1 v m (ints (s.outs St.zero xs)) ∧ Below w.heap.size w w' := by
  rw [← fromErr_zero] at he
  have HE := hide he; clear he
  go_enter Tryz.func22, Tryz.ntmps22
  go_wp2_with fail
  obtain ⟨w1, e1, hb1, hz1, k0⟩ := box1 w #[.int .i64 s.b0, .int .i64 s.b1, .int .i64 s.b2, .int .i64 s.a1, .int .i64 s.a2, .int .i64 s.sh] 53
  rw [← e1]; clear e1
  refine (From_ok s St.zero A m c xs _ HE.out hm ((hR.below hb1).more hb1.size)).mono ?_
  rintro e w2 ⟨v, rfl, ho, hb2⟩
  have hb3 := below_step hb1 hb2 hb1.size
  have ho2 := ho.weaken hb1.size
  go_wp2
  go_ret2
  refine ⟨v, rfl, ?_, (by repeat (first | exact hb3 | exact Below.refl _ _ | refine Below.drew ?_ | refine below_drewN ?_ _ | refine below_set ?_ (by omega) _ | refine below_new ?_ (by omega) _))⟩
  exact row_below ho2 ((Below.refl _ _).alloc (Nat.le_refl _) _)

theorem Run_bad (s : Sec) (A : Option Addr) (m c : Nat) (xs : List Int) (w : World) (he : (runErr s xs != 0) = true) (hm : m ≤ 1000000000000) (hR : Reads w w.heap.size 1 A m (ints xs)) :
    Calls Tryz.prog 22 #[.agg #[.int .i64 s.b0, .int .i64 s.b1, .int .i64 s.b2, .int .i64 s.a1, .int .i64 s.a2, .int .i64 s.sh], .slice A m c] w fun e w' => e = .returned (.tuple #[.slice none 0 0, .int .i64 (runErr s xs)]) ∧ Below w.heap.size w w' := by
  rw [← fromErr_zero] at he ⊢
  have HE := hide he; clear he
  go_enter Tryz.func22, Tryz.ntmps22
  go_wp2_with fail
  obtain ⟨w1, e1, hb1, hz1, k0⟩ := box1 w #[.int .i64 s.b0, .int .i64 s.b1, .int .i64 s.b2, .int .i64 s.a1, .int .i64 s.a2, .int .i64 s.sh] 53
  rw [← e1]; clear e1
  refine (From_bad s St.zero A m c xs _ HE.out hm ((hR.below hb1).more hb1.size)).mono ?_
  rintro e w2 ⟨rfl, hb2⟩
  have hb3 := below_step hb1 hb2 hb1.size
  go_wp2
  go_ret2
  exact ⟨rfl, (by repeat (first | exact hb3 | exact Below.refl _ _ | refine Below.drew ?_ | refine below_drewN ?_ _ | refine below_set ?_ (by omega) _ | refine below_new ?_ (by omega) _))⟩

/-- The error of Step. -/
def stepErr (s : Sec) (y : St) (i : Int) : Int := fnz [s.err, y.err, vErr i]

/-- Six stores that fill a block of six cells. -/
theorem set6 (w : World) (b : Nat) (t : TypeId) (c0 c1 c2 c3 c4 c5 u0 u1 u2 u3 u4 u5 : Value) (hk : Blk w b t #[c0, c1, c2, c3, c4, c5]) :
    ∃ w1, w1 = (((((w.setCell ⟨b, 0, none⟩ u0).setCell ⟨b, 1, none⟩ u1).setCell ⟨b, 2, none⟩ u2).setCell ⟨b, 3, none⟩ u3).setCell ⟨b, 4, none⟩ u4).setCell ⟨b, 5, none⟩ u5 ∧ Blk w1 b t #[u0, u1, u2, u3, u4, u5] ∧ (∀ B, B ≤ b → Below B w w1) := by
  have k5 := (((((hk.set_ 0 u0).set_ 1 u1).set_ 2 u2).set_ 3 u3).set_ 4 u4).set_ 5 u5
  refine ⟨_, rfl, by simpa using k5, fun B hB => ?_⟩
  exact below_set (below_set (below_set (below_set (below_set (below_set (Below.refl _ _) hB _) hB _) hB _) hB _) hB _) hB _

/-- The section with the first and the last tap of the input exchanged. -/
def Sec.mirror (s : Sec) : Sec := ⟨s.b2, s.b1, s.b0, s.a1, s.a2, s.sh⟩
def Sec.zero : Sec := ⟨0, 0, 0, 0, 0, 0⟩
theorem Contractive_any (s : Sec) (w : World) :
    Calls Tryz.prog 28 #[.agg #[.int .i64 s.b0, .int .i64 s.b1, .int .i64 s.b2, .int .i64 s.a1, .int .i64 s.a2, .int .i64 s.sh]] w fun e w' => e = .returned (.tuple #[.bool (s.okB && decide (0 < s.room)), .int .i64 s.err]) ∧ Below w.heap.size w w' := by
  have hc : (s.okB = true ∧ (s.err != 0) = false) ∨ (s.okB = false ∧ (s.err != 0) = true) := by
    unfold Sec.err; cases s.okB <;> simp
  have HC := hide hc; clear hc
  go_enter Tryz.func28, Tryz.ntmps28
  go_wp2_with fail
  obtain ⟨w1, e1, hb1, hz1, k0⟩ := box1 w #[.int .i64 s.b0, .int .i64 s.b1, .int .i64 s.b2, .int .i64 s.a1, .int .i64 s.a2, .int .i64 s.sh] 53
  rw [← e1]; clear e1
  refine (checkSection_any s _).mono ?_
  rintro e w2 ⟨rfl, hb2⟩
  have hb3 := below_step hb1 hb2 hb1.size
  have c0 := (k0.below hb2 (by omega)).cell
  clear k0 hb1
  rcases HC.out with ⟨ho, ht⟩ | ⟨ho, ht⟩
  · have HO := hide ho; clear ho
    go_wp2_with (go_at_call 69; refine (margin_any s _ (Sec.ok_iff.1 HO.out)).mono ?_; rintro e w5 ⟨rfl, hb5⟩)
    go_ret2
    exact ⟨by simp [Sec.err, HO.out], below_step hb3 hb5 hb3.size⟩
  · have HO := hide ho; clear ho
    go_wp2
    go_ret2
    exact ⟨by simp [HO.out], (by repeat (first | exact hb3 | exact Below.refl _ _ | refine Below.drew ?_ | refine below_drewN ?_ _ | refine below_set ?_ (by omega) _ | refine below_new ?_ (by omega) _))⟩
end Go.Proofs.YtpcmflfinlkeiaaGreatDoor

namespace Go.Proofs.YtpcmflfinlkeiaaGreatDoor
open Go.RowKit Go.Shelf
set_option maxRecDepth 100000

/-- What came ahead of place k is a value. -/
def valsOk (xs : List Int) (k : Nat) : Prop := ∀ y ∈ xs.take k, vErr y = 0
theorem valsOk_succ {xs : List Int} {k : Nat} {x : Int} (h : valsOk xs k) (hk : xs[k]? = some x) (hx : (vErr x != 0) = false) : valsOk xs (k + 1) := by
  intro y hy
  rw [List.take_add_one, hk] at hy
  simp only [Option.toList_some, List.mem_append, List.mem_singleton] at hy
  rcases hy with hy | rfl
  · exact h y hy
  · simpa using hx
theorem vals_bad {xs : List Int} {k : Nat} {x : Int} (hl : xs.length ≤ 4096) (hk : xs[k]? = some x) (hx : (vErr x != 0) = true) : vErr x = sigErr xs := by
  have h3 : vErr x = 3 := by rcases vErr_two x with h | h <;> simp_all
  have hb := vErr_three h3
  have : xs.all vB = false := by
    rw [List.all_eq_false]
    exact ⟨x, List.mem_of_getElem? hk, by simp [vB, hb]⟩
  rw [h3]; unfold sigErr; rw [if_neg (by omega), this]; rfl
theorem vals_end {xs : List Int} {k : Nat} (hl : xs.length ≤ 4096) (hk : xs.length ≤ k) (h : valsOk xs k) : sigErr xs = 0 := by
  refine sigErr_of hl fun x hx => ?_
  have := vErr_zero (h x (by rw [List.take_of_length_le hk]; exact hx))
  exact inB_iff.1 this

theorem rCheckSignal_any (A : Option Addr) (n c B : Nat) (xs : List Int) (w : World) (h : Reads w B 1 A n (ints xs)) (hn : n ≤ 1000000000000) :
    Calls Tryz.prog 20 #[.slice A n c] w fun r w' => r = .returned (.int .i64 (sigErr xs)) ∧ w = w' := by
  have hl := reads_len h
  by_cases hm : n ≤ 4096
  · have HL := hide hl; clear hl
    go_enter Tryz.func20, Tryz.ntmps20
    go_wp2
    go_loop [3] (fun i => ∃ k : Nat, k ≤ n ∧ i = .int .i64 k ∧ valsOk xs k) (fun i => n - (intOf i).toNat)
    case atStart => exact ⟨0, by omega, rfl, by intro y hy; simp at hy⟩
    case round =>
      obtain ⟨k, hk, rfl, hz⟩ := hrel
      by_cases hlt : k < n
      · obtain ⟨ad, x, rfl, _, hx, hc⟩ := reads_at h hlt
        have HX := hide hx; clear hx
        go_wp2_with (go_at_call 55; refine (checkInput_any _ _).mono ?_; rintro e w' ⟨rfl, rfl⟩)
        · go_ret
          exact ⟨by simp; exact vals_bad (by have := HL.out; omega) HX.out ‹_›, rfl⟩
        · go_round
          case rel => exact ⟨k + 1, by omega, by go_num, valsOk_succ hz HX.out ‹_›⟩
          case measure => simp [intOf]; omega
      · go_wp2
        go_ret
        exact ⟨by simp; exact (vals_end (by have := HL.out; omega) (by rw [HL.out]; omega) hz).symm, rfl⟩
  · have he : sigErr xs = 5 := by unfold sigErr; rw [if_pos (by omega)]
    have HE := hide he; clear he hl
    go_enter Tryz.func20, Tryz.ntmps20
    go_wp2
    go_ret
    exact ⟨by simp [HE.out], rfl⟩
end Go.Proofs.YtpcmflfinlkeiaaGreatDoor

namespace Go.Proofs.YtpcmflfinlkeiaaGreatDoor
open Go.RowKit Go.Shelf
set_option maxRecDepth 100000

theorem reads_hit {w : World} {B n k : Nat} {A : Option Addr} {xs : List Int} (h : Reads w B 1 A n (ints xs)) (hk : k < n) (hB : B ≤ w.heap.size) :
    ∃ ad x, A = some ad ∧ xs[k]? = some x ∧ ∀ W, Below w.heap.size w W → W.cell? (ad.add k) = some (.int .i64 x) := by
  obtain ⟨ad, x, h1, h2, h3, h4⟩ := reads_at h hk
  exact ⟨ad, x, h1, h3, fun W hW => (hW.cell (p := ad.add k) (by rw [block_of_add]; omega)).trans h4⟩
theorem outs_take_succ (s : Sec) (y : St) {xs : List Int} {k : Nat} {x : Int} (h : xs[k]? = some x) : ints (s.outs y (xs.take (k + 1))) = ints (s.outs y (xs.take k)) ++ [.int .i64 (s.out (s.after y (xs.take k)) x)] := by
  rw [List.take_add_one, h]
  show ints (s.outs y (xs.take k ++ [x])) = _
  rw [outs_snoc, ints_snoc]

end Go.Proofs.YtpcmflfinlkeiaaGreatDoor

namespace Go.Proofs.YtpcmflfinlkeiaaGreatDoor
open Go.RowKit Go.Shelf
set_option maxRecDepth 100000

/-- How many outputs were limited. -/
def Sec.sats (s : Sec) : St → List Int → Int
  | _, [] => 0
  | y, x :: xs => (if s.out y x = s.raw y x then 0 else 1) + s.sats (s.next y x) xs
theorem sats_snoc (s : Sec) (y : St) (xs : List Int) (x : Int) : s.sats y (xs ++ [x]) = s.sats y xs + (if s.out (s.after y xs) x = s.raw (s.after y xs) x then 0 else 1) := by
  induction xs generalizing y with
  | nil => simp only [List.nil_append, Sec.sats, Sec.after]; omega
  | cons a l ih => simp only [List.cons_append, Sec.sats, Sec.after, ih]; omega
theorem sats_bd (s : Sec) (y : St) (xs : List Int) : 0 ≤ s.sats y xs ∧ s.sats y xs ≤ xs.length := by
  induction xs generalizing y with
  | nil => simp [Sec.sats]
  | cons a l ih =>
    have := ih (s.next y a)
    simp only [Sec.sats, List.length_cons]
    split <;> omega
theorem sats_take_succ (s : Sec) (y : St) {xs : List Int} {k : Nat} {x : Int} (h : xs[k]? = some x) : s.sats y (xs.take (k + 1)) = s.sats y (xs.take k) + (if s.out (s.after y (xs.take k)) x = s.raw (s.after y (xs.take k)) x then 0 else 1) := by
  rw [List.take_add_one, h]; exact sats_snoc _ _ _ _

end Go.Proofs.YtpcmflfinlkeiaaGreatDoor
