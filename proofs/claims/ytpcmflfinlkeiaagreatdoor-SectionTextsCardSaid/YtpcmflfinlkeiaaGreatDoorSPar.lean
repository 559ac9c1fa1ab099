/- The program's Parse of sections. -/
import Derived.Test.YtpcmflfinlkeiaaGreatDoorSPrs
import Derived.Test.YtpcmflfinlkeiaaGreatDoorSLin
import Derived.Test.YtpcmflfinlkeiaaGreatDoorBaseC
import Derived.Deep.RegionHeld3
namespace Go.Proofs.YtpcmflfinlkeiaaGreatDoor
open Go.RowKit Go.Shelf
set_option maxRecDepth 100000
attribute [local go_sem] Oper.semAt_some
/-- What a parse says, by name. -/
def PsAt (m : Nat) (L : List Sec) (K E : Int) (w : World) (e : Ending) (w' : World) : Prop :=
  ∃ A c, e = .returned (.tuple #[.slice A m c, .int .i64 K, .int .i64 E]) ∧ Reads w' w'.heap.size 6 A m (secs L) ∧ Below w.heap.size w w'
/-- What a parse returns. -/
def PsPost (s : ByteArray) (w : World) (e : Ending) (w' : World) : Prop := PsAt (parS s.data.toList).1.length (parS s.data.toList).1 (parS s.data.toList).2.1 (parS s.data.toList).2.2 w e w'
theorem psPost_bad {s : ByteArray} {w w' : World} {e : Ending} {K E : Int} (h : parS s.data.toList = ([], K, E)) (he : e = .returned (.tuple #[.slice none 0 0, .int .i64 K, .int .i64 E])) (hb : Below w.heap.size w w') : PsPost s w e w' := by
  unfold PsPost
  rw [h]
  exact ⟨none, 0, he, Reads.none_, hb⟩
theorem psPost_ok {s : ByteArray} {w w' : World} {e : Ending} {L : List Sec} {n c : Nat} {A : Option Addr} (h : parS s.data.toList = (L, 0, 0)) (hn : L.length = n) (he : e = .returned (.tuple #[.slice A n c, .int .i64 0, .int .i64 0])) (hR : Reads w' w'.heap.size 6 A n (secs L)) (hb : Below w.heap.size w w') : PsPost s w e w' := by
  unfold PsPost
  rw [h]
  simp only
  rw [hn]
  exact ⟨A, c, he, hR, hb⟩
theorem parS_long {s : List UInt8} (h : 4096 < s.length) : parS s = ([], 0, 27) := by unfold parS; rw [if_pos h]
theorem parS_go {s : List UInt8} (h : ¬ 4096 < s.length) : parS s = pgo [] (spl 10 s) := by unfold parS; rw [if_neg h]
theorem box5 (w : World) (c d e f g : Array Value) (t u v x y : TypeId) :
    ∃ w1, w1 = ((((w.alloc (.cells c t)).alloc (.cells d u)).alloc (.cells e v)).alloc (.cells f x)).alloc (.cells g y) ∧ Below w.heap.size w w1 ∧ w1.heap.size = w.heap.size + 5 ∧ Blk w1 w.heap.size t c ∧ Blk w1 (w.heap.size + 1) u d ∧ Blk w1 (w.heap.size + 2) v e ∧ Blk w1 (w.heap.size + 3) x f ∧ Blk w1 (w.heap.size + 4) y g := by
  obtain ⟨w1, e1, h1, h2, h3, h4, h5, h6⟩ := box4 w c d e f t u v x
  have hs : w1.heap.size = w.heap.size + 4 := by rw [e1]; simp
  refine ⟨w1.alloc (.cells g y), by rw [e1], h1.alloc (by omega) _, by simp; omega, h3.alloc _, h4.alloc _, h5.alloc _, h6.alloc _, ?_⟩
  have h := Blk.new w1 y g
  rwa [hs] at h
/-- Three stores into three blocks in a row. -/
theorem three {w1 v : World} {g B : Nat} {t0 t1 t2 : TypeId} {a0 a1 a2 : Value} (k0 : Blk w1 g t0 #[a0]) (k1 : Blk w1 (g + 1) t1 #[a1]) (k2 : Blk w1 (g + 2) t2 #[a2]) (hb : Below B v w1) (hB : B ≤ g) (u0 u1 u2 : Value) :
    ∃ X, X = ((w1.setCell ⟨g, 0, none⟩ u0).setCell ⟨g + 1, 0, none⟩ u1).setCell ⟨g + 2, 0, none⟩ u2 ∧ Blk X g t0 #[u0] ∧ Blk X (g + 1) t1 #[u1] ∧ Blk X (g + 2) t2 #[u2] ∧ Below B v X ∧ X.heap.size = w1.heap.size ∧ (∀ (D : Nat) (o : Obj), w1.heap[D]? = some o → g + 3 ≤ D → X.heap[D]? = some o) ∧
      (∀ T n0 n1, n0 ≤ g → g + 3 ≤ n1 → Kept T n0 n1 w1 X) ∧ (∀ base e size v k xs, e ≠ t0 → e ≠ t1 → e ≠ t2 → w1.ownsRow base e size v k xs → X.ownsRow base e size v k xs) := by
  have a := k0.set_ 0 u0
  have b := k1.far (p := ⟨g, 0, none⟩) (by simp) u0
  have c := k2.far (p := ⟨g, 0, none⟩) (by simp) u0
  have a' := a.far (p := ⟨g + 1, 0, none⟩) (by simp) u1
  have b' := b.set_ 0 u1
  have c' := c.far (p := ⟨g + 1, 0, none⟩) (by simp) u1
  refine ⟨_, rfl, a'.far (p := ⟨g + 2, 0, none⟩) (by simp) u2, b'.far (p := ⟨g + 2, 0, none⟩) (by simp) u2, c'.set_ 0 u2, below_set (below_set (below_set hb hB u0) (by omega) u1) (by omega) u2, by simp [World.setCell], fun D o ho hD => ?_, fun T n0 n1 hn h1 => ?_, fun base e size v k xs e0 e1 e2 h => ?_⟩
  · exact ((Below.heap_setCell _ ⟨g + 2, 0, none⟩ u2 D (by show D ≠ g + 2; omega)).trans (Below.heap_setCell _ ⟨g + 1, 0, none⟩ u1 D (by show D ≠ g + 1; omega))).trans ((Below.heap_setCell _ ⟨g, 0, none⟩ u0 D (by show D ≠ g; omega)).trans ho)
  · exact ((Kept.set (i := 0) k0 hn (fun h => by omega) u0).trans (Kept.set (i := 0) b (by omega) (fun h => by omega) u1)).trans (Kept.set (i := 0) c' (by omega) (fun h => by omega) u2)
  · have r0 := ownsRow_setCell_other h (a := ⟨g, 0, none⟩) (own_blk_ne h k0 e0) u0
    have r1 := ownsRow_setCell_other r0 (a := ⟨g + 1, 0, none⟩) (own_blk_ne r0 b e1) u1
    exact ownsRow_setCell_other r1 (a := ⟨g + 2, 0, none⟩) (own_blk_ne r1 c' e2) u2
theorem kept_below {T : List TypeId} {n0 n1 : Nat} {W W' : World} (hb : Below W.heap.size W W') (hn : n0 ≤ W.heap.size) : Kept T n0 n1 W W' :=
  ⟨hb.mono hn, ⟨hb.size, fun k _o ho _ => (hb.block k (Array.getElem?_eq_some_iff.1 ho).1).trans ho⟩, fun k _o _ ho _ => (hb.block k (Array.getElem?_eq_some_iff.1 ho).1).trans ho⟩
/-- The invariant of the loop. -/
def ParI (s : List UInt8) (w : World) (pre : List (List UInt8)) (W : World) : Prop :=
  ∃ (S : List UInt8) (acc : List Sec) (v : Value), lnl s = pre ++ lnl S ∧ Hid (parS s = pgo acc (spl 10 S)) ∧ acc.length + S.length ≤ 4096 ∧ Blk W (w.heap.size + 3) 28 #[v] ∧ W.ownsRow w.heap.size 53 6 v acc.length (secs acc) ∧ Blk W (w.heap.size + 4) 3 #[.int .i64 (acc.length : Int)] ∧
    Blk W w.heap.size 28 #[.slice none 0 0] ∧ Blk W (w.heap.size + 1) 3 #[.int .i64 0] ∧ Blk W (w.heap.size + 2) 25 #[.int .i64 0] ∧ Below w.heap.size w W
/-- .. and where a line was wrong. -/
def ParX (s : List UInt8) (w : World) (_ : List (List UInt8)) (W : World) : Prop :=
  ∃ K : Int, parS s = ([], K, 26) ∧ Blk W w.heap.size 28 #[.slice none 0 0] ∧ Blk W (w.heap.size + 1) 3 #[.int .i64 K] ∧ Blk W (w.heap.size + 2) 25 #[.int .i64 26] ∧ Below w.heap.size w W
theorem parI_hush {s : List UInt8} {w : World} {nC : Nat} (hC : w.heap.size ≤ nC) {T : List TypeId} (h1 : T.contains 28 = false) (h2 : T.contains 3 = false) (h3 : T.contains 53 = false) (h4 : T.contains 25 = false) (p : List (List UInt8)) (A B : World) (h : ParI s w p A) (hh : Hush T (w.heap.size + 5) nC A B) : ParI s w p B := by
  obtain ⟨S, acc, v, hl, HP, hlen, k3, ho, k4, k0, k1, k2, hb⟩ := h
  exact ⟨S, acc, v, hl, HP, hlen, hh.blk k3 (fun _ => h1), hh.row ho h3, hh.blk k4 (fun _ => h2), hh.blk k0 (fun _ => h1), hh.blk k1 (fun _ => h2), hh.blk k2 (fun _ => h4), hh.below hb (by omega) hC (Nat.le_refl _)⟩
theorem parX_hush {s : List UInt8} {w : World} {nC : Nat} (hC : w.heap.size ≤ nC) {T : List TypeId} (h1 : T.contains 28 = false) (h2 : T.contains 3 = false) (h4 : T.contains 25 = false) (p : List (List UInt8)) (A B : World) (h : ParX s w p A) (hh : Hush T (w.heap.size + 5) nC A B) : ParX s w p B := by
  obtain ⟨K, hp, k0, k1, k2, hb⟩ := h
  exact ⟨K, hp, hh.blk k0 (fun _ => h1), hh.blk k1 (fun _ => h2), hh.blk k2 (fun _ => h4), hh.below hb (by omega) hC (Nat.le_refl _)⟩
theorem cutV_yes (a : List UInt8) : Lib.trimSuffix (⟨(a ++ [10]).toArray⟩ : ByteArray).data.toList (⟨#[10]⟩ : ByteArray).data.toList = a ∧ Lib.hasSuffix (⟨(a ++ [10]).toArray⟩ : ByteArray).data.toList (⟨#[10]⟩ : ByteArray).data.toList = true := by
  have e1 : (⟨(a ++ [10]).toArray⟩ : ByteArray).data.toList = a ++ [10] := List.toList_toArray
  rw [e1]
  exact ⟨(suffix_yes a).2, (suffix_yes a).1⟩
theorem cutV_no {a : List UInt8} (ha : (10 : UInt8) ∉ a) : Lib.trimSuffix (⟨a.toArray⟩ : ByteArray).data.toList (⟨#[10]⟩ : ByteArray).data.toList = a ∧ Lib.hasSuffix (⟨a.toArray⟩ : ByteArray).data.toList (⟨#[10]⟩ : ByteArray).data.toList = false := by
  have e1 : (⟨a.toArray⟩ : ByteArray).data.toList = a := List.toList_toArray
  rw [e1]
  exact ⟨(suffix_no ha).2, (suffix_no ha).1⟩
theorem cut_of (s p : ByteArray) (a : List UInt8) (b : Bool) (hs : s.size ≤ 1000000) (h : Lib.trimSuffix s.data.toList p.data.toList = a ∧ Lib.hasSuffix s.data.toList p.data.toList = b) (W : World) : Calls Tryz.prog 47 #[.string s, .string p] W fun e W' => e = .returned (.tuple #[.string ⟨a.toArray⟩, .bool b]) ∧ W = W' := by
  obtain ⟨h1, h2⟩ := h
  subst h1
  subst h2
  exact (Tryz.strings_CutSuffix s p W (by omega)).mono fun _ _ ⟨h1, h2⟩ => ⟨h1, h2.symm⟩
theorem size_arr (a : List UInt8) : (⟨a.toArray⟩ : ByteArray).size = a.length := by rw [bsize, List.toList_toArray]
theorem cut_yes (a : List UInt8) (h : a.length ≤ 10000) (W : World) : Calls Tryz.prog 47 #[.string ⟨(a ++ [10]).toArray⟩, .string ⟨#[10]⟩] W fun e W' => e = .returned (.tuple #[.string ⟨a.toArray⟩, .bool true]) ∧ W = W' :=
  cut_of _ _ a true (by rw [size_arr, List.length_append]; simp; omega) (cutV_yes a) W
theorem cut_no (a : List UInt8) (ha : (10 : UInt8) ∉ a) (h : a.length ≤ 10000) (W : World) : Calls Tryz.prog 47 #[.string ⟨a.toArray⟩, .string ⟨#[10]⟩] W fun e W' => e = .returned (.tuple #[.string ⟨a.toArray⟩, .bool false]) ∧ W = W' :=
  cut_of _ _ a false (by rw [size_arr]; omega) (cutV_no ha) W
theorem fold_one (p : Tmp) (v : Value) (T : Array Value) : ((#[p] : Array Tmp).zip #[v]).foldl (fun t (p, v) => t.setIfInBounds p v) T = T.setIfInBounds p v := by simp
/-- What a round meets: the line without its end, whether it has one, and what that means. -/
structure Rnd (s : List UInt8) (pre : List (List UInt8)) (ln : List UInt8) (acc : List Sec) (X Y : ByteArray) (b : Bool) : Prop where
  call : ∀ W, Calls Tryz.prog 47 #[.string X, .string ⟨#[10]⟩] W fun e W' => e = .returned (.tuple #[.string Y, .bool b]) ∧ W = W'
  size : Y.size ≤ 1000000
  good : ∀ x : Sec, b = true → pline Y.data.toList = some x → ∃ R : List UInt8, acc.length + 1 + R.length ≤ 4096 ∧ lnl s = (pre ++ [ln]) ++ lnl R ∧ parS s = pgo (acc ++ [x]) (spl 10 R)
  bad : (b = false ∨ pline Y.data.toList = none) → parS s = ([], (acc.length : Int), 26)
theorem rnd_of {s : List UInt8} {pre : List (List UInt8)} {ln : List UInt8} {acc : List Sec} {S : List UInt8} {t : List (List UInt8)} (ht : lnl s = pre ++ ln :: t) (hl : lnl s = pre ++ lnl S) (HP : parS s = pgo acc (spl 10 S)) (hlen : acc.length + S.length ≤ 4096) : ∃ Y b, Rnd s pre ln acc ⟨ln.toArray⟩ Y b := by
  have hS : lnl S = ln :: t := List.append_cancel_left (hl.symm.trans ht)
  rcases lnl_cons hS with ⟨a, r, hx, ha, hs, hr, hsp⟩ | ⟨hx, ha, hne, hr, hsp⟩
  · have e : S.length = a.length + 1 + r.length := by rw [hs]; simp; omega
    have ed : (⟨a.toArray⟩ : ByteArray).data.toList = a := List.toList_toArray
    refine ⟨⟨a.toArray⟩, true, ⟨fun W => ?_, by rw [size_arr]; omega, fun x _ h => ?_, fun h => ?_⟩⟩
    · rw [hx]; exact cut_yes a (by omega) W
    · rw [ed] at h
      refine ⟨r, by omega, ?_, ?_⟩
      · rw [ht, hr]; simp
      · rw [HP, hsp]; exact pgo_good acc (spl_ne _ _) h
    · rw [ed] at h
      rw [HP, hsp]
      exact pgo_bad acc (spl_ne _ _) (h.resolve_left (by simp))
  · refine ⟨⟨ln.toArray⟩, false, ⟨fun W => cut_no ln (by rw [hx]; exact ha) (by rw [hx]; omega) W, by rw [size_arr, hx]; omega, fun x h => (by cases h), fun _ => ?_⟩⟩
    rw [HP, hsp]
    exact pgo_last acc hne
set_option maxHeartbeats 4000000 in
theorem Parse_long (s : ByteArray) (w : World) (h : 4096 < s.data.toList.length) : Calls Tryz.prog 11 #[.string s] w (PsPost s w) := by
  have HB := hide (parS_long h)
  have g1 : (4096 : Int) < (s.size : Int) := by have := bsize s; omega
  clear h
  go_enter Tryz.func11, Tryz.ntmps11
  go_upto_region 1 with (fail)
  obtain ⟨w1, e1, hb1, hz1, k0, k1, k2⟩ := box3 w #[.slice none 0 0] #[.int .i64 0] #[.int .i64 0] 28 3 25
  rw [← e1]; clear e1
  have c0 := k0.cell
  have f0 := k0.frozen
  have c1 := k1.cell
  have f1 := k1.frozen
  have c2 := k2.cell
  have f2 := k2.frozen
  go_wp2_with fail
  obtain ⟨X, eX, x0, x1, x2, hX, _⟩ := three k0 k1 k2 hb1 (Nat.le_refl _) (.slice none 0 0) (.int .i64 0) (.int .i64 27)
  rw [← eX]; clear eX
  have d0 := x0.cell
  have d1 := x1.cell
  have d2 := x2.cell
  refine bodyPost_ret (v := .tuple #[.slice none 0 0, .int .i64 0, .int .i64 27]) (by simp [results, Tryz.results11, go_sem, d0, d1, d2]) rfl ?_
  exact psPost_bad HB.out rfl hX
theorem kept_drew {T : List TypeId} {n0 n1 : Nat} {A B : World} (h : Kept T n0 n1 A B) : Kept T n0 n1 A B.drew := ⟨h.below.drew, ⟨h.others.size, h.others.same⟩, h.own⟩
set_option maxHeartbeats 8000000 in
theorem Parse_in (n : Nat) (hn : 3 ≤ n) (s : ByteArray) (w : World) (hT : TxV w) (h4 : ¬ 4096 < s.data.toList.length) :
    CallsIn Fence.wide n Tryz.prog 11 #[.string s] w (PsPost s w) := by
  have HG := hide (parS_go h4)
  have hsz := bsize s
  have hs : s.size ≤ 1000000 := by omega
  have g1 : ¬ (4096 : Int) < (s.size : Int) := by omega
  have hl4 : s.data.toList.length ≤ 4096 := by omega
  refine callsIn_of_wp_marks Tryz.func11 rfl trivial ?_ rfl
  simp only [Tryz.ntmps11, List.size_toArray, List.length_cons, List.length_nil, Nat.reduceAdd, Nat.reduceSub, Array.replicate_succ, Array.replicate_zero, List.push_toArray, List.append_toArray, List.nil_append, List.cons_append]
  clear hsz h4
  gi_wp2
  obtain ⟨w1, e1, hb1, hs1, k0, k1, k2, k3, k4⟩ := box5 w #[.slice none 0 0] #[.int .i64 0] #[.int .i64 0] #[.slice none 0 0] #[.int .i64 0] 28 3 25 28 3
  rw [← e1]
  clear e1
  refine ⟨trivial, fun _ => by omega, ?_⟩
  refine (lines_in (n - 1) s _).mono ?_
  rintro e w2 ⟨rfl, hb2, hz2, kS⟩
  have hbb : Below w.heap.size w w2 := below_nx hb1 hb2
  have hI0 : ParI s.data.toList w [] w2 := ⟨s.data.toList, [], .slice none 0 0, rfl, HG, by simpa using hl4, k3.below hb2 k3.lt, by simpa [secs] using World.ownsRow_nil w2 _ _ _, k4.below hb2 k4.lt, k0.below hb2 k0.lt, k1.below hb2 k1.lt, k2.below hb2 k2.lt, hbb⟩
  have hn5 : w.heap.size + 5 ≤ w2.heap.size := by omega
  rw [hs1] at kS ⊢
  clear k0 k1 k2 k3 k4 HG hs1 hb1 hb2 hz2
  gi_wp2
  refine wpIn_rangeStE (by omega) (gf := 77) (lb := #[.pointer (some ⟨w.heap.size + 5, 0, none⟩)]) rfl (enters_of Tryz.func77 (by kernel_rfl) rfl)
    (lines_all (n - 1) (by omega) _ w.heap.size (w.heap.size + 5) s hs w2 kS (Nat.le_refl _)) hbb.size (fun _ => rfl)
    (ParI s.data.toList w) (ParX s.data.toList w) (fun p A B h hh => parI_hush hbb.size rfl rfl rfl rfl p A B h hh) (fun p A B h hh => parI_hush hbb.size rfl rfl rfl rfl p A B h hh) (fun p A B h hh => parX_hush hbb.size rfl rfl rfl p A B h hh) hI0
    ?rounds ?done ?stop
  case rounds =>
    apply Exists.intro
    refine ⟨fun l pre ln W hW hI hnx => ?_, fun l pre ln W hW hI hnx => ?_⟩
    · unfold encL
      rw [fold_one]
      simp only [List.setIfInBounds_toArray, List.set_cons_succ, List.set_cons_zero]
      gi_wp2
      exact ⟨Kept.refl _ _ _ _, hI, rfl⟩
    obtain ⟨t, ht⟩ := hnx
    obtain ⟨S, acc, v, hl, HP, hlen, k3, ho, k4, k0, k1, k2, hb⟩ := hI
    have hb0 := hb
    obtain ⟨Y, b, hR⟩ := rnd_of ht hl HP hlen
    obtain ⟨X, hX⟩ : ∃ X : ByteArray, X = ⟨ln.toArray⟩ := ⟨_, rfl⟩
    rw [← hX] at hR ⊢
    obtain ⟨m, hm⟩ : ∃ m, m = acc.length := ⟨_, rfl⟩
    have hm4 : m ≤ 4096 := by omega
    have HR := hide hR
    have HM := hide hm
    rw [← hm] at ho k4
    clear hl ht hI0 HP hlen hR hX hm
    gi_wp2_with (refine ⟨trivial, fun h => absurd h (by decide), ?_⟩; gi_at_call 47; refine (CallsIn.inRound l (callsIn_wide.2 (HR.out.call _))).mono ?_; rintro e w3 ⟨rfl, rfl⟩)
    refine ⟨trivial, fun h => absurd h (by decide), ?_⟩
    refine (CallsIn.inRound l (callsIn_wide.2 (parsed_any Y W (hT.carry hb) HR.out.size))).mono ?_
    rintro e w3 ⟨x, rfl, hx, hb3⟩
    gi_upto_region 9 with (fail)
    obtain ⟨w4, e4, hb4, hz4, kX⟩ := box1 w3 #[.int .i64 x.b0, .int .i64 x.b1, .int .i64 x.b2, .int .i64 x.a1, .int .i64 x.a2, .int .i64 x.sh] 53
    rw [← e4]; clear e4
    have hbW4 : Below W.heap.size W w4 := below_nx hb3 hb4
    have hn4 := hb.size
    have yW := kept_below (T := linT) (n0 := w.heap.size) (n1 := w.heap.size + 5) hbW4 hn4
    have hb04 := below_step hb hbW4 hn4
    have q0 := k0.below hbW4 k0.lt
    have q1 := k1.below hbW4 k1.lt
    have q2 := k2.below hbW4 k2.lt
    have q3 := k3.below hbW4 k3.lt
    have q4 := k4.below hbW4 k4.lt
    have c0 := q0.cell
    have f0 := q0.frozen
    have c1 := q1.cell
    have f1 := q1.frozen
    have c2 := q2.cell
    have f2 := q2.frozen
    have c4 := q4.cell
    have HX := hide hx
    clear k0 k1 k2 k3 k4 hb3 hb4 hx
    cases b with
    | false =>
      have hp := HR.out.bad (.inl rfl)
      rw [← HM.out] at hp
      have HB := hide hp
      clear hp
      cases hq : (pline Y.data.toList).isSome
      all_goals
        clear hq
        gi_wp2
        gi_region
        all_goals
          (try gi_wp2)
          obtain ⟨Z, eZ, z0, z1, z2, hZ, hzs, hzD, hzK, hzR⟩ := three q0 q1 q2 hb04 (Nat.le_refl _) (.slice none 0 0) (.int .i64 (m : Int)) (.int .i64 26)
          rw [show w.heap.size + 1 + 1 = w.heap.size + 2 from rfl, ← eZ]
          clear eZ
          show Kept linT w.heap.size (w.heap.size + 5) W Z.drew ∧ ParX s.data.toList w (pre ++ [ln]) Z.drew
          exact ⟨kept_drew (yW.trans (hzK _ _ _ (Nat.le_refl _) (by omega))), _, HB.out, z0, z1, z2, hZ.drew⟩
    | true =>
      cases hq : pline Y.data.toList with
      | none =>
        have hp := HR.out.bad (.inr hq)
        rw [← HM.out] at hp
        have HB := hide hp
        clear hp hq
        simp only [Option.isSome_none]
        gi_wp2
        gi_region
        all_goals
          (try gi_wp2)
          obtain ⟨Z, eZ, z0, z1, z2, hZ, hzs, hzD, hzK, hzR⟩ := three q0 q1 q2 hb04 (Nat.le_refl _) (.slice none 0 0) (.int .i64 (m : Int)) (.int .i64 26)
          rw [show w.heap.size + 1 + 1 = w.heap.size + 2 from rfl, ← eZ]
          clear eZ
          show Kept linT w.heap.size (w.heap.size + 5) W Z.drew ∧ ParX s.data.toList w (pre ++ [ln]) Z.drew
          exact ⟨kept_drew (yW.trans (hzK _ _ _ (Nat.le_refl _) (by omega))), _, HB.out, z0, z1, z2, hZ.drew⟩
      | some y =>
        simp only [Option.isSome_some]
        obtain rfl := HX.out y hq
        obtain ⟨R, hR1, hR2, hR3⟩ := HR.out.good x rfl hq
        have HQ := hide hR3
        have HL := hide hR2
        have ho4 := row_below ho hbW4
        have hn44 := hb04.size
        have A1 : m + 1 ≤ maxLen := by unfold maxLen; omega
        have A2 : (m + 1) * 48 ≤ 140737488355328 := by omega
        have hw1 : IntKind.i64.wrap ((m : Int) + 1) = (m : Int) + 1 := IntWalk.i64_in _ (by omega)
        have cX := kX.cell
        have c3 := q3.cell
        have f3 := q3.frozen
        have f4 := q4.frozen
        clear hq hR2 hR3 c0 f0 c1 f1 c2 f2 hbW4 hb
        gi_upto_region 12 with (gi_at_builtin; refine wpListIn_push _ rfl (.tmp 36) (.tmp 38) _ rfl w.heap.size 53 _ 6 48 Tryz.underlying28 info_sec rfl (by decide) _ _ _ rfl (ho4.alloc _) w4.heap.size (secCells x) rfl rfl (cells_new _ (secCells x) _) (one_sec x) A1 A2 (le_alloc hn44 _) ?_; intro g1 d1 w5 ho5 hg5; have b3 := grown_blk (ho4.alloc _) hg5 (q3.alloc _) (by decide); have b4 := grown_blk (ho4.alloc _) hg5 (q4.alloc _) (by decide); have b0 := grown_blk (ho4.alloc _) hg5 (q0.alloc _) (by decide); have b1 := grown_blk (ho4.alloc _) hg5 (q1.alloc _) (by decide); have b2 := grown_blk (ho4.alloc _) hg5 (q2.alloc _) (by decide); have c3' := b3.cell; have f3' := b3.frozen)
        obtain ⟨u, hu⟩ : ∃ u : Value, u = .slice (some ⟨g1, 0, none⟩) (m + 1) d1 := ⟨_, rfl⟩
        rw [show w.heap.size + 1 + 1 + 1 = w.heap.size + 3 from rfl, ← hu]
        rw [← hu] at ho5
        have n0 : w.heap.size ≠ w.heap.size + 3 := by omega
        have n1 : w.heap.size + 1 ≠ w.heap.size + 3 := by omega
        have n2 : w.heap.size + 2 ≠ w.heap.size + 3 := by omega
        have n4 : w.heap.size + 4 ≠ w.heap.size + 3 := by omega
        have p3 : Blk _ _ _ #[u] := b3.set_ 0 u
        have p0 := b0.far (p := ⟨w.heap.size + 3, 0, none⟩) n0 u
        have p1 := b1.far (p := ⟨w.heap.size + 3, 0, none⟩) n1 u
        have p2 := b2.far (p := ⟨w.heap.size + 3, 0, none⟩) n2 u
        have p4 := b4.far (p := ⟨w.heap.size + 3, 0, none⟩) n4 u
        have r5 := ownsRow_setCell_other ho5 (a := ⟨w.heap.size + 3, 0, none⟩) (own_blk_ne ho5 b3 (by decide)) u
        have y2 := Kept.row (T := linT) (n0 := w.heap.size) (n1 := w.heap.size + 5) (ho4.alloc _) rfl (Nat.le_refl _) (le_alloc hn44 _) hg5
        have y3 := Kept.set (T := linT) (n0 := w.heap.size) (n1 := w.heap.size + 5) (i := 0) b3 (by omega) (fun h => by omega) u
        have yy := ((yW.trans (Kept.alloc (T := linT) (n1 := w.heap.size + 5) w4 hn44 _)).trans y2).trans y3
        clear y2 y3 hg5 ho5 b0 b1 b2 b3 b4 c3' f3' c3 f3 cX ho4 n0 n1 n2 n4 q0 q1 q2 q3 q4 c4 f4 yW hu
        generalize World.setCell w5 _ _ = Z at p0 p1 p2 p3 p4 r5 yy ⊢
        have c4 := p4.cell
        have f4 := p4.frozen
        gi_wp2
        rw [show w.heap.size + 1 + 1 + 1 + 1 = w.heap.size + 4 from rfl]
        have n0 : w.heap.size ≠ w.heap.size + 4 := by omega
        have n1 : w.heap.size + 1 ≠ w.heap.size + 4 := by omega
        have n2 : w.heap.size + 2 ≠ w.heap.size + 4 := by omega
        have n3 : w.heap.size + 3 ≠ w.heap.size + 4 := by omega
        have s4 : Blk _ _ _ #[.int .i64 ((m : Int) + 1)] := p4.set_ 0 (.int .i64 ((m : Int) + 1))
        have s0 := p0.far (p := ⟨w.heap.size + 4, 0, none⟩) n0 (.int .i64 ((m : Int) + 1))
        have s1 := p1.far (p := ⟨w.heap.size + 4, 0, none⟩) n1 (.int .i64 ((m : Int) + 1))
        have s2 := p2.far (p := ⟨w.heap.size + 4, 0, none⟩) n2 (.int .i64 ((m : Int) + 1))
        have s3 := p3.far (p := ⟨w.heap.size + 4, 0, none⟩) n3 (.int .i64 ((m : Int) + 1))
        have r6 := ownsRow_setCell_other r5 (a := ⟨w.heap.size + 4, 0, none⟩) (own_blk_ne r5 p4 (by decide)) (.int .i64 ((m : Int) + 1))
        have yz := yy.trans (Kept.set (T := linT) (n0 := w.heap.size) (n1 := w.heap.size + 5) (i := 0) p4 (by omega) (fun h => by omega) (.int .i64 ((m : Int) + 1)))
        have hbz := hb0.trans yz.below
        have hal : (acc ++ [x]).length = m + 1 := by rw [List.length_append, HM.out]; rfl
        have hai : (((acc ++ [x]).length : Nat) : Int) = (m : Int) + 1 := by rw [hal]; rfl
        show Kept linT w.heap.size (w.heap.size + 5) W _ ∧ ParI s.data.toList w (pre ++ [ln]) _
        refine ⟨yz, R, acc ++ [x], u, HL.out, HQ, by rw [hal, HM.out]; exact hR1, s3, ?_, ?_, s0, s1, s2, hbz⟩
        · rw [hal, secs_snoc]; exact r6
        · rw [hai]; exact s4
  case done =>
    rintro D xs W hD rfl hI hK
    obtain ⟨S, acc, v, hl, HP, hlen, k3, ho, k4, k0, k1, k2, hb⟩ := hI
    have hS : S = [] := lnl_nil (by simpa using hl)
    subst hS
    have hp : parS s.data.toList = if secErr acc = 0 then (acc, 0, 0) else ([], (acc.length : Int), secErr acc) := by rw [show parS s.data.toList = _ from HP]; exact pgo_end acc
    obtain ⟨m, hm⟩ : ∃ m, acc.length = m := ⟨_, rfl⟩
    obtain ⟨A', c', rfl, hr⟩ := own_slice ho
    rw [hm] at hp ho k4 hr k3
    have hm4 : m ≤ 4096 := by rw [← hm]; simp at hlen; omega
    have HM := hide hm
    have c3 := k3.cell
    have hDl := (Array.getElem?_eq_some_iff.1 hK).1
    have hD5 : w.heap.size + 5 ≤ D := by omega
    clear hl HP hlen hI0 hm hbb kS
    gi_wp2
    refine ⟨trivial, fun _ => by omega, ?_⟩
    refine (callsIn_wide.2 (checkSections_any A' m c' acc W hr (by omega))).mono ?_
    rintro e W2 ⟨rfl, hb2⟩
    have hn2 := hb.size
    have hb02 := below_step hb hb2 hn2
    have q0 := k0.below hb2 k0.lt
    have q1 := k1.below hb2 k1.lt
    have q2 := k2.below hb2 k2.lt
    have q3 := k3.below hb2 k3.lt
    have q4 := k4.below hb2 k4.lt
    have ho2 := row_below ho hb2
    have hK2 := (hb2.block D hDl).trans hK
    have e0 := q0.cell
    have f0 := q0.frozen
    have e1 := q1.cell
    have f1 := q1.frozen
    have e2 := q2.cell
    have f2 := q2.frozen
    have e3 := q3.cell
    have e4 := q4.cell
    clear k0 k1 k2 k3 k4 ho hr hb2 hK hb c3
    by_cases h0 : secErr acc = 0
    · rw [if_pos h0] at hp
      have HB := hide hp
      have H0 := hide h0
      clear hp h0
      rw [H0.out]
      gi_wp2
      obtain ⟨Z, eZ, z0, z1, z2, hZ, hzs, hzD, hzK, hzR⟩ := three q0 q1 q2 hb02 (Nat.le_refl _) (.slice A' m c') (.int .i64 0) (.int .i64 0)
      rw [show w.heap.size + 1 + 1 = w.heap.size + 2 from rfl, ← eZ]
      clear eZ
      have hKZ : (Z).heap[D]? = some (.deferred (some [])) := hzD D _ hK2 (by omega)
      refine ⟨by simp, .inl ⟨_, _, rfl, run_takeDeferred (w := Z) hKZ, ?_⟩⟩
      have ne0 : w.heap.size ≠ D := by omega
      have ne1 : w.heap.size + 1 ≠ D := by omega
      have ne2 : w.heap.size + 2 ≠ D := by omega
      have m0 : Blk ((Z).putObj D (.deferred none)) w.heap.size _ _ := (World.putObj_heap_other ne0).trans z0
      have m1 : Blk ((Z).putObj D (.deferred none)) (w.heap.size + 1) _ _ := (World.putObj_heap_other ne1).trans z1
      have m2 : Blk ((Z).putObj D (.deferred none)) (w.heap.size + 2) _ _ := (World.putObj_heap_other ne2).trans z2
      have d0 := m0.cell
      have d1 := m1.cell
      have d2 := m2.cell
      have hbF : Below w.heap.size w ((Z).putObj D (.deferred none)) := Below.trans (b := Z) ⟨hZ.os, hZ.tape, hZ.output, hZ.size, hZ.block⟩ (belowK_b (w := w) (Nat.le_refl _) (Z) D _ (.deferred none) (by omega) hKZ rfl rfl)
      refine ⟨.tuple #[.slice A' m c', .int .i64 0, .int .i64 0], by simp [results, Tryz.results11, go_sem, d0, d1, d2], ?_⟩
      have rZ := hzR _ _ _ _ _ _ (by decide) (by decide) (by decide) ho2
      exact psPost_ok HB.out HM.out rfl (Reads.of_own (ownsRow_putObj (W := Z) rZ (.deferred none) hKZ rfl)) hbF
    · rw [if_neg h0] at hp
      have HB := hide hp
      have t9 : (secErr acc != 0) = true := by simpa using h0
      clear hp h0
      gi_wp2
      gi_region
      all_goals
        (try gi_wp2)
        obtain ⟨Z, eZ, z0, z1, z2, hZ, hzs, hzD, hzK, hzR⟩ := three q0 q1 q2 hb02 (Nat.le_refl _) (.slice none 0 0) (.int .i64 (m : Int)) (.int .i64 (secErr acc))
        rw [show w.heap.size + 1 + 1 = w.heap.size + 2 from rfl, ← eZ]
        clear eZ
        have hKZ : (Z.drew).heap[D]? = some (.deferred (some [])) := hzD D _ hK2 (by omega)
        refine ⟨by simp, .inl ⟨_, _, rfl, run_takeDeferred (w := Z.drew) hKZ, ?_⟩⟩
        have ne0 : w.heap.size ≠ D := by omega
        have ne1 : w.heap.size + 1 ≠ D := by omega
        have ne2 : w.heap.size + 2 ≠ D := by omega
        have m0 : Blk ((Z.drew).putObj D (.deferred none)) w.heap.size _ _ := (World.putObj_heap_other ne0).trans z0
        have m1 : Blk ((Z.drew).putObj D (.deferred none)) (w.heap.size + 1) _ _ := (World.putObj_heap_other ne1).trans z1
        have m2 : Blk ((Z.drew).putObj D (.deferred none)) (w.heap.size + 2) _ _ := (World.putObj_heap_other ne2).trans z2
        have d0 := m0.cell
        have d1 := m1.cell
        have d2 := m2.cell
        have hbF : Below w.heap.size w ((Z.drew).putObj D (.deferred none)) := Below.trans (b := Z.drew) ⟨hZ.os, hZ.tape, hZ.output, hZ.size, hZ.block⟩ (belowK_b (w := w) (Nat.le_refl _) (Z.drew) D _ (.deferred none) (by omega) hKZ rfl rfl)
        refine ⟨.tuple #[.slice none 0 0, .int .i64 (m : Int), .int .i64 (secErr acc)], by simp [results, Tryz.results11, go_sem, d0, d1, d2], ?_⟩
        exact psPost_bad HB.out rfl hbF
  case stop =>
    intro D xs W hD hX hK
    obtain ⟨K, hp, k0, k1, k2, hb⟩ := hX
    have hDl := (Array.getElem?_eq_some_iff.1 hK).1
    have HB := hide hp
    have ne0 : w.heap.size ≠ D := by omega
    have ne1 : w.heap.size + 1 ≠ D := by omega
    have ne2 : w.heap.size + 2 ≠ D := by omega
    clear hp hI0 kS
    gi_wp2
    refine ⟨by simp, .inl ⟨_, _, rfl, run_takeDeferred (w := W) hK, ?_⟩⟩
    have m0 : Blk (W.putObj D (.deferred none)) w.heap.size _ _ := (World.putObj_heap_other ne0).trans k0
    have m1 : Blk (W.putObj D (.deferred none)) (w.heap.size + 1) _ _ := (World.putObj_heap_other ne1).trans k1
    have m2 : Blk (W.putObj D (.deferred none)) (w.heap.size + 2) _ _ := (World.putObj_heap_other ne2).trans k2
    have d0 := m0.cell
    have d1 := m1.cell
    have d2 := m2.cell
    have hbF := hb.trans (belowK_b (w := w) (Nat.le_refl _) W D _ (.deferred none) (by omega) hK rfl rfl)
    refine ⟨.tuple #[.slice none 0 0, .int .i64 K, .int .i64 26], by simp [results, Tryz.results11, go_sem, d0, d1, d2], ?_⟩
    exact psPost_bad HB.out rfl hbF
theorem Parse_any (s : ByteArray) (w : World) (hT : TxV w) : Calls Tryz.prog 11 #[.string s] w (PsPost s w) := by
  by_cases h : 4096 < s.data.toList.length
  · exact Parse_long s w h
  · exact callsIn_wide.1 (Parse_in 3 (Nat.le_refl _) s w hT h)
end Go.Proofs.YtpcmflfinlkeiaaGreatDoor
