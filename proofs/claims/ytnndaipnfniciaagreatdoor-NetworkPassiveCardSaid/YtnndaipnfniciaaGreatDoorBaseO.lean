/- The chain matrix and the divisor of a valid ladder, as the program reckons them. Chain and Divisor of the program. Quotients of the program; equality of complex integers. Input, Shorted, Transfer, Divisor of the program. -/
import Derived.Test.YtnndaipnfniciaaGreatDoorBaseS
import Derived.Test.YtnndaipnfniciaaGreatDoorBaseC
namespace Go.Proofs.YtnndaipnfniciaaGreatDoor
open Go.RowKit Go.Shelf
set_option maxRecDepth 100000
attribute [local go_sem] Oper.semAt_some

theorem Kept.of_below {T : List TypeId} {n0 n1 : Nat} {W W' : World} (hb : Below W.heap.size W W') (hn : n0 ≤ W.heap.size) : Kept T n0 n1 W W' :=
  ⟨hb.mono hn, ⟨hb.size, fun k _ h _ => (hb.block k (Array.getElem?_eq_some_iff.1 h).1).trans h⟩, fun k _ _ h _ => (hb.block k (Array.getElem?_eq_some_iff.1 h).1).trans h⟩
theorem kept2 {T : List TypeId} {n0 n1 : Nat} {W : World} {b : Nat} {t : TypeId} {c0 c1 : Value} (hk : Blk W b t #[c0, c1]) (hn : n0 ≤ b) (ht : T.contains t = false) (u0 u1 : Value) :
    Kept T n0 n1 W ((W.setCell ⟨b, 0, none⟩ u0).setCell ⟨b, 1, none⟩ u1) :=
  (Kept.set hk hn (fun _ => ht) u0).trans (Kept.set (hk.set_ 0 u0) hn (fun _ => ht) u1)
theorem kept8 {T : List TypeId} {n0 n1 : Nat} {W : World} {b : Nat} {t : TypeId} {c0 c1 c2 c3 c4 c5 c6 c7 : Value} (hk : Blk W b t #[c0, c1, c2, c3, c4, c5, c6, c7]) (hn : n0 ≤ b) (ht : T.contains t = false) (u0 u1 u2 u3 u4 u5 u6 u7 : Value) :
    Kept T n0 n1 W ((((((((W.setCell ⟨b, 0, none⟩ u0).setCell ⟨b, 1, none⟩ u1).setCell ⟨b, 2, none⟩ u2).setCell ⟨b, 3, none⟩ u3).setCell ⟨b, 4, none⟩ u4).setCell ⟨b, 5, none⟩ u5).setCell ⟨b, 6, none⟩ u6).setCell ⟨b, 7, none⟩ u7) := by
  have k1 := hk.set_ 0 u0
  have k2 := k1.set_ 1 u1
  have k3 := k2.set_ 2 u2
  have k4 := k3.set_ 3 u3
  have k5 := k4.set_ 4 u4
  have k6 := k5.set_ 5 u5
  have k7 := k6.set_ 6 u6
  exact (((((((Kept.set hk hn (fun _ => ht) u0).trans (Kept.set k1 hn (fun _ => ht) u1)).trans (Kept.set k2 hn (fun _ => ht) u2)).trans (Kept.set k3 hn (fun _ => ht) u3)).trans (Kept.set k4 hn (fun _ => ht) u4)).trans (Kept.set k5 hn (fun _ => ht) u5)).trans (Kept.set k6 hn (fun _ => ht) u6)).trans (Kept.set k7 hn (fun _ => ht) u7)
theorem kFn_block : kFn kBlock = .func (.func 142) #[] #[] := by kernel_rfl
theorem kFn_series : kFn kSeries = .func (.func 143) #[] #[] := by kernel_rfl
theorem kFn_shunt : kFn kShunt = .func (.func 144) #[] #[] := by kernel_rfl
theorem kFn_trap : kFn kTrap = .func (.func 145) #[] #[] := by kernel_rfl
theorem kDiv_block : kDiv kBlock = true := by kernel_rfl
theorem kDiv_series : kDiv kSeries = false := by kernel_rfl
theorem kDiv_shunt : kDiv kShunt = false := by kernel_rfl
theorem kDiv_trap : kDiv kTrap = true := by kernel_rfl
theorem mat_block {x : El} (h : x.kind = kBlock) (v : G) : x.mat v = ⟨v, .one, .zero, v⟩ := by unfold El.mat; rw [h, if_neg (by decide), if_neg (by decide), if_pos rfl]
theorem mat_series {x : El} (h : x.kind = kSeries) (v : G) : x.mat v = ⟨.one, v, .zero, .one⟩ := by unfold El.mat; rw [h, if_pos rfl]
theorem mat_shunt {x : El} (h : x.kind = kShunt) (v : G) : x.mat v = ⟨.one, .zero, v, .one⟩ := by unfold El.mat; rw [h, if_neg (by decide), if_pos rfl]
theorem mat_trap {x : El} (h : x.kind = kTrap) (v : G) : x.mat v = ⟨v, .zero, .one, v⟩ := by unfold El.mat; rw [h, if_neg (by decide), if_neg (by decide), if_neg (by decide)]
theorem chn_snoc (f : Int) (l : List El) (x : El) : chn f .id (l ++ [x]) = (chn f .id l).mul (x.mat (x.val f)) := by simp [chn]
theorem dvs_snoc (f : Int) (l : List El) (x : El) : dvs f .one (l ++ [x]) = if x.divides then (dvs f .one l).mul (x.val f) else dvs f .one l := by simp [dvs]

/-- The invariant of the loop in chain. -/
def ChI (w : World) (bm bd : Nat) (f : Int) (pre : List El) (W : World) : Prop :=
  Blk W bm 73 #[.int .i64 (chn f .id pre).a.re, .int .i64 (chn f .id pre).a.im, .int .i64 (chn f .id pre).b.re, .int .i64 (chn f .id pre).b.im, .int .i64 (chn f .id pre).c.re, .int .i64 (chn f .id pre).c.im, .int .i64 (chn f .id pre).d.re, .int .i64 (chn f .id pre).d.im] ∧ Blk W bd 23 #[.int .i64 (dvs f .one pre).re, .int .i64 (dvs f .one pre).im] ∧ Blk W w.heap.size 73 #[.int .i64 0, .int .i64 0, .int .i64 0, .int .i64 0, .int .i64 0, .int .i64 0, .int .i64 0, .int .i64 0] ∧ Blk W (w.heap.size + 1) 23 #[.int .i64 0, .int .i64 0] ∧ Below w.heap.size w W
theorem chI_hush {w : World} {bm bd : Nat} {f : Int} {n1 nC : Nat} (hC : w.heap.size ≤ nC) (h1 : w.heap.size ≤ n1) {T : List TypeId} (hT : T.contains 73 = false) (hT2 : T.contains 23 = false) (s : List El) (A B : World) (h : ChI w bm bd f s A) (hh : Hush T n1 nC A B) : ChI w bm bd f s B := by
  obtain ⟨a, b, c, d, e⟩ := h
  exact ⟨hh.blk a (fun _ => hT), hh.blk b (fun _ => hT2), hh.blk c (fun _ => hT), hh.blk d (fun _ => hT2), hh.below e h1 hC (Nat.le_refl _)⟩
theorem ChI.below {w W W' : World} {bm bd : Nat} {f : Int} {s : List El} (h : ChI w bm bd f s W) (hb : Below W.heap.size W W') : ChI w bm bd f s W' := by
  obtain ⟨a, b, c, d, e⟩ := h
  exact ⟨carryK a hb, carryK b hb, carryK c hb, carryK d hb, below_step e hb e.size⟩

set_option maxHeartbeats 4000000 in
theorem chainF_in (n : Nat) (hn : 3 ≤ n) (l : List El) (f : Int) (A : Option Addr) (m c : Nat) (w : World) (hC : Con w) (hok : ∀ x ∈ l, x.Ok) (hl5 : l.length ≤ 5) (hf1 : 1 ≤ f) (hf8 : f ≤ 8) (hm : m ≤ 1000000000000) (hR : Reads w w.heap.size 3 A m (els l)) :
    CallsIn Fence.wide n Tryz.prog 108 #[.slice A m c, .int .i64 f] w fun e w' => e = .returned (.tuple #[.agg #[.int .i64 (chn f .id l).a.re, .int .i64 (chn f .id l).a.im, .int .i64 (chn f .id l).b.re, .int .i64 (chn f .id l).b.im, .int .i64 (chn f .id l).c.re, .int .i64 (chn f .id l).c.im, .int .i64 (chn f .id l).d.re, .int .i64 (chn f .id l).d.im], .agg #[.int .i64 (dvs f .one l).re, .int .i64 (dvs f .one l).im]]) ∧ Below w.heap.size w w' := by
  refine callsIn_of_wp_marks Tryz.func108 rfl trivial ?_ rfl
  simp only [Tryz.ntmps108, List.size_toArray, List.length_cons, List.length_nil, Nat.reduceAdd, Nat.reduceSub, Array.replicate_succ, Array.replicate_zero, List.push_toArray, List.append_toArray, List.nil_append, List.cons_append]
  gi_upto_region 1 with (fail)
  obtain ⟨w1, e1, hb1, hz1, k0, k1⟩ := box2 w #[.int .i64 0, .int .i64 0, .int .i64 0, .int .i64 0, .int .i64 0, .int .i64 0, .int .i64 0, .int .i64 0] #[.int .i64 0, .int .i64 0] 73 23
  rw [← e1]; clear e1
  obtain ⟨hgn, n0, n1, hgo, o0, o1⟩ := hC.carry hb1
  gi_cut [6, 7] from 10 (fun s6 s7 wx => ∃ bm bd : Nat, s6 = .pointer (some ⟨bm, 0, none⟩) ∧ s7 = .pointer (some ⟨bd, 0, none⟩) ∧ w1.heap.size ≤ bm ∧ w1.heap.size ≤ bd ∧ bm ≠ bd ∧ Blk wx bm 73 #[.int .i64 Mat.id.a.re, .int .i64 Mat.id.a.im, .int .i64 Mat.id.b.re, .int .i64 Mat.id.b.im, .int .i64 Mat.id.c.re, .int .i64 Mat.id.c.im, .int .i64 Mat.id.d.re, .int .i64 Mat.id.d.im] ∧ Blk wx bd 23 #[.int .i64 G.one.re, .int .i64 G.one.im] ∧ Below w1.heap.size w1 wx)
  case first =>
    gi_region
    all_goals (gi_wp2; gi_meet)
    · refine ⟨w1.heap.size, w1.heap.size + 1, rfl, rfl, by omega, by omega, by omega, ?_, ?_, (by repeat (first | exact Below.refl _ _ | exact Below.refl _ _ | refine Below.drew ?_ | refine below_drewN ?_ _ | refine below_set ?_ (by omega) _ | refine below_new ?_ (by omega) _))⟩
      · exact (Blk.alloc (Blk.new _ _ _) _).drew
      · have h := Blk.new (w1.alloc (.cells #[.int .i64 Mat.id.a.re, .int .i64 Mat.id.a.im, .int .i64 Mat.id.b.re, .int .i64 Mat.id.b.im, .int .i64 Mat.id.c.re, .int .i64 Mat.id.c.im, .int .i64 Mat.id.d.re, .int .i64 Mat.id.d.im] 73)) 23 #[.int .i64 G.one.re, .int .i64 G.one.im]
        rw [World.size_alloc] at h
        exact h.drew
    · refine ⟨w1.heap.size + 1, w1.heap.size, rfl, rfl, by omega, by omega, by omega, ?_, ?_, (by repeat (first | exact Below.refl _ _ | exact Below.refl _ _ | refine Below.drew ?_ | refine below_drewN ?_ _ | refine below_set ?_ (by omega) _ | refine below_new ?_ (by omega) _))⟩
      · have h := Blk.new (w1.alloc (.cells #[.int .i64 G.one.re, .int .i64 G.one.im] 23)) 73 #[.int .i64 Mat.id.a.re, .int .i64 Mat.id.a.im, .int .i64 Mat.id.b.re, .int .i64 Mat.id.b.im, .int .i64 Mat.id.c.re, .int .i64 Mat.id.c.im, .int .i64 Mat.id.d.re, .int .i64 Mat.id.d.im]
        rw [World.size_alloc] at h
        exact h.drew
      · exact (Blk.alloc (Blk.new _ _ _) _).drew
  case rest =>
    obtain ⟨bm, bd, rfl, rfl, hm1, hd1, hmd, kM, kD, hb2⟩ := hcut
    rename World => w2
    have p0 := k0.below hb2 k0.lt
    have p1 := k1.below hb2 k1.lt
    have hbw2 : Below w.heap.size w w2 := below_next hb1 hb2
    have lM := kM.lt
    have lD := kD.lt
    clear n0 n1 o0 o1 k0 k1
    gi_wp2
    refine ⟨trivial, fun _ => by omega, ?_⟩
    refine (values_in (n - 1) f A m c _).mono ?_
    rintro e w3 ⟨rfl, hb3, hz3, q0, q1⟩
    have hbb : Below w.heap.size w w3 := below_next hbw2 hb3
    have hs2 := hb2.size
    have hI0 : ChI w bm bd f [] w3 := ⟨carryK kM hb3, carryK kD hb3, carryK p0 hb3, carryK p1 hb3, hbb⟩
    have HC := hide hC
    gi_wp2
    refine wpIn_rangeAll (by omega) (gf := 161) (lb := #[.pointer (some ⟨w2.heap.size, 0, none⟩), .pointer (some ⟨w2.heap.size + 1, 0, none⟩)]) rfl (enters_of Tryz.func161 (by kernel_rfl) rfl)
      (values_all (n - 1) (by omega) _ _ w.heap.size w2.heap.size f A m c l hok hf1 hf8 hm w3 q0 q1 (by omega) (hR.below hbb) hbb.size hb3.size) hbb.size (fun _ => rfl)
      (ChI w bm bd f) (fun s A B h hh => chI_hush hbb.size (by omega) rfl rfl s A B h hh) hI0
      (fun pre x b W => ChI w bm bd f pre W ∧ ∃ Bk Bv, w2.heap.size ≤ Bv ∧ Blk W Bk 138 #[.string (kDual x.kind), .bool (kDiv x.kind), kFn x.kind] ∧ Blk W Bv 23 #[.int .i64 x.a, .int .i64 (f * x.b)] ∧ b = { tmps := #[.slice A m c, .int .i64 f, undef, undef, .pointer (some ⟨w.heap.size, 0, none⟩), .pointer (some ⟨w.heap.size + 1, 0, none⟩), .pointer (some ⟨bm, 0, none⟩), .pointer (some ⟨bd, 0, none⟩), .pointer (some ⟨Bk, 0, none⟩), .pointer (some ⟨Bv, 0, none⟩), u10, u11, u12, u13, u14, u15, .slice A m c, .int .i64 f, .func (.func 161) #[] #[.pointer (some ⟨w2.heap.size, 0, none⟩), .pointer (some ⟨w2.heap.size + 1, 0, none⟩)], .agg #[.string (kDual x.kind), .bool (kDiv x.kind), kFn x.kind], .agg #[.int .i64 x.a, .int .i64 (f * x.b)], u21, u22, u23, u24, u25, u26, u27, u28, u29, u30, u31, u32, u33], defers := [] })
      (fun pre x b A B h hh => ⟨chI_hush hbb.size (by omega) rfl rfl _ _ _ h.1 hh, by obtain ⟨_, Bk, Bv, h1, h2, h3, h4⟩ := h; exact ⟨Bk, Bv, h1, hh.blk h2 (fun _ => rfl), hh.blk h3 (fun _ => rfl), h4⟩⟩)
      ?assign ?body ?done
    case assign =>
      intro lp pre x W hW hI hnx
      have hIs := hI
      obtain ⟨_, _, _, _, h5⟩ := hI
      have hx := hok x (by obtain ⟨k, _, hxk⟩ := hnx; exact List.mem_of_getElem? hxk)
      have hn4 := h5.size
      have hs3 := hb3.size
      have hK := fun v : Value => (Blk.new W 138 #[.string (kDual x.kind), .bool (kDiv x.kind), v]).alloc (.cells #[.int .i64 x.a, .int .i64 (f * x.b)] 23)
      have hG := fun v : Value => (by
        have h := Blk.new (W.alloc (.cells #[.string (kDual x.kind), .bool (kDiv x.kind), v] 138)) 23 #[.int .i64 x.a, .int .i64 (f * x.b)]
        rwa [World.size_alloc] at h : Blk ((W.alloc (.cells #[.string (kDual x.kind), .bool (kDiv x.kind), v] 138)).alloc (.cells #[.int .i64 x.a, .int .i64 (f * x.b)] 23)) (W.heap.size + 1) 23 #[.int .i64 x.a, .int .i64 (f * x.b)])
      have HKK := hide hK
      have HGG := hide hG
      clear hK hG
      rcases El.kinds hx.kn with hkd | hkd | hkd | hkd
      · have ek := kFn_block
        rw [← hkd] at ek
        clear hkd
        have hst := fun a w m => run_store Tryz.prog w a (kFn x.kind) m (kFn_one _)
        unfold encV
        rw [ek] at hst ⊢
        gi_wp2
        (try simp only [ek])
        exact ⟨(Kept.alloc W hn4 _).trans (Kept.alloc _ (by simp; omega) _), (hIs.below ((Below.refl _ _).alloc (Nat.le_refl _) _)).below ((Below.refl _ _).alloc (Nat.le_refl _) _), W.heap.size, W.heap.size + 1, by omega, HKK.out _, HGG.out _, rfl⟩
      · have ek := kFn_series
        rw [← hkd] at ek
        clear hkd
        have hst := fun a w m => run_store Tryz.prog w a (kFn x.kind) m (kFn_one _)
        unfold encV
        rw [ek] at hst ⊢
        gi_wp2
        (try simp only [ek])
        exact ⟨(Kept.alloc W hn4 _).trans (Kept.alloc _ (by simp; omega) _), (hIs.below ((Below.refl _ _).alloc (Nat.le_refl _) _)).below ((Below.refl _ _).alloc (Nat.le_refl _) _), W.heap.size, W.heap.size + 1, by omega, HKK.out _, HGG.out _, rfl⟩
      · have ek := kFn_shunt
        rw [← hkd] at ek
        clear hkd
        have hst := fun a w m => run_store Tryz.prog w a (kFn x.kind) m (kFn_one _)
        unfold encV
        rw [ek] at hst ⊢
        gi_wp2
        (try simp only [ek])
        exact ⟨(Kept.alloc W hn4 _).trans (Kept.alloc _ (by simp; omega) _), (hIs.below ((Below.refl _ _).alloc (Nat.le_refl _) _)).below ((Below.refl _ _).alloc (Nat.le_refl _) _), W.heap.size, W.heap.size + 1, by omega, HKK.out _, HGG.out _, rfl⟩
      · have ek := kFn_trap
        rw [← hkd] at ek
        clear hkd
        have hst := fun a w m => run_store Tryz.prog w a (kFn x.kind) m (kFn_one _)
        unfold encV
        rw [ek] at hst ⊢
        gi_wp2
        (try simp only [ek])
        exact ⟨(Kept.alloc W hn4 _).trans (Kept.alloc _ (by simp; omega) _), (hIs.below ((Below.refl _ _).alloc (Nat.le_refl _) _)).below ((Below.refl _ _).alloc (Nat.le_refl _) _), W.heap.size, W.heap.size + 1, by omega, HKK.out _, HGG.out _, rfl⟩
    case body =>
      rintro lp pre el b W hW ⟨⟨h1, h2, h3, h4, h5⟩, Bk, Bv, hBv, kK, kV, rfl⟩ ⟨k, hpre, hxk⟩
      have hx := hok el (List.mem_of_getElem? hxk)
      have hkl : k < l.length := (List.getElem?_eq_some_iff.1 hxk).1
      have hsnoc : pre ++ [el] = l.take (k + 1) := by rw [hpre, List.take_add_one, hxk]; rfl
      have hL : LadOk (pre ++ [el]) := ⟨by rw [hsnoc, List.length_take]; omega, fun y hy => hok y (List.mem_of_mem_take (hsnoc ▸ hy))⟩
      have hIN := chain_in hL hf1 hf8
      have hDN := div_in hL hf1 hf8
      have HIN := hide hIN
      have HDN := hide hDN
      have HCW := hide (HC.out.carry (below_next h5 (Below.refl W.heap.size W)))
      clear hIN hDN hL hsnoc hpre
      rcases El.kinds hx.kn with hkd | hkd | hkd | hkd
      ·
        skip
        rw [hkd, kFn_block, kDiv_block] at kK
        have em := mat_block hkd (el.val f)
        have hprod : ((chn f .id pre).mul (el.mat (el.val f))).w = chn f .id (pre ++ [el]) := by rw [← chn_snoc]; exact HIN.out.w (by omega)
        rw [em] at hprod
        have cm := over_blk (B := W.heap.size) h1 h1.lt
        have cK := over_blk (B := W.heap.size) kK kK.lt
        have cV := over_blk (B := W.heap.size) kV kV.lt
        have HPR := hide hprod
        clear hprod
        gi_wp2
        refine wpIn_region_part lp 6 W.heap.size (by kernel_rfl) (by kernel_rfl) (by kernel_rfl) ?_; simp only [List.take_succ_cons, List.take_zero, List.drop_succ_cons, List.drop_zero]; (repeat (refine wpQuietIn_step (by first | (go_simp; done) | (exact fun _ _ _ _ => trivial)) (fun K hK => ?_); go_simp; first | (refine hK _ ?_; clear hK K) | (apply Exists.intro; refine ⟨fun _ => ⟨fun h => absurd h (by decide), ?_⟩, hK _ ?_⟩; (first | (gi_at_call 142; exact callsIn_wide.2 (over_call (Nat.le_refl _) (kFn1_any (el.val f) _ ((HCW.out).carry (over_below _ _ _))))) | (gi_at_call 130; exact callsIn_wide.2 (over_call (Nat.le_refl _) (product_any (chn f .id pre) ⟨el.val f, .one, .zero, el.val f⟩ _)))); clear hK K))); refine wpQuietIn_nil ?_; rintro Wx ⟨x, rfl⟩
        have hbY := over_below W.heap.size W x
        generalize over W.heap.size W x = Y at hbY ⊢
        clear cm cK cV
        rw [HPR.out]
        have g1 := carryK h1 hbY
        have g2 := carryK h2 hbY
        have g3 := carryK h3 hbY
        have g4 := carryK h4 hbY
        have gK := carryK kK hbY
        have gV := carryK kV hbY
        have hb5 := below_step h5 hbY h5.size
        have kY := Kept.of_below (T := valT) (n0 := w.heap.size) (n1 := w2.heap.size) hbY h5.size
        have c1 := g1.cell
        have f1 := g1.frozen
        gi_upto_region 6 with (fail)
        obtain ⟨Z, eZ, z1, zs, zf, zb⟩ := set8 Y bm 73 _ _ _ _ _ _ _ _ (.int .i64 (chn f .id (pre ++ [el])).a.re) (.int .i64 (chn f .id (pre ++ [el])).a.im) (.int .i64 (chn f .id (pre ++ [el])).b.re) (.int .i64 (chn f .id (pre ++ [el])).b.im) (.int .i64 (chn f .id (pre ++ [el])).c.re) (.int .i64 (chn f .id (pre ++ [el])).c.im) (.int .i64 (chn f .id (pre ++ [el])).d.re) (.int .i64 (chn f .id (pre ++ [el])).d.im) g1
        have kZ := kept8 (T := valT) (n0 := w.heap.size) (n1 := w2.heap.size) g1 (by omega) rfl (.int .i64 (chn f .id (pre ++ [el])).a.re) (.int .i64 (chn f .id (pre ++ [el])).a.im) (.int .i64 (chn f .id (pre ++ [el])).b.re) (.int .i64 (chn f .id (pre ++ [el])).b.im) (.int .i64 (chn f .id (pre ++ [el])).c.re) (.int .i64 (chn f .id (pre ++ [el])).c.im) (.int .i64 (chn f .id (pre ++ [el])).d.re) (.int .i64 (chn f .id (pre ++ [el])).d.im)
        rw [← eZ] at kZ ⊢
        clear eZ c1 f1
        have z2 := zf _ _ _ (fun e => hmd e.symm) g2
        have z3 := zf _ _ _ (by omega) g3
        have z4 := zf _ _ _ (by omega) g4
        have zK := zf _ _ _ (Blk.ne_ gK g1 (by decide)) gK
        have zV := zf _ _ _ (by omega) gV
        have bZ := zb _ _ (by omega) hb5
        have kWZ := kY.trans kZ
        have cK := zK.cell
        have hdv : ((dvs f .one pre).mul (el.val f)).w = dvs f .one (pre ++ [el]) := by
          have hd1 : dvs f .one (pre ++ [el]) = (dvs f .one pre).mul (el.val f) := by rw [dvs_snoc, if_pos (by show kDiv el.kind = true; rw [hkd]; decide)]
          rw [← hd1]; exact G.w_in (by have := HDN.out; omega)
        have HDV := hide hdv
        clear hdv
        have cD := z2.cell
        have cV := zV.cell
        gi_wp2_with (refine ⟨trivial, fun h => absurd h (by decide), ?_⟩; gi_at_call 85; refine (CallsIn.inRound lp (callsIn_wide.2 (times_any (dvs f .one pre) (el.val f) _))).mono ?_; rintro e w5 ⟨rfl, hb6⟩; have y2 := carryK z2 hb6; have cD2 := y2.cell; have fD2 := y2.frozen; rw [HDV.out])
        exact ⟨(kWZ.trans (Kept.of_below hb6 bZ.size)).trans (kept2 y2 (by omega) rfl _ _), far2 (carryK z1 hb6) hmd, blk2 y2, far2 (carryK z3 hb6) (by omega), far2 (carryK z4 hb6) (by omega), below2 (below_step bZ hb6 bZ.size) (by omega)⟩
      ·
        skip
        rw [hkd, kFn_series, kDiv_series] at kK
        have em := mat_series hkd (el.val f)
        have hprod : ((chn f .id pre).mul (el.mat (el.val f))).w = chn f .id (pre ++ [el]) := by rw [← chn_snoc]; exact HIN.out.w (by omega)
        rw [em] at hprod
        have cm := over_blk (B := W.heap.size) h1 h1.lt
        have cK := over_blk (B := W.heap.size) kK kK.lt
        have cV := over_blk (B := W.heap.size) kV kV.lt
        have HPR := hide hprod
        clear hprod
        gi_wp2
        refine wpIn_region_part lp 6 W.heap.size (by kernel_rfl) (by kernel_rfl) (by kernel_rfl) ?_; simp only [List.take_succ_cons, List.take_zero, List.drop_succ_cons, List.drop_zero]; (repeat (refine wpQuietIn_step (by first | (go_simp; done) | (exact fun _ _ _ _ => trivial)) (fun K hK => ?_); go_simp; first | (refine hK _ ?_; clear hK K) | (apply Exists.intro; refine ⟨fun _ => ⟨fun h => absurd h (by decide), ?_⟩, hK _ ?_⟩; (first | (gi_at_call 143; exact callsIn_wide.2 (over_call (Nat.le_refl _) (kFn2_any (el.val f) _ ((HCW.out).carry (over_below _ _ _))))) | (gi_at_call 130; exact callsIn_wide.2 (over_call (Nat.le_refl _) (product_any (chn f .id pre) ⟨.one, el.val f, .zero, .one⟩ _)))); clear hK K))); refine wpQuietIn_nil ?_; rintro Wx ⟨x, rfl⟩
        have hbY := over_below W.heap.size W x
        generalize over W.heap.size W x = Y at hbY ⊢
        clear cm cK cV
        rw [HPR.out]
        have g1 := carryK h1 hbY
        have g2 := carryK h2 hbY
        have g3 := carryK h3 hbY
        have g4 := carryK h4 hbY
        have gK := carryK kK hbY
        have gV := carryK kV hbY
        have hb5 := below_step h5 hbY h5.size
        have kY := Kept.of_below (T := valT) (n0 := w.heap.size) (n1 := w2.heap.size) hbY h5.size
        have c1 := g1.cell
        have f1 := g1.frozen
        gi_upto_region 6 with (fail)
        obtain ⟨Z, eZ, z1, zs, zf, zb⟩ := set8 Y bm 73 _ _ _ _ _ _ _ _ (.int .i64 (chn f .id (pre ++ [el])).a.re) (.int .i64 (chn f .id (pre ++ [el])).a.im) (.int .i64 (chn f .id (pre ++ [el])).b.re) (.int .i64 (chn f .id (pre ++ [el])).b.im) (.int .i64 (chn f .id (pre ++ [el])).c.re) (.int .i64 (chn f .id (pre ++ [el])).c.im) (.int .i64 (chn f .id (pre ++ [el])).d.re) (.int .i64 (chn f .id (pre ++ [el])).d.im) g1
        have kZ := kept8 (T := valT) (n0 := w.heap.size) (n1 := w2.heap.size) g1 (by omega) rfl (.int .i64 (chn f .id (pre ++ [el])).a.re) (.int .i64 (chn f .id (pre ++ [el])).a.im) (.int .i64 (chn f .id (pre ++ [el])).b.re) (.int .i64 (chn f .id (pre ++ [el])).b.im) (.int .i64 (chn f .id (pre ++ [el])).c.re) (.int .i64 (chn f .id (pre ++ [el])).c.im) (.int .i64 (chn f .id (pre ++ [el])).d.re) (.int .i64 (chn f .id (pre ++ [el])).d.im)
        rw [← eZ] at kZ ⊢
        clear eZ c1 f1
        have z2 := zf _ _ _ (fun e => hmd e.symm) g2
        have z3 := zf _ _ _ (by omega) g3
        have z4 := zf _ _ _ (by omega) g4
        have zK := zf _ _ _ (Blk.ne_ gK g1 (by decide)) gK
        have zV := zf _ _ _ (by omega) gV
        have bZ := zb _ _ (by omega) hb5
        have kWZ := kY.trans kZ
        have cK := zK.cell
        gi_wp2
        refine ⟨kWZ, z1, ?_, z3, z4, bZ⟩
        rw [dvs_snoc, if_neg (by show ¬ kDiv el.kind = true; rw [hkd]; decide)]
        exact z2
      ·
        skip
        rw [hkd, kFn_shunt, kDiv_shunt] at kK
        have em := mat_shunt hkd (el.val f)
        have hprod : ((chn f .id pre).mul (el.mat (el.val f))).w = chn f .id (pre ++ [el]) := by rw [← chn_snoc]; exact HIN.out.w (by omega)
        rw [em] at hprod
        have cm := over_blk (B := W.heap.size) h1 h1.lt
        have cK := over_blk (B := W.heap.size) kK kK.lt
        have cV := over_blk (B := W.heap.size) kV kV.lt
        have HPR := hide hprod
        clear hprod
        gi_wp2
        refine wpIn_region_part lp 6 W.heap.size (by kernel_rfl) (by kernel_rfl) (by kernel_rfl) ?_; simp only [List.take_succ_cons, List.take_zero, List.drop_succ_cons, List.drop_zero]; (repeat (refine wpQuietIn_step (by first | (go_simp; done) | (exact fun _ _ _ _ => trivial)) (fun K hK => ?_); go_simp; first | (refine hK _ ?_; clear hK K) | (apply Exists.intro; refine ⟨fun _ => ⟨fun h => absurd h (by decide), ?_⟩, hK _ ?_⟩; (first | (gi_at_call 144; exact callsIn_wide.2 (over_call (Nat.le_refl _) (kFn3_any (el.val f) _ ((HCW.out).carry (over_below _ _ _))))) | (gi_at_call 130; exact callsIn_wide.2 (over_call (Nat.le_refl _) (product_any (chn f .id pre) ⟨.one, .zero, el.val f, .one⟩ _)))); clear hK K))); refine wpQuietIn_nil ?_; rintro Wx ⟨x, rfl⟩
        have hbY := over_below W.heap.size W x
        generalize over W.heap.size W x = Y at hbY ⊢
        clear cm cK cV
        rw [HPR.out]
        have g1 := carryK h1 hbY
        have g2 := carryK h2 hbY
        have g3 := carryK h3 hbY
        have g4 := carryK h4 hbY
        have gK := carryK kK hbY
        have gV := carryK kV hbY
        have hb5 := below_step h5 hbY h5.size
        have kY := Kept.of_below (T := valT) (n0 := w.heap.size) (n1 := w2.heap.size) hbY h5.size
        have c1 := g1.cell
        have f1 := g1.frozen
        gi_upto_region 6 with (fail)
        obtain ⟨Z, eZ, z1, zs, zf, zb⟩ := set8 Y bm 73 _ _ _ _ _ _ _ _ (.int .i64 (chn f .id (pre ++ [el])).a.re) (.int .i64 (chn f .id (pre ++ [el])).a.im) (.int .i64 (chn f .id (pre ++ [el])).b.re) (.int .i64 (chn f .id (pre ++ [el])).b.im) (.int .i64 (chn f .id (pre ++ [el])).c.re) (.int .i64 (chn f .id (pre ++ [el])).c.im) (.int .i64 (chn f .id (pre ++ [el])).d.re) (.int .i64 (chn f .id (pre ++ [el])).d.im) g1
        have kZ := kept8 (T := valT) (n0 := w.heap.size) (n1 := w2.heap.size) g1 (by omega) rfl (.int .i64 (chn f .id (pre ++ [el])).a.re) (.int .i64 (chn f .id (pre ++ [el])).a.im) (.int .i64 (chn f .id (pre ++ [el])).b.re) (.int .i64 (chn f .id (pre ++ [el])).b.im) (.int .i64 (chn f .id (pre ++ [el])).c.re) (.int .i64 (chn f .id (pre ++ [el])).c.im) (.int .i64 (chn f .id (pre ++ [el])).d.re) (.int .i64 (chn f .id (pre ++ [el])).d.im)
        rw [← eZ] at kZ ⊢
        clear eZ c1 f1
        have z2 := zf _ _ _ (fun e => hmd e.symm) g2
        have z3 := zf _ _ _ (by omega) g3
        have z4 := zf _ _ _ (by omega) g4
        have zK := zf _ _ _ (Blk.ne_ gK g1 (by decide)) gK
        have zV := zf _ _ _ (by omega) gV
        have bZ := zb _ _ (by omega) hb5
        have kWZ := kY.trans kZ
        have cK := zK.cell
        gi_wp2
        refine ⟨kWZ, z1, ?_, z3, z4, bZ⟩
        rw [dvs_snoc, if_neg (by show ¬ kDiv el.kind = true; rw [hkd]; decide)]
        exact z2
      ·
        skip
        rw [hkd, kFn_trap, kDiv_trap] at kK
        have em := mat_trap hkd (el.val f)
        have hprod : ((chn f .id pre).mul (el.mat (el.val f))).w = chn f .id (pre ++ [el]) := by rw [← chn_snoc]; exact HIN.out.w (by omega)
        rw [em] at hprod
        have cm := over_blk (B := W.heap.size) h1 h1.lt
        have cK := over_blk (B := W.heap.size) kK kK.lt
        have cV := over_blk (B := W.heap.size) kV kV.lt
        have HPR := hide hprod
        clear hprod
        gi_wp2
        refine wpIn_region_part lp 6 W.heap.size (by kernel_rfl) (by kernel_rfl) (by kernel_rfl) ?_; simp only [List.take_succ_cons, List.take_zero, List.drop_succ_cons, List.drop_zero]; (repeat (refine wpQuietIn_step (by first | (go_simp; done) | (exact fun _ _ _ _ => trivial)) (fun K hK => ?_); go_simp; first | (refine hK _ ?_; clear hK K) | (apply Exists.intro; refine ⟨fun _ => ⟨fun h => absurd h (by decide), ?_⟩, hK _ ?_⟩; (first | (gi_at_call 145; exact callsIn_wide.2 (over_call (Nat.le_refl _) (kFn4_any (el.val f) _ ((HCW.out).carry (over_below _ _ _))))) | (gi_at_call 130; exact callsIn_wide.2 (over_call (Nat.le_refl _) (product_any (chn f .id pre) ⟨el.val f, .zero, .one, el.val f⟩ _)))); clear hK K))); refine wpQuietIn_nil ?_; rintro Wx ⟨x, rfl⟩
        have hbY := over_below W.heap.size W x
        generalize over W.heap.size W x = Y at hbY ⊢
        clear cm cK cV
        rw [HPR.out]
        have g1 := carryK h1 hbY
        have g2 := carryK h2 hbY
        have g3 := carryK h3 hbY
        have g4 := carryK h4 hbY
        have gK := carryK kK hbY
        have gV := carryK kV hbY
        have hb5 := below_step h5 hbY h5.size
        have kY := Kept.of_below (T := valT) (n0 := w.heap.size) (n1 := w2.heap.size) hbY h5.size
        have c1 := g1.cell
        have f1 := g1.frozen
        gi_upto_region 6 with (fail)
        obtain ⟨Z, eZ, z1, zs, zf, zb⟩ := set8 Y bm 73 _ _ _ _ _ _ _ _ (.int .i64 (chn f .id (pre ++ [el])).a.re) (.int .i64 (chn f .id (pre ++ [el])).a.im) (.int .i64 (chn f .id (pre ++ [el])).b.re) (.int .i64 (chn f .id (pre ++ [el])).b.im) (.int .i64 (chn f .id (pre ++ [el])).c.re) (.int .i64 (chn f .id (pre ++ [el])).c.im) (.int .i64 (chn f .id (pre ++ [el])).d.re) (.int .i64 (chn f .id (pre ++ [el])).d.im) g1
        have kZ := kept8 (T := valT) (n0 := w.heap.size) (n1 := w2.heap.size) g1 (by omega) rfl (.int .i64 (chn f .id (pre ++ [el])).a.re) (.int .i64 (chn f .id (pre ++ [el])).a.im) (.int .i64 (chn f .id (pre ++ [el])).b.re) (.int .i64 (chn f .id (pre ++ [el])).b.im) (.int .i64 (chn f .id (pre ++ [el])).c.re) (.int .i64 (chn f .id (pre ++ [el])).c.im) (.int .i64 (chn f .id (pre ++ [el])).d.re) (.int .i64 (chn f .id (pre ++ [el])).d.im)
        rw [← eZ] at kZ ⊢
        clear eZ c1 f1
        have z2 := zf _ _ _ (fun e => hmd e.symm) g2
        have z3 := zf _ _ _ (by omega) g3
        have z4 := zf _ _ _ (by omega) g4
        have zK := zf _ _ _ (Blk.ne_ gK g1 (by decide)) gK
        have zV := zf _ _ _ (by omega) gV
        have bZ := zb _ _ (by omega) hb5
        have kWZ := kY.trans kZ
        have cK := zK.cell
        have hdv : ((dvs f .one pre).mul (el.val f)).w = dvs f .one (pre ++ [el]) := by
          have hd1 : dvs f .one (pre ++ [el]) = (dvs f .one pre).mul (el.val f) := by rw [dvs_snoc, if_pos (by show kDiv el.kind = true; rw [hkd]; decide)]
          rw [← hd1]; exact G.w_in (by have := HDN.out; omega)
        have HDV := hide hdv
        clear hdv
        have cD := z2.cell
        have cV := zV.cell
        gi_wp2_with (refine ⟨trivial, fun h => absurd h (by decide), ?_⟩; gi_at_call 85; refine (CallsIn.inRound lp (callsIn_wide.2 (times_any (dvs f .one pre) (el.val f) _))).mono ?_; rintro e w5 ⟨rfl, hb6⟩; have y2 := carryK z2 hb6; have cD2 := y2.cell; have fD2 := y2.frozen; rw [HDV.out])
        exact ⟨(kWZ.trans (Kept.of_below hb6 bZ.size)).trans (kept2 y2 (by omega) rfl _ _), far2 (carryK z1 hb6) hmd, blk2 y2, far2 (carryK z3 hb6) (by omega), far2 (carryK z4 hb6) (by omega), below2 (below_step bZ hb6 bZ.size) (by omega)⟩
    case done =>
      rintro D ys W hD rfl ⟨h1, h2, h3, h4, h5⟩ hK
      have c1 := h1.cell
      have c2 := h2.cell
      have c3 := h3.cell
      have f3 := h3.frozen
      have c4 := h4.cell
      have f4 := h4.frozen
      gi_wp2
      gi_region
      obtain ⟨Z, eZ, z1, zs, zf, zb⟩ := set8 W w.heap.size 73 _ _ _ _ _ _ _ _ (.int .i64 (chn f .id ys).a.re) (.int .i64 (chn f .id ys).a.im) (.int .i64 (chn f .id ys).b.re) (.int .i64 (chn f .id ys).b.im) (.int .i64 (chn f .id ys).c.re) (.int .i64 (chn f .id ys).c.im) (.int .i64 (chn f .id ys).d.re) (.int .i64 (chn f .id ys).d.im) h3
      have zk := kept8 (T := []) (n0 := 0) (n1 := 0) h3 (Nat.zero_le _) rfl (.int .i64 (chn f .id ys).a.re) (.int .i64 (chn f .id ys).a.im) (.int .i64 (chn f .id ys).b.re) (.int .i64 (chn f .id ys).b.im) (.int .i64 (chn f .id ys).c.re) (.int .i64 (chn f .id ys).c.im) (.int .i64 (chn f .id ys).d.re) (.int .i64 (chn f .id ys).d.im)
      rw [← eZ] at zk ⊢
      have y4 := zf _ _ _ (by omega) h4
      have zk2 := kept2 (T := []) (n0 := 0) (n1 := 0) y4 (Nat.zero_le _) rfl (.int .i64 (dvs f .one ys).re) (.int .i64 (dvs f .one ys).im)
      have hKZ := (zk.trans zk2).others.same D _ hK rfl
      have vb := below2 (u0 := .int .i64 (dvs f .one ys).re) (u1 := .int .i64 (dvs f .one ys).im) (zb _ _ (Nat.le_refl _) h5) (show w.heap.size ≤ w.heap.size + 1 by omega)
      have v1 := far2 (u0 := .int .i64 (dvs f .one ys).re) (u1 := .int .i64 (dvs f .one ys).im) z1 (show w.heap.size ≠ w.heap.size + 1 by omega)
      have v2 := blk2 (u0 := .int .i64 (dvs f .one ys).re) (u1 := .int .i64 (dvs f .one ys).im) y4
      obtain ⟨V, eV⟩ : ∃ V, V = (Z.setCell ⟨w.heap.size + 1, 0, none⟩ (.int .i64 (dvs f .one ys).re)).setCell ⟨w.heap.size + 1, 1, none⟩ (.int .i64 (dvs f .one ys).im) := ⟨_, rfl⟩
      rw [← eV] at hKZ vb v1 v2 ⊢
      clear eV eZ zk zk2 c1 c2 c3 f3 c4 f4
      have ne0 : w.heap.size ≠ D := by
        rintro rfl
        unfold Blk at v1
        rw [v1] at hKZ
        cases hKZ
      have ne1 : w.heap.size + 1 ≠ D := by
        rintro rfl
        unfold Blk at v2
        rw [v2] at hKZ
        cases hKZ
      gi_wp2
      refine ⟨by simp, .inl ⟨_, _, rfl, run_takeDeferred (w := V.drew) hKZ, ?_⟩⟩
      have k5 : Blk (V.drew.putObj D (.deferred none)) w.heap.size 73 #[.int .i64 (chn f .id ys).a.re, .int .i64 (chn f .id ys).a.im, .int .i64 (chn f .id ys).b.re, .int .i64 (chn f .id ys).b.im, .int .i64 (chn f .id ys).c.re, .int .i64 (chn f .id ys).c.im, .int .i64 (chn f .id ys).d.re, .int .i64 (chn f .id ys).d.im] := (World.putObj_heap_other ne0).trans v1
      have k6 : Blk (V.drew.putObj D (.deferred none)) (w.heap.size + 1) 23 #[.int .i64 (dvs f .one ys).re, .int .i64 (dvs f .one ys).im] := (World.putObj_heap_other ne1).trans v2
      have c5 := k5.cell
      have c6 := k6.cell
      refine ⟨.tuple #[.agg #[.int .i64 (chn f .id ys).a.re, .int .i64 (chn f .id ys).a.im, .int .i64 (chn f .id ys).b.re, .int .i64 (chn f .id ys).b.im, .int .i64 (chn f .id ys).c.re, .int .i64 (chn f .id ys).c.im, .int .i64 (chn f .id ys).d.re, .int .i64 (chn f .id ys).d.im], .agg #[.int .i64 (dvs f .one ys).re, .int .i64 (dvs f .one ys).im]], by simp [results, Tryz.results108, go_sem, c5, c6], rfl, ?_⟩
      exact (vb.drew).trans (belowK_b (w := w) (Nat.le_refl _) V.drew D _ _ (by have := hbb.size; omega) hKZ rfl rfl)

theorem chain_any (l : List El) (f : Int) (A : Option Addr) (m c : Nat) (w : World) (hC : Con w) (hl : LadOk l) (hf1 : 1 ≤ f) (hf8 : f ≤ 8) (hm : m ≤ 1000000000000) (hR : Reads w w.heap.size 3 A m (els l)) :
    Calls Tryz.prog 108 #[.slice A m c, .int .i64 f] w fun e w' => e = .returned (.tuple #[.agg #[.int .i64 (chn f .id l).a.re, .int .i64 (chn f .id l).a.im, .int .i64 (chn f .id l).b.re, .int .i64 (chn f .id l).b.im, .int .i64 (chn f .id l).c.re, .int .i64 (chn f .id l).c.im, .int .i64 (chn f .id l).d.re, .int .i64 (chn f .id l).d.im], .agg #[.int .i64 (dvs f .one l).re, .int .i64 (dvs f .one l).im]]) ∧ Below w.heap.size w w' :=
  callsIn_wide.1 (chainF_in 3 (Nat.le_refl _) l f A m c w hC hl.all hl.len hf1 hf8 hm hR)
end Go.Proofs.YtnndaipnfniciaaGreatDoor

namespace Go.Proofs.YtnndaipnfniciaaGreatDoor
open Go.RowKit Go.Shelf
set_option maxRecDepth 100000

theorem at_zero {l : List El} {f : Int} (h : atErr l f = 0) : LadOk l ∧ 1 ≤ f ∧ f ≤ 8 := by
  unfold atErr at h
  rw [fnz_zero] at h
  simp only [List.mem_cons, List.not_mem_nil, or_false, forall_eq_or_imp, forall_eq] at h
  exact ⟨lad_ok h.1, (rng_zero.1 h.2).1, (rng_zero.1 h.2).2⟩
def Mat.zero : Mat := ⟨.zero, .zero, .zero, .zero⟩

set_option maxHeartbeats 2000000 in
theorem Chain_ok (l : List El) (f : Int) (A : Option Addr) (m c : Nat) (w : World) (hC : Con w) (he : atErr l f = 0) (hm : m ≤ 1000000000000) (hR : Reads w w.heap.size 3 A m (els l)) :
    Calls Tryz.prog 38 #[.slice A m c, .int .i64 f] w fun e w' => e = .returned (.tuple #[.agg #[.int .i64 (chn f .id l).a.re, .int .i64 (chn f .id l).a.im, .int .i64 (chn f .id l).b.re, .int .i64 (chn f .id l).b.im, .int .i64 (chn f .id l).c.re, .int .i64 (chn f .id l).c.im, .int .i64 (chn f .id l).d.re, .int .i64 (chn f .id l).d.im], .int .i64 0]) ∧ Below w.heap.size w w' := by
  obtain ⟨hl, hf1, hf8⟩ := at_zero he
  have t1 : (fnz [ladErr l, rng f 1 8] != 0) = false := by rw [show fnz [ladErr l, rng f 1 8] = 0 from he]; rfl
  clear he
  go_enter Tryz.func38, Tryz.ntmps38
  go_wp2_with fail
  obtain ⟨w1, e1, hb1, hz1, k0⟩ := box1 w #[.int .i64 0, .int .i64 0, .int .i64 0, .int .i64 0, .int .i64 0, .int .i64 0, .int .i64 0, .int .i64 0] 73
  rw [← e1]; clear e1
  refine (checkLadder_any A m c l _ (carry hR hb1) hm).mono ?_
  rintro e w2 ⟨rfl, hb2⟩
  have hbw2 := below_next hb1 hb2
  have k2 := carryK k0 hb2
  go_upto_region 2 with (first | (go_at_call 89; refine (checkW_any _ _).mono ?_; rintro e W' ⟨rfl, rfl⟩) | (go_at_call 82; (first | (with_reducible (refine (first_any _ _ _ _ _ _ (reads2 _ _ _ _) (by omega)).mono ?_)) | (with_reducible (refine (first_any _ _ _ _ _ _ (Reads.drew (reads2 _ _ _ _)) (by omega)).mono ?_))); rintro e W' ⟨rfl, rfl⟩))
  obtain ⟨w3, e3, hb3, hz3, k3⟩ := box1 w2 #[.int .i64 (ladErr l), .int .i64 (rng f 1 8)] 29
  rw [← e3]; clear e3
  have hbw3 := below_next hbw2 hb3
  have k3' := carryK k2 hb3
  go_wp2_with fail
  refine (chain_any l f A m c _ (hC.carry hbw3) hl hf1 hf8 hm (carry hR hbw3)).mono ?_
  rintro e w4 ⟨rfl, hb4⟩
  have hbw4 := below_next hbw3 hb4
  have k4 := carryK k3' hb4
  go_upto_region 5 with (fail)
  obtain ⟨w5, e5, hb5, hz5, kM, kD⟩ := box2 w4 #[.int .i64 (chn f .id l).a.re, .int .i64 (chn f .id l).a.im, .int .i64 (chn f .id l).b.re, .int .i64 (chn f .id l).b.im, .int .i64 (chn f .id l).c.re, .int .i64 (chn f .id l).c.im, .int .i64 (chn f .id l).d.re, .int .i64 (chn f .id l).d.im] #[.int .i64 (dvs f .one l).re, .int .i64 (dvs f .one l).im] 73 23
  rw [← e5]; clear e5
  have hbw5 := below_next hbw4 hb5
  have k5 := carryK k4 hb5
  have c5 := k5.cell
  have f5 := k5.frozen
  have cM := kM.cell
  go_wp2_with fail
  with_reducible refine fin8 (B := w.heap.size) (v := w) 73 hbw5 (by omega) k5 (fun X hX kX => ?_)
  have cX := kX.cell
  clear c5 f5 cM
  refine bodyPost_ret (v := .tuple #[.agg #[.int .i64 (chn f .id l).a.re, .int .i64 (chn f .id l).a.im, .int .i64 (chn f .id l).b.re, .int .i64 (chn f .id l).b.im, .int .i64 (chn f .id l).c.re, .int .i64 (chn f .id l).c.im, .int .i64 (chn f .id l).d.re, .int .i64 (chn f .id l).d.im], .int .i64 0]) (by simp [results, Tryz.results38, go_sem, cX]) rfl ?_
  exact ⟨rfl, hX⟩
end Go.Proofs.YtnndaipnfniciaaGreatDoor

namespace Go.Proofs.YtnndaipnfniciaaGreatDoor
open Go.RowKit Go.Shelf
set_option maxRecDepth 100000

theorem eqG (a b : G) (w : World) : (binOp .eql 23 (.agg #[.int .i64 a.re, .int .i64 a.im]) (.agg #[.int .i64 b.re, .int .i64 b.im])).run Tryz.prog w = .ok (.bool (decide (a = b))) w := by
  have hd : decide (a = b) = (decide (a.re = b.re) && decide (a.im = b.im)) := by
    rw [Bool.eq_iff_iff]; simp only [decide_eq_true_eq, Bool.and_eq_true]
    exact ⟨fun h => by rw [h]; exact ⟨rfl, rfl⟩, fun h => G.ext' h.1 h.2⟩
  have hh : (Op.equalIn 10000 23 (.agg #[.int .i64 a.re, .int .i64 a.im]) (.agg #[.int .i64 b.re, .int .i64 b.im])).run Tryz.prog w = .ok (decide (a = b)) w := by
    rw [hd, show (10000 : Nat) = 9999 + 1 from rfl, run_equalIn_struct w 9999 23 _ _ (by kernel_rfl) (by kernel_rfl)]
    by_cases h1 : a.re = b.re <;> by_cases h2 : a.im = b.im <;> simp [Program.fieldsOf, Tryz.underlying23, Op.eqFields, go_sem, run_equalIn_int _ _ _ _ _ _ _ Tryz.underlying3, h1, h2]
  simp only [binOp, Op.equal, Op.maxDepth]
  simp [hh, go_sem]
theorem neqG (a b : G) (w : World) : (binOp .neq 23 (.agg #[.int .i64 a.re, .int .i64 a.im]) (.agg #[.int .i64 b.re, .int .i64 b.im])).run Tryz.prog w = .ok (.bool (!decide (a = b))) w := by
  have h := eqG a b w
  simp only [binOp, Op.equal, Op.maxDepth] at h ⊢
  have hd : decide (a = b) = (decide (a.re = b.re) && decide (a.im = b.im)) := by
    rw [Bool.eq_iff_iff]; simp only [decide_eq_true_eq, Bool.and_eq_true]
    exact ⟨fun h => by rw [h]; exact ⟨rfl, rfl⟩, fun h => G.ext' h.1 h.2⟩
  have hh : (Op.equalIn 10000 23 (.agg #[.int .i64 a.re, .int .i64 a.im]) (.agg #[.int .i64 b.re, .int .i64 b.im])).run Tryz.prog w = .ok (decide (a = b)) w := by
    rw [hd, show (10000 : Nat) = 9999 + 1 from rfl, run_equalIn_struct w 9999 23 _ _ (by kernel_rfl) (by kernel_rfl)]
    by_cases h1 : a.re = b.re <;> by_cases h2 : a.im = b.im <;> simp [Program.fieldsOf, Tryz.underlying23, Op.eqFields, go_sem, run_equalIn_int _ _ _ _ _ _ _ Tryz.underlying3, h1, h2]
  simp [hh, go_sem]
/-- A quotient of two complex integers. -/
structure Pr where
  n : G
  d : G
def Pr.zero : Pr := ⟨.zero, .zero⟩
def quo (a b : G) : Pr := if b = .zero then .zero else ⟨a, b⟩
def quoE (b : G) : Int := if b = .zero then 17 else 0

set_option maxHeartbeats 1000000 in
theorem quotient_any (a b : G) (w : World) (hC : Con w) :
    Calls Tryz.prog 116 #[.agg #[.int .i64 a.re, .int .i64 a.im], .agg #[.int .i64 b.re, .int .i64 b.im]] w fun e w' => e = .returned (.tuple #[.agg #[.int .i64 (quo a b).n.re, .int .i64 (quo a b).n.im, .int .i64 (quo a b).d.re, .int .i64 (quo a b).d.im], .int .i64 (quoE b)]) ∧ Below w.heap.size w w' := by
  by_cases hb : b = .zero
  · subst hb
    have h1 : quo a .zero = .zero := by unfold quo; rw [if_pos rfl]
    have h2 : quoE .zero = 17 := by unfold quoE; rw [if_pos rfl]
    have z0 : G.zero.re = 0 := rfl
    have z1 : G.zero.im = 0 := rfl
    rw [h1, h2, z0, z1]
    clear h1 h2
    clear z0 z1
    go_enter Tryz.func116, Tryz.ntmps116
    go_upto_region 1 with (fail)
    obtain ⟨w1, e1, hb1, hz1, k0, k1, k2⟩ := box3 w #[.int .i64 a.re, .int .i64 a.im] #[.int .i64 0, .int .i64 0] #[.int .i64 0, .int .i64 0, .int .i64 0, .int .i64 0] 23 23 32
    rw [← e1]; clear e1
    obtain ⟨_, n0, n1, _, _, _⟩ := hC.carry hb1
    have c0 := k0.cell
    have c1 := k1.cell
    have c2 := k2.cell
    have f2 := k2.frozen
    go_wp2_with fail
    with_reducible refine fin4 (B := w.heap.size) (v := w) 32 hb1 (by omega) k2 (fun X hX kX => ?_)
    have cX := kX.cell
    clear c0 c1 c2 f2
    refine bodyPost_ret (v := .tuple #[.agg #[.int .i64 Pr.zero.n.re, .int .i64 Pr.zero.n.im, .int .i64 Pr.zero.d.re, .int .i64 Pr.zero.d.im], .int .i64 17]) (by simp [results, Tryz.results116, go_sem, cX, Pr.zero, G.zero]) rfl ?_
    exact ⟨rfl, hX⟩
  · have h1 : quo a b = ⟨a, b⟩ := by unfold quo; rw [if_neg hb]
    have h2 : quoE b = 0 := by unfold quoE; rw [if_neg hb]
    rw [h1, h2]
    by_cases hr : b.re = 0
    · have hi : ¬ b.im = 0 := fun e => hb (G.ext' hr e)
      clear h1 h2 hb
      go_enter Tryz.func116, Tryz.ntmps116
      go_upto_region 1 with (fail)
      obtain ⟨w1, e1, hb1, hz1, k0, k1, k2⟩ := box3 w #[.int .i64 a.re, .int .i64 a.im] #[.int .i64 0, .int .i64 b.im] #[.int .i64 0, .int .i64 0, .int .i64 0, .int .i64 0] 23 23 32
      rw [← e1]; clear e1
      obtain ⟨_, n0, n1, _, _, _⟩ := hC.carry hb1
      have c0 := k0.cell
      have c1 := k1.cell
      have c2 := k2.cell
      have f2 := k2.frozen
      go_wp2_with fail
      with_reducible refine fin4 (B := w.heap.size) (v := w) 32 hb1 (by omega) k2 (fun X hX kX => ?_)
      have cX := kX.cell
      clear c0 c1 c2 f2
      refine bodyPost_ret (v := .tuple #[.agg #[.int .i64 (⟨a, b⟩ : Pr).n.re, .int .i64 (⟨a, b⟩ : Pr).n.im, .int .i64 (⟨a, b⟩ : Pr).d.re, .int .i64 (⟨a, b⟩ : Pr).d.im], .int .i64 0]) (by simp [results, Tryz.results116, go_sem, cX, hr]) rfl ?_
      exact ⟨rfl, hX⟩
    · clear h1 h2 hb
      go_enter Tryz.func116, Tryz.ntmps116
      go_upto_region 1 with (fail)
      obtain ⟨w1, e1, hb1, hz1, k0, k1, k2⟩ := box3 w #[.int .i64 a.re, .int .i64 a.im] #[.int .i64 b.re, .int .i64 b.im] #[.int .i64 0, .int .i64 0, .int .i64 0, .int .i64 0] 23 23 32
      rw [← e1]; clear e1
      obtain ⟨_, n0, n1, _, _, _⟩ := hC.carry hb1
      have c0 := k0.cell
      have c1 := k1.cell
      have c2 := k2.cell
      have f2 := k2.frozen
      go_wp2_with fail
      with_reducible refine fin4 (B := w.heap.size) (v := w) 32 hb1 (by omega) k2 (fun X hX kX => ?_)
      have cX := kX.cell
      clear c0 c1 c2 f2
      refine bodyPost_ret (v := .tuple #[.agg #[.int .i64 (⟨a, b⟩ : Pr).n.re, .int .i64 (⟨a, b⟩ : Pr).n.im, .int .i64 (⟨a, b⟩ : Pr).d.re, .int .i64 (⟨a, b⟩ : Pr).d.im], .int .i64 0]) (by simp [results, Tryz.results116, go_sem, cX]) rfl ?_
      exact ⟨rfl, hX⟩

/-! ### of, at a quotient of two entries -/
set_option maxHeartbeats 1000000 in
theorem Input1_any (p : Mat) (d : G) (w : World) (hC : Con w) :
    Calls Tryz.prog 115 #[.agg #[.int .i64 p.a.re, .int .i64 p.a.im, .int .i64 p.b.re, .int .i64 p.b.im, .int .i64 p.c.re, .int .i64 p.c.im, .int .i64 p.d.re, .int .i64 p.d.im], .agg #[.int .i64 d.re, .int .i64 d.im]] w fun e w' => e = .returned (.tuple #[.agg #[.int .i64 (quo p.a p.c).n.re, .int .i64 (quo p.a p.c).n.im, .int .i64 (quo p.a p.c).d.re, .int .i64 (quo p.a p.c).d.im], .int .i64 (quoE p.c)]) ∧ Below w.heap.size w w' := by
  go_enter Tryz.func115, Tryz.ntmps115
  go_upto_region 1 with (fail)
  obtain ⟨w1, e1, hb1, hz1, k0, k1, k2⟩ := box3 w #[.int .i64 p.a.re, .int .i64 p.a.im, .int .i64 p.b.re, .int .i64 p.b.im, .int .i64 p.c.re, .int .i64 p.c.im, .int .i64 p.d.re, .int .i64 p.d.im] #[.int .i64 d.re, .int .i64 d.im] #[.int .i64 0, .int .i64 0, .int .i64 0, .int .i64 0] 73 23 32
  rw [← e1]; clear e1
  have c0 := k0.cell
  have c1 := k1.cell
  go_wp2_with fail
  refine (quotient_any p.a p.c _ (hC.carry hb1)).mono ?_
  rintro e w2 ⟨rfl, hb2⟩
  have hbw := below_next hb1 hb2
  have k3 := carryK k2 hb2
  have c3 := k3.cell
  have f3 := k3.frozen
  clear c0 c1
  go_wp2_with fail
  with_reducible refine fin4 (B := w.heap.size) (v := w) 32 hbw (by omega) k3 (fun X hX kX => ?_)
  have cX := kX.cell
  clear c3 f3
  refine bodyPost_ret (v := .tuple #[.agg #[.int .i64 (quo p.a p.c).n.re, .int .i64 (quo p.a p.c).n.im, .int .i64 (quo p.a p.c).d.re, .int .i64 (quo p.a p.c).d.im], .int .i64 (quoE p.c)]) (by simp [results, Tryz.results115, go_sem, cX]) rfl ?_
  exact ⟨rfl, hX⟩
set_option maxHeartbeats 1000000 in
theorem Shorted1_any (p : Mat) (d : G) (w : World) (hC : Con w) :
    Calls Tryz.prog 117 #[.agg #[.int .i64 p.a.re, .int .i64 p.a.im, .int .i64 p.b.re, .int .i64 p.b.im, .int .i64 p.c.re, .int .i64 p.c.im, .int .i64 p.d.re, .int .i64 p.d.im], .agg #[.int .i64 d.re, .int .i64 d.im]] w fun e w' => e = .returned (.tuple #[.agg #[.int .i64 (quo p.b p.d).n.re, .int .i64 (quo p.b p.d).n.im, .int .i64 (quo p.b p.d).d.re, .int .i64 (quo p.b p.d).d.im], .int .i64 (quoE p.d)]) ∧ Below w.heap.size w w' := by
  go_enter Tryz.func117, Tryz.ntmps117
  go_upto_region 1 with (fail)
  obtain ⟨w1, e1, hb1, hz1, k0, k1, k2⟩ := box3 w #[.int .i64 p.a.re, .int .i64 p.a.im, .int .i64 p.b.re, .int .i64 p.b.im, .int .i64 p.c.re, .int .i64 p.c.im, .int .i64 p.d.re, .int .i64 p.d.im] #[.int .i64 d.re, .int .i64 d.im] #[.int .i64 0, .int .i64 0, .int .i64 0, .int .i64 0] 73 23 32
  rw [← e1]; clear e1
  have c0 := k0.cell
  have c1 := k1.cell
  go_wp2_with fail
  refine (quotient_any p.b p.d _ (hC.carry hb1)).mono ?_
  rintro e w2 ⟨rfl, hb2⟩
  have hbw := below_next hb1 hb2
  have k3 := carryK k2 hb2
  have c3 := k3.cell
  have f3 := k3.frozen
  clear c0 c1
  go_wp2_with fail
  with_reducible refine fin4 (B := w.heap.size) (v := w) 32 hbw (by omega) k3 (fun X hX kX => ?_)
  have cX := kX.cell
  clear c3 f3
  refine bodyPost_ret (v := .tuple #[.agg #[.int .i64 (quo p.b p.d).n.re, .int .i64 (quo p.b p.d).n.im, .int .i64 (quo p.b p.d).d.re, .int .i64 (quo p.b p.d).d.im], .int .i64 (quoE p.d)]) (by simp [results, Tryz.results117, go_sem, cX]) rfl ?_
  exact ⟨rfl, hX⟩
set_option maxHeartbeats 1000000 in
theorem Transfer1_any (p : Mat) (d : G) (w : World) (hC : Con w) :
    Calls Tryz.prog 118 #[.agg #[.int .i64 p.a.re, .int .i64 p.a.im, .int .i64 p.b.re, .int .i64 p.b.im, .int .i64 p.c.re, .int .i64 p.c.im, .int .i64 p.d.re, .int .i64 p.d.im], .agg #[.int .i64 d.re, .int .i64 d.im]] w fun e w' => e = .returned (.tuple #[.agg #[.int .i64 (quo d p.a).n.re, .int .i64 (quo d p.a).n.im, .int .i64 (quo d p.a).d.re, .int .i64 (quo d p.a).d.im], .int .i64 (quoE p.a)]) ∧ Below w.heap.size w w' := by
  go_enter Tryz.func118, Tryz.ntmps118
  go_upto_region 1 with (fail)
  obtain ⟨w1, e1, hb1, hz1, k0, k1, k2⟩ := box3 w #[.int .i64 p.a.re, .int .i64 p.a.im, .int .i64 p.b.re, .int .i64 p.b.im, .int .i64 p.c.re, .int .i64 p.c.im, .int .i64 p.d.re, .int .i64 p.d.im] #[.int .i64 d.re, .int .i64 d.im] #[.int .i64 0, .int .i64 0, .int .i64 0, .int .i64 0] 73 23 32
  rw [← e1]; clear e1
  have c0 := k0.cell
  have c1 := k1.cell
  go_wp2_with fail
  refine (quotient_any d p.a _ (hC.carry hb1)).mono ?_
  rintro e w2 ⟨rfl, hb2⟩
  have hbw := below_next hb1 hb2
  have k3 := carryK k2 hb2
  have c3 := k3.cell
  have f3 := k3.frozen
  clear c0 c1
  go_wp2_with fail
  with_reducible refine fin4 (B := w.heap.size) (v := w) 32 hbw (by omega) k3 (fun X hX kX => ?_)
  have cX := kX.cell
  clear c3 f3
  refine bodyPost_ret (v := .tuple #[.agg #[.int .i64 (quo d p.a).n.re, .int .i64 (quo d p.a).n.im, .int .i64 (quo d p.a).d.re, .int .i64 (quo d p.a).d.im], .int .i64 (quoE p.a)]) (by simp [results, Tryz.results118, go_sem, cX]) rfl ?_
  exact ⟨rfl, hX⟩
end Go.Proofs.YtnndaipnfniciaaGreatDoor

namespace Go.Proofs.YtnndaipnfniciaaGreatDoor
open Go.RowKit Go.Shelf
set_option maxRecDepth 100000

set_option maxHeartbeats 2000000 in
theorem ofInput_ok (l : List El) (f : Int) (A : Option Addr) (m c : Nat) (w : World) (hC : Con w) (he : atErr l f = 0) (hm : m ≤ 1000000000000) (hR : Reads w w.heap.size 3 A m (els l)) :
    Calls Tryz.prog 114 #[.slice A m c, .int .i64 f, .func (.func 115) #[] #[]] w fun e w' => e = .returned (.tuple #[.agg #[.int .i64 (quo (chn f .id l).a (chn f .id l).c).n.re, .int .i64 (quo (chn f .id l).a (chn f .id l).c).n.im, .int .i64 (quo (chn f .id l).a (chn f .id l).c).d.re, .int .i64 (quo (chn f .id l).a (chn f .id l).c).d.im], .int .i64 (quoE (chn f .id l).c)]) ∧ Below w.heap.size w w' := by
  obtain ⟨hl, hf1, hf8⟩ := at_zero he
  have t1 : (fnz [ladErr l, rng f 1 8] != 0) = false := by rw [show fnz [ladErr l, rng f 1 8] = 0 from he]; rfl
  clear he
  go_enter Tryz.func114, Tryz.ntmps114
  go_wp2_with fail
  obtain ⟨w1, e1, hb1, hz1, k0⟩ := box1 w #[.int .i64 0, .int .i64 0, .int .i64 0, .int .i64 0] 32
  rw [← e1]; clear e1
  refine (checkLadder_any A m c l _ (carry hR hb1) hm).mono ?_
  rintro e w2 ⟨rfl, hb2⟩
  have hbw2 := below_next hb1 hb2
  have k2 := carryK k0 hb2
  go_upto_region 2 with (first | (go_at_call 89; refine (checkW_any _ _).mono ?_; rintro e W' ⟨rfl, rfl⟩) | (go_at_call 82; (first | (with_reducible (refine (first_any _ _ _ _ _ _ (reads2 _ _ _ _) (by omega)).mono ?_)) | (with_reducible (refine (first_any _ _ _ _ _ _ (Reads.drew (reads2 _ _ _ _)) (by omega)).mono ?_))); rintro e W' ⟨rfl, rfl⟩))
  obtain ⟨w3, e3, hb3, hz3, k3⟩ := box1 w2 #[.int .i64 (ladErr l), .int .i64 (rng f 1 8)] 29
  rw [← e3]; clear e3
  have hbw3 := below_next hbw2 hb3
  have k3' := carryK k2 hb3
  go_wp2_with fail
  refine (chain_any l f A m c _ (hC.carry hbw3) hl hf1 hf8 hm (carry hR hbw3)).mono ?_
  rintro e w4 ⟨rfl, hb4⟩
  have hbw4 := below_next hbw3 hb4
  have k4 := carryK k3' hb4
  go_wp2_with fail
  refine (Input1_any (chn f .id l) (dvs f .one l) _ (hC.carry hbw4)).mono ?_
  rintro e w5 ⟨rfl, hb5⟩
  have hbw5 := below_next hbw4 hb5
  have k5 := carryK k4 hb5
  have c5 := k5.cell
  have f5 := k5.frozen
  go_wp2_with fail
  with_reducible refine fin4 (B := w.heap.size) (v := w) 32 hbw5 (by omega) k5 (fun X hX kX => ?_)
  have cX := kX.cell
  clear c5 f5
  refine bodyPost_ret (v := .tuple #[.agg #[.int .i64 (quo (chn f .id l).a (chn f .id l).c).n.re, .int .i64 (quo (chn f .id l).a (chn f .id l).c).n.im, .int .i64 (quo (chn f .id l).a (chn f .id l).c).d.re, .int .i64 (quo (chn f .id l).a (chn f .id l).c).d.im], .int .i64 (quoE (chn f .id l).c)]) (by simp [results, Tryz.results114, go_sem, cX]) rfl ?_
  exact ⟨rfl, hX⟩
set_option maxHeartbeats 1000000 in
theorem Input_ok (l : List El) (f : Int) (A : Option Addr) (m c : Nat) (w : World) (hC : Con w) (he : atErr l f = 0) (hm : m ≤ 1000000000000) (hR : Reads w w.heap.size 3 A m (els l)) :
    Calls Tryz.prog 47 #[.slice A m c, .int .i64 f] w fun e w' => e = .returned (.tuple #[.agg #[.int .i64 (quo (chn f .id l).a (chn f .id l).c).n.re, .int .i64 (quo (chn f .id l).a (chn f .id l).c).n.im, .int .i64 (quo (chn f .id l).a (chn f .id l).c).d.re, .int .i64 (quo (chn f .id l).a (chn f .id l).c).d.im], .int .i64 (quoE (chn f .id l).c)]) ∧ Below w.heap.size w w' := by
  go_enter Tryz.func47, Tryz.ntmps47
  go_wp2_with fail
  obtain ⟨w1, e1, hb1, hz1, k0⟩ := box1 w #[.int .i64 0, .int .i64 0, .int .i64 0, .int .i64 0] 32
  rw [← e1]; clear e1
  refine (ofInput_ok l f A m c _ (hC.carry hb1) he hm (carry hR hb1)).mono ?_
  rintro e w2 ⟨rfl, hb2⟩
  have hbw2 := below_next hb1 hb2
  have k5 := carryK k0 hb2
  have c5 := k5.cell
  have f5 := k5.frozen
  go_wp2_with fail
  with_reducible refine fin4 (B := w.heap.size) (v := w) 32 hbw2 (by omega) k5 (fun X hX kX => ?_)
  have cX := kX.cell
  clear c5 f5
  refine bodyPost_ret (v := .tuple #[.agg #[.int .i64 (quo (chn f .id l).a (chn f .id l).c).n.re, .int .i64 (quo (chn f .id l).a (chn f .id l).c).n.im, .int .i64 (quo (chn f .id l).a (chn f .id l).c).d.re, .int .i64 (quo (chn f .id l).a (chn f .id l).c).d.im], .int .i64 (quoE (chn f .id l).c)]) (by simp [results, Tryz.results47, go_sem, cX]) rfl ?_
  exact ⟨rfl, hX⟩
set_option maxHeartbeats 2000000 in
theorem ofShorted_ok (l : List El) (f : Int) (A : Option Addr) (m c : Nat) (w : World) (hC : Con w) (he : atErr l f = 0) (hm : m ≤ 1000000000000) (hR : Reads w w.heap.size 3 A m (els l)) :
    Calls Tryz.prog 114 #[.slice A m c, .int .i64 f, .func (.func 117) #[] #[]] w fun e w' => e = .returned (.tuple #[.agg #[.int .i64 (quo (chn f .id l).b (chn f .id l).d).n.re, .int .i64 (quo (chn f .id l).b (chn f .id l).d).n.im, .int .i64 (quo (chn f .id l).b (chn f .id l).d).d.re, .int .i64 (quo (chn f .id l).b (chn f .id l).d).d.im], .int .i64 (quoE (chn f .id l).d)]) ∧ Below w.heap.size w w' := by
  obtain ⟨hl, hf1, hf8⟩ := at_zero he
  have t1 : (fnz [ladErr l, rng f 1 8] != 0) = false := by rw [show fnz [ladErr l, rng f 1 8] = 0 from he]; rfl
  clear he
  go_enter Tryz.func114, Tryz.ntmps114
  go_wp2_with fail
  obtain ⟨w1, e1, hb1, hz1, k0⟩ := box1 w #[.int .i64 0, .int .i64 0, .int .i64 0, .int .i64 0] 32
  rw [← e1]; clear e1
  refine (checkLadder_any A m c l _ (carry hR hb1) hm).mono ?_
  rintro e w2 ⟨rfl, hb2⟩
  have hbw2 := below_next hb1 hb2
  have k2 := carryK k0 hb2
  go_upto_region 2 with (first | (go_at_call 89; refine (checkW_any _ _).mono ?_; rintro e W' ⟨rfl, rfl⟩) | (go_at_call 82; (first | (with_reducible (refine (first_any _ _ _ _ _ _ (reads2 _ _ _ _) (by omega)).mono ?_)) | (with_reducible (refine (first_any _ _ _ _ _ _ (Reads.drew (reads2 _ _ _ _)) (by omega)).mono ?_))); rintro e W' ⟨rfl, rfl⟩))
  obtain ⟨w3, e3, hb3, hz3, k3⟩ := box1 w2 #[.int .i64 (ladErr l), .int .i64 (rng f 1 8)] 29
  rw [← e3]; clear e3
  have hbw3 := below_next hbw2 hb3
  have k3' := carryK k2 hb3
  go_wp2_with fail
  refine (chain_any l f A m c _ (hC.carry hbw3) hl hf1 hf8 hm (carry hR hbw3)).mono ?_
  rintro e w4 ⟨rfl, hb4⟩
  have hbw4 := below_next hbw3 hb4
  have k4 := carryK k3' hb4
  go_wp2_with fail
  refine (Shorted1_any (chn f .id l) (dvs f .one l) _ (hC.carry hbw4)).mono ?_
  rintro e w5 ⟨rfl, hb5⟩
  have hbw5 := below_next hbw4 hb5
  have k5 := carryK k4 hb5
  have c5 := k5.cell
  have f5 := k5.frozen
  go_wp2_with fail
  with_reducible refine fin4 (B := w.heap.size) (v := w) 32 hbw5 (by omega) k5 (fun X hX kX => ?_)
  have cX := kX.cell
  clear c5 f5
  refine bodyPost_ret (v := .tuple #[.agg #[.int .i64 (quo (chn f .id l).b (chn f .id l).d).n.re, .int .i64 (quo (chn f .id l).b (chn f .id l).d).n.im, .int .i64 (quo (chn f .id l).b (chn f .id l).d).d.re, .int .i64 (quo (chn f .id l).b (chn f .id l).d).d.im], .int .i64 (quoE (chn f .id l).d)]) (by simp [results, Tryz.results114, go_sem, cX]) rfl ?_
  exact ⟨rfl, hX⟩
set_option maxHeartbeats 1000000 in
theorem Shorted_ok (l : List El) (f : Int) (A : Option Addr) (m c : Nat) (w : World) (hC : Con w) (he : atErr l f = 0) (hm : m ≤ 1000000000000) (hR : Reads w w.heap.size 3 A m (els l)) :
    Calls Tryz.prog 48 #[.slice A m c, .int .i64 f] w fun e w' => e = .returned (.tuple #[.agg #[.int .i64 (quo (chn f .id l).b (chn f .id l).d).n.re, .int .i64 (quo (chn f .id l).b (chn f .id l).d).n.im, .int .i64 (quo (chn f .id l).b (chn f .id l).d).d.re, .int .i64 (quo (chn f .id l).b (chn f .id l).d).d.im], .int .i64 (quoE (chn f .id l).d)]) ∧ Below w.heap.size w w' := by
  go_enter Tryz.func48, Tryz.ntmps48
  go_wp2_with fail
  obtain ⟨w1, e1, hb1, hz1, k0⟩ := box1 w #[.int .i64 0, .int .i64 0, .int .i64 0, .int .i64 0] 32
  rw [← e1]; clear e1
  refine (ofShorted_ok l f A m c _ (hC.carry hb1) he hm (carry hR hb1)).mono ?_
  rintro e w2 ⟨rfl, hb2⟩
  have hbw2 := below_next hb1 hb2
  have k5 := carryK k0 hb2
  have c5 := k5.cell
  have f5 := k5.frozen
  go_wp2_with fail
  with_reducible refine fin4 (B := w.heap.size) (v := w) 32 hbw2 (by omega) k5 (fun X hX kX => ?_)
  have cX := kX.cell
  clear c5 f5
  refine bodyPost_ret (v := .tuple #[.agg #[.int .i64 (quo (chn f .id l).b (chn f .id l).d).n.re, .int .i64 (quo (chn f .id l).b (chn f .id l).d).n.im, .int .i64 (quo (chn f .id l).b (chn f .id l).d).d.re, .int .i64 (quo (chn f .id l).b (chn f .id l).d).d.im], .int .i64 (quoE (chn f .id l).d)]) (by simp [results, Tryz.results48, go_sem, cX]) rfl ?_
  exact ⟨rfl, hX⟩
set_option maxHeartbeats 2000000 in
theorem ofTransfer_ok (l : List El) (f : Int) (A : Option Addr) (m c : Nat) (w : World) (hC : Con w) (he : atErr l f = 0) (hm : m ≤ 1000000000000) (hR : Reads w w.heap.size 3 A m (els l)) :
    Calls Tryz.prog 114 #[.slice A m c, .int .i64 f, .func (.func 118) #[] #[]] w fun e w' => e = .returned (.tuple #[.agg #[.int .i64 (quo (dvs f .one l) (chn f .id l).a).n.re, .int .i64 (quo (dvs f .one l) (chn f .id l).a).n.im, .int .i64 (quo (dvs f .one l) (chn f .id l).a).d.re, .int .i64 (quo (dvs f .one l) (chn f .id l).a).d.im], .int .i64 (quoE (chn f .id l).a)]) ∧ Below w.heap.size w w' := by
  obtain ⟨hl, hf1, hf8⟩ := at_zero he
  have t1 : (fnz [ladErr l, rng f 1 8] != 0) = false := by rw [show fnz [ladErr l, rng f 1 8] = 0 from he]; rfl
  clear he
  go_enter Tryz.func114, Tryz.ntmps114
  go_wp2_with fail
  obtain ⟨w1, e1, hb1, hz1, k0⟩ := box1 w #[.int .i64 0, .int .i64 0, .int .i64 0, .int .i64 0] 32
  rw [← e1]; clear e1
  refine (checkLadder_any A m c l _ (carry hR hb1) hm).mono ?_
  rintro e w2 ⟨rfl, hb2⟩
  have hbw2 := below_next hb1 hb2
  have k2 := carryK k0 hb2
  go_upto_region 2 with (first | (go_at_call 89; refine (checkW_any _ _).mono ?_; rintro e W' ⟨rfl, rfl⟩) | (go_at_call 82; (first | (with_reducible (refine (first_any _ _ _ _ _ _ (reads2 _ _ _ _) (by omega)).mono ?_)) | (with_reducible (refine (first_any _ _ _ _ _ _ (Reads.drew (reads2 _ _ _ _)) (by omega)).mono ?_))); rintro e W' ⟨rfl, rfl⟩))
  obtain ⟨w3, e3, hb3, hz3, k3⟩ := box1 w2 #[.int .i64 (ladErr l), .int .i64 (rng f 1 8)] 29
  rw [← e3]; clear e3
  have hbw3 := below_next hbw2 hb3
  have k3' := carryK k2 hb3
  go_wp2_with fail
  refine (chain_any l f A m c _ (hC.carry hbw3) hl hf1 hf8 hm (carry hR hbw3)).mono ?_
  rintro e w4 ⟨rfl, hb4⟩
  have hbw4 := below_next hbw3 hb4
  have k4 := carryK k3' hb4
  go_wp2_with fail
  refine (Transfer1_any (chn f .id l) (dvs f .one l) _ (hC.carry hbw4)).mono ?_
  rintro e w5 ⟨rfl, hb5⟩
  have hbw5 := below_next hbw4 hb5
  have k5 := carryK k4 hb5
  have c5 := k5.cell
  have f5 := k5.frozen
  go_wp2_with fail
  with_reducible refine fin4 (B := w.heap.size) (v := w) 32 hbw5 (by omega) k5 (fun X hX kX => ?_)
  have cX := kX.cell
  clear c5 f5
  refine bodyPost_ret (v := .tuple #[.agg #[.int .i64 (quo (dvs f .one l) (chn f .id l).a).n.re, .int .i64 (quo (dvs f .one l) (chn f .id l).a).n.im, .int .i64 (quo (dvs f .one l) (chn f .id l).a).d.re, .int .i64 (quo (dvs f .one l) (chn f .id l).a).d.im], .int .i64 (quoE (chn f .id l).a)]) (by simp [results, Tryz.results114, go_sem, cX]) rfl ?_
  exact ⟨rfl, hX⟩
set_option maxHeartbeats 1000000 in
theorem Transfer_ok (l : List El) (f : Int) (A : Option Addr) (m c : Nat) (w : World) (hC : Con w) (he : atErr l f = 0) (hm : m ≤ 1000000000000) (hR : Reads w w.heap.size 3 A m (els l)) :
    Calls Tryz.prog 49 #[.slice A m c, .int .i64 f] w fun e w' => e = .returned (.tuple #[.agg #[.int .i64 (quo (dvs f .one l) (chn f .id l).a).n.re, .int .i64 (quo (dvs f .one l) (chn f .id l).a).n.im, .int .i64 (quo (dvs f .one l) (chn f .id l).a).d.re, .int .i64 (quo (dvs f .one l) (chn f .id l).a).d.im], .int .i64 (quoE (chn f .id l).a)]) ∧ Below w.heap.size w w' := by
  go_enter Tryz.func49, Tryz.ntmps49
  go_wp2_with fail
  obtain ⟨w1, e1, hb1, hz1, k0⟩ := box1 w #[.int .i64 0, .int .i64 0, .int .i64 0, .int .i64 0] 32
  rw [← e1]; clear e1
  refine (ofTransfer_ok l f A m c _ (hC.carry hb1) he hm (carry hR hb1)).mono ?_
  rintro e w2 ⟨rfl, hb2⟩
  have hbw2 := below_next hb1 hb2
  have k5 := carryK k0 hb2
  have c5 := k5.cell
  have f5 := k5.frozen
  go_wp2_with fail
  with_reducible refine fin4 (B := w.heap.size) (v := w) 32 hbw2 (by omega) k5 (fun X hX kX => ?_)
  have cX := kX.cell
  clear c5 f5
  refine bodyPost_ret (v := .tuple #[.agg #[.int .i64 (quo (dvs f .one l) (chn f .id l).a).n.re, .int .i64 (quo (dvs f .one l) (chn f .id l).a).n.im, .int .i64 (quo (dvs f .one l) (chn f .id l).a).d.re, .int .i64 (quo (dvs f .one l) (chn f .id l).a).d.im], .int .i64 (quoE (chn f .id l).a)]) (by simp [results, Tryz.results49, go_sem, cX]) rfl ?_
  exact ⟨rfl, hX⟩

set_option maxHeartbeats 2000000 in
theorem Divisor_ok (l : List El) (f : Int) (A : Option Addr) (m c : Nat) (w : World) (hC : Con w) (he : atErr l f = 0) (hm : m ≤ 1000000000000) (hR : Reads w w.heap.size 3 A m (els l)) :
    Calls Tryz.prog 39 #[.slice A m c, .int .i64 f] w fun e w' => e = .returned (.tuple #[.agg #[.int .i64 (dvs f .one l).re, .int .i64 (dvs f .one l).im], .int .i64 0]) ∧ Below w.heap.size w w' := by
  obtain ⟨hl, hf1, hf8⟩ := at_zero he
  have t1 : (fnz [ladErr l, rng f 1 8] != 0) = false := by rw [show fnz [ladErr l, rng f 1 8] = 0 from he]; rfl
  clear he
  go_enter Tryz.func39, Tryz.ntmps39
  go_wp2_with fail
  obtain ⟨w1, e1, hb1, hz1, k0⟩ := box1 w #[.int .i64 0, .int .i64 0] 23
  rw [← e1]; clear e1
  refine (checkLadder_any A m c l _ (carry hR hb1) hm).mono ?_
  rintro e w2 ⟨rfl, hb2⟩
  have hbw2 := below_next hb1 hb2
  have k2 := carryK k0 hb2
  go_upto_region 2 with (first | (go_at_call 89; refine (checkW_any _ _).mono ?_; rintro e W' ⟨rfl, rfl⟩) | (go_at_call 82; (first | (with_reducible (refine (first_any _ _ _ _ _ _ (reads2 _ _ _ _) (by omega)).mono ?_)) | (with_reducible (refine (first_any _ _ _ _ _ _ (Reads.drew (reads2 _ _ _ _)) (by omega)).mono ?_))); rintro e W' ⟨rfl, rfl⟩))
  obtain ⟨w3, e3, hb3, hz3, k3⟩ := box1 w2 #[.int .i64 (ladErr l), .int .i64 (rng f 1 8)] 29
  rw [← e3]; clear e3
  have hbw3 := below_next hbw2 hb3
  have k3' := carryK k2 hb3
  go_wp2_with fail
  refine (chain_any l f A m c _ (hC.carry hbw3) hl hf1 hf8 hm (carry hR hbw3)).mono ?_
  rintro e w4 ⟨rfl, hb4⟩
  have hbw4 := below_next hbw3 hb4
  have k4 := carryK k3' hb4
  go_upto_region 5 with (fail)
  obtain ⟨w5, e5, hb5, hz5, kM, kD⟩ := box2 w4 #[.int .i64 (chn f .id l).a.re, .int .i64 (chn f .id l).a.im, .int .i64 (chn f .id l).b.re, .int .i64 (chn f .id l).b.im, .int .i64 (chn f .id l).c.re, .int .i64 (chn f .id l).c.im, .int .i64 (chn f .id l).d.re, .int .i64 (chn f .id l).d.im] #[.int .i64 (dvs f .one l).re, .int .i64 (dvs f .one l).im] 73 23
  rw [← e5]; clear e5
  have hbw5 := below_next hbw4 hb5
  have k5 := carryK k4 hb5
  have c5 := k5.cell
  have f5 := k5.frozen
  have cM := kD.cell
  go_wp2_with fail
  have kX := blk2 (u0 := .int .i64 (dvs f .one l).re) (u1 := .int .i64 (dvs f .one l).im) k5
  have hX := below2 (u0 := .int .i64 (dvs f .one l).re) (u1 := .int .i64 (dvs f .one l).im) hbw5 (Nat.le_refl w.heap.size)
  have cX := kX.cell
  clear c5 f5 cM
  refine bodyPost_ret (v := .tuple #[.agg #[.int .i64 (dvs f .one l).re, .int .i64 (dvs f .one l).im], .int .i64 0]) (by simp [results, Tryz.results39, go_sem, cX]) rfl ?_
  exact ⟨rfl, hX⟩
end Go.Proofs.YtnndaipnfniciaaGreatDoor
