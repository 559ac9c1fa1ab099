/- The law SectionGoesOn. -/
import Derived.Test.YtlaaajkehjoffaaDoorLawHolds
import Derived.Test.YtlaaajkehjoffaaDoorCascS
import Derived.Deep.LoopGhost
namespace Go.Proofs.YtlaaajkehjoffaaDoor
open Go.RowKit Go.Shelf
set_option maxRecDepth 100000

/-- A row of the call's own as a slice, with its room. -/
theorem own_roomG {w : World} {base size n : Nat} {e : TypeId} {v : Value} {xs : List Value} (h : w.ownsRow base e size v n xs) : ∃ A c, v = .slice A n c ∧ n ≤ c ∧ c ≤ maxLen ∧ Reads w w.heap.size size A n xs := by
  rcases h.2 with ⟨rfl, rfl⟩ | ⟨g, cap, cur, rfl, _, _, h1, h2, _⟩
  · exact ⟨none, 0, rfl, Nat.le_refl _, Nat.zero_le _, Reads.of_own h⟩
  · exact ⟨_, cap, rfl, h1, h2, Reads.of_own h⟩
theorem reads_take {w : World} {B n k : Nat} {A : Option Addr} {xs : List Int} (h : Reads w B 1 A n (ints xs)) (hk : k ≤ n) : Reads w B 1 A k (ints (xs.take k)) := by
  have hl := reads_len h
  refine ⟨by rw [ints_len, List.length_take]; omega, fun hn => ?_⟩
  obtain ⟨ad, e, hb, hc⟩ := h.2 (by omega)
  refine ⟨ad, e, hb, fun j u hu => hc j u ?_⟩
  obtain ⟨x, hx, rfl⟩ := ints_at hu
  rw [List.getElem?_take] at hx
  split at hx
  · simp [ints, hx]
  · cases hx
theorem reads_drop {w : World} {B n k : Nat} {ad : Addr} {xs : List Int} (h : Reads w B 1 (some ad) n (ints xs)) (hk : k ≤ n) : Reads w B 1 (some (ad.add k)) (n - k) (ints (xs.drop k)) := by
  have hl := reads_len h
  refine ⟨by rw [ints_len, List.length_drop]; omega, fun hn => ?_⟩
  obtain ⟨ad', e, hb, hc⟩ := h.2 (by omega)
  cases e
  refine ⟨_, rfl, by rw [block_of_add]; exact hb, fun j u hu => ?_⟩
  rw [add_of_add]
  refine hc (k + j) u ?_
  obtain ⟨x, hx, rfl⟩ := ints_at hu
  rw [List.getElem?_drop] at hx
  simp [ints, hx]
theorem reads_zero (w : World) (A : Option Addr) : Reads w w.heap.size 1 A 0 (ints []) := ⟨by simp [ints], fun h => absurd h (by omega)⟩
theorem From_g (s : Sec) (y : St) (A : Option Addr) (m c : Nat) (xs : List Int) (w : World) (hs : s.Ok) (hy : y.Ok) (hx : sigErr xs = 0) (hm : m ≤ 1000000000000) (hR : Reads w w.heap.size 1 A m (ints xs)) :
    Calls Tryd.prog 18 #[.agg #[.int .i64 s.b0, .int .i64 s.b1, .int .i64 s.b2, .int .i64 s.a1, .int .i64 s.a2, .int .i64 s.sh], .agg #[.int .i64 y.x1, .int .i64 y.x2, .int .i64 y.y1, .int .i64 y.y2], .slice A m c] w fun e w' => ∃ v, e = .returned (.tuple #[v, .agg #[.int .i64 (s.after y xs).x1, .int .i64 (s.after y xs).x2, .int .i64 (s.after y xs).y1, .int .i64 (s.after y xs).y2], .int .i64 0]) ∧ w'.ownsRow w.heap.size 3 1 v m (ints (s.outs y xs)) ∧ Below w.heap.size w w' :=
  From_ok s y A m c xs w (by unfold fromErr; rw [Sec.err_of hs, St.err_of hy, hx]; rfl) hm hR
theorem Sat_g (s : Sec) (A : Option Addr) (m c : Nat) (xs : List Int) (w : World) (hs : s.Ok) (hx : sigErr xs = 0) (hm : m ≤ 1000000000000) (hR : Reads w w.heap.size 1 A m (ints xs)) :
    Calls Tryd.prog 19 #[.agg #[.int .i64 s.b0, .int .i64 s.b1, .int .i64 s.b2, .int .i64 s.a1, .int .i64 s.a2, .int .i64 s.sh], .slice A m c] w fun e w' => e = .returned (.tuple #[.int .i64 (s.sats St.zero xs), .int .i64 0]) ∧ Below w.heap.size w w' :=
  Saturations_ok s A m c xs w (by unfold satErr; rw [Sec.err_of hs, hx]; rfl) hm hR
theorem fin1G {Q : World → Prop} {v W : World} {cs : Array Value} {t : TypeId} {base : Nat} {e : TypeId} {vv : Value} {k : Nat} {zs : List Value} (hB : Below v.heap.size v W) (ho : W.ownsRow base e 1 vv k zs) (h : ∀ X, Below v.heap.size v X → Blk X W.heap.size t cs → X.ownsRow base e 1 vv k zs → Q X) : Q (W.alloc (.cells cs t)) := h _ (below_new hB (Nat.le_refl _) _) (Blk.new _ _ _) (ho.alloc _)
theorem fin4G {Q : World → Prop} {B : Nat} {v W : World} {g : Nat} {c0 c1 c2 c3 u0 u1 u2 u3 : Value} (t : TypeId) {base : Nat} {e : TypeId} {vv : Value} {k : Nat} {zs : List Value} (hB : Below B v W) (hg : B ≤ g) (hk : Blk W g t #[c0, c1, c2, c3]) (ho : W.ownsRow base e 1 vv k zs) (hne : e ≠ t) (h : ∀ X, Below B v X → Blk X g t #[u0, u1, u2, u3] → X.ownsRow base e 1 vv k zs → Q X) :
    Q ((((W.setCell ⟨g, 0, none⟩ u0).setCell ⟨g, 1, none⟩ u1).setCell ⟨g, 2, none⟩ u2).setCell ⟨g, 3, none⟩ u3) := by
  obtain ⟨w1, e1, k1, _, _, b1, _, _, o1⟩ := set4 W g t c0 c1 c2 c3 u0 u1 u2 u3 hk
  rw [← e1]
  exact h _ (hB.trans (b1 B hg)) k1 (o1 _ _ _ _ _ _ hne ho)
theorem sig_take {xs : List Int} (h : sigErr xs = 0) (k : Nat) : sigErr (xs.take k) = 0 := by
  obtain ⟨h1, h2⟩ := sigErr_ok h
  exact sigErr_of (by rw [List.length_take]; omega) fun x hx => h2 x (List.mem_of_mem_take hx)
theorem sig_drop {xs : List Int} (h : sigErr xs = 0) (k : Nat) : sigErr (xs.drop k) = 0 := by
  obtain ⟨h1, h2⟩ := sigErr_ok h
  exact sigErr_of (by rw [List.length_drop]; omega) fun x hx => h2 x (List.mem_of_mem_drop hx)
theorem sig_outs (s : Sec) {xs : List Int} (h : xs.length ≤ 4096) : sigErr (s.outs St.zero xs) = 0 := sigErr_of (by rw [outs_len]; exact h) outs_bd
theorem outs_cut (s : Sec) (xs : List Int) (k : Nat) : s.outs St.zero (xs.take k) ++ s.outs (s.after St.zero (xs.take k)) (xs.drop k) = s.outs St.zero xs := by
  rw [← outs_append, List.take_append_drop]

/-- An append that a guard lets come up. -/
theorem wpList_append_want {P : Program} (w : World) {ops : Array Oper} {rest : List Oper} {o : Oper} {a : Act} {Q : Exit → Act → World → Prop} (hw : Region.wanted o (yielded ops a.tmps) = true) (s x : Operand) (t : TypeId)
    (ho : o.op = .call { callee := .builtin .append, args := #[s, x], argTypes := #[t, t] })
    (base : Nat) (e : TypeId) (i : TypeInfo) (z : Value) (size bytes : Nat) (ht : P.underlying t = some (.slice e)) (hi : P.info? e = some i) (hz : i.zero = some z)
    (hsize : i.size = size) (hby : i.bytes = bytes) (hzs : z.cells.size = size) (hsz : 0 < size)
    (v : Value) (n : Nat) (xs : List Value) (hs : a.eval s = v) (hown : w.ownsRow base e size v n xs)
    (B : Nat) (A : Option Addr) (m c : Nat) (news : List Value) (hx : a.eval x = .slice A m c) (hr : Reads w B size A m news) (h1 : ∀ u ∈ news, u.oneCell' = true)
    (h63 : n + m ≤ maxLen) (hbytes : (n + m) * bytes ≤ 140737488355328) (hbase : base ≤ w.heap.size)
    (h : ∀ v' w', w'.ownsRow base e size v' (n + m) (xs ++ news) → w.grownBy w' v.ownBlock → (v'.ownBlock = v.ownBlock ∨ v'.ownBlock = some w.heap.size) → wpList P ops Q rest (a.put o.dst v') w') : wpList P ops Q (o :: rest) a w :=
  BigFrame.wpList_want hw fun _ hK => wp_append_any w s x t ho base e i z size bytes ht hi hz hsize hby hzs hsz v n xs hs hown B A m c news hx hr h1 h63 hbytes hbase fun v' w' h2 h3 h4 => hK _ _ (h v' w' h2 h3 h4)
theorem reads_secs2 {w : World} {g : Nat} {t : TypeId} {s r : Sec} (h : Blk w g t #[.int .i64 s.b0, .int .i64 s.b1, .int .i64 s.b2, .int .i64 s.a1, .int .i64 s.a2, .int .i64 s.sh, .int .i64 r.b0, .int .i64 r.b1, .int .i64 r.b2, .int .i64 r.a1, .int .i64 r.a2, .int .i64 r.sh]) : Reads w w.heap.size 6 (some ⟨g, 0, none⟩) 2 (secs [s, r]) := by
  refine ⟨rfl, fun _ => ⟨_, rfl, h.lt, fun j u hu => ?_⟩⟩
  have : (⟨g, 0, none⟩ : Addr).add j = ⟨g, j, none⟩ := by unfold Addr.add; split <;> simp_all
  rw [this, h.cell]
  simpa [secs, secCells] using hu
theorem c_sameG (A : Option Addr) (n c : Nat) (xs : List Int) (A' : Option Addr) (m c' : Nat) (w : World) (h : Reads w w.heap.size 1 A n (ints xs)) (h' : Reads w w.heap.size 1 A' m (ints xs)) (hn : n ≤ 1000000000000) (hm : m ≤ 1000000000000) :
    Calls Tryd.prog 27 #[.slice A n c, .slice A' m c'] w fun r w' => r = .returned (.bool true) ∧ Below w.heap.size w w' :=
  (sameInts_any A n c _ xs A' m c' _ xs w h h' (Nat.le_refl _) (Nat.le_refl _) hn hm).mono fun _ _ h => by simpa using h

theorem lawGoes_long (s r : Sec) (A : Option Addr) (m c : Nat) (_xs : List Int) (u : Int) (w : World) (hV : Vars w) (h : (40 : Int) < (m : Int)) :
    Calls Tryd.prog 12 #[.agg #[.int .i64 s.b0, .int .i64 s.b1, .int .i64 s.b2, .int .i64 s.a1, .int .i64 s.a2, .int .i64 s.sh, .int .i64 r.b0, .int .i64 r.b1, .int .i64 r.b2, .int .i64 r.a1, .int .i64 r.a2, .int .i64 r.sh], .slice A m c, .int .u8 u] w fun e w' => e = .returned (.bool true) ∧ Below w.heap.size w w' := by
  go_enter Tryd.func12, Tryd.ntmps12
  go_wp2_with fail
  obtain ⟨w1, e1, hb1, hz1, k0⟩ := box1 w #[.int .i64 s.b0, .int .i64 s.b1, .int .i64 s.b2, .int .i64 s.a1, .int .i64 s.a2, .int .i64 s.sh, .int .i64 r.b0, .int .i64 r.b1, .int .i64 r.b2, .int .i64 r.a1, .int .i64 r.a2, .int .i64 r.sh] 101
  rw [← e1]; clear e1
  go_wp2_with fail
  refine (awake_v _ (hV.carry (by repeat (first | with_reducible assumption | exact Below.refl _ _ | refine below_next (by with_reducible assumption) ?_)))).mono ?_
  rintro e wz ⟨rfl, hbz⟩
  go_wp2
  go_ret
  exact ⟨rfl, (by repeat (first | with_reducible assumption | exact Below.refl _ _ | refine below_next (by with_reducible assumption) ?_))⟩
theorem lawGoes_bad1 (s r : Sec) (A : Option Addr) (m c : Nat) (_xs : List Int) (u : Int) (w : World) (hV : Vars w) (h : ¬ (40 : Int) < (m : Int)) (h1 : (s.err != 0) = true) :
    Calls Tryd.prog 12 #[.agg #[.int .i64 s.b0, .int .i64 s.b1, .int .i64 s.b2, .int .i64 s.a1, .int .i64 s.a2, .int .i64 s.sh, .int .i64 r.b0, .int .i64 r.b1, .int .i64 r.b2, .int .i64 r.a1, .int .i64 r.a2, .int .i64 r.sh], .slice A m c, .int .u8 u] w fun e w' => e = .returned (.bool true) ∧ Below w.heap.size w w' := by
  go_enter Tryd.func12, Tryd.ntmps12
  go_wp2_with fail
  obtain ⟨w1, e1, hb1, hz1, k0⟩ := box1 w #[.int .i64 s.b0, .int .i64 s.b1, .int .i64 s.b2, .int .i64 s.a1, .int .i64 s.a2, .int .i64 s.sh, .int .i64 r.b0, .int .i64 r.b1, .int .i64 r.b2, .int .i64 r.a1, .int .i64 r.a2, .int .i64 r.sh] 101
  rw [← e1]; clear e1
  refine (rCheckSection_any s _).mono ?_
  rintro e w2 ⟨rfl, hb2⟩
  go_wp2_with fail
  refine (awake_v _ (hV.carry (by repeat (first | with_reducible assumption | exact Below.refl _ _ | refine below_next (by with_reducible assumption) ?_)))).mono ?_
  rintro e wz ⟨rfl, hbz⟩
  go_wp2
  go_ret
  exact ⟨rfl, (by repeat (first | with_reducible assumption | exact Below.refl _ _ | refine below_next (by with_reducible assumption) ?_))⟩
theorem lawGoes_bad2 (s r : Sec) (A : Option Addr) (m c : Nat) (_xs : List Int) (u : Int) (w : World) (hV : Vars w) (h : ¬ (40 : Int) < (m : Int)) (h1 : (s.err != 0) = false) (h2 : (r.err != 0) = true) :
    Calls Tryd.prog 12 #[.agg #[.int .i64 s.b0, .int .i64 s.b1, .int .i64 s.b2, .int .i64 s.a1, .int .i64 s.a2, .int .i64 s.sh, .int .i64 r.b0, .int .i64 r.b1, .int .i64 r.b2, .int .i64 r.a1, .int .i64 r.a2, .int .i64 r.sh], .slice A m c, .int .u8 u] w fun e w' => e = .returned (.bool true) ∧ Below w.heap.size w w' := by
  go_enter Tryd.func12, Tryd.ntmps12
  go_wp2_with fail
  obtain ⟨w1, e1, hb1, hz1, k0⟩ := box1 w #[.int .i64 s.b0, .int .i64 s.b1, .int .i64 s.b2, .int .i64 s.a1, .int .i64 s.a2, .int .i64 s.sh, .int .i64 r.b0, .int .i64 r.b1, .int .i64 r.b2, .int .i64 r.a1, .int .i64 r.a2, .int .i64 r.sh] 101
  rw [← e1]; clear e1
  refine (rCheckSection_any s _).mono ?_
  rintro e w2 ⟨rfl, hb2⟩
  have cS := (carryK (w' := w2) k0 (by repeat (first | with_reducible assumption | exact Below.refl _ _ | refine below_next (by with_reducible assumption) ?_))).cell
  go_wp2_with fail
  refine (rCheckSection_any r _).mono ?_
  rintro e w3 ⟨rfl, hb3⟩
  clear cS
  go_wp2_with fail
  refine (awake_v _ (hV.carry (by repeat (first | with_reducible assumption | exact Below.refl _ _ | refine below_next (by with_reducible assumption) ?_)))).mono ?_
  rintro e wz ⟨rfl, hbz⟩
  go_wp2
  go_ret
  exact ⟨rfl, (by repeat (first | with_reducible assumption | exact Below.refl _ _ | refine below_next (by with_reducible assumption) ?_))⟩
theorem lawGoes_bad3 (s r : Sec) (A : Option Addr) (m c : Nat) (xs : List Int) (u : Int) (w : World) (hV : Vars w) (h : ¬ (40 : Int) < (m : Int)) (h1 : (s.err != 0) = false) (h2 : (r.err != 0) = false) (h3 : (sigErr xs != 0) = true) (hR : Reads w w.heap.size 1 A m (ints xs)) :
    Calls Tryd.prog 12 #[.agg #[.int .i64 s.b0, .int .i64 s.b1, .int .i64 s.b2, .int .i64 s.a1, .int .i64 s.a2, .int .i64 s.sh, .int .i64 r.b0, .int .i64 r.b1, .int .i64 r.b2, .int .i64 r.a1, .int .i64 r.a2, .int .i64 r.sh], .slice A m c, .int .u8 u] w fun e w' => e = .returned (.bool true) ∧ Below w.heap.size w w' := by
  go_enter Tryd.func12, Tryd.ntmps12
  go_wp2_with fail
  obtain ⟨w1, e1, hb1, hz1, k0⟩ := box1 w #[.int .i64 s.b0, .int .i64 s.b1, .int .i64 s.b2, .int .i64 s.a1, .int .i64 s.a2, .int .i64 s.sh, .int .i64 r.b0, .int .i64 r.b1, .int .i64 r.b2, .int .i64 r.a1, .int .i64 r.a2, .int .i64 r.sh] 101
  rw [← e1]; clear e1
  refine (rCheckSection_any s _).mono ?_
  rintro e w2 ⟨rfl, hb2⟩
  have cS := (carryK (w' := w2) k0 (by repeat (first | with_reducible assumption | exact Below.refl _ _ | refine below_next (by with_reducible assumption) ?_))).cell
  go_wp2_with fail
  refine (rCheckSection_any r _).mono ?_
  rintro e w3 ⟨rfl, hb3⟩
  clear cS
  go_wp2_with fail
  refine (rCheckSignal_any _ _ _ _ _ _ (carry hR (by repeat (first | with_reducible assumption | exact Below.refl _ _ | refine below_next (by with_reducible assumption) ?_))) (by omega)).mono ?_
  rintro e w' ⟨rfl, rfl⟩
  go_wp2_with fail
  refine (awake_v _ (hV.carry (by repeat (first | with_reducible assumption | exact Below.refl _ _ | refine below_next (by with_reducible assumption) ?_)))).mono ?_
  rintro e wz ⟨rfl, hbz⟩
  go_wp2
  go_ret
  exact ⟨rfl, (by repeat (first | with_reducible assumption | exact Below.refl _ _ | refine below_next (by with_reducible assumption) ?_))⟩
set_option maxHeartbeats 8000000 in
theorem lawGoes_main (s r : Sec) (A : Option Addr) (m c : Nat) (xs : List Int) (u : Int) (w : World) (hV : Vars w) (hm40 : m ≤ 40) (hmc : m ≤ c) (hcm : c ≤ 9223372036854775807) (hnil : A = none → c = 0) (hu0 : 0 ≤ u) (hu1 : u ≤ 255) (hs : s.Ok) (hr : r.Ok) (hx : sigErr xs = 0) (hR : Reads w w.heap.size 1 A m (ints xs)) :
    Calls Tryd.prog 12 #[.agg #[.int .i64 s.b0, .int .i64 s.b1, .int .i64 s.b2, .int .i64 s.a1, .int .i64 s.a2, .int .i64 s.sh, .int .i64 r.b0, .int .i64 r.b1, .int .i64 r.b2, .int .i64 r.a1, .int .i64 r.a2, .int .i64 r.sh], .slice A m c, .int .u8 u] w fun e w' => e = .returned (.bool true) ∧ Below w.heap.size w w' := by
  have h : ¬ (40 : Int) < (m : Int) := by omega
  have h1 : (s.err != 0) = false := by rw [Sec.err_of hs]; rfl
  have h2 : (r.err != 0) = false := by rw [Sec.err_of hr]; rfl
  have h3 : (sigErr xs != 0) = false := by rw [hx]; rfl
  have hl := reads_len hR
  have HL := hide hl
  have HNIL := hide hnil
  have HX := hide hx
  clear hl hnil hx
  go_enter Tryd.func12, Tryd.ntmps12
  go_wp2_with fail
  obtain ⟨w1, e1, hb1, hz1, k0⟩ := box1 w #[.int .i64 s.b0, .int .i64 s.b1, .int .i64 s.b2, .int .i64 s.a1, .int .i64 s.a2, .int .i64 s.sh, .int .i64 r.b0, .int .i64 r.b1, .int .i64 r.b2, .int .i64 r.a1, .int .i64 r.a2, .int .i64 r.sh] 101
  rw [← e1]; clear e1
  refine (rCheckSection_any s _).mono ?_
  rintro e w2 ⟨rfl, hb2⟩
  have cS := (carryK (w' := w2) k0 (by repeat (first | with_reducible assumption | exact Below.refl _ _ | refine below_next (by with_reducible assumption) ?_))).cell
  go_wp2_with fail
  refine (rCheckSection_any r _).mono ?_
  rintro e w3 ⟨rfl, hb3⟩
  clear cS
  go_wp2_with fail
  refine (rCheckSignal_any _ _ _ _ _ _ (carry hR (by repeat (first | with_reducible assumption | exact Below.refl _ _ | refine below_next (by with_reducible assumption) ?_))) (by omega)).mono ?_
  rintro e w' ⟨rfl, rfl⟩
  have cS := (carryK (w' := w3) k0 (by repeat (first | with_reducible assumption | exact Below.refl _ _ | refine below_next (by with_reducible assumption) ?_))).cell
  go_upto_region 4 with (fail)
  clear h1 h2 h3
  obtain ⟨w5, e5, hb5, hz5, kS⟩ := box1 w3 #[.int .i64 s.b0, .int .i64 s.b1, .int .i64 s.b2, .int .i64 s.a1, .int .i64 s.a2, .int .i64 s.sh] 32
  rw [← e5]; clear e5 cS
  go_cut [8] from 57 to 62 (fun s8 wx => ∃ k : Nat, s8 = .int .i64 (k : Int) ∧ k ≤ m ∧ wx = w5)
  case first =>
    have hmod := Int.emod_nonneg u (show (m : Int) + 1 ≠ 0 by omega)
    have hmod2 := Int.emod_lt_of_pos u (show 0 < (m : Int) + 1 by omega)
    go_wp2_with fail
    go_meet
    exact ⟨(u % ((m : Int) + 1)).toNat, by congr 1; omega, by omega, rfl⟩
  case rest =>
    obtain ⟨k, rfl, hkm, rfl⟩ := hcut
    have hb35 : Below w3.heap.size w3 wc := hb5
    have c0 : ∀ i W, Below wc.heap.size wc W → W.cell? ⟨w3.heap.size, i, none⟩ = (#[.int .i64 s.b0, .int .i64 s.b1, .int .i64 s.b2, .int .i64 s.a1, .int .i64 s.a2, .int .i64 s.sh] : Array Value)[i]? := fun i W h => (carryK kS h).cell i
    have r5 := carry (w' := wc) hR (by repeat (first | with_reducible assumption | exact Below.refl _ _ | refine below_next (by with_reducible assumption) ?_))
    have R0 := hide (fun W (h : Below wc.heap.size wc W) => carry r5 h)
    go_upto_region 5 with (fail)
    go_region_held3 (fun W => Below wc.heap.size wc W) (first | exact (Below.refl _ _).drew | (with_reducible assumption) | exact below_new ‹Below wc.heap.size wc _› (Nat.le_refl _) _ | (refine below_set (below_set (below_set (below_set (by assumption) (by omega) _) (by omega) _) (by omega) _) (by omega) _)) (first | (go_at_call 17; refine (ints_any A m c xs _ (R0.out _ ‹Below wc.heap.size wc _›) (by omega)).mono ?_; rintro e W' ⟨vI, rfl, hoI, hbW⟩; obtain ⟨AI, cI, rfl, hRI⟩ := own_slice hoI; have hS := below_step ‹Below wc.heap.size wc _› hbW (Below.size ‹Below wc.heap.size wc _›); have HRI := hide hRI; clear hRI hoI) | (go_at_call 16; refine (Run_z s _ m _ xs _ hs HX.out (by omega) HRI.out).mono ?_; rintro e w6 ⟨Aa, ca, rfl, ra, hbQ⟩; have hS := below_step ‹Below wc.heap.size wc _› hbQ (Below.size ‹Below wc.heap.size wc _›)))
    have hb6 : Below wc.heap.size wc w6 := ‹Below wc.heap.size wc w6›
    clear c0 R0 HRI hbW hbQ
    (try clear hS); (try clear hS)
    have r6 := carry r5 hb6
    have kS6 := carryK kS hb6
    have kL6 := carryK (w' := w6) k0 (by repeat (first | with_reducible assumption | exact Below.refl _ _ | refine below_next (by with_reducible assumption) ?_))
    have hbw6 : Below w.heap.size w w6 := (by repeat (first | with_reducible assumption | exact Below.refl _ _ | refine below_next (by with_reducible assumption) ?_))
    clear r5 kS k0 hb1 hb2 hb3 hb5 hb35 hb6 hR
    go_upto_region 6 with (fail)
    go_cut [11, 12, 13] from 70 to 80 (fun s11 s12 s13 wx => ∃ (Ab : Option Addr) (cb g : Nat), s11 = .slice Ab k cb ∧ s12 = .pointer (some ⟨g, 0, none⟩) ∧ s13 = .int .i64 0 ∧ Reads wx wx.heap.size 1 Ab k (ints (s.outs St.zero (xs.take k))) ∧ Blk wx g 34 #[.int .i64 (s.after St.zero (xs.take k)).x1, .int .i64 (s.after St.zero (xs.take k)).x2, .int .i64 (s.after St.zero (xs.take k)).y1, .int .i64 (s.after St.zero (xs.take k)).y2] ∧ Below w6.heap.size w6 wx)
    case first =>
      have c0 : ∀ i W, Below w6.heap.size w6 W → W.cell? ⟨w3.heap.size, i, none⟩ = (#[.int .i64 s.b0, .int .i64 s.b1, .int .i64 s.b2, .int .i64 s.a1, .int .i64 s.a2, .int .i64 s.sh] : Array Value)[i]? := fun i W h => (carryK kS6 h).cell i
      have r6t := reads_take r6 hkm
      have R0 := hide (fun W (h : Below w6.heap.size w6 W) => carry r6t h)
      have hkc : k ≤ c := by omega
      have hA1 := alloc_cel
      have hA2 := alloc_fro
      go_region_held3 (fun W => Below w6.heap.size w6 W) (first | exact (Below.refl _ _).drew | (with_reducible assumption) | exact below_new ‹Below w6.heap.size w6 _› (Nat.le_refl _) _ | (refine below_set (below_set (below_set (below_set (by assumption) (by omega) _) (by omega) _) (by omega) _) (by omega) _)) (first | (go_at_call 17; refine (ints_any A k c (xs.take k) _ (R0.out _ ‹Below w6.heap.size w6 _›) (by omega)).mono ?_; rintro e W' ⟨vI, rfl, hoI, hbW⟩; obtain ⟨AI, cI, rfl, hRI⟩ := own_slice hoI; have hS := below_step ‹Below w6.heap.size w6 _› hbW (Below.size ‹Below w6.heap.size w6 _›); have HRI := hide hRI; clear hRI hoI; have hF := below_fro hbW; have hC := below_cel hbW; have hL := below_lt hbW; have hT := below_le hbW; have hK := below_blk hbW; have hz := Below.size hS; have hz1' := Below.size hbW; (try simp only [World.size_alloc, World.size_drew] at hz1'); (try have hq1 := Nat.lt_of_succ_le hz1')) | (go_at_call 18; refine (From_g s ⟨0, 0, 0, 0⟩ _ k _ (xs.take k) _ hs zero_ok (sig_take HX.out k) (by omega) (by first | exact HRI.out | exact (HRI.out.alloc (Nat.le_refl _) _).more (by simp))).mono ?_; rintro e w7 ⟨vF, rfl, oF, hbQ⟩; have hS := below_step ‹Below w6.heap.size w6 _› hbQ (Below.size ‹Below w6.heap.size w6 _›); have OF := hide oF; clear oF; have hF2 := below_fro hbQ; have hC2 := below_cel hbQ; have hL2 := below_lt hbQ; have hT2 := below_le hbQ; have hK2 := below_blk hbQ; have hzf := Below.size hS; have hz2' := Below.size hbQ; (try simp only [World.size_alloc] at hz2'); (try have hq2 := Nat.lt_of_succ_le hz2'); (try have hq3 := Nat.lt_of_lt_of_le hq1 hz2')))
      all_goals (first
        | (with_reducible refine fin1G (v := w6) (t := 34) (by with_reducible assumption) OF.out (fun X hX kX oX => ?_))
        | (with_reducible refine fin4G (B := w6.heap.size) (v := w6) (c0 := .int .i64 0) (c1 := .int .i64 0) (c2 := .int .i64 0) (c3 := .int .i64 0) 34 (by with_reducible assumption) (by omega) (by (repeat (first | exact Blk.newAt (by simp) | refine Blk.alloc ?_ _ | refine Blk.drew ?_ | refine (by with_reducible assumption : ∀ g t cs, Blk _ g t cs → Blk _ g t cs) _ _ _ ?_))) OF.out (by decide) (fun X hX kX oX => ?_)))
      all_goals (
        obtain ⟨Ab, cb, rfl, rb⟩ := own_slice oX
        go_wp2_with fail; go_meet; exact ⟨Ab, cb, _, rfl, rfl, rfl, rb, kX, hX⟩)
    case rest =>
      obtain ⟨Ab, cb, g, rfl, rfl, rfl, rb, kG, hv7⟩ := hcut
      rename World => w7
      have r7 := carry r6 hv7
      have kS7 := carryK kS6 hv7
      have kL7 := carryK kL6 hv7
      have ra7 := carry ra hv7
      have hbw7 := below_next hbw6 hv7
      clear r6 kS6 kL6 ra hbw6 hv7
      go_upto_region 7 with (fail)
      go_cut [14, 15, 16] from 81 to 91 (fun s14 _ s16 wx => ∃ (Ac : Option Addr) (cc : Nat), s14 = .slice Ac (m - k) cc ∧ m - k ≤ cc ∧ s16 = .int .i64 0 ∧ Reads wx wx.heap.size 1 Ac (m - k) (ints (s.outs (s.after St.zero (xs.take k)) (xs.drop k))) ∧ Below w7.heap.size w7 wx)
      case first =>
        have c0 : ∀ i W, Below w7.heap.size w7 W → W.cell? ⟨w3.heap.size, i, none⟩ = (#[.int .i64 s.b0, .int .i64 s.b1, .int .i64 s.b2, .int .i64 s.a1, .int .i64 s.a2, .int .i64 s.sh] : Array Value)[i]? := fun i W h => (carryK kS7 h).cell i
        have c1 : ∀ i W, Below w7.heap.size w7 W → W.cell? ⟨g, i, none⟩ = (#[.int .i64 (s.after St.zero (xs.take k)).x1, .int .i64 (s.after St.zero (xs.take k)).x2, .int .i64 (s.after St.zero (xs.take k)).y1, .int .i64 (s.after St.zero (xs.take k)).y2] : Array Value)[i]? := fun i W h => (carryK kG h).cell i
        have hok : (s.after St.zero (xs.take k)).Ok := after_ok zero_ok (sigErr_ok (sig_take HX.out k)).2
        have HOK := hide hok
        clear hok
        have hA1 := alloc_cel
        have hA2 := alloc_fro
        by_cases hck : c = k
        · obtain rfl : k = c := hck.symm
          obtain rfl : k = m := by omega
          have hnilr : xs.drop k = [] := List.drop_eq_nil_of_le (by rw [HL.out]; omega)
          have HZ := hide hnilr
          clear hnilr
          go_region_held3 (fun W => Below w7.heap.size w7 W) (first | exact (Below.refl _ _).drew | (with_reducible assumption) | exact below_new ‹Below w7.heap.size w7 _› (Nat.le_refl _) _ | (refine below_set (below_set (below_set (below_set (by assumption) (by omega) _) (by omega) _) (by omega) _) (by omega) _)) (first | (go_at_call 17; refine (ints_any _ 0 _ [] _ (reads_zero _ _) (by omega)).mono ?_; rintro e W' ⟨vI, rfl, hoI, hbW⟩; obtain ⟨AI, cI, rfl, hRI⟩ := own_slice hoI; have hS := below_step ‹Below w7.heap.size w7 _› hbW (Below.size ‹Below w7.heap.size w7 _›); have HRI := hide hRI; clear hRI hoI; have hF := below_fro hbW; have hC := below_cel hbW; have hL := below_lt hbW; have hT := below_le hbW; have hK := below_blk hbW; have hz := Below.size hS; have hz1' := Below.size hbW; (try simp only [World.size_alloc, World.size_drew] at hz1'); (try have hq1 := Nat.lt_of_succ_le hz1')) | (go_at_call 18; refine (From_g s (s.after St.zero (xs.take k)) _ 0 _ [] _ hs HOK.out rfl (by omega) (by first | exact HRI.out | exact (HRI.out.alloc (Nat.le_refl _) _).more (by simp))).mono ?_; rintro e w8 ⟨vF, rfl, oF, hbQ⟩; have hS := below_step ‹Below w7.heap.size w7 _› hbQ (Below.size ‹Below w7.heap.size w7 _›); have OF := hide oF; clear oF; have hF2 := below_fro hbQ; have hC2 := below_cel hbQ; have hL2 := below_lt hbQ; have hT2 := below_le hbQ; have hK2 := below_blk hbQ; have hzf := Below.size hS; have hz2' := Below.size hbQ; (try simp only [World.size_alloc] at hz2'); (try have hq2 := Nat.lt_of_succ_le hz2'); (try have hq3 := Nat.lt_of_lt_of_le hq1 hz2')))
          all_goals (first
            | (with_reducible refine fin1G (v := w7) (t := 34) (by with_reducible assumption) OF.out (fun X hX kX oX => ?_))
            | (with_reducible refine fin4G (B := w7.heap.size) (v := w7) (c0 := .int .i64 0) (c1 := .int .i64 0) (c2 := .int .i64 0) (c3 := .int .i64 0) 34 (by with_reducible assumption) (by omega) (by (repeat (first | exact Blk.newAt (by simp) | refine Blk.alloc ?_ _ | refine Blk.drew ?_ | refine (by with_reducible assumption : ∀ g t cs, Blk _ g t cs → Blk _ g t cs) _ _ _ ?_))) OF.out (by decide) (fun X hX kX oX => ?_)))
          all_goals (
            obtain ⟨Ac, cc, rfl, hcc1, hcc2, rc⟩ := own_roomG oX
            go_wp2_with fail; go_meet; exact ⟨Ac, cc, by rw [Nat.sub_self], by omega, rfl, by rw [HZ.out, Nat.sub_self]; exact rc, hX⟩)
        · obtain ⟨ad, rfl⟩ : ∃ ad, A = some ad := by
            cases A with
            | none => exact absurd (HNIL.out rfl) (by omega)
            | some ad => exact ⟨ad, rfl⟩
          have r7d := reads_drop r7 hkm
          have R0 := hide (fun W (h : Below w7.heap.size w7 W) => carry r7d h)
          go_region_held3 (fun W => Below w7.heap.size w7 W) (first | exact (Below.refl _ _).drew | (with_reducible assumption) | exact below_new ‹Below w7.heap.size w7 _› (Nat.le_refl _) _ | (refine below_set (below_set (below_set (below_set (by assumption) (by omega) _) (by omega) _) (by omega) _) (by omega) _)) (first | (go_at_call 17; refine (ints_any _ (m - k) _ (xs.drop k) _ (R0.out _ ‹Below w7.heap.size w7 _›) (by omega)).mono ?_; rintro e W' ⟨vI, rfl, hoI, hbW⟩; obtain ⟨AI, cI, rfl, hRI⟩ := own_slice hoI; have hS := below_step ‹Below w7.heap.size w7 _› hbW (Below.size ‹Below w7.heap.size w7 _›); have HRI := hide hRI; clear hRI hoI; have hF := below_fro hbW; have hC := below_cel hbW; have hL := below_lt hbW; have hT := below_le hbW; have hK := below_blk hbW; have hz := Below.size hS; have hz1' := Below.size hbW; (try simp only [World.size_alloc, World.size_drew] at hz1'); (try have hq1 := Nat.lt_of_succ_le hz1')) | (go_at_call 18; refine (From_g s (s.after St.zero (xs.take k)) _ (m - k) _ (xs.drop k) _ hs HOK.out (sig_drop HX.out k) (by omega) (by first | exact HRI.out | exact (HRI.out.alloc (Nat.le_refl _) _).more (by simp))).mono ?_; rintro e w8 ⟨vF, rfl, oF, hbQ⟩; have hS := below_step ‹Below w7.heap.size w7 _› hbQ (Below.size ‹Below w7.heap.size w7 _›); have OF := hide oF; clear oF; have hF2 := below_fro hbQ; have hC2 := below_cel hbQ; have hL2 := below_lt hbQ; have hT2 := below_le hbQ; have hK2 := below_blk hbQ; have hzf := Below.size hS; have hz2' := Below.size hbQ; (try simp only [World.size_alloc] at hz2'); (try have hq2 := Nat.lt_of_succ_le hz2'); (try have hq3 := Nat.lt_of_lt_of_le hq1 hz2')))
          all_goals (first
            | (with_reducible refine fin1G (v := w7) (t := 34) (by with_reducible assumption) OF.out (fun X hX kX oX => ?_))
            | (with_reducible refine fin4G (B := w7.heap.size) (v := w7) (c0 := .int .i64 0) (c1 := .int .i64 0) (c2 := .int .i64 0) (c3 := .int .i64 0) 34 (by with_reducible assumption) (by omega) (by (repeat (first | exact Blk.newAt (by simp) | refine Blk.alloc ?_ _ | refine Blk.drew ?_ | refine (by with_reducible assumption : ∀ g t cs, Blk _ g t cs → Blk _ g t cs) _ _ _ ?_))) OF.out (by decide) (fun X hX kX oX => ?_)))
          all_goals (
            obtain ⟨Ac, cc, rfl, hcc1, hcc2, rc⟩ := own_roomG oX
            go_wp2_with fail; go_meet; exact ⟨Ac, cc, rfl, hcc1, rfl, rc, hX⟩)
      case rest =>
        obtain ⟨Ac, cc, rfl, hcc, rfl, rc, hv8⟩ := hcut
        rename World => w8
        have r8 := carry r7 hv8
        have kS8 := carryK kS7 hv8
        have kL8 := carryK kL7 hv8
        have ra8 := carry ra7 hv8
        have rb8 := carry rb hv8
        have hbw8 := below_next hbw7 hv8
        clear r7 kS7 kL7 ra7 rb hbw7 hv8 kG
        have c0 : ∀ i W, Below w8.heap.size w8 W → W.cell? ⟨w3.heap.size, i, none⟩ = (#[.int .i64 s.b0, .int .i64 s.b1, .int .i64 s.b2, .int .i64 s.a1, .int .i64 s.a2, .int .i64 s.sh] : Array Value)[i]? := fun i W h => (carryK kS8 h).cell i
        have R0 := hide (fun W (h : Below w8.heap.size w8 W) => carry r8 h)
        go_upto_region 8 with (fail)
        go_region_held3 (fun W => Below w8.heap.size w8 W) (first | exact (Below.refl _ _).drew | (with_reducible assumption) | exact below_new ‹Below w8.heap.size w8 _› (Nat.le_refl _) _ | (refine below_set (below_set (below_set (below_set (by assumption) (by omega) _) (by omega) _) (by omega) _) (by omega) _)) (first | (go_at_call 17; refine (ints_any A m c xs _ (R0.out _ ‹Below w8.heap.size w8 _›) (by omega)).mono ?_; rintro e W' ⟨vI, rfl, hoI, hbW⟩; obtain ⟨AI, cI, rfl, hRI⟩ := own_slice hoI; have hS := below_step ‹Below w8.heap.size w8 _› hbW (Below.size ‹Below w8.heap.size w8 _›); have HRI := hide hRI; clear hRI hoI) | (go_at_call 19; refine (Sat_g s _ m _ xs _ hs HX.out (by omega) HRI.out).mono ?_; rintro e w9 ⟨rfl, hbQ⟩; have hS := below_step ‹Below w8.heap.size w8 _› hbQ (Below.size ‹Below w8.heap.size w8 _›)))
        have hv9 : Below w8.heap.size w8 w9 := ‹Below w8.heap.size w8 w9›
        clear c0 R0 HRI hbW hbQ
        (try clear hS); (try clear hS)
        have r9 := carry r8 hv9
        have kS9 := carryK kS8 hv9
        have kL9 := carryK kL8 hv9
        have ra9 := carry ra8 hv9
        have rb9 := carry rb8 hv9
        have rc9 := carry rc hv9
        have hbw9 := below_next hbw8 hv9
        clear r8 kS8 kL8 ra8 rb8 rc hbw8 hv9
        go_upto_region 9 with (fail)
        go_cut [122] from 99 to 121 (fun s122 wx => s122 = .bool false ∧ Below w9.heap.size w9 wx)
        case first =>
          obtain ⟨i, hi, hz, hsize, hby⟩ := info_parts info_int
          have A1 : k + (m - k) ≤ maxLen := by unfold maxLen; omega
          have A2 : (k + (m - k)) * 8 ≤ 140737488355328 := by omega
          have HB1 := hide A1
          clear A1
          go_wp2_with fail
          refine (ints_any Ab k cb _ _ rb9 (by omega)).mono ?_
          rintro e v1 ⟨vB, rfl, oB, hx1⟩
          have rc1 := carry rc9 hx1
          go_wp2_with (at_builtin; refine wpList_append_want _ (by first | rfl | kernel_rfl | (simp [Region.wanted, yielded]; done)) (.tmp 116) (.tmp 117) _ rfl w9.heap.size 3 i (.int .i64 0) 1 8 Tryd.underlying26 hi hz hsize hby rfl (by decide) vB k (ints (s.outs St.zero (xs.take k))) rfl oB v1.heap.size Ac (m - k) cc (ints (s.outs (s.after St.zero (xs.take k)) (xs.drop k))) rfl rc1 (ints_one _) HB1.out A2 hx1.size ?_; intro v2 w2' o2 hg2 hq2)
          have hb2' : Below w9.heap.size w9 w2' := hx1.grown hg2 hx1.size fun g hg => (oB.lt g hg).1
          obtain ⟨A3, c3, e3, r3⟩ := own_slice o2
          subst e3
          rw [show ints (s.outs St.zero (xs.take k)) ++ ints (s.outs (s.after St.zero (xs.take k)) (xs.drop k)) = ints (s.outs St.zero xs) by rw [← outs_cut s xs k]; simp [ints]] at r3
          have ra2 := carry ra9 hb2'
          clear hg2 hq2 o2 oB rc1 hi hz hsize hby
          go_wp2_with fail
          refine (c_sameG A3 _ c3 _ Aa m ca _ r3 ra2 (by omega) (by omega)).mono ?_
          rintro e v3 ⟨rfl, hx3⟩
          go_wp2_with fail
          go_meet
          exact ⟨rfl, below_next hb2' hx3⟩
        case rest =>
          obtain ⟨rfl, hv10⟩ := hcut
          rename World => w10
          have r10 := carry r9 hv10
          have kS10 := carryK kS9 hv10
          have kL10 := carryK kL9 hv10
          have ra10 := carry ra9 hv10
          have hbw10 := below_next hbw9 hv10
          clear r9 kS9 kL9 ra9 rb9 rc9 hbw9 hv10
          have hs1 := hs.shl
          have hs2 := hs.shh
          have hu := unit_bd hs
          have eu : wrap64 (2 ^ s.sh.toNat) = s.unit := by unfold Sec.unit at *; rw [IntWalk.wrap64_in _ (by omega)]
          have cS := kS10.cell
          go_upto_region 12 with (fail)
          rw [eu]
          clear eu cS hs1 hs2
          go_wp2_with fail
          go_loopg [20, 128] m (fun gk v i wr => ∃ j : Nat, j ≤ m ∧ gk = m - j ∧ i = .int .i64 j ∧ v = .int .i64 (s.sats St.zero (xs.take j)) ∧ Below w10.heap.size w10 wr)
          case atStart => exact ⟨0, by omega, rfl, rfl, rfl, Below.refl _ _⟩
          case round =>
            obtain ⟨j, hj, rfl, rfl, rfl, hbw⟩ := hrel
            by_cases hlt : j < m
            · obtain ⟨ad, x, eA, _, hxj, hcx⟩ := reads_at (carry r10 hbw) hlt
              obtain ⟨ad', y, eA', _, hyj, hcy⟩ := reads_at (carry ra10 hbw) hlt
              obtain ⟨z, hz⟩ : ∃ z, z = s.after St.zero (xs.take j) := ⟨_, rfl⟩
              have hzp := (hz.trans (after_prev s xs j (by rw [HL.out]; omega)))
              have hzo : z.Ok := by rw [hz]; exact after_ok zero_ok (sigErr_ok (sig_take HX.out j)).2
              have hxb := (sigErr_ok HX.out).2 x (List.mem_of_getElem? hxj)
              have hyo : y = s.out z x := by have := outs_at (s := s) (y := St.zero) hxj; rw [hyj] at this; rw [hz]; exact Option.some.inj this
              have hsn := sats_take_succ s St.zero hxj
              rw [← hz] at hsn
              have HSN := hide hsn
              have HZP := hide hzp
              have HYO := hide hyo
              clear hz hzp hyo hsn hxj hyj
              subst eA eA'
              go_upto_if 134 with (fail)
              go_cut [23, 25] from 129 to 240 (fun s1 s2 wx => s1 = .int .i64 z.x1 ∧ s2 = .int .i64 z.y1 ∧ Below wr.heap.size wr wx)
              case first =>
                by_cases h0 : j < 1
                · have t0 : ¬ (0 < j) := by omega
                  obtain ⟨q1, q2⟩ : z.x1 = 0 ∧ z.y1 = 0 := by rw [HZP.out]; simp [prev, show ¬ 1 ≤ j by omega]
                  have Q1 := hide q1; have Q2 := hide q2
                  clear q1 q2 h0
                  go_wp2_with fail
                  go_meet
                  exact ⟨by rw [Q1.out], by rw [Q2.out], Below.refl _ _⟩
                · have t0 : 0 < j := by omega
                  obtain ⟨q, hq⟩ : ∃ q, q + 1 = j := ⟨j - 1, by omega⟩
                  have hqm : q < m := by omega
                  obtain ⟨ad1, x1, eA1, _, hx1, hc1⟩ := reads_at (carry r10 hbw) hqm
                  obtain ⟨ad2, y1, eA2, _, hy1, hc2⟩ := reads_at (carry ra10 hbw) hqm
                  obtain ⟨q1, q2⟩ : z.x1 = x1 ∧ z.y1 = y1 := by rw [HZP.out]; simp [prev, show 1 ≤ j by omega, show j - 1 = q by omega, hx1, hy1]
                  have Q1 := hide q1; have Q2 := hide q2; have HQ := hide hq
                  have hw : IntKind.i64.wrap ((j : Int) - 1) = (q : Int) := by rw [IntWalk.i64_in _ (by omega)]; omega
                  have d1 : ∀ W, (over wr.heap.size wr W).cell? (ad1.add q) = some (.int .i64 x1) := fun W => ((over_below wr.heap.size wr W).cell (p := ad1.add q) (by rw [block_of_add]; assumption)).trans hc1
                  have d2 : ∀ W, (over wr.heap.size wr W).cell? (ad2.add q) = some (.int .i64 y1) := fun W => ((over_below wr.heap.size wr W).cell (p := ad2.add q) (by rw [block_of_add]; assumption)).trans hc2
                  cases eA1; cases eA2
                  clear q1 q2 h0 hx1 hy1 hc1 hc2 hq
                  go_wp2
                  refine wp_region_over wr.heap.size (by kernel_rfl) (by kernel_rfl) ?_; (repeat (first | go_big_quiet_step (fail) | quiet_step (fail))); refine wpQuiet_nil ?_; rintro W ⟨x, rfl⟩
                  go_wp2_with fail
                  go_meet
                  exact ⟨by rw [Q1.out], by rw [Q2.out], over_below _ _ _⟩
              case rest =>
                obtain ⟨rfl, rfl, hg1⟩ := hcut
                rename World => g1
                have hbg1 := below_next hbw hg1
                go_upto_if 146 with (fail)
                go_cut [24, 26] from 129 to 240 (fun s1 s2 wx => s1 = .int .i64 z.x2 ∧ s2 = .int .i64 z.y2 ∧ Below g1.heap.size g1 wx)
                case first =>
                  by_cases h0 : j < 2
                  · have t0 : ¬ (1 < j) := by omega
                    obtain ⟨q1, q2⟩ : z.x2 = 0 ∧ z.y2 = 0 := by rw [HZP.out]; simp [prev, show ¬ 2 ≤ j by omega]
                    have Q1 := hide q1; have Q2 := hide q2
                    clear q1 q2 h0
                    go_wp2_with fail
                    go_meet
                    exact ⟨by rw [Q1.out], by rw [Q2.out], Below.refl _ _⟩
                  · have t0 : 1 < j := by omega
                    obtain ⟨q, hq⟩ : ∃ q, q + 2 = j := ⟨j - 2, by omega⟩
                    have hqm : q < m := by omega
                    obtain ⟨ad1, x1, eA1, _, hx1, hc1⟩ := reads_at (carry r10 hbg1) hqm
                    obtain ⟨ad2, y1, eA2, _, hy1, hc2⟩ := reads_at (carry ra10 hbg1) hqm
                    obtain ⟨q1, q2⟩ : z.x2 = x1 ∧ z.y2 = y1 := by rw [HZP.out]; simp [prev, show 2 ≤ j by omega, show j - 2 = q by omega, hx1, hy1]
                    have Q1 := hide q1; have Q2 := hide q2; have HQ := hide hq
                    have hw : IntKind.i64.wrap ((j : Int) - 2) = (q : Int) := by rw [IntWalk.i64_in _ (by omega)]; omega
                    have d1 : ∀ W, (over g1.heap.size g1 W).cell? (ad1.add q) = some (.int .i64 x1) := fun W => ((over_below g1.heap.size g1 W).cell (p := ad1.add q) (by rw [block_of_add]; assumption)).trans hc1
                    have d2 : ∀ W, (over g1.heap.size g1 W).cell? (ad2.add q) = some (.int .i64 y1) := fun W => ((over_below g1.heap.size g1 W).cell (p := ad2.add q) (by rw [block_of_add]; assumption)).trans hc2
                    cases eA1; cases eA2
                    clear q1 q2 h0 hx1 hy1 hc1 hc2 hq
                    go_wp2
                    refine wp_region_over g1.heap.size (by kernel_rfl) (by kernel_rfl) ?_; (repeat (first | go_big_quiet_step (fail) | quiet_step (fail))); refine wpQuiet_nil ?_; rintro W ⟨x, rfl⟩
                    go_wp2_with fail
                    go_meet
                    exact ⟨by rw [Q1.out], by rw [Q2.out], over_below _ _ _⟩
                case rest =>
                  obtain ⟨rfl, rfl, hg2⟩ := hcut
                  rename World => g2
                  have hbg2 := below_next hbg1 hg2
                  have hyb : -32767 ≤ y ∧ y ≤ 32767 := by rw [HYO.out]; exact lim_bd _
                  have ty1 : decide (y < -32767) = false := by rw [decide_eq_false_iff_not]; omega
                  have ty2 : decide (32767 < y) = false := by rw [decide_eq_false_iff_not]; omega
                  have kSg := carryK kS10 hbg2
                  go_upto_region 22 with (fail)
                  go_cut [27] from 129 to 240 (fun s27 wx => s27 = .int .i64 (s.sum z x) ∧ Below g2.heap.size g2 wx)
                  case first =>
                    have cS := over_blk (B := g2.heap.size) kSg kSg.lt
                    have dx : ∀ W, (over g2.heap.size g2 W).cell? (ad.add j) = some (.int .i64 x) := fun W => ((over_below g2.heap.size g2 W).cell (p := ad.add j) (by rw [block_of_add]; have := (below_next hg1 hg2).size; omega)).trans ((below_next hg1 hg2).cell (p := ad.add j) (by rw [block_of_add]; assumption) |>.trans hcx)
                    have a := @mul_bd s.b0 x (by have := hs.b0l; omega) (by have := hs.b0h; omega) (by omega) (by omega)
                    have b := @mul_bd s.b1 z.x1 (by have := hs.b1l; omega) (by have := hs.b1h; omega) (by have := hzo.x1l; omega) (by have := hzo.x1h; omega)
                    have cc' := @mul_bd s.b2 z.x2 (by have := hs.b2l; omega) (by have := hs.b2h; omega) (by have := hzo.x2l; omega) (by have := hzo.x2h; omega)
                    have d := @mul_bd s.a1 z.y1 (by have := hs.a1l; omega) (by have := hs.a1h; omega) (by have := hzo.y1l; omega) (by have := hzo.y1h; omega)
                    have e := @mul_bd s.a2 z.y2 (by have := hs.a2l; omega) (by have := hs.a2h; omega) (by have := hzo.y2l; omega) (by have := hzo.y2h; omega)
                    have w0 : IntKind.i64.wrap (s.b0 * x) = s.b0 * x := IntWalk.i64_in _ (by omega)
                    have w1' : IntKind.i64.wrap (s.b1 * z.x1) = s.b1 * z.x1 := IntWalk.i64_in _ (by omega)
                    have w2' : IntKind.i64.wrap (s.b0 * x + s.b1 * z.x1) = s.b0 * x + s.b1 * z.x1 := IntWalk.i64_in _ (by omega)
                    have w3' : IntKind.i64.wrap (s.b2 * z.x2) = s.b2 * z.x2 := IntWalk.i64_in _ (by omega)
                    have w4' : IntKind.i64.wrap (s.b0 * x + s.b1 * z.x1 + s.b2 * z.x2) = s.b0 * x + s.b1 * z.x1 + s.b2 * z.x2 := IntWalk.i64_in _ (by omega)
                    have w5' : IntKind.i64.wrap (s.a1 * z.y1) = s.a1 * z.y1 := IntWalk.i64_in _ (by omega)
                    have w6' : IntKind.i64.wrap (s.b0 * x + s.b1 * z.x1 + s.b2 * z.x2 - s.a1 * z.y1) = s.b0 * x + s.b1 * z.x1 + s.b2 * z.x2 - s.a1 * z.y1 := IntWalk.i64_in _ (by omega)
                    have w7' : IntKind.i64.wrap (s.a2 * z.y2) = s.a2 * z.y2 := IntWalk.i64_in _ (by omega)
                    have w8' : IntKind.i64.wrap (s.b0 * x + s.b1 * z.x1 + s.b2 * z.x2 - s.a1 * z.y1 - s.a2 * z.y2) = s.b0 * x + s.b1 * z.x1 + s.b2 * z.x2 - s.a1 * z.y1 - s.a2 * z.y2 := IntWalk.i64_in _ (by omega)
                    refine wp_region_over g2.heap.size (by kernel_rfl) (by kernel_rfl) ?_; (repeat (first | go_big_quiet_step (fail) | quiet_step (fail))); refine wpQuiet_nil ?_; rintro W ⟨x, rfl⟩
                    go_wp2_with fail
                    go_meet
                    exact ⟨rfl, over_below _ _ _⟩
                  case rest =>
                    obtain ⟨rfl, hg3⟩ := hcut
                    rename World => g3
                    have hbg3 := below_next hbg2 hg3
                    have hsb := sum_bd hs hzo hxb.1 hxb.2
                    have hmu := @mul_bd y s.unit (by omega) (by omega) (by omega) (by omega)
                    have hst := sats_bd s St.zero (xs.take j)
                    have hst2 : ((xs.take j).length : Int) ≤ 40 := by rw [List.length_take]; omega
                    have hmid := mid_raw hu.1 z x
                    have HMID := hide hmid
                    clear hmid ty1 ty2 hcx hcy kSg
                    by_cases hH : 32768 * s.unit ≤ s.sum z x
                    · have o1 := out_high hu.1 hH
                      rw [← HYO.out] at o1
                      obtain ⟨o2, o3⟩ := o1
                      have tH : decide (32768 * s.unit ≤ s.sum z x) = true := by simpa using hH
                      have hnL : ¬ s.sum z x < -32767 * s.unit := by omega
                      have tL : decide (s.sum z x < -32767 * s.unit) = false := by rw [decide_eq_false_iff_not]; exact hnL
                      have ty : (y != 32767) = false := by rw [o2]; rfl
                      have HO := hide o3
                      clear o2 o3 hH hnL
                      go_wp2
                      go_roundg (m - (j + 1))
                      case measure => omega
                      case rel => exact ⟨j + 1, by omega, rfl, by go_num, by rw [HSN.out, if_neg (by rw [← HYO.out]; exact HO.out)], hbg3⟩
                    · by_cases hL : s.sum z x < -32767 * s.unit
                      · have o1 := out_low hu.1 hL
                        rw [← HYO.out] at o1
                        obtain ⟨o2, o3⟩ := o1
                        have tH : decide (32768 * s.unit ≤ s.sum z x) = false := by rw [decide_eq_false_iff_not]; exact hH
                        have tL : decide (s.sum z x < -32767 * s.unit) = true := by simpa using hL
                        have ty : (y != -32767) = false := by rw [o2]; rfl
                        have HO := hide o3
                        clear o2 o3 hH hL
                        go_wp2
                        go_roundg (m - (j + 1))
                        case measure => omega
                        case rel => exact ⟨j + 1, by omega, rfl, by go_num, by rw [HSN.out, if_neg (by rw [← HYO.out]; exact HO.out)], hbg3⟩
                      · have o1 := out_mid hu.1 hH hL
                        have o4 : y = s.raw z x := by rw [HYO.out]; exact o1
                        have tH : decide (32768 * s.unit ≤ s.sum z x) = false := by rw [decide_eq_false_iff_not]; exact hH
                        have tL : decide (s.sum z x < -32767 * s.unit) = false := by rw [decide_eq_false_iff_not]; exact hL
                        have tM : decide (s.sum z x < y * s.unit) = false := by rw [decide_eq_false_iff_not, o4]; exact Int.not_lt.mpr HMID.out.1
                        have tN : decide (y * s.unit ≤ s.sum z x - s.unit) = false := by rw [decide_eq_false_iff_not, o4]; exact Int.not_le.mpr HMID.out.2
                        have HO := hide o1
                        clear o1 o4 hH hL
                        go_wp2
                        go_roundg (m - (j + 1))
                        case measure => omega
                        case rel => exact ⟨j + 1, by omega, rfl, by go_num, by rw [HSN.out, if_pos HO.out, Int.add_zero], hbg3⟩
            · have hjm : j = m := by omega
              obtain ⟨L, hLs⟩ : ∃ L, L = s.sats St.zero (xs.take j) := ⟨_, rfl⟩
              rw [← hLs]
              have hL2 : L = s.sats St.zero xs := by rw [hLs, List.take_of_length_le (by rw [HL.out]; omega)]
              have tL : (L == s.sats St.zero xs) = true := by rw [hL2]; simp
              clear hLs hL2 hjm
              have kLw := carryK kL10 hbw
              have rw0 := carry r10 hbw
              have raw0 := carry ra10 hbw
              have hbw0 := below_next hbw10 hbw
              clear kL10 kS10 r10 ra10 hbw10 hbw
              have hsl := reads_secs2 kLw
              have hxs : xs.length ≤ 4096 := by have := HL.out; omega
              have hce : cascErr [s, r] xs = 0 := by
                unfold cascErr secErr
                simp [okB_of hs, okB_of hr, HX.out, fnz]
              have HCE := hide hce
              have HXS := hide hxs
              clear hce hxs
              go_wp2_with fail
              refine (given_any _ 2 2 [s, r] _ hsl (by omega)).mono ?_
              rintro e v1 ⟨vG, rfl, oG, hx1⟩
              obtain ⟨AG, cG, rfl, rG⟩ := own_slice oG
              go_wp2_with fail
              refine (ints_any A m c xs _ (carry rw0 hx1) (by omega)).mono ?_
              rintro e v2 ⟨vI, rfl, oI, hx2⟩
              obtain ⟨AI, cI, rfl, rI⟩ := own_slice oI
              go_wp2_with fail
              refine (Cascade_ok AG 2 cG [s, r] AI m cI xs _ (by omega) (by omega) (carry rG hx2) rI HCE.out).mono ?_
              rintro e v3 ⟨Ad, cd, rfl, rd, hx3⟩
              have ra3 := carry (w' := v3) raw0 (by repeat (first | with_reducible assumption | exact Below.refl _ _ | refine below_next (by with_reducible assumption) ?_))
              have kL3 := carryK (w' := v3) kLw (by repeat (first | with_reducible assumption | exact Below.refl _ _ | refine below_next (by with_reducible assumption) ?_))
              have hb3' : Below w.heap.size w v3 := (by repeat (first | with_reducible assumption | exact Below.refl _ _ | refine below_next (by with_reducible assumption) ?_))
              clear rG rI oG oI hx1 hx2 hx3 rw0 raw0 kLw hsl hbw0
              have c0 : ∀ i W, Below v3.heap.size v3 W → W.cell? ⟨w.heap.size, i, none⟩ = (#[.int .i64 s.b0, .int .i64 s.b1, .int .i64 s.b2, .int .i64 s.a1, .int .i64 s.a2, .int .i64 s.sh, .int .i64 r.b0, .int .i64 r.b1, .int .i64 r.b2, .int .i64 r.a1, .int .i64 r.a2, .int .i64 r.sh] : Array Value)[i]? := fun i W h => (carryK kL3 h).cell i
              have R0 := hide (fun W (h : Below v3.heap.size v3 W) => carry ra3 h)
              go_upto_region 30 with (fail)
              go_region_held3 (fun W => Below v3.heap.size v3 W) (first | exact (Below.refl _ _).drew | (with_reducible assumption) | exact below_new ‹Below v3.heap.size v3 _› (Nat.le_refl _) _ | (refine below_set (below_set (below_set (below_set (by assumption) (by omega) _) (by omega) _) (by omega) _) (by omega) _)) (first | (go_at_call 17; refine (ints_any Aa m ca _ _ (R0.out _ ‹Below v3.heap.size v3 _›) (by omega)).mono ?_; rintro e W' ⟨vI, rfl, hoI, hbW⟩; obtain ⟨AI, cI, rfl, hRI⟩ := own_slice hoI; have hS := below_step ‹Below v3.heap.size v3 _› hbW (Below.size ‹Below v3.heap.size v3 _›); have HRI := hide hRI; clear hRI hoI) | (go_at_call 16; refine (Run_z r _ m _ _ _ hr (sig_outs s HXS.out) (by omega) HRI.out).mono ?_; rintro e v4 ⟨Af, cf, rfl, rf, hbQ⟩; have hS := below_step ‹Below v3.heap.size v3 _› hbQ (Below.size ‹Below v3.heap.size v3 _›)))
              have hx4 : Below v3.heap.size v3 v4 := ‹Below v3.heap.size v3 v4›
              clear c0 R0 HRI hbW hbQ
              (try clear hS); (try clear hS)
              go_wp2_with fail
              refine (c_sameG Ad m cd (r.outs St.zero (s.outs St.zero xs)) Af m cf _ (carry rd hx4) rf (by omega) (by omega)).mono ?_
              rintro e v5 ⟨rfl, hx5⟩
              go_wp2_with fail
              refine (awake_v _ (hV.carry (by repeat (first | with_reducible assumption | exact Below.refl _ _ | refine below_next (by with_reducible assumption) ?_)))).mono ?_
              rintro e wz ⟨rfl, hbz⟩
              go_wp2
              go_ret
              exact ⟨rfl, (by repeat (first | with_reducible assumption | exact Below.refl _ _ | refine below_next (by with_reducible assumption) ?_))⟩
theorem lawGoes_any (s r : Sec) (A : Option Addr) (m c : Nat) (xs : List Int) (u : Int) (w : World) (hV : Vars w) (hmc : m ≤ c) (hcm : c ≤ 9223372036854775807) (hnil : A = none → c = 0) (hu0 : 0 ≤ u) (hu1 : u ≤ 255) (hR : Reads w w.heap.size 1 A m (ints xs)) :
    Calls Tryd.prog 12 #[.agg #[.int .i64 s.b0, .int .i64 s.b1, .int .i64 s.b2, .int .i64 s.a1, .int .i64 s.a2, .int .i64 s.sh, .int .i64 r.b0, .int .i64 r.b1, .int .i64 r.b2, .int .i64 r.a1, .int .i64 r.a2, .int .i64 r.sh], .slice A m c, .int .u8 u] w fun e w' => e = .returned (.bool true) ∧ Below w.heap.size w w' := by
  by_cases h : (40 : Int) < (m : Int)
  · exact lawGoes_long s r A m c xs u w hV h
  · by_cases h1 : s.err = 0
    · have t1 : (s.err != 0) = false := by rw [h1]; rfl
      by_cases h2 : r.err = 0
      · have t2 : (r.err != 0) = false := by rw [h2]; rfl
        by_cases h3 : sigErr xs = 0
        · exact lawGoes_main s r A m c xs u w hV (by omega) hmc hcm hnil hu0 hu1 (Sec.err_ok h1) (Sec.err_ok h2) h3 hR
        · exact lawGoes_bad3 s r A m c xs u w hV h t1 t2 (by simpa using h3) hR
      · exact lawGoes_bad2 s r A m c xs u w hV h t1 (by simpa using h2)
    · exact lawGoes_bad1 s r A m c xs u w hV h (by simpa using h1)
end Go.Proofs.YtlaaajkehjoffaaDoor
