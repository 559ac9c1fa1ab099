/- The law NetworkJoined. -/
import Derived.Test.YtnndaipnfniciaaGreatDoorNLawPas
import Derived.Test.YtnndaipnfniciaaGreatDoorNProdP
import Derived.Test.YtnndaipnfniciaaGreatDoorNRImp
import Derived.Test.YtnndaipnfniciaaGreatDoorNRLad
import Derived.Test.YtnndaipnfniciaaGreatDoorNEqs
namespace Go.Proofs.YtnndaipnfniciaaGreatDoor
open Go.RowKit Go.Shelf
set_option maxRecDepth 100000
theorem reflR_e2 (a : Rt) (w : World) : (binOp .eql 54 (.agg #[.int .i64 a.n, .int .i64 a.d]) (.agg #[.int .i64 a.n, .int .i64 a.d])).run Tryz.prog w = .ok (.bool true) w := by
  have hh : (Op.equalIn 10000 54 (.agg #[.int .i64 a.n, .int .i64 a.d]) (.agg #[.int .i64 a.n, .int .i64 a.d])).run Tryz.prog w = .ok true w := by
    rw [show (10000 : Nat) = 9999 + 1 from rfl, run_equalIn_struct w 9999 54 _ _ (by kernel_rfl) (by kernel_rfl)]
    simp [Program.fieldsOf, Tryz.underlying54, Op.eqFields, go_sem, run_equalIn_int _ _ _ _ _ _ _ Tryz.underlying3]
  simp only [binOp, Op.equal, Op.maxDepth]
  simp [hh, go_sem]
theorem chn_front {f : Int} {l : List El} : (chn f .id (⟨kShunt, 3, 0⟩ :: l)).a = (chn f .id l).a := by
  rw [chn_cons]
  have hs : (⟨kShunt, 3, 0⟩ : El).mat ((⟨kShunt, 3, 0⟩ : El).val f) = ⟨.one, .zero, ⟨3, f * 0⟩, .one⟩ := by
    unfold El.mat; rw [if_neg (by decide), if_pos rfl]; rfl
  rw [hs]
  apply G.ext' <;> simp [Mat.mul, G.mul, G.add, G.one, G.zero]
theorem dvs_front {f : Int} {l : List El} : dvs f .one (⟨kShunt, 3, 0⟩ :: l) = dvs f .one l := by
  rw [dvs_cons, if_neg (by decide)]
theorem chn_back {f : Int} {l : List El} : (chn f .id (l ++ [⟨kSeries, 3, 0⟩])).a = (chn f .id l).a := by
  rw [chn_append]
  show ((chn f .id l).mul ((⟨kSeries, 3, 0⟩ : El).mat ((⟨kSeries, 3, 0⟩ : El).val f))).a = _
  have hs : (⟨kSeries, 3, 0⟩ : El).mat ((⟨kSeries, 3, 0⟩ : El).val f) = ⟨.one, ⟨3, f * 0⟩, .zero, .one⟩ := by simp [El.mat, El.val]
  rw [hs]
  apply G.ext' <;> simp [Mat.mul, G.mul, G.add, G.one, G.zero]
theorem dvs_back {f : Int} {l : List El} : dvs f .one (l ++ [⟨kSeries, 3, 0⟩]) = dvs f .one l := by
  rw [dvs_append, dvs_cons, if_neg (by decide), show dvs f .one [] = .one from rfl, G.mul_one]
theorem lad_front {l : List El} (h : LadOk l) (h4 : l.length ≤ 4) : LadOk (⟨kShunt, 3, 0⟩ :: l) :=
  ⟨by simp; omega, fun x hx => by
    rcases List.mem_cons.1 hx with rfl | hx
    · exact El.err_ok (by decide)
    · exact h.all x hx⟩
theorem lad_back {l : List El} (h : LadOk l) (h4 : l.length ≤ 4) : LadOk (l ++ [⟨kSeries, 3, 0⟩]) :=
  ⟨by simp; omega, fun x hx => by
    rcases List.mem_append.1 hx with hx | hx
    · exact h.all x hx
    · rw [List.mem_singleton.1 hx]; exact El.err_ok (by decide)⟩
theorem chn_in2 {l : List El} {f : Int} (h : LadOk l) (h1 : 1 ≤ f) (h8 : f ≤ 8) (h2 : l.length ≤ 2) : (chn f .id l).In 5329 := by
  have := chn_in h1 h8 l .id 1 h.all id_in
  have hp : 1 * 73 ^ l.length ≤ 5329 := by
    have := Nat.pow_le_pow_right (show 0 < 73 by decide) h2
    omega
  exact ⟨Nat.le_trans this.1 hp, Nat.le_trans this.2 hp⟩
theorem blkE1 {w : World} {g : Nat} {t : TypeId} {y : El} (h : Blk w g t #[.string y.kind, .int .i64 y.a, .int .i64 y.b]) : Reads w w.heap.size 3 (some ⟨g, 0, none⟩) 1 (els [y]) := by
  refine ⟨rfl, fun _ => ⟨_, rfl, h.lt, fun j u hu => ?_⟩⟩
  have : (⟨g, 0, none⟩ : Addr).add j = ⟨g, j, none⟩ := by unfold Addr.add; split <;> simp_all
  rw [this, h.cell]
  simpa [els, elCells] using hu
set_option maxHeartbeats 8000000 in
theorem lawJoi_long1 (A : Option Addr) (n c : Nat) (a : List El) (B : Option Addr) (m d : Nat) (b : List El) (f : Int) (w : World) (hV : VarsN w) (_hR : Reads w w.heap.size 3 A n (els a)) (_hS : Reads w w.heap.size 3 B m (els b)) (hn : 2 < n) :
    Calls Tryz.prog 11 #[.slice A n c, .slice B m d, .int .i64 f] w fun e w' => e = .returned (.bool true) ∧ Below w.heap.size w w' := by
  have g1 : (2 : Int) < (n : Int) := by omega
  have hb0 := Below.refl w.heap.size w
  go_enter Tryz.func11, Tryz.ntmps11
  go_wp2_with fail
  refine (awake_any _ (hV.con.carry (by repeat (first | with_reducible assumption | exact Below.refl _ _ | refine below_next (by with_reducible assumption) ?_))) (hV.tur.carry (by repeat (first | with_reducible assumption | exact Below.refl _ _ | refine below_next (by with_reducible assumption) ?_))) (hV.ten.carry (by repeat (first | with_reducible assumption | exact Below.refl _ _ | refine below_next (by with_reducible assumption) ?_)))).mono ?_
  rintro e wz ⟨rfl, hbz⟩
  go_wp2_with fail
  go_ret
  exact ⟨rfl, (by repeat (first | with_reducible assumption | exact Below.refl _ _ | refine below_next (by with_reducible assumption) ?_))⟩
set_option maxHeartbeats 8000000 in
theorem lawJoi_long2 (A : Option Addr) (n c : Nat) (a : List El) (B : Option Addr) (m d : Nat) (b : List El) (f : Int) (w : World) (hV : VarsN w) (_hR : Reads w w.heap.size 3 A n (els a)) (_hS : Reads w w.heap.size 3 B m (els b)) (hn : n ≤ 2) (hm : 2 < m) :
    Calls Tryz.prog 11 #[.slice A n c, .slice B m d, .int .i64 f] w fun e w' => e = .returned (.bool true) ∧ Below w.heap.size w w' := by
  have g1 : ¬ (2 : Int) < (n : Int) := by omega
  have g2 : (2 : Int) < (m : Int) := by omega
  have hb0 := Below.refl w.heap.size w
  go_enter Tryz.func11, Tryz.ntmps11
  go_wp2_with fail
  refine (awake_any _ (hV.con.carry (by repeat (first | with_reducible assumption | exact Below.refl _ _ | refine below_next (by with_reducible assumption) ?_))) (hV.tur.carry (by repeat (first | with_reducible assumption | exact Below.refl _ _ | refine below_next (by with_reducible assumption) ?_))) (hV.ten.carry (by repeat (first | with_reducible assumption | exact Below.refl _ _ | refine below_next (by with_reducible assumption) ?_)))).mono ?_
  rintro e wz ⟨rfl, hbz⟩
  go_wp2_with fail
  go_ret
  exact ⟨rfl, (by repeat (first | with_reducible assumption | exact Below.refl _ _ | refine below_next (by with_reducible assumption) ?_))⟩
set_option maxHeartbeats 8000000 in
theorem lawJoi_bad1 (A : Option Addr) (n c : Nat) (a : List El) (B : Option Addr) (m d : Nat) (b : List El) (f : Int) (w : World) (hV : VarsN w) (hR : Reads w w.heap.size 3 A n (els a)) (_hS : Reads w w.heap.size 3 B m (els b)) (hn : n ≤ 2) (hm : m ≤ 2) (h1 : (atErr a f != 0) = true) :
    Calls Tryz.prog 11 #[.slice A n c, .slice B m d, .int .i64 f] w fun e w' => e = .returned (.bool true) ∧ Below w.heap.size w w' := by
  have g1 : ¬ (2 : Int) < (n : Int) := by omega
  have g2 : ¬ (2 : Int) < (m : Int) := by omega
  go_enter Tryz.func11, Tryz.ntmps11
  go_wp2_with fail
  refine (rCheckAt_any A n c a f _ hR).mono ?_
  rintro e w1 ⟨rfl, hb1⟩
  go_wp2_with fail
  refine (awake_any _ (hV.con.carry (by repeat (first | with_reducible assumption | exact Below.refl _ _ | refine below_next (by with_reducible assumption) ?_))) (hV.tur.carry (by repeat (first | with_reducible assumption | exact Below.refl _ _ | refine below_next (by with_reducible assumption) ?_))) (hV.ten.carry (by repeat (first | with_reducible assumption | exact Below.refl _ _ | refine below_next (by with_reducible assumption) ?_)))).mono ?_
  rintro e wz ⟨rfl, hbz⟩
  go_wp2_with fail
  go_ret
  exact ⟨rfl, (by repeat (first | with_reducible assumption | exact Below.refl _ _ | refine below_next (by with_reducible assumption) ?_))⟩
set_option maxHeartbeats 8000000 in
theorem lawJoi_bad2 (A : Option Addr) (n c : Nat) (a : List El) (B : Option Addr) (m d : Nat) (b : List El) (f : Int) (w : World) (hV : VarsN w) (hR : Reads w w.heap.size 3 A n (els a)) (hS : Reads w w.heap.size 3 B m (els b)) (hn : n ≤ 2) (hm : m ≤ 2) (h1 : (atErr a f != 0) = false) (h2 : (ladErr b != 0) = true) :
    Calls Tryz.prog 11 #[.slice A n c, .slice B m d, .int .i64 f] w fun e w' => e = .returned (.bool true) ∧ Below w.heap.size w w' := by
  have g1 : ¬ (2 : Int) < (n : Int) := by omega
  have g2 : ¬ (2 : Int) < (m : Int) := by omega
  go_enter Tryz.func11, Tryz.ntmps11
  go_wp2_with fail
  refine (rCheckAt_any A n c a f _ hR).mono ?_
  rintro e w1 ⟨rfl, hb1⟩
  go_wp2_with fail
  refine (rCheckLadder_all B m d b _ (carry hS (by repeat (first | with_reducible assumption | exact Below.refl _ _ | refine below_next (by with_reducible assumption) ?_)))).mono ?_
  rintro e w2 ⟨rfl, hb2⟩
  go_wp2_with fail
  refine (awake_any _ (hV.con.carry (by repeat (first | with_reducible assumption | exact Below.refl _ _ | refine below_next (by with_reducible assumption) ?_))) (hV.tur.carry (by repeat (first | with_reducible assumption | exact Below.refl _ _ | refine below_next (by with_reducible assumption) ?_))) (hV.ten.carry (by repeat (first | with_reducible assumption | exact Below.refl _ _ | refine below_next (by with_reducible assumption) ?_)))).mono ?_
  rintro e wz ⟨rfl, hbz⟩
  go_wp2_with fail
  go_ret
  exact ⟨rfl, (by repeat (first | with_reducible assumption | exact Below.refl _ _ | refine below_next (by with_reducible assumption) ?_))⟩
/-- What the functions return. -/
structure Joi (n m : Nat) (a b : List El) (f : Int) (M X Y : Mat) (D F H : G) (T : Pr) (E : Int) (R : Rt) (EL : Int) : Prop where
  ca : ∀ A c w, Con w → Reads w w.heap.size 3 A n (els a) → Calls Tryz.prog 38 #[.slice A n c, .int .i64 f] w fun e w' => e = .returned (.tuple #[.agg #[.int .i64 X.a.re, .int .i64 X.a.im, .int .i64 X.b.re, .int .i64 X.b.im, .int .i64 X.c.re, .int .i64 X.c.im, .int .i64 X.d.re, .int .i64 X.d.im], .int .i64 0]) ∧ Below w.heap.size w w'
  cb : ∀ A c w, Con w → Reads w w.heap.size 3 A m (els b) → Calls Tryz.prog 38 #[.slice A m c, .int .i64 f] w fun e w' => e = .returned (.tuple #[.agg #[.int .i64 Y.a.re, .int .i64 Y.a.im, .int .i64 Y.b.re, .int .i64 Y.b.im, .int .i64 Y.c.re, .int .i64 Y.c.im, .int .i64 Y.d.re, .int .i64 Y.d.im], .int .i64 0]) ∧ Below w.heap.size w w'
  cl : ∀ A c w, Con w → Reads w w.heap.size 3 A (n + m) (els (a ++ b)) → Calls Tryz.prog 38 #[.slice A (n + m) c, .int .i64 f] w fun e w' => e = .returned (.tuple #[.agg #[.int .i64 M.a.re, .int .i64 M.a.im, .int .i64 M.b.re, .int .i64 M.b.im, .int .i64 M.c.re, .int .i64 M.c.im, .int .i64 M.d.re, .int .i64 M.d.im], .int .i64 0]) ∧ Below w.heap.size w w'
  pr : ∀ w, Con w → Calls Tryz.prog 73 #[.agg #[.int .i64 X.a.re, .int .i64 X.a.im, .int .i64 X.b.re, .int .i64 X.b.im, .int .i64 X.c.re, .int .i64 X.c.im, .int .i64 X.d.re, .int .i64 X.d.im], .agg #[.int .i64 Y.a.re, .int .i64 Y.a.im, .int .i64 Y.b.re, .int .i64 Y.b.im, .int .i64 Y.c.re, .int .i64 Y.c.im, .int .i64 Y.d.re, .int .i64 Y.d.im]] w fun e w' => e = .returned (.tuple #[.agg #[.int .i64 M.a.re, .int .i64 M.a.im, .int .i64 M.b.re, .int .i64 M.b.im, .int .i64 M.c.re, .int .i64 M.c.im, .int .i64 M.d.re, .int .i64 M.d.im], .int .i64 0]) ∧ Below w.heap.size w w'
  da : ∀ A c w, Con w → Reads w w.heap.size 3 A n (els a) → Calls Tryz.prog 39 #[.slice A n c, .int .i64 f] w fun e w' => e = .returned (.tuple #[.agg #[.int .i64 F.re, .int .i64 F.im], .int .i64 0]) ∧ Below w.heap.size w w'
  db : ∀ A c w, Con w → Reads w w.heap.size 3 A m (els b) → Calls Tryz.prog 39 #[.slice A m c, .int .i64 f] w fun e w' => e = .returned (.tuple #[.agg #[.int .i64 H.re, .int .i64 H.im], .int .i64 0]) ∧ Below w.heap.size w w'
  dl : ∀ A c w, Con w → Reads w w.heap.size 3 A (n + m) (els (a ++ b)) → Calls Tryz.prog 39 #[.slice A (n + m) c, .int .i64 f] w fun e w' => e = .returned (.tuple #[.agg #[.int .i64 D.re, .int .i64 D.im], .int .i64 0]) ∧ Below w.heap.size w w'
  tl : ∀ A c w, Con w → Reads w w.heap.size 3 A (n + m) (els (a ++ b)) → Calls Tryz.prog 49 #[.slice A (n + m) c, .int .i64 f] w fun e w' => e = .returned (.tuple #[.agg #[.int .i64 T.n.re, .int .i64 T.n.im, .int .i64 T.d.re, .int .i64 T.d.im], .int .i64 E]) ∧ Below w.heap.size w w'
  t1 : ∀ A c w, Con w → Reads w w.heap.size 3 A (1 + (n + m)) (els ([⟨kShunt, 3, 0⟩] ++ (a ++ b))) → Calls Tryz.prog 49 #[.slice A (1 + (n + m)) c, .int .i64 f] w fun e w' => e = .returned (.tuple #[.agg #[.int .i64 T.n.re, .int .i64 T.n.im, .int .i64 T.d.re, .int .i64 T.d.im], .int .i64 E]) ∧ Below w.heap.size w w'
  t2 : ∀ A c w, Con w → Reads w w.heap.size 3 A (n + m + 1) (els (a ++ b ++ [⟨kSeries, 3, 0⟩])) → Calls Tryz.prog 49 #[.slice A (n + m + 1) c, .int .i64 f] w fun e w' => e = .returned (.tuple #[.agg #[.int .i64 T.n.re, .int .i64 T.n.im, .int .i64 T.d.re, .int .i64 T.d.im], .int .i64 E]) ∧ Below w.heap.size w w'
  lv : ∀ A c w, Con w → Reads w w.heap.size 3 A (n + m) (els (a ++ b)) → Calls Tryz.prog 50 #[.slice A (n + m) c, .int .i64 f] w fun e w' => e = .returned (.tuple #[.agg #[.int .i64 R.n, .int .i64 R.d], .int .i64 EL]) ∧ Below w.heap.size w w'
  ha : ladErr a = 0
  hb : ladErr b = 0
  hl : ladErr (a ++ b) = 0
  h1 : (F.mul H).w = D
  h2 : ((X.a.mul Y.a).add (X.b.mul Y.c)).w = M.a
set_option maxHeartbeats 8000000 in
theorem lawJoi_zero (A : Option Addr) (n c : Nat) (a : List El) (B : Option Addr) (m d : Nat) (b : List El) (f : Int) (w : World) (hV : VarsN w) (hR : Reads w w.heap.size 3 A n (els a)) (hS : Reads w w.heap.size 3 B m (els b)) (hn : n ≤ 2) (hm : m ≤ 2) (he : atErr a f = 0) (M X Y : Mat) (D F H : G) (T : Pr) (R : Rt) (hI : Joi n m a b f M X Y D F H T 17 R 17) (hz : M.a = .zero) :
    Calls Tryz.prog 11 #[.slice A n c, .slice B m d, .int .i64 f] w fun e w' => e = .returned (.bool true) ∧ Below w.heap.size w w' := by
  have HFH : Hid (∀ W, Calls Tryz.prog 61 #[.agg #[.int .i64 F.re, .int .i64 F.im], .agg #[.int .i64 H.re, .int .i64 H.im]] W fun e w' => e = .returned (.agg #[.int .i64 D.re, .int .i64 D.im]) ∧ Below W.heap.size W w') := fun W => by
    have := rTimes_any F H W
    rwa [hI.h1] at this
  have HPL : Hid (∀ W, Calls Tryz.prog 66 #[.agg #[.int .i64 (X.a.mul Y.a).w.re, .int .i64 (X.a.mul Y.a).w.im], .agg #[.int .i64 (X.b.mul Y.c).w.re, .int .i64 (X.b.mul Y.c).w.im]] W fun e w' => e = .returned (.agg #[.int .i64 M.a.re, .int .i64 M.a.im]) ∧ Below W.heap.size W w') := fun W => by
    have := rPlus_w (X.a.mul Y.a) (X.b.mul Y.c) W
    rwa [hI.h2] at this
  have qz : ∀ W, (binOp .eql 23 (.agg #[.int .i64 M.a.re, .int .i64 M.a.im]) (.agg #[.int .i64 0, .int .i64 0])).run Tryz.prog W = .ok (.bool true) W := fun W => by
    have := eqG M.a .zero W
    rwa [decide_eq_true hz] at this
  clear hz
  have HI := hide hI
  have HE := hide he
  clear hI he
  have g1 : ¬ (2 : Int) < (n : Int) := by omega
  have g2 : ¬ (2 : Int) < (m : Int) := by omega
  go_enter Tryz.func11, Tryz.ntmps11
  go_wp2_with fail
  refine (rCheckAt_any A n c a f _ hR).mono ?_
  rintro e w1 ⟨rfl, hb1⟩
  rw [HE.out]
  go_wp2_with fail
  refine (rCheckLadder_all B m d b _ (carry hS (by repeat (first | with_reducible assumption | exact Below.refl _ _ | refine below_next (by with_reducible assumption) ?_)))).mono ?_
  rintro e w2 ⟨rfl, hb2⟩
  rw [HI.out.hb]
  go_wp2_with fail
  refine (ladder_lad A n c a _ (carry hR (by repeat (first | with_reducible assumption | exact Below.refl _ _ | refine below_next (by with_reducible assumption) ?_))) (by omega)).mono ?_
  rintro e w3 ⟨A3, cA3, rfl, r3, hbw3⟩
  go_wp2_with fail
  refine (ladder_lad B m d b _ (carry hS (by repeat (first | with_reducible assumption | exact Below.refl _ _ | refine below_next (by with_reducible assumption) ?_))) (by omega)).mono ?_
  rintro e w4 ⟨A4, cA4, rfl, r4, hbw4⟩
  go_wp2_with fail
  refine (Join_ok A3 n cA3 a A4 m cA4 b _ (carry r3 hbw4) r4 HI.out.ha HI.out.hb (by omega)).mono ?_
  rintro e w9 ⟨A9, c9, rfl, r9, hbw9⟩
  go_wp2_with fail
  refine (HI.out.cl A9 c9 _ (hV.con.carry (by repeat (first | with_reducible assumption | exact Below.refl _ _ | refine below_next (by with_reducible assumption) ?_))) r9).mono ?_
  rintro e w10 ⟨rfl, hbw10⟩
  go_upto_region 5 with (fail)
  obtain ⟨w11, ew11, hbw11, hzw11, kM⟩ := box1 w10 #[.int .i64 M.a.re, .int .i64 M.a.im, .int .i64 M.b.re, .int .i64 M.b.im, .int .i64 M.c.re, .int .i64 M.c.im, .int .i64 M.d.re, .int .i64 M.d.im] 73
  rw [← ew11]; clear ew11
  go_wp2_with fail
  refine (ladder_lad A n c a _ (carry hR (by repeat (first | with_reducible assumption | exact Below.refl _ _ | refine below_next (by with_reducible assumption) ?_))) (by omega)).mono ?_
  rintro e w12 ⟨A12, cA12, rfl, r12, hbw12⟩
  go_wp2_with fail
  refine (HI.out.ca A12 cA12 _ (hV.con.carry (by repeat (first | with_reducible assumption | exact Below.refl _ _ | refine below_next (by with_reducible assumption) ?_))) r12).mono ?_
  rintro e w13 ⟨rfl, hbw13⟩
  go_upto_region 6 with (fail)
  obtain ⟨w14, ew14, hbw14, hzw14, kX⟩ := box1 w13 #[.int .i64 X.a.re, .int .i64 X.a.im, .int .i64 X.b.re, .int .i64 X.b.im, .int .i64 X.c.re, .int .i64 X.c.im, .int .i64 X.d.re, .int .i64 X.d.im] 73
  rw [← ew14]; clear ew14
  go_wp2_with fail
  refine (ladder_lad B m d b _ (carry hS (by repeat (first | with_reducible assumption | exact Below.refl _ _ | refine below_next (by with_reducible assumption) ?_))) (by omega)).mono ?_
  rintro e w15 ⟨A15, cA15, rfl, r15, hbw15⟩
  go_wp2_with fail
  refine (HI.out.cb A15 cA15 _ (hV.con.carry (by repeat (first | with_reducible assumption | exact Below.refl _ _ | refine below_next (by with_reducible assumption) ?_))) r15).mono ?_
  rintro e w16 ⟨rfl, hbw16⟩
  go_upto_region 7 with (fail)
  obtain ⟨w17, ew17, hbw17, hzw17, kY⟩ := box1 w16 #[.int .i64 Y.a.re, .int .i64 Y.a.im, .int .i64 Y.b.re, .int .i64 Y.b.im, .int .i64 Y.c.re, .int .i64 Y.c.im, .int .i64 Y.d.re, .int .i64 Y.d.im] 73
  rw [← ew17]; clear ew17
  have cX := (carryK (w' := w17) kX (by repeat (first | with_reducible assumption | exact Below.refl _ _ | refine below_next (by with_reducible assumption) ?_))).cell
  have cY := (carryK (w' := w17) kY (by repeat (first | with_reducible assumption | exact Below.refl _ _ | refine below_next (by with_reducible assumption) ?_))).cell
  go_wp2_with fail
  refine (HI.out.pr _ (hV.con.carry (by repeat (first | with_reducible assumption | exact Below.refl _ _ | refine below_next (by with_reducible assumption) ?_)))).mono ?_
  rintro e w18 ⟨rfl, hbw18⟩
  go_upto_region 8 with (fail)
  obtain ⟨w19, ew19, hbw19, hzw19, kP⟩ := box1 w18 #[.int .i64 M.a.re, .int .i64 M.a.im, .int .i64 M.b.re, .int .i64 M.b.im, .int .i64 M.c.re, .int .i64 M.c.im, .int .i64 M.d.re, .int .i64 M.d.im] 73
  rw [← ew19]; clear ew19
  clear cX cY
  go_wp2_with fail
  refine (copied_lad A9 (n + m) c9 (a ++ b) _ (carry r9 (by repeat (first | with_reducible assumption | exact Below.refl _ _ | refine below_next (by with_reducible assumption) ?_))) (by omega)).mono ?_
  rintro e w20 ⟨A20, cA20, rfl, r20, hbw20⟩
  go_wp2_with fail
  refine (HI.out.dl A20 cA20 _ (hV.con.carry (by repeat (first | with_reducible assumption | exact Below.refl _ _ | refine below_next (by with_reducible assumption) ?_))) r20).mono ?_
  rintro e w21 ⟨rfl, hbw21⟩
  go_upto_region 9 with (fail)
  obtain ⟨w22, ew22, hbw22, hzw22, kD⟩ := box1 w21 #[.int .i64 D.re, .int .i64 D.im] 23
  rw [← ew22]; clear ew22
  go_wp2_with fail
  refine (ladder_lad A n c a _ (carry hR (by repeat (first | with_reducible assumption | exact Below.refl _ _ | refine below_next (by with_reducible assumption) ?_))) (by omega)).mono ?_
  rintro e w23 ⟨A23, cA23, rfl, r23, hbw23⟩
  go_wp2_with fail
  refine (HI.out.da A23 cA23 _ (hV.con.carry (by repeat (first | with_reducible assumption | exact Below.refl _ _ | refine below_next (by with_reducible assumption) ?_))) r23).mono ?_
  rintro e w24 ⟨rfl, hbw24⟩
  go_upto_region 10 with (fail)
  obtain ⟨w25, ew25, hbw25, hzw25, kF⟩ := box1 w24 #[.int .i64 F.re, .int .i64 F.im] 23
  rw [← ew25]; clear ew25
  go_wp2_with fail
  refine (ladder_lad B m d b _ (carry hS (by repeat (first | with_reducible assumption | exact Below.refl _ _ | refine below_next (by with_reducible assumption) ?_))) (by omega)).mono ?_
  rintro e w26 ⟨A26, cA26, rfl, r26, hbw26⟩
  go_wp2_with fail
  refine (HI.out.db A26 cA26 _ (hV.con.carry (by repeat (first | with_reducible assumption | exact Below.refl _ _ | refine below_next (by with_reducible assumption) ?_))) r26).mono ?_
  rintro e w27 ⟨rfl, hbw27⟩
  go_upto_region 11 with (fail)
  obtain ⟨w28, ew28, hbw28, hzw28, kH⟩ := box1 w27 #[.int .i64 H.re, .int .i64 H.im] 23
  rw [← ew28]; clear ew28
  have cM := over_blk (carryK (w' := w28) kM (by repeat (first | with_reducible assumption | exact Below.refl _ _ | refine below_next (by with_reducible assumption) ?_))) (carryK (w' := w28) kM (by repeat (first | with_reducible assumption | exact Below.refl _ _ | refine below_next (by with_reducible assumption) ?_))).lt
  have cX := over_blk (carryK (w' := w28) kX (by repeat (first | with_reducible assumption | exact Below.refl _ _ | refine below_next (by with_reducible assumption) ?_))) (carryK (w' := w28) kX (by repeat (first | with_reducible assumption | exact Below.refl _ _ | refine below_next (by with_reducible assumption) ?_))).lt
  have cY := over_blk (carryK (w' := w28) kY (by repeat (first | with_reducible assumption | exact Below.refl _ _ | refine below_next (by with_reducible assumption) ?_))) (carryK (w' := w28) kY (by repeat (first | with_reducible assumption | exact Below.refl _ _ | refine below_next (by with_reducible assumption) ?_))).lt
  have cP := over_blk (carryK (w' := w28) kP (by repeat (first | with_reducible assumption | exact Below.refl _ _ | refine below_next (by with_reducible assumption) ?_))) (carryK (w' := w28) kP (by repeat (first | with_reducible assumption | exact Below.refl _ _ | refine below_next (by with_reducible assumption) ?_))).lt
  have cD := over_blk (carryK (w' := w28) kD (by repeat (first | with_reducible assumption | exact Below.refl _ _ | refine below_next (by with_reducible assumption) ?_))) (carryK (w' := w28) kD (by repeat (first | with_reducible assumption | exact Below.refl _ _ | refine below_next (by with_reducible assumption) ?_))).lt
  have cF := over_blk (carryK (w' := w28) kF (by repeat (first | with_reducible assumption | exact Below.refl _ _ | refine below_next (by with_reducible assumption) ?_))) (carryK (w' := w28) kF (by repeat (first | with_reducible assumption | exact Below.refl _ _ | refine below_next (by with_reducible assumption) ?_))).lt
  have cH := over_blk kH kH.lt
  have qM := fun W => reflMa_ne M W
  have qD := fun W => reflG_ne D W
  have qA := fun W => reflG_ne M.a W
  refine wp_region_over w28.heap.size (by kernel_rfl) (by kernel_rfl) ?_; (repeat (first | go_big_quiet_step (first | (go_at_call 61; with_reducible first | exact over_call (Nat.le_refl _) (HFH.out _) | exact over_call (Nat.le_refl _) (rTimes_any X.a Y.a _) | exact over_call (Nat.le_refl _) (rTimes_any X.b Y.c _)) | (go_at_call 66; with_reducible exact over_call (Nat.le_refl _) (HPL.out _))) | quiet_step (first | (go_at_call 61; with_reducible first | exact over_call (Nat.le_refl _) (HFH.out _) | exact over_call (Nat.le_refl _) (rTimes_any X.a Y.a _) | exact over_call (Nat.le_refl _) (rTimes_any X.b Y.c _)) | (go_at_call 66; with_reducible exact over_call (Nat.le_refl _) (HPL.out _))))); refine wpQuiet_nil ?_; rintro W ⟨x, rfl⟩
  have hbQ := over_below w28.heap.size w28 x
  generalize over w28.heap.size w28 x = Q1 at hbQ ⊢
  clear cM cX cY cP cD cF cH qM qD qA
  go_wp2_with fail
  refine (copied_lad A9 (n + m) c9 (a ++ b) _ (carry r9 (by repeat (first | with_reducible assumption | exact Below.refl _ _ | refine below_next (by with_reducible assumption) ?_))) (by omega)).mono ?_
  rintro e w30 ⟨A30, cA30, rfl, r30, hbw30⟩
  go_wp2_with fail
  refine (HI.out.tl A30 cA30 _ (hV.con.carry (by repeat (first | with_reducible assumption | exact Below.refl _ _ | refine below_next (by with_reducible assumption) ?_))) r30).mono ?_
  rintro e w31 ⟨rfl, hbw31⟩
  go_upto_region 14 with (fail)
  obtain ⟨w32, ew32, hbw32, hzw32, kT⟩ := box1 w31 #[.int .i64 T.n.re, .int .i64 T.n.im, .int .i64 T.d.re, .int .i64 T.d.im] 32
  rw [← ew32]; clear ew32
  go_wp2_with fail
  obtain ⟨w33, e33, hb33, hz33, kL⟩ := box1 w32 #[.string { data := #[115, 104, 117, 110, 116] }, .int .i64 3, .int .i64 0] 104
  rw [← e33]; clear e33
  refine (copied_lad A9 (n + m) c9 (a ++ b) _ (carry r9 (by repeat (first | with_reducible assumption | exact Below.refl _ _ | refine below_next (by with_reducible assumption) ?_))) (by omega)).mono ?_
  rintro e w34 ⟨A34, c34, rfl, r34, hb34⟩
  have rL : Reads w34 w34.heap.size 3 (some ⟨w32.heap.size, 0, none⟩) 1 (els [⟨kShunt, 3, 0⟩]) := carry (blkE1 (y := ⟨kShunt, 3, 0⟩) kL) hb34
  go_wp2_with fail
  refine (Join_ok _ 1 1 [⟨kShunt, 3, 0⟩] A34 (n + m) c34 (a ++ b) _ rL r34 (by decide) HI.out.hl (by omega)).mono ?_
  rintro e w35 ⟨A35, c35, rfl, r35, hb35⟩
  go_wp2_with fail
  refine (copied_lad A9 (n + m) c9 (a ++ b) _ (carry r9 (by repeat (first | with_reducible assumption | exact Below.refl _ _ | refine below_next (by with_reducible assumption) ?_))) (by omega)).mono ?_
  rintro e w36 ⟨A36, c36, rfl, r36, hb36⟩
  go_wp2_with fail
  obtain ⟨w37, e37, hb37, hz37, kN⟩ := box1 w36 #[.string { data := #[115, 101, 114, 105, 101, 115] }, .int .i64 3, .int .i64 0] 104
  rw [← e37]; clear e37
  have rN : Reads w37 w37.heap.size 3 (some ⟨w36.heap.size, 0, none⟩) 1 (els [⟨kSeries, 3, 0⟩]) := blkE1 (y := ⟨kSeries, 3, 0⟩) kN
  refine (Join_ok A36 (n + m) c36 (a ++ b) _ 1 1 [⟨kSeries, 3, 0⟩] _ (carry r36 hb37) rN HI.out.hl (by decide) (by omega)).mono ?_
  rintro e w38 ⟨A38, c38, rfl, r38, hb38⟩
  go_wp2_with fail
  refine (HI.out.t1 A35 c35 _ (hV.con.carry (by repeat (first | with_reducible assumption | exact Below.refl _ _ | refine below_next (by with_reducible assumption) ?_))) (carry r35 (by repeat (first | with_reducible assumption | exact Below.refl _ _ | refine below_next (by with_reducible assumption) ?_)))).mono ?_
  rintro e w39 ⟨rfl, hbw39⟩
  go_upto_region 17 with (fail)
  obtain ⟨w40, ew40, hbw40, hzw40, kU⟩ := box1 w39 #[.int .i64 T.n.re, .int .i64 T.n.im, .int .i64 T.d.re, .int .i64 T.d.im] 32
  rw [← ew40]; clear ew40
  go_wp2_with fail
  refine (HI.out.t2 A38 c38 _ (hV.con.carry (by repeat (first | with_reducible assumption | exact Below.refl _ _ | refine below_next (by with_reducible assumption) ?_))) (carry r38 (by repeat (first | with_reducible assumption | exact Below.refl _ _ | refine below_next (by with_reducible assumption) ?_)))).mono ?_
  rintro e w41 ⟨rfl, hbw41⟩
  go_upto_region 18 with (fail)
  obtain ⟨w42, ew42, hbw42, hzw42, kW⟩ := box1 w41 #[.int .i64 T.n.re, .int .i64 T.n.im, .int .i64 T.d.re, .int .i64 T.d.im] 32
  rw [← ew42]; clear ew42
  have cT := (carryK (w' := w42) kT (by repeat (first | with_reducible assumption | exact Below.refl _ _ | refine below_next (by with_reducible assumption) ?_))).cell
  have cU := (carryK (w' := w42) kU (by repeat (first | with_reducible assumption | exact Below.refl _ _ | refine below_next (by with_reducible assumption) ?_))).cell
  have cW := (carryK (w' := w42) kW (by repeat (first | with_reducible assumption | exact Below.refl _ _ | refine below_next (by with_reducible assumption) ?_))).cell
  have qT := fun W => reflPr_ne T W
  go_wp2_with fail
  clear cT cU cW
  refine (copied_lad A9 (n + m) c9 (a ++ b) _ (carry r9 (by repeat (first | with_reducible assumption | exact Below.refl _ _ | refine below_next (by with_reducible assumption) ?_))) (by omega)).mono ?_
  rintro e w43 ⟨A43, c43, rfl, r43, hb43⟩
  go_wp2_with fail
  refine (HI.out.lv A43 c43 _ (hV.con.carry (by repeat (first | with_reducible assumption | exact Below.refl _ _ | refine below_next (by with_reducible assumption) ?_))) r43).mono ?_
  rintro e w44 ⟨rfl, hbw44⟩
  go_upto_region 21 with (fail)
  obtain ⟨w45, ew45, hbw45, hzw45, kR⟩ := box1 w44 #[.int .i64 R.n, .int .i64 R.d] 54
  rw [← ew45]; clear ew45
  have cM := (carryK (w' := w45) kM (by repeat (first | with_reducible assumption | exact Below.refl _ _ | refine below_next (by with_reducible assumption) ?_))).cell
  go_wp2_with fail
  clear cM
  refine (awake_any _ (hV.con.carry (by repeat (first | with_reducible assumption | exact Below.refl _ _ | refine below_next (by with_reducible assumption) ?_))) (hV.tur.carry (by repeat (first | with_reducible assumption | exact Below.refl _ _ | refine below_next (by with_reducible assumption) ?_))) (hV.ten.carry (by repeat (first | with_reducible assumption | exact Below.refl _ _ | refine below_next (by with_reducible assumption) ?_)))).mono ?_
  rintro e wz ⟨rfl, hbz⟩
  go_wp2_with fail
  go_ret
  exact ⟨rfl, (by repeat (first | with_reducible assumption | exact Below.refl _ _ | refine below_next (by with_reducible assumption) ?_))⟩
set_option maxHeartbeats 8000000 in
theorem lawJoi_good (A : Option Addr) (n c : Nat) (a : List El) (B : Option Addr) (m d : Nat) (b : List El) (f : Int) (w : World) (hV : VarsN w) (hR : Reads w w.heap.size 3 A n (els a)) (hS : Reads w w.heap.size 3 B m (els b)) (hn : n ≤ 2) (hm : m ≤ 2) (he : atErr a f = 0) (M X Y : Mat) (D F H : G) (R : Rt) (hI : Joi n m a b f M X Y D F H ⟨D, M.a⟩ 0 R 0) (hz : ¬ M.a = .zero) (hlw : ∀ W, Calls Tryz.prog 75 #[.int .i64 D.sq, .int .i64 M.a.sq] W fun e w' => e = .returned (.agg #[.int .i64 R.n, .int .i64 R.d]) ∧ Below W.heap.size W w') (s1 : wr D.sq = D.sq) (s2 : wr M.a.sq = M.a.sq) :
    Calls Tryz.prog 11 #[.slice A n c, .slice B m d, .int .i64 f] w fun e w' => e = .returned (.bool true) ∧ Below w.heap.size w w' := by
  have HFH : Hid (∀ W, Calls Tryz.prog 61 #[.agg #[.int .i64 F.re, .int .i64 F.im], .agg #[.int .i64 H.re, .int .i64 H.im]] W fun e w' => e = .returned (.agg #[.int .i64 D.re, .int .i64 D.im]) ∧ Below W.heap.size W w') := fun W => by
    have := rTimes_any F H W
    rwa [hI.h1] at this
  have HPL : Hid (∀ W, Calls Tryz.prog 66 #[.agg #[.int .i64 (X.a.mul Y.a).w.re, .int .i64 (X.a.mul Y.a).w.im], .agg #[.int .i64 (X.b.mul Y.c).w.re, .int .i64 (X.b.mul Y.c).w.im]] W fun e w' => e = .returned (.agg #[.int .i64 M.a.re, .int .i64 M.a.im]) ∧ Below W.heap.size W w') := fun W => by
    have := rPlus_w (X.a.mul Y.a) (X.b.mul Y.c) W
    rwa [hI.h2] at this
  have qz : ∀ W, (binOp .eql 23 (.agg #[.int .i64 M.a.re, .int .i64 M.a.im]) (.agg #[.int .i64 0, .int .i64 0])).run Tryz.prog W = .ok (.bool false) W := fun W => by
    have := eqG M.a .zero W
    rwa [decide_eq_false hz] at this
  have HLW := hide hlw
  have S1 := hide s1
  have S2 := hide s2
  obtain ⟨T, hT⟩ : ∃ T : Pr, T = ⟨D, M.a⟩ := ⟨_, rfl⟩
  rw [← hT] at hI
  have qP : ∀ W, (binOp .eql 32 (.agg #[.int .i64 T.n.re, .int .i64 T.n.im, .int .i64 T.d.re, .int .i64 T.d.im]) (.agg #[.int .i64 D.re, .int .i64 D.im, .int .i64 M.a.re, .int .i64 M.a.im])).run Tryz.prog W = .ok (.bool true) W := fun W => by rw [hT]; exact reflPr_eq ⟨D, M.a⟩ W
  have qR := fun W => reflR_e2 R W
  clear hz hlw s1 s2 hT
  have HI := hide hI
  have HE := hide he
  clear hI he
  have g1 : ¬ (2 : Int) < (n : Int) := by omega
  have g2 : ¬ (2 : Int) < (m : Int) := by omega
  go_enter Tryz.func11, Tryz.ntmps11
  go_wp2_with fail
  refine (rCheckAt_any A n c a f _ hR).mono ?_
  rintro e w1 ⟨rfl, hb1⟩
  rw [HE.out]
  go_wp2_with fail
  refine (rCheckLadder_all B m d b _ (carry hS (by repeat (first | with_reducible assumption | exact Below.refl _ _ | refine below_next (by with_reducible assumption) ?_)))).mono ?_
  rintro e w2 ⟨rfl, hb2⟩
  rw [HI.out.hb]
  go_wp2_with fail
  refine (ladder_lad A n c a _ (carry hR (by repeat (first | with_reducible assumption | exact Below.refl _ _ | refine below_next (by with_reducible assumption) ?_))) (by omega)).mono ?_
  rintro e w3 ⟨A3, cA3, rfl, r3, hbw3⟩
  go_wp2_with fail
  refine (ladder_lad B m d b _ (carry hS (by repeat (first | with_reducible assumption | exact Below.refl _ _ | refine below_next (by with_reducible assumption) ?_))) (by omega)).mono ?_
  rintro e w4 ⟨A4, cA4, rfl, r4, hbw4⟩
  go_wp2_with fail
  refine (Join_ok A3 n cA3 a A4 m cA4 b _ (carry r3 hbw4) r4 HI.out.ha HI.out.hb (by omega)).mono ?_
  rintro e w9 ⟨A9, c9, rfl, r9, hbw9⟩
  go_wp2_with fail
  refine (HI.out.cl A9 c9 _ (hV.con.carry (by repeat (first | with_reducible assumption | exact Below.refl _ _ | refine below_next (by with_reducible assumption) ?_))) r9).mono ?_
  rintro e w10 ⟨rfl, hbw10⟩
  go_upto_region 5 with (fail)
  obtain ⟨w11, ew11, hbw11, hzw11, kM⟩ := box1 w10 #[.int .i64 M.a.re, .int .i64 M.a.im, .int .i64 M.b.re, .int .i64 M.b.im, .int .i64 M.c.re, .int .i64 M.c.im, .int .i64 M.d.re, .int .i64 M.d.im] 73
  rw [← ew11]; clear ew11
  go_wp2_with fail
  refine (ladder_lad A n c a _ (carry hR (by repeat (first | with_reducible assumption | exact Below.refl _ _ | refine below_next (by with_reducible assumption) ?_))) (by omega)).mono ?_
  rintro e w12 ⟨A12, cA12, rfl, r12, hbw12⟩
  go_wp2_with fail
  refine (HI.out.ca A12 cA12 _ (hV.con.carry (by repeat (first | with_reducible assumption | exact Below.refl _ _ | refine below_next (by with_reducible assumption) ?_))) r12).mono ?_
  rintro e w13 ⟨rfl, hbw13⟩
  go_upto_region 6 with (fail)
  obtain ⟨w14, ew14, hbw14, hzw14, kX⟩ := box1 w13 #[.int .i64 X.a.re, .int .i64 X.a.im, .int .i64 X.b.re, .int .i64 X.b.im, .int .i64 X.c.re, .int .i64 X.c.im, .int .i64 X.d.re, .int .i64 X.d.im] 73
  rw [← ew14]; clear ew14
  go_wp2_with fail
  refine (ladder_lad B m d b _ (carry hS (by repeat (first | with_reducible assumption | exact Below.refl _ _ | refine below_next (by with_reducible assumption) ?_))) (by omega)).mono ?_
  rintro e w15 ⟨A15, cA15, rfl, r15, hbw15⟩
  go_wp2_with fail
  refine (HI.out.cb A15 cA15 _ (hV.con.carry (by repeat (first | with_reducible assumption | exact Below.refl _ _ | refine below_next (by with_reducible assumption) ?_))) r15).mono ?_
  rintro e w16 ⟨rfl, hbw16⟩
  go_upto_region 7 with (fail)
  obtain ⟨w17, ew17, hbw17, hzw17, kY⟩ := box1 w16 #[.int .i64 Y.a.re, .int .i64 Y.a.im, .int .i64 Y.b.re, .int .i64 Y.b.im, .int .i64 Y.c.re, .int .i64 Y.c.im, .int .i64 Y.d.re, .int .i64 Y.d.im] 73
  rw [← ew17]; clear ew17
  have cX := (carryK (w' := w17) kX (by repeat (first | with_reducible assumption | exact Below.refl _ _ | refine below_next (by with_reducible assumption) ?_))).cell
  have cY := (carryK (w' := w17) kY (by repeat (first | with_reducible assumption | exact Below.refl _ _ | refine below_next (by with_reducible assumption) ?_))).cell
  go_wp2_with fail
  refine (HI.out.pr _ (hV.con.carry (by repeat (first | with_reducible assumption | exact Below.refl _ _ | refine below_next (by with_reducible assumption) ?_)))).mono ?_
  rintro e w18 ⟨rfl, hbw18⟩
  go_upto_region 8 with (fail)
  obtain ⟨w19, ew19, hbw19, hzw19, kP⟩ := box1 w18 #[.int .i64 M.a.re, .int .i64 M.a.im, .int .i64 M.b.re, .int .i64 M.b.im, .int .i64 M.c.re, .int .i64 M.c.im, .int .i64 M.d.re, .int .i64 M.d.im] 73
  rw [← ew19]; clear ew19
  clear cX cY
  go_wp2_with fail
  refine (copied_lad A9 (n + m) c9 (a ++ b) _ (carry r9 (by repeat (first | with_reducible assumption | exact Below.refl _ _ | refine below_next (by with_reducible assumption) ?_))) (by omega)).mono ?_
  rintro e w20 ⟨A20, cA20, rfl, r20, hbw20⟩
  go_wp2_with fail
  refine (HI.out.dl A20 cA20 _ (hV.con.carry (by repeat (first | with_reducible assumption | exact Below.refl _ _ | refine below_next (by with_reducible assumption) ?_))) r20).mono ?_
  rintro e w21 ⟨rfl, hbw21⟩
  go_upto_region 9 with (fail)
  obtain ⟨w22, ew22, hbw22, hzw22, kD⟩ := box1 w21 #[.int .i64 D.re, .int .i64 D.im] 23
  rw [← ew22]; clear ew22
  go_wp2_with fail
  refine (ladder_lad A n c a _ (carry hR (by repeat (first | with_reducible assumption | exact Below.refl _ _ | refine below_next (by with_reducible assumption) ?_))) (by omega)).mono ?_
  rintro e w23 ⟨A23, cA23, rfl, r23, hbw23⟩
  go_wp2_with fail
  refine (HI.out.da A23 cA23 _ (hV.con.carry (by repeat (first | with_reducible assumption | exact Below.refl _ _ | refine below_next (by with_reducible assumption) ?_))) r23).mono ?_
  rintro e w24 ⟨rfl, hbw24⟩
  go_upto_region 10 with (fail)
  obtain ⟨w25, ew25, hbw25, hzw25, kF⟩ := box1 w24 #[.int .i64 F.re, .int .i64 F.im] 23
  rw [← ew25]; clear ew25
  go_wp2_with fail
  refine (ladder_lad B m d b _ (carry hS (by repeat (first | with_reducible assumption | exact Below.refl _ _ | refine below_next (by with_reducible assumption) ?_))) (by omega)).mono ?_
  rintro e w26 ⟨A26, cA26, rfl, r26, hbw26⟩
  go_wp2_with fail
  refine (HI.out.db A26 cA26 _ (hV.con.carry (by repeat (first | with_reducible assumption | exact Below.refl _ _ | refine below_next (by with_reducible assumption) ?_))) r26).mono ?_
  rintro e w27 ⟨rfl, hbw27⟩
  go_upto_region 11 with (fail)
  obtain ⟨w28, ew28, hbw28, hzw28, kH⟩ := box1 w27 #[.int .i64 H.re, .int .i64 H.im] 23
  rw [← ew28]; clear ew28
  have cM := over_blk (carryK (w' := w28) kM (by repeat (first | with_reducible assumption | exact Below.refl _ _ | refine below_next (by with_reducible assumption) ?_))) (carryK (w' := w28) kM (by repeat (first | with_reducible assumption | exact Below.refl _ _ | refine below_next (by with_reducible assumption) ?_))).lt
  have cX := over_blk (carryK (w' := w28) kX (by repeat (first | with_reducible assumption | exact Below.refl _ _ | refine below_next (by with_reducible assumption) ?_))) (carryK (w' := w28) kX (by repeat (first | with_reducible assumption | exact Below.refl _ _ | refine below_next (by with_reducible assumption) ?_))).lt
  have cY := over_blk (carryK (w' := w28) kY (by repeat (first | with_reducible assumption | exact Below.refl _ _ | refine below_next (by with_reducible assumption) ?_))) (carryK (w' := w28) kY (by repeat (first | with_reducible assumption | exact Below.refl _ _ | refine below_next (by with_reducible assumption) ?_))).lt
  have cP := over_blk (carryK (w' := w28) kP (by repeat (first | with_reducible assumption | exact Below.refl _ _ | refine below_next (by with_reducible assumption) ?_))) (carryK (w' := w28) kP (by repeat (first | with_reducible assumption | exact Below.refl _ _ | refine below_next (by with_reducible assumption) ?_))).lt
  have cD := over_blk (carryK (w' := w28) kD (by repeat (first | with_reducible assumption | exact Below.refl _ _ | refine below_next (by with_reducible assumption) ?_))) (carryK (w' := w28) kD (by repeat (first | with_reducible assumption | exact Below.refl _ _ | refine below_next (by with_reducible assumption) ?_))).lt
  have cF := over_blk (carryK (w' := w28) kF (by repeat (first | with_reducible assumption | exact Below.refl _ _ | refine below_next (by with_reducible assumption) ?_))) (carryK (w' := w28) kF (by repeat (first | with_reducible assumption | exact Below.refl _ _ | refine below_next (by with_reducible assumption) ?_))).lt
  have cH := over_blk kH kH.lt
  have qM := fun W => reflMa_ne M W
  have qD := fun W => reflG_ne D W
  have qA := fun W => reflG_ne M.a W
  refine wp_region_over w28.heap.size (by kernel_rfl) (by kernel_rfl) ?_; (repeat (first | go_big_quiet_step (first | (go_at_call 61; with_reducible first | exact over_call (Nat.le_refl _) (HFH.out _) | exact over_call (Nat.le_refl _) (rTimes_any X.a Y.a _) | exact over_call (Nat.le_refl _) (rTimes_any X.b Y.c _)) | (go_at_call 66; with_reducible exact over_call (Nat.le_refl _) (HPL.out _))) | quiet_step (first | (go_at_call 61; with_reducible first | exact over_call (Nat.le_refl _) (HFH.out _) | exact over_call (Nat.le_refl _) (rTimes_any X.a Y.a _) | exact over_call (Nat.le_refl _) (rTimes_any X.b Y.c _)) | (go_at_call 66; with_reducible exact over_call (Nat.le_refl _) (HPL.out _))))); refine wpQuiet_nil ?_; rintro W ⟨x, rfl⟩
  have hbQ := over_below w28.heap.size w28 x
  generalize over w28.heap.size w28 x = Q1 at hbQ ⊢
  clear cM cX cY cP cD cF cH qM qD qA
  go_wp2_with fail
  refine (copied_lad A9 (n + m) c9 (a ++ b) _ (carry r9 (by repeat (first | with_reducible assumption | exact Below.refl _ _ | refine below_next (by with_reducible assumption) ?_))) (by omega)).mono ?_
  rintro e w30 ⟨A30, cA30, rfl, r30, hbw30⟩
  go_wp2_with fail
  refine (HI.out.tl A30 cA30 _ (hV.con.carry (by repeat (first | with_reducible assumption | exact Below.refl _ _ | refine below_next (by with_reducible assumption) ?_))) r30).mono ?_
  rintro e w31 ⟨rfl, hbw31⟩
  go_upto_region 14 with (fail)
  obtain ⟨w32, ew32, hbw32, hzw32, kT⟩ := box1 w31 #[.int .i64 T.n.re, .int .i64 T.n.im, .int .i64 T.d.re, .int .i64 T.d.im] 32
  rw [← ew32]; clear ew32
  go_wp2_with fail
  obtain ⟨w33, e33, hb33, hz33, kL⟩ := box1 w32 #[.string { data := #[115, 104, 117, 110, 116] }, .int .i64 3, .int .i64 0] 104
  rw [← e33]; clear e33
  refine (copied_lad A9 (n + m) c9 (a ++ b) _ (carry r9 (by repeat (first | with_reducible assumption | exact Below.refl _ _ | refine below_next (by with_reducible assumption) ?_))) (by omega)).mono ?_
  rintro e w34 ⟨A34, c34, rfl, r34, hb34⟩
  have rL : Reads w34 w34.heap.size 3 (some ⟨w32.heap.size, 0, none⟩) 1 (els [⟨kShunt, 3, 0⟩]) := carry (blkE1 (y := ⟨kShunt, 3, 0⟩) kL) hb34
  go_wp2_with fail
  refine (Join_ok _ 1 1 [⟨kShunt, 3, 0⟩] A34 (n + m) c34 (a ++ b) _ rL r34 (by decide) HI.out.hl (by omega)).mono ?_
  rintro e w35 ⟨A35, c35, rfl, r35, hb35⟩
  go_wp2_with fail
  refine (copied_lad A9 (n + m) c9 (a ++ b) _ (carry r9 (by repeat (first | with_reducible assumption | exact Below.refl _ _ | refine below_next (by with_reducible assumption) ?_))) (by omega)).mono ?_
  rintro e w36 ⟨A36, c36, rfl, r36, hb36⟩
  go_wp2_with fail
  obtain ⟨w37, e37, hb37, hz37, kN⟩ := box1 w36 #[.string { data := #[115, 101, 114, 105, 101, 115] }, .int .i64 3, .int .i64 0] 104
  rw [← e37]; clear e37
  have rN : Reads w37 w37.heap.size 3 (some ⟨w36.heap.size, 0, none⟩) 1 (els [⟨kSeries, 3, 0⟩]) := blkE1 (y := ⟨kSeries, 3, 0⟩) kN
  refine (Join_ok A36 (n + m) c36 (a ++ b) _ 1 1 [⟨kSeries, 3, 0⟩] _ (carry r36 hb37) rN HI.out.hl (by decide) (by omega)).mono ?_
  rintro e w38 ⟨A38, c38, rfl, r38, hb38⟩
  go_wp2_with fail
  refine (HI.out.t1 A35 c35 _ (hV.con.carry (by repeat (first | with_reducible assumption | exact Below.refl _ _ | refine below_next (by with_reducible assumption) ?_))) (carry r35 (by repeat (first | with_reducible assumption | exact Below.refl _ _ | refine below_next (by with_reducible assumption) ?_)))).mono ?_
  rintro e w39 ⟨rfl, hbw39⟩
  go_upto_region 17 with (fail)
  obtain ⟨w40, ew40, hbw40, hzw40, kU⟩ := box1 w39 #[.int .i64 T.n.re, .int .i64 T.n.im, .int .i64 T.d.re, .int .i64 T.d.im] 32
  rw [← ew40]; clear ew40
  go_wp2_with fail
  refine (HI.out.t2 A38 c38 _ (hV.con.carry (by repeat (first | with_reducible assumption | exact Below.refl _ _ | refine below_next (by with_reducible assumption) ?_))) (carry r38 (by repeat (first | with_reducible assumption | exact Below.refl _ _ | refine below_next (by with_reducible assumption) ?_)))).mono ?_
  rintro e w41 ⟨rfl, hbw41⟩
  go_upto_region 18 with (fail)
  obtain ⟨w42, ew42, hbw42, hzw42, kW⟩ := box1 w41 #[.int .i64 T.n.re, .int .i64 T.n.im, .int .i64 T.d.re, .int .i64 T.d.im] 32
  rw [← ew42]; clear ew42
  have cT := (carryK (w' := w42) kT (by repeat (first | with_reducible assumption | exact Below.refl _ _ | refine below_next (by with_reducible assumption) ?_))).cell
  have cU := (carryK (w' := w42) kU (by repeat (first | with_reducible assumption | exact Below.refl _ _ | refine below_next (by with_reducible assumption) ?_))).cell
  have cW := (carryK (w' := w42) kW (by repeat (first | with_reducible assumption | exact Below.refl _ _ | refine below_next (by with_reducible assumption) ?_))).cell
  have qT := fun W => reflPr_ne T W
  go_wp2_with fail
  clear cT cU cW
  refine (copied_lad A9 (n + m) c9 (a ++ b) _ (carry r9 (by repeat (first | with_reducible assumption | exact Below.refl _ _ | refine below_next (by with_reducible assumption) ?_))) (by omega)).mono ?_
  rintro e w43 ⟨A43, c43, rfl, r43, hb43⟩
  go_wp2_with fail
  refine (HI.out.lv A43 c43 _ (hV.con.carry (by repeat (first | with_reducible assumption | exact Below.refl _ _ | refine below_next (by with_reducible assumption) ?_))) r43).mono ?_
  rintro e w44 ⟨rfl, hbw44⟩
  go_upto_region 21 with (fail)
  obtain ⟨w45, ew45, hbw45, hzw45, kR⟩ := box1 w44 #[.int .i64 R.n, .int .i64 R.d] 54
  rw [← ew45]; clear ew45
  have cM := (carryK (w' := w45) kM (by repeat (first | with_reducible assumption | exact Below.refl _ _ | refine below_next (by with_reducible assumption) ?_))).cell
  go_upto_region 23 with (fail)
  clear cM qz qT
  have cT := over_blk (carryK (w' := w45) kT (by repeat (first | with_reducible assumption | exact Below.refl _ _ | refine below_next (by with_reducible assumption) ?_))) (carryK (w' := w45) kT (by repeat (first | with_reducible assumption | exact Below.refl _ _ | refine below_next (by with_reducible assumption) ?_))).lt
  have cD := over_blk (carryK (w' := w45) kD (by repeat (first | with_reducible assumption | exact Below.refl _ _ | refine below_next (by with_reducible assumption) ?_))) (carryK (w' := w45) kD (by repeat (first | with_reducible assumption | exact Below.refl _ _ | refine below_next (by with_reducible assumption) ?_))).lt
  have cM := over_blk (carryK (w' := w45) kM (by repeat (first | with_reducible assumption | exact Below.refl _ _ | refine below_next (by with_reducible assumption) ?_))) (carryK (w' := w45) kM (by repeat (first | with_reducible assumption | exact Below.refl _ _ | refine below_next (by with_reducible assumption) ?_))).lt
  have cR := over_blk kR kR.lt
  have hV45 : VarsN w45 := hV.carry (by repeat (first | with_reducible assumption | exact Below.refl _ _ | refine below_next (by with_reducible assumption) ?_))
  have HAW : Hid (∀ x, Calls Tryz.prog 14 #[] (over w45.heap.size w45 x) fun e w' => e = .returned (.bool true) ∧ Below (over w45.heap.size w45 x).heap.size (over w45.heap.size w45 x) w') := fun x => awake_any _ (hV45.con.carry (over_below _ _ _)) (hV45.tur.carry (over_below _ _ _)) (hV45.ten.carry (over_below _ _ _))
  refine wp_region_over w45.heap.size (by kernel_rfl) (by kernel_rfl) ?_; (repeat (first | go_big_quiet_step (first | (go_at_call 63; with_reducible first | exact over_call (Nat.le_refl _) (sqIn_any D S1.out _) | exact over_call (Nat.le_refl _) (sqIn_any M.a S2.out _)) | (go_at_call 75; with_reducible exact over_call (Nat.le_refl _) (HLW.out _)) | (go_at_call 14; with_reducible exact over_call (Nat.le_refl _) (HAW.out _))) | quiet_step (first | (go_at_call 63; with_reducible first | exact over_call (Nat.le_refl _) (sqIn_any D S1.out _) | exact over_call (Nat.le_refl _) (sqIn_any M.a S2.out _)) | (go_at_call 75; with_reducible exact over_call (Nat.le_refl _) (HLW.out _)) | (go_at_call 14; with_reducible exact over_call (Nat.le_refl _) (HAW.out _))))); refine wpQuiet_nil ?_; rintro W ⟨x, rfl⟩
  have hbZ := over_below w45.heap.size w45 x
  generalize over w45.heap.size w45 x = Z at hbZ ⊢
  clear cT cD cM cR qP qR HAW
  go_wp2_with fail
  go_ret
  exact ⟨rfl, (by repeat (first | with_reducible assumption | exact Below.refl _ _ | refine below_next (by with_reducible assumption) ?_))⟩
theorem lawJoi_any (A : Option Addr) (n c : Nat) (a : List El) (B : Option Addr) (m d : Nat) (b : List El) (f : Int) (w : World) (hV : VarsN w) (hR : Reads w w.heap.size 3 A n (els a)) (hS : Reads w w.heap.size 3 B m (els b)) :
    Calls Tryz.prog 11 #[.slice A n c, .slice B m d, .int .i64 f] w fun e w' => e = .returned (.bool true) ∧ Below w.heap.size w w' := by
  by_cases hn : 2 < n
  · exact lawJoi_long1 A n c a B m d b f w hV hR hS hn
  have hn : n ≤ 2 := by omega
  by_cases hm : 2 < m
  · exact lawJoi_long2 A n c a B m d b f w hV hR hS hn hm
  have hm : m ≤ 2 := by omega
  by_cases he : atErr a f = 0
  · by_cases hb : ladErr b = 0
    · obtain ⟨hl, f1, f8⟩ := at_zero he
      have ha := ok_lad hl
      have hlb := lad_ok hb
      have hla := els_reads_len hR
      have hlbn := els_reads_len hS
      have hj := ladder_joined hl hlb (by omega)
      have heb := at_of hlb f1 f8
      have hej := at_of hj f1 f8
      have he1 := at_of (lad_front hj (by simp; omega)) f1 f8
      have he2 := at_of (lad_back hj (by simp; omega)) f1 f8
      have ix := chn_in2 hl f1 f8 (by omega)
      have iy := chn_in2 hlb f1 f8 (by omega)
      have im := chain_in hj f1 f8
      have id := div_in hj f1 f8
      have hin := lv_in hj f1 f8
      have jm := chn_join f a b
      have jd := dvs_append f a b
      have t1 := fun A c w hC hR => Transfer_ok ([⟨kShunt, 3, 0⟩] ++ (a ++ b)) f A (1 + (n + m)) c w hC he1 (by omega) hR
      have t2 := fun A c w hC hR => Transfer_ok (a ++ b ++ [⟨kSeries, 3, 0⟩]) f A (n + m + 1) c w hC he2 (by omega) hR
      rw [show chn f .id ([⟨kShunt, 3, 0⟩] ++ (a ++ b)) = chn f .id (⟨kShunt, 3, 0⟩ :: (a ++ b)) from rfl, show dvs f .one ([⟨kShunt, 3, 0⟩] ++ (a ++ b)) = dvs f .one (⟨kShunt, 3, 0⟩ :: (a ++ b)) from rfl, chn_front, dvs_front] at t1
      rw [chn_back, dvs_back] at t2
      have ml : (chn f .id a).In 30000 := ⟨by have := ix.1; omega, by have := ix.2; omega⟩
      have mr : (chn f .id b).In 30000 := ⟨by have := iy.1; omega, by have := iy.2; omega⟩
      have h1 : ((dvs f .one a).mul (dvs f .one b)).w = dvs f .one (a ++ b) := by rw [← jd]; exact G.w_in (by omega)
      have h2 : (((chn f .id a).a.mul (chn f .id b).a).add ((chn f .id a).b.mul (chn f .id b).c)).w = (chn f .id (a ++ b)).a := by
        rw [show ((chn f .id a).a.mul (chn f .id b).a).add ((chn f .id a).b.mul (chn f .id b).c) = (chn f .id (a ++ b)).a from by rw [jm]; rfl]
        exact G.w_in (by have := im.1; omega)
      have pr := fun w hC => Product_ok (chn f .id a) (chn f .id b) w hC ml mr
      rw [← jm] at pr
      have nn1 := G.sq_nn (dvs f .one (a ++ b))
      have nn2 := G.sq_nn (chn f .id (a ++ b)).a
      by_cases hz : (chn f .id (a ++ b)).a = .zero
      · refine lawJoi_zero A n c a B m d b f w hV hR hS hn hm he (chn f .id (a ++ b)) (chn f .id a) (chn f .id b) (dvs f .one (a ++ b)) (dvs f .one a) (dvs f .one b) .zero ⟨0, 0⟩ ?_ hz
        have q1 : quo (dvs f .one (a ++ b)) (chn f .id (a ++ b)).a = .zero := if_pos hz
        have q2 : quoE (chn f .id (a ++ b)).a = 17 := if_pos hz
        rw [q1, q2] at t1 t2
        exact ⟨fun A c w hC hR => Chain_ok a f A n c w hC he (by omega) hR, fun A c w hC hR => Chain_ok b f A m c w hC heb (by omega) hR, fun A c w hC hR => Chain_ok (a ++ b) f A (n + m) c w hC hej (by omega) hR, pr, fun A c w hC hR => Divisor_ok a f A n c w hC he (by omega) hR, fun A c w hC hR => Divisor_ok b f A m c w hC heb (by omega) hR, fun A c w hC hR => Divisor_ok (a ++ b) f A (n + m) c w hC hej (by omega) hR, fun A c w hC hR => by have := Transfer_ok (a ++ b) f A (n + m) c w hC hej (by omega) hR; rwa [q1, q2] at this, t1, t2, fun A c w hC hR => Level_no (a ++ b) f A (n + m) c w hC hej (by omega) hR hz, ha, hb, ok_lad hj, h1, h2⟩
      · have hpos := G.sq_pos hz
        refine lawJoi_good A n c a B m d b f w hV hR hS hn hm he (chn f .id (a ++ b)) (chn f .id a) (chn f .id b) (dvs f .one (a ++ b)) (dvs f .one a) (dvs f .one b) (lvR (a ++ b) f) ?_ hz (fun W => rLowest_nn _ _ W ⟨G.sq_nn _, by omega⟩ ⟨hpos, by omega⟩) (wr_in (by omega)) (wr_in (by omega))
        have q1 : quo (dvs f .one (a ++ b)) (chn f .id (a ++ b)).a = ⟨dvs f .one (a ++ b), (chn f .id (a ++ b)).a⟩ := if_neg hz
        have q2 : quoE (chn f .id (a ++ b)).a = 0 := if_neg hz
        rw [q1, q2] at t1 t2
        exact ⟨fun A c w hC hR => Chain_ok a f A n c w hC he (by omega) hR, fun A c w hC hR => Chain_ok b f A m c w hC heb (by omega) hR, fun A c w hC hR => Chain_ok (a ++ b) f A (n + m) c w hC hej (by omega) hR, pr, fun A c w hC hR => Divisor_ok a f A n c w hC he (by omega) hR, fun A c w hC hR => Divisor_ok b f A m c w hC heb (by omega) hR, fun A c w hC hR => Divisor_ok (a ++ b) f A (n + m) c w hC hej (by omega) hR, fun A c w hC hR => by have := Transfer_ok (a ++ b) f A (n + m) c w hC hej (by omega) hR; rwa [q1, q2] at this, t1, t2, fun A c w hC hR => Level_ok (a ++ b) f A (n + m) c w hC hej (by omega) hR hz, ha, hb, ok_lad hj, h1, h2⟩
    · exact lawJoi_bad2 A n c a B m d b f w hV hR hS hn hm (by simpa using he) (by simpa using hb)
  · exact lawJoi_bad1 A n c a B m d b f w hV hR hS hn hm (by simpa using he)
end Go.Proofs.YtnndaipnfniciaaGreatDoor
