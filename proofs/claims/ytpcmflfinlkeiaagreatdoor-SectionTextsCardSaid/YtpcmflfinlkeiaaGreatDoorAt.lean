/- What the package-level variables hold; the contract of at. -/
import Derived.Test.YtpcmflfinlkeiaaGreatDoorBounds
namespace Go.Proofs.YtpcmflfinlkeiaaGreatDoor
open Go.RowKit Go.Shelf
set_option maxRecDepth 100000

/-- The powers of -i, as cells. -/
def powRow : List Int := [1, 0, 0, -1, -1, 0, 0, 1]
/-- The variable powers lies as its initialiser laid it. -/
def Pow (w : World) : Prop := 0 < w.heap.size ∧ ∀ (j : Nat) (x : Int), powRow[j]? = some x → w.cell? ⟨0, j, none⟩ = some (.int .i64 x)
theorem Pow.below {w w' : World} (h : Pow w) {B : Nat} (hb : Below B w w') (hB : 0 < B) : Pow w' :=
  ⟨Nat.lt_of_lt_of_le h.1 hb.size, fun j x hx => (hb.cell (p := ⟨0, j, none⟩) (by simp; omega)).trans (h.2 j x hx)⟩

/-- Real and imaginary part of a power of -i. -/
def pRe (n : Nat) : Int := match n % 4 with | 0 => 1 | 2 => -1 | _ => 0
def pIm (n : Nat) : Int := match n % 4 with | 1 => -1 | 3 => 1 | _ => 0
/-- The value of a polynomial at a power of -i. -/
def atRe (q : Nat) (x y z : Int) : Int := x + y * pRe q + z * pRe (2 * q)
def atIm (q : Nat) (_x y z : Int) : Int := y * pIm q + z * pIm (2 * q)

/-- What the box of the sums holds when i is the next term. -/
def AtBox (q : Nat) (x y z : Int) (g : Nat) (i : Value) (w : World) : Prop :=
  (i = .int .i64 0 ∧ Blk w g 66 #[.int .i64 0, .int .i64 0]) ∨ (i = .int .i64 1 ∧ Blk w g 66 #[.int .i64 x, .int .i64 0]) ∨
  (i = .int .i64 2 ∧ Blk w g 66 #[.int .i64 (x + y * pRe q), .int .i64 (y * pIm q)]) ∨ (i = .int .i64 3 ∧ Blk w g 66 #[.int .i64 (atRe q x y z), .int .i64 (atIm q x y z)])

theorem add_zero (ad : Addr) : ad.add 0 = ad := by simp [Addr.add]

/-- Two stores that fill a block of two cells. -/
theorem set2 (w : World) (b : Nat) (t : TypeId) (c0 c1 u0 u1 : Value) (hk : Blk w b t #[c0, c1]) :
    Blk ((w.setCell ⟨b, 0, none⟩ u0).setCell ⟨b, 1, none⟩ u1) b t #[u0, u1] := by simpa using (hk.set_ 0 u0).set_ 1 u1

theorem blk_of {w : World} {g : Nat} {t : TypeId} {a b a' b' : Int} (h : Blk w g t #[.int .i64 a, .int .i64 b]) (h1 : a = a') (h2 : b = b') : Blk w g t #[.int .i64 a', .int .i64 b'] := by rw [← h1, ← h2]; exact h

set_option maxHeartbeats 4000000 in
theorem at_q0 (A : Option Addr) (c B : Nat) (x y z : Int) (w : World) (hP : Pow w) (hR : Reads w B 1 A 3 (ints [x, y, z])) (hB : B ≤ w.heap.size) (h1 : -32768 ≤ x ∧ x ≤ 32768) (h2 : -32768 ≤ y ∧ y ≤ 32768) (h3 : -32768 ≤ z ∧ z ≤ 32768) :
    Calls Tryz.prog 71 #[.int .i64 0, .slice A 3 c] w fun e w' => e = .returned (.agg #[.int .i64 (atRe 0 x y z), .int .i64 (atIm 0 x y z)]) ∧ Below w.heap.size w w' := by
  go_enter Tryz.func71, Tryz.ntmps71
  go_wp2
  obtain ⟨w1, e1, hb1, hz1, k0, k1⟩ := box2 w #[.int .i64 0, .int .i64 0] #[.int .i64 0, .int .i64 0] 66 66
  rw [← e1]; clear e1
  go_loopw [11] (fun i wr => Below w.heap.size w wr ∧ w.heap.size + 2 ≤ wr.heap.size ∧ Blk wr w.heap.size 66 #[.int .i64 0, .int .i64 0] ∧ AtBox 0 x y z (w.heap.size + 1) i wr) (fun i _ => 3 - (intOf i).toNat)
  case atStart => exact ⟨hb1, hz1, k0, .inl ⟨rfl, k1⟩⟩
  case round =>
    obtain ⟨hb, hz, k0', hbox⟩ := hrel
    have hPw := hP.below hb (by have := hP.1; omega)
    have g0 := hP.1
    have p := hPw.1
    have c0 := hPw.2 0 _ rfl
    have c1 := hPw.2 1 _ rfl
    have c2 := hPw.2 2 _ rfl
    have c3 := hPw.2 3 _ rfl
    have c4 := hPw.2 4 _ rfl
    have c5 := hPw.2 5 _ rfl
    have c6 := hPw.2 6 _ rfl
    have c7 := hPw.2 7 _ rfl
    have d0 := k0'.cell
    have f0 := k0'.frozen
    have hRw := hR.below (hb.mono hB)
    clear hP hPw k0 k1
    rcases hbox with ⟨rfl, k1'⟩ | ⟨rfl, k1'⟩ | ⟨rfl, k1'⟩ | ⟨rfl, k1'⟩
    · obtain ⟨ad, x', rfl, hab, hx, hc⟩ := reads_at hRw (show 0 < 3 by decide)
      rw [add_zero] at hc
      simp at hx
      subst hx
      have d := k1'.cell
      have f := k1'.frozen
      have l1 := k1'.lt
      have n1 : w.heap.size ≠ w.heap.size + 1 := by omega
      clear hR hRw
      go_wp2
      refine ⟨⟨(by repeat (first | exact hb | exact Below.refl _ _ | refine Below.drew ?_ | refine below_drewN ?_ _ | refine below_set ?_ (by omega) _ | refine below_new ?_ (by omega) _)), by simp [World.setCell]; omega, ((k0'.far (p := ⟨w.heap.size + 1, 0, none⟩) n1 _).far (p := ⟨w.heap.size + 1, 1, none⟩) n1 _).alloc _, .inr (.inl ⟨rfl, ?_⟩)⟩, by simp [intOf]⟩
      refine blk_of ((set2 _ _ _ _ _ _ _ k1').alloc _) ?_ ?_ <;> simp <;> (try unfold wrap64) <;> omega
    · obtain ⟨ad, x', rfl, hab, hx, hc⟩ := reads_at hRw (show 1 < 3 by decide)
      rw [show ad.add 1 = ⟨ad.block, ad.off + 1, none⟩ from rfl] at hc
      simp at hx
      subst hx
      have d := k1'.cell
      have f := k1'.frozen
      have l1 := k1'.lt
      have n1 : w.heap.size ≠ w.heap.size + 1 := by omega
      clear hR hRw
      go_wp2
      refine ⟨⟨(by repeat (first | exact hb | exact Below.refl _ _ | refine Below.drew ?_ | refine below_drewN ?_ _ | refine below_set ?_ (by omega) _ | refine below_new ?_ (by omega) _)), by simp [World.setCell]; omega, ((k0'.far (p := ⟨w.heap.size + 1, 0, none⟩) n1 _).far (p := ⟨w.heap.size + 1, 1, none⟩) n1 _).alloc _, .inr (.inr (.inl ⟨rfl, ?_⟩))⟩, by simp [intOf]⟩
      refine blk_of ((set2 _ _ _ _ _ _ _ k1').alloc _) ?_ ?_ <;> simp [pRe, pIm] <;> (try unfold wrap64) <;> omega
    · obtain ⟨ad, x', rfl, hab, hx, hc⟩ := reads_at hRw (show 2 < 3 by decide)
      rw [show ad.add 2 = ⟨ad.block, ad.off + 2, none⟩ from rfl] at hc
      simp at hx
      subst hx
      have d := k1'.cell
      have f := k1'.frozen
      have l1 := k1'.lt
      have n1 : w.heap.size ≠ w.heap.size + 1 := by omega
      clear hR hRw
      go_wp2
      refine ⟨⟨(by repeat (first | exact hb | exact Below.refl _ _ | refine Below.drew ?_ | refine below_drewN ?_ _ | refine below_set ?_ (by omega) _ | refine below_new ?_ (by omega) _)), by simp [World.setCell]; omega, ((k0'.far (p := ⟨w.heap.size + 1, 0, none⟩) n1 _).far (p := ⟨w.heap.size + 1, 1, none⟩) n1 _).alloc _, .inr (.inr (.inr ⟨rfl, ?_⟩))⟩, by simp [intOf]⟩
      refine blk_of ((set2 _ _ _ _ _ _ _ k1').alloc _) ?_ ?_ <;> simp [pRe, pIm, atRe, atIm] <;> (try unfold wrap64) <;> omega
    · have d := k1'.cell
      have l1 := k1'.lt
      clear hR hRw
      go_wp2
      refine bodyPost_ret (v := .agg #[.int .i64 (atRe 0 x y z), .int .i64 (atIm 0 x y z)]) (by simp [results, Tryz.results71, go_sem, d0]) rfl ?_
      exact ⟨rfl, (by repeat (first | exact hb | exact Below.refl _ _ | refine Below.drew ?_ | refine below_drewN ?_ _ | refine below_set ?_ (by omega) _ | refine below_new ?_ (by omega) _))⟩
set_option maxHeartbeats 4000000 in
theorem at_q1 (A : Option Addr) (c B : Nat) (x y z : Int) (w : World) (hP : Pow w) (hR : Reads w B 1 A 3 (ints [x, y, z])) (hB : B ≤ w.heap.size) (h1 : -32768 ≤ x ∧ x ≤ 32768) (h2 : -32768 ≤ y ∧ y ≤ 32768) (h3 : -32768 ≤ z ∧ z ≤ 32768) :
    Calls Tryz.prog 71 #[.int .i64 1, .slice A 3 c] w fun e w' => e = .returned (.agg #[.int .i64 (atRe 1 x y z), .int .i64 (atIm 1 x y z)]) ∧ Below w.heap.size w w' := by
  go_enter Tryz.func71, Tryz.ntmps71
  go_wp2
  obtain ⟨w1, e1, hb1, hz1, k0, k1⟩ := box2 w #[.int .i64 0, .int .i64 0] #[.int .i64 0, .int .i64 0] 66 66
  rw [← e1]; clear e1
  go_loopw [11] (fun i wr => Below w.heap.size w wr ∧ w.heap.size + 2 ≤ wr.heap.size ∧ Blk wr w.heap.size 66 #[.int .i64 0, .int .i64 0] ∧ AtBox 1 x y z (w.heap.size + 1) i wr) (fun i _ => 3 - (intOf i).toNat)
  case atStart => exact ⟨hb1, hz1, k0, .inl ⟨rfl, k1⟩⟩
  case round =>
    obtain ⟨hb, hz, k0', hbox⟩ := hrel
    have hPw := hP.below hb (by have := hP.1; omega)
    have g0 := hP.1
    have p := hPw.1
    have c0 := hPw.2 0 _ rfl
    have c1 := hPw.2 1 _ rfl
    have c2 := hPw.2 2 _ rfl
    have c3 := hPw.2 3 _ rfl
    have c4 := hPw.2 4 _ rfl
    have c5 := hPw.2 5 _ rfl
    have c6 := hPw.2 6 _ rfl
    have c7 := hPw.2 7 _ rfl
    have d0 := k0'.cell
    have f0 := k0'.frozen
    have hRw := hR.below (hb.mono hB)
    clear hP hPw k0 k1
    rcases hbox with ⟨rfl, k1'⟩ | ⟨rfl, k1'⟩ | ⟨rfl, k1'⟩ | ⟨rfl, k1'⟩
    · obtain ⟨ad, x', rfl, hab, hx, hc⟩ := reads_at hRw (show 0 < 3 by decide)
      rw [add_zero] at hc
      simp at hx
      subst hx
      have d := k1'.cell
      have f := k1'.frozen
      have l1 := k1'.lt
      have n1 : w.heap.size ≠ w.heap.size + 1 := by omega
      clear hR hRw
      go_wp2
      refine ⟨⟨(by repeat (first | exact hb | exact Below.refl _ _ | refine Below.drew ?_ | refine below_drewN ?_ _ | refine below_set ?_ (by omega) _ | refine below_new ?_ (by omega) _)), by simp [World.setCell]; omega, ((k0'.far (p := ⟨w.heap.size + 1, 0, none⟩) n1 _).far (p := ⟨w.heap.size + 1, 1, none⟩) n1 _).alloc _, .inr (.inl ⟨rfl, ?_⟩)⟩, by simp [intOf]⟩
      refine blk_of ((set2 _ _ _ _ _ _ _ k1').alloc _) ?_ ?_ <;> simp <;> (try unfold wrap64) <;> omega
    · obtain ⟨ad, x', rfl, hab, hx, hc⟩ := reads_at hRw (show 1 < 3 by decide)
      rw [show ad.add 1 = ⟨ad.block, ad.off + 1, none⟩ from rfl] at hc
      simp at hx
      subst hx
      have d := k1'.cell
      have f := k1'.frozen
      have l1 := k1'.lt
      have n1 : w.heap.size ≠ w.heap.size + 1 := by omega
      clear hR hRw
      go_wp2
      refine ⟨⟨(by repeat (first | exact hb | exact Below.refl _ _ | refine Below.drew ?_ | refine below_drewN ?_ _ | refine below_set ?_ (by omega) _ | refine below_new ?_ (by omega) _)), by simp [World.setCell]; omega, ((k0'.far (p := ⟨w.heap.size + 1, 0, none⟩) n1 _).far (p := ⟨w.heap.size + 1, 1, none⟩) n1 _).alloc _, .inr (.inr (.inl ⟨rfl, ?_⟩))⟩, by simp [intOf]⟩
      refine blk_of ((set2 _ _ _ _ _ _ _ k1').alloc _) ?_ ?_ <;> simp [pRe, pIm] <;> (try unfold wrap64) <;> omega
    · obtain ⟨ad, x', rfl, hab, hx, hc⟩ := reads_at hRw (show 2 < 3 by decide)
      rw [show ad.add 2 = ⟨ad.block, ad.off + 2, none⟩ from rfl] at hc
      simp at hx
      subst hx
      have d := k1'.cell
      have f := k1'.frozen
      have l1 := k1'.lt
      have n1 : w.heap.size ≠ w.heap.size + 1 := by omega
      clear hR hRw
      go_wp2
      refine ⟨⟨(by repeat (first | exact hb | exact Below.refl _ _ | refine Below.drew ?_ | refine below_drewN ?_ _ | refine below_set ?_ (by omega) _ | refine below_new ?_ (by omega) _)), by simp [World.setCell]; omega, ((k0'.far (p := ⟨w.heap.size + 1, 0, none⟩) n1 _).far (p := ⟨w.heap.size + 1, 1, none⟩) n1 _).alloc _, .inr (.inr (.inr ⟨rfl, ?_⟩))⟩, by simp [intOf]⟩
      refine blk_of ((set2 _ _ _ _ _ _ _ k1').alloc _) ?_ ?_ <;> simp [pRe, pIm, atRe, atIm] <;> (try unfold wrap64) <;> omega
    · have d := k1'.cell
      have l1 := k1'.lt
      clear hR hRw
      go_wp2
      refine bodyPost_ret (v := .agg #[.int .i64 (atRe 1 x y z), .int .i64 (atIm 1 x y z)]) (by simp [results, Tryz.results71, go_sem, d0]) rfl ?_
      exact ⟨rfl, (by repeat (first | exact hb | exact Below.refl _ _ | refine Below.drew ?_ | refine below_drewN ?_ _ | refine below_set ?_ (by omega) _ | refine below_new ?_ (by omega) _))⟩
set_option maxHeartbeats 4000000 in
theorem at_q2 (A : Option Addr) (c B : Nat) (x y z : Int) (w : World) (hP : Pow w) (hR : Reads w B 1 A 3 (ints [x, y, z])) (hB : B ≤ w.heap.size) (h1 : -32768 ≤ x ∧ x ≤ 32768) (h2 : -32768 ≤ y ∧ y ≤ 32768) (h3 : -32768 ≤ z ∧ z ≤ 32768) :
    Calls Tryz.prog 71 #[.int .i64 2, .slice A 3 c] w fun e w' => e = .returned (.agg #[.int .i64 (atRe 2 x y z), .int .i64 (atIm 2 x y z)]) ∧ Below w.heap.size w w' := by
  go_enter Tryz.func71, Tryz.ntmps71
  go_wp2
  obtain ⟨w1, e1, hb1, hz1, k0, k1⟩ := box2 w #[.int .i64 0, .int .i64 0] #[.int .i64 0, .int .i64 0] 66 66
  rw [← e1]; clear e1
  go_loopw [11] (fun i wr => Below w.heap.size w wr ∧ w.heap.size + 2 ≤ wr.heap.size ∧ Blk wr w.heap.size 66 #[.int .i64 0, .int .i64 0] ∧ AtBox 2 x y z (w.heap.size + 1) i wr) (fun i _ => 3 - (intOf i).toNat)
  case atStart => exact ⟨hb1, hz1, k0, .inl ⟨rfl, k1⟩⟩
  case round =>
    obtain ⟨hb, hz, k0', hbox⟩ := hrel
    have hPw := hP.below hb (by have := hP.1; omega)
    have g0 := hP.1
    have p := hPw.1
    have c0 := hPw.2 0 _ rfl
    have c1 := hPw.2 1 _ rfl
    have c2 := hPw.2 2 _ rfl
    have c3 := hPw.2 3 _ rfl
    have c4 := hPw.2 4 _ rfl
    have c5 := hPw.2 5 _ rfl
    have c6 := hPw.2 6 _ rfl
    have c7 := hPw.2 7 _ rfl
    have d0 := k0'.cell
    have f0 := k0'.frozen
    have hRw := hR.below (hb.mono hB)
    clear hP hPw k0 k1
    rcases hbox with ⟨rfl, k1'⟩ | ⟨rfl, k1'⟩ | ⟨rfl, k1'⟩ | ⟨rfl, k1'⟩
    · obtain ⟨ad, x', rfl, hab, hx, hc⟩ := reads_at hRw (show 0 < 3 by decide)
      rw [add_zero] at hc
      simp at hx
      subst hx
      have d := k1'.cell
      have f := k1'.frozen
      have l1 := k1'.lt
      have n1 : w.heap.size ≠ w.heap.size + 1 := by omega
      clear hR hRw
      go_wp2
      refine ⟨⟨(by repeat (first | exact hb | exact Below.refl _ _ | refine Below.drew ?_ | refine below_drewN ?_ _ | refine below_set ?_ (by omega) _ | refine below_new ?_ (by omega) _)), by simp [World.setCell]; omega, ((k0'.far (p := ⟨w.heap.size + 1, 0, none⟩) n1 _).far (p := ⟨w.heap.size + 1, 1, none⟩) n1 _).alloc _, .inr (.inl ⟨rfl, ?_⟩)⟩, by simp [intOf]⟩
      refine blk_of ((set2 _ _ _ _ _ _ _ k1').alloc _) ?_ ?_ <;> simp <;> (try unfold wrap64) <;> omega
    · obtain ⟨ad, x', rfl, hab, hx, hc⟩ := reads_at hRw (show 1 < 3 by decide)
      rw [show ad.add 1 = ⟨ad.block, ad.off + 1, none⟩ from rfl] at hc
      simp at hx
      subst hx
      have d := k1'.cell
      have f := k1'.frozen
      have l1 := k1'.lt
      have n1 : w.heap.size ≠ w.heap.size + 1 := by omega
      clear hR hRw
      go_wp2
      refine ⟨⟨(by repeat (first | exact hb | exact Below.refl _ _ | refine Below.drew ?_ | refine below_drewN ?_ _ | refine below_set ?_ (by omega) _ | refine below_new ?_ (by omega) _)), by simp [World.setCell]; omega, ((k0'.far (p := ⟨w.heap.size + 1, 0, none⟩) n1 _).far (p := ⟨w.heap.size + 1, 1, none⟩) n1 _).alloc _, .inr (.inr (.inl ⟨rfl, ?_⟩))⟩, by simp [intOf]⟩
      refine blk_of ((set2 _ _ _ _ _ _ _ k1').alloc _) ?_ ?_ <;> simp [pRe, pIm] <;> (try unfold wrap64) <;> omega
    · obtain ⟨ad, x', rfl, hab, hx, hc⟩ := reads_at hRw (show 2 < 3 by decide)
      rw [show ad.add 2 = ⟨ad.block, ad.off + 2, none⟩ from rfl] at hc
      simp at hx
      subst hx
      have d := k1'.cell
      have f := k1'.frozen
      have l1 := k1'.lt
      have n1 : w.heap.size ≠ w.heap.size + 1 := by omega
      clear hR hRw
      go_wp2
      refine ⟨⟨(by repeat (first | exact hb | exact Below.refl _ _ | refine Below.drew ?_ | refine below_drewN ?_ _ | refine below_set ?_ (by omega) _ | refine below_new ?_ (by omega) _)), by simp [World.setCell]; omega, ((k0'.far (p := ⟨w.heap.size + 1, 0, none⟩) n1 _).far (p := ⟨w.heap.size + 1, 1, none⟩) n1 _).alloc _, .inr (.inr (.inr ⟨rfl, ?_⟩))⟩, by simp [intOf]⟩
      refine blk_of ((set2 _ _ _ _ _ _ _ k1').alloc _) ?_ ?_ <;> simp [pRe, pIm, atRe, atIm] <;> (try unfold wrap64) <;> omega
    · have d := k1'.cell
      have l1 := k1'.lt
      clear hR hRw
      go_wp2
      refine bodyPost_ret (v := .agg #[.int .i64 (atRe 2 x y z), .int .i64 (atIm 2 x y z)]) (by simp [results, Tryz.results71, go_sem, d0]) rfl ?_
      exact ⟨rfl, (by repeat (first | exact hb | exact Below.refl _ _ | refine Below.drew ?_ | refine below_drewN ?_ _ | refine below_set ?_ (by omega) _ | refine below_new ?_ (by omega) _))⟩
set_option maxHeartbeats 4000000 in
theorem at_q3 (A : Option Addr) (c B : Nat) (x y z : Int) (w : World) (hP : Pow w) (hR : Reads w B 1 A 3 (ints [x, y, z])) (hB : B ≤ w.heap.size) (h1 : -32768 ≤ x ∧ x ≤ 32768) (h2 : -32768 ≤ y ∧ y ≤ 32768) (h3 : -32768 ≤ z ∧ z ≤ 32768) :
    Calls Tryz.prog 71 #[.int .i64 3, .slice A 3 c] w fun e w' => e = .returned (.agg #[.int .i64 (atRe 3 x y z), .int .i64 (atIm 3 x y z)]) ∧ Below w.heap.size w w' := by
  go_enter Tryz.func71, Tryz.ntmps71
  go_wp2
  obtain ⟨w1, e1, hb1, hz1, k0, k1⟩ := box2 w #[.int .i64 0, .int .i64 0] #[.int .i64 0, .int .i64 0] 66 66
  rw [← e1]; clear e1
  go_loopw [11] (fun i wr => Below w.heap.size w wr ∧ w.heap.size + 2 ≤ wr.heap.size ∧ Blk wr w.heap.size 66 #[.int .i64 0, .int .i64 0] ∧ AtBox 3 x y z (w.heap.size + 1) i wr) (fun i _ => 3 - (intOf i).toNat)
  case atStart => exact ⟨hb1, hz1, k0, .inl ⟨rfl, k1⟩⟩
  case round =>
    obtain ⟨hb, hz, k0', hbox⟩ := hrel
    have hPw := hP.below hb (by have := hP.1; omega)
    have g0 := hP.1
    have p := hPw.1
    have c0 := hPw.2 0 _ rfl
    have c1 := hPw.2 1 _ rfl
    have c2 := hPw.2 2 _ rfl
    have c3 := hPw.2 3 _ rfl
    have c4 := hPw.2 4 _ rfl
    have c5 := hPw.2 5 _ rfl
    have c6 := hPw.2 6 _ rfl
    have c7 := hPw.2 7 _ rfl
    have d0 := k0'.cell
    have f0 := k0'.frozen
    have hRw := hR.below (hb.mono hB)
    clear hP hPw k0 k1
    rcases hbox with ⟨rfl, k1'⟩ | ⟨rfl, k1'⟩ | ⟨rfl, k1'⟩ | ⟨rfl, k1'⟩
    · obtain ⟨ad, x', rfl, hab, hx, hc⟩ := reads_at hRw (show 0 < 3 by decide)
      rw [add_zero] at hc
      simp at hx
      subst hx
      have d := k1'.cell
      have f := k1'.frozen
      have l1 := k1'.lt
      have n1 : w.heap.size ≠ w.heap.size + 1 := by omega
      clear hR hRw
      go_wp2
      refine ⟨⟨(by repeat (first | exact hb | exact Below.refl _ _ | refine Below.drew ?_ | refine below_drewN ?_ _ | refine below_set ?_ (by omega) _ | refine below_new ?_ (by omega) _)), by simp [World.setCell]; omega, ((k0'.far (p := ⟨w.heap.size + 1, 0, none⟩) n1 _).far (p := ⟨w.heap.size + 1, 1, none⟩) n1 _).alloc _, .inr (.inl ⟨rfl, ?_⟩)⟩, by simp [intOf]⟩
      refine blk_of ((set2 _ _ _ _ _ _ _ k1').alloc _) ?_ ?_ <;> simp <;> (try unfold wrap64) <;> omega
    · obtain ⟨ad, x', rfl, hab, hx, hc⟩ := reads_at hRw (show 1 < 3 by decide)
      rw [show ad.add 1 = ⟨ad.block, ad.off + 1, none⟩ from rfl] at hc
      simp at hx
      subst hx
      have d := k1'.cell
      have f := k1'.frozen
      have l1 := k1'.lt
      have n1 : w.heap.size ≠ w.heap.size + 1 := by omega
      clear hR hRw
      go_wp2
      refine ⟨⟨(by repeat (first | exact hb | exact Below.refl _ _ | refine Below.drew ?_ | refine below_drewN ?_ _ | refine below_set ?_ (by omega) _ | refine below_new ?_ (by omega) _)), by simp [World.setCell]; omega, ((k0'.far (p := ⟨w.heap.size + 1, 0, none⟩) n1 _).far (p := ⟨w.heap.size + 1, 1, none⟩) n1 _).alloc _, .inr (.inr (.inl ⟨rfl, ?_⟩))⟩, by simp [intOf]⟩
      refine blk_of ((set2 _ _ _ _ _ _ _ k1').alloc _) ?_ ?_ <;> simp [pRe, pIm] <;> (try unfold wrap64) <;> omega
    · obtain ⟨ad, x', rfl, hab, hx, hc⟩ := reads_at hRw (show 2 < 3 by decide)
      rw [show ad.add 2 = ⟨ad.block, ad.off + 2, none⟩ from rfl] at hc
      simp at hx
      subst hx
      have d := k1'.cell
      have f := k1'.frozen
      have l1 := k1'.lt
      have n1 : w.heap.size ≠ w.heap.size + 1 := by omega
      clear hR hRw
      go_wp2
      refine ⟨⟨(by repeat (first | exact hb | exact Below.refl _ _ | refine Below.drew ?_ | refine below_drewN ?_ _ | refine below_set ?_ (by omega) _ | refine below_new ?_ (by omega) _)), by simp [World.setCell]; omega, ((k0'.far (p := ⟨w.heap.size + 1, 0, none⟩) n1 _).far (p := ⟨w.heap.size + 1, 1, none⟩) n1 _).alloc _, .inr (.inr (.inr ⟨rfl, ?_⟩))⟩, by simp [intOf]⟩
      refine blk_of ((set2 _ _ _ _ _ _ _ k1').alloc _) ?_ ?_ <;> simp [pRe, pIm, atRe, atIm] <;> (try unfold wrap64) <;> omega
    · have d := k1'.cell
      have l1 := k1'.lt
      clear hR hRw
      go_wp2
      refine bodyPost_ret (v := .agg #[.int .i64 (atRe 3 x y z), .int .i64 (atIm 3 x y z)]) (by simp [results, Tryz.results71, go_sem, d0]) rfl ?_
      exact ⟨rfl, (by repeat (first | exact hb | exact Below.refl _ _ | refine Below.drew ?_ | refine below_drewN ?_ _ | refine below_set ?_ (by omega) _ | refine below_new ?_ (by omega) _))⟩

theorem at_any (q : Int) (hq : 0 ≤ q ∧ q ≤ 3) (A : Option Addr) (c B : Nat) (x y z : Int) (w : World) (hP : Pow w) (hR : Reads w B 1 A 3 (ints [x, y, z])) (hB : B ≤ w.heap.size) (h1 : -32768 ≤ x ∧ x ≤ 32768) (h2 : -32768 ≤ y ∧ y ≤ 32768) (h3 : -32768 ≤ z ∧ z ≤ 32768) :
    Calls Tryz.prog 71 #[.int .i64 q, .slice A 3 c] w fun e w' => e = .returned (.agg #[.int .i64 (atRe q.toNat x y z), .int .i64 (atIm q.toNat x y z)]) ∧ Below w.heap.size w w' := by
  have h : q = 0 ∨ q = 1 ∨ q = 2 ∨ q = 3 := by omega
  rcases h with rfl | rfl | rfl | rfl
  · exact at_q0 A c B x y z w hP hR hB h1 h2 h3
  · exact at_q1 A c B x y z w hP hR hB h1 h2 h3
  · exact at_q2 A c B x y z w hP hR hB h1 h2 h3
  · exact at_q3 A c B x y z w hP hR hB h1 h2 h3
end Go.Proofs.YtpcmflfinlkeiaaGreatDoor
