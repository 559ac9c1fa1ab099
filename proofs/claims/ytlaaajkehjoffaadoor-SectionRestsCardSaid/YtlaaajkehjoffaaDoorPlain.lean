/- Plain mathematics of the laws of properties: bounds, raw outputs, linear runs, cycles. No program in sight. -/
import Derived.Test.YtlaaajkehjoffaaDoorTot
namespace Go.Proofs.YtlaaajkehjoffaaDoor

/-! ### What a bound bounds -/
theorem ab_nn (a : Int) : 0 ≤ ab a := by unfold ab; omega
theorem mul_ab {a x M : Int} (h1 : -M ≤ x) (h2 : x ≤ M) : -(M * ab a) ≤ a * x ∧ a * x ≤ M * ab a := by
  rcases Int.le_total 0 a with h | h
  · have e : ab a = a := by unfold ab; omega
    rw [e]
    have p1 := Int.mul_le_mul_of_nonneg_left h2 h
    have p2 := Int.mul_le_mul_of_nonneg_left h1 h
    rw [Int.mul_comm a M] at p1
    rw [Int.mul_neg, Int.mul_comm a M] at p2
    exact ⟨p2, p1⟩
  · have e : ab a = -a := by unfold ab; omega
    rw [e]
    have h' : 0 ≤ -a := by omega
    have p1 := Int.mul_le_mul_of_nonneg_left h2 h'
    have p2 := Int.mul_le_mul_of_nonneg_left h1 h'
    rw [Int.neg_mul, Int.neg_mul, Int.mul_comm a M] at p1
    rw [Int.neg_mul, Int.neg_mul, Int.mul_neg, Int.mul_comm a M] at p2
    rw [Int.mul_neg]
    omega
theorem bound_ge {s : Sec} (hr : 1 ≤ s.room) (M : Int) : M * (ab s.b0 + ab s.b1 + ab s.b2) ≤ s.bound M * s.room := by
  unfold Sec.bound
  have := Int.ediv_mul_le (-(M * (ab s.b0 + ab s.b1 + ab s.b2))) (show s.room ≠ 0 by omega)
  rw [Int.neg_mul]
  omega
theorem bound_nn {s : Sec} (hr : 1 ≤ s.room) {M : Int} (hM : 0 ≤ M) : 0 ≤ s.bound M := by
  have h1 : 0 ≤ M * (ab s.b0 + ab s.b1 + ab s.b2) := Int.mul_nonneg hM (by have := ab_nn s.b0; have := ab_nn s.b1; have := ab_nn s.b2; omega)
  have h2 : (-(M * (ab s.b0 + ab s.b1 + ab s.b2))) / s.room ≤ 0 / s.room := Int.ediv_le_ediv (by omega) (by omega)
  rw [Int.zero_ediv] at h2
  unfold Sec.bound
  omega
theorem bound_mono {s : Sec} (hr : 1 ≤ s.room) {M N : Int} (h : M ≤ N) : s.bound M ≤ s.bound N := by
  have hT : 0 ≤ ab s.b0 + ab s.b1 + ab s.b2 := by have := ab_nn s.b0; have := ab_nn s.b1; have := ab_nn s.b2; omega
  have h1 := Int.mul_le_mul_of_nonneg_right h hT
  have h2 : (-(N * (ab s.b0 + ab s.b1 + ab s.b2))) / s.room ≤ (-(M * (ab s.b0 + ab s.b1 + ab s.b2))) / s.room := Int.ediv_le_ediv (by omega) (by omega)
  unfold Sec.bound
  omega
theorem bound_zero (s : Sec) : s.bound 0 = 0 := by unfold Sec.bound; simp
/-- A state within the bounds. -/
structure St.In (x : St) (M B : Int) : Prop where
  x1l : -M ≤ x.x1
  x1h : x.x1 ≤ M
  x2l : -M ≤ x.x2
  x2h : x.x2 ≤ M
  y1l : -B ≤ x.y1
  y1h : x.y1 ≤ B
  y2l : -B ≤ x.y2
  y2h : x.y2 ≤ B
theorem lim_in {n B : Int} (_hB : 0 ≤ B) (h1 : -B ≤ n) (h2 : n ≤ B) : -B ≤ lim n ∧ lim n ≤ B := by unfold lim; omega
theorem raw_in {s : Sec} {x : St} {i M B : Int} (hu : 1 ≤ s.unit) (hB : M * (ab s.b0 + ab s.b1 + ab s.b2) ≤ B * s.room) (hx : x.In M B) (h1 : -M ≤ i) (h2 : i ≤ M) : -B ≤ s.raw x i ∧ s.raw x i ≤ B := by
  have p0 := @mul_ab s.b0 i M h1 h2
  have p1 := @mul_ab s.b1 x.x1 M hx.x1l hx.x1h
  have p2 := @mul_ab s.b2 x.x2 M hx.x2l hx.x2h
  have p3 := @mul_ab s.a1 x.y1 B hx.y1l hx.y1h
  have p4 := @mul_ab s.a2 x.y2 B hx.y2l hx.y2h
  unfold Sec.room at hB
  rw [Int.mul_add, Int.mul_add, Int.mul_sub, Int.mul_sub] at hB
  have hs : -(B * s.unit) ≤ s.sum x i ∧ s.sum x i ≤ B * s.unit := by unfold Sec.sum; omega
  unfold Sec.raw
  refine ⟨Int.le_ediv_of_mul_le (by omega) ?_, Int.ediv_le_of_le_mul (by omega) hs.2⟩
  rw [Int.neg_mul]; exact hs.1
theorem next_in {s : Sec} {x : St} {i M B : Int} (hu : 1 ≤ s.unit) (hB0 : 0 ≤ B) (hB : M * (ab s.b0 + ab s.b1 + ab s.b2) ≤ B * s.room) (hx : x.In M B) (h1 : -M ≤ i) (h2 : i ≤ M) : (s.next x i).In M B ∧ -B ≤ s.out x i ∧ s.out x i ≤ B := by
  obtain ⟨r1, r2⟩ := raw_in hu hB hx h1 h2
  obtain ⟨l1, l2⟩ := lim_in hB0 r1 r2
  exact ⟨⟨h1, h2, hx.x1l, hx.x1h, l1, l2, hx.y1l, hx.y1h⟩, l1, l2⟩
theorem outs_in {s : Sec} {M B : Int} (hu : 1 ≤ s.unit) (hB0 : 0 ≤ B) (hB : M * (ab s.b0 + ab s.b1 + ab s.b2) ≤ B * s.room) : ∀ (xs : List Int) (x : St), x.In M B → (∀ i ∈ xs, -M ≤ i ∧ i ≤ M) → ∀ v ∈ s.outs x xs, -B ≤ v ∧ v ≤ B := by
  intro xs
  induction xs with
  | nil => intro x _ _ v hv; simp [Sec.outs, Sec.trace] at hv
  | cons a l ih =>
    intro x hx hi v hv
    obtain ⟨n1, n2⟩ := next_in hu hB0 hB hx (hi a (by simp)).1 (hi a (by simp)).2
    simp only [Sec.outs, Sec.trace, List.map_cons, List.mem_cons] at hv
    rcases hv with rfl | hv
    · exact n2
    · exact ih _ n1 (fun i h => hi i (by simp [h])) v hv
theorem zero_in {M B : Int} (hM : 0 ≤ M) (hB : 0 ≤ B) : St.zero.In M B := ⟨by simp [St.zero]; omega, by simp [St.zero]; omega, by simp [St.zero]; omega, by simp [St.zero]; omega, by simp [St.zero]; omega, by simp [St.zero]; omega, by simp [St.zero]; omega, by simp [St.zero]; omega⟩
theorem room_stab {s : Sec} (hr : 1 ≤ s.room) : s.stab = true := by
  unfold Sec.room ab at hr
  unfold Sec.stab ab
  simp only [decide_eq_true_eq]
  omega
/-- The greatest absolute value of a list. -/
def mostOf : List Int → Int
  | [] => 0
  | x :: xs => max (mostOf xs) (max x (-x))
theorem mostOf_nn (l : List Int) : 0 ≤ mostOf l := by
  induction l with
  | nil => simp [mostOf]
  | cons a l ih => simp only [mostOf]; omega
theorem mostOf_snoc (l : List Int) (x : Int) : mostOf (l ++ [x]) = max (mostOf l) (max x (-x)) := by
  induction l with
  | nil => simp [mostOf]
  | cons a l ih => simp only [mostOf, List.cons_append, ih]; omega
theorem mostOf_in {l : List Int} : ∀ x ∈ l, -mostOf l ≤ x ∧ x ≤ mostOf l := by
  induction l with
  | nil => intro x hx; simp at hx
  | cons a l ih =>
    intro x hx
    simp only [mostOf, List.mem_cons] at *
    rcases hx with rfl | hx
    · omega
    · have := ih x hx; omega
theorem mostOf_le {l : List Int} {B : Int} (hB : 0 ≤ B) (h : ∀ x ∈ l, -B ≤ x ∧ x ≤ B) : mostOf l ≤ B := by
  induction l with
  | nil => simpa [mostOf] using hB
  | cons a l ih =>
    have h1 := h a (by simp)
    have h2 := ih fun x hx => h x (by simp [hx])
    simp only [mostOf]; omega
theorem mostOf_take_succ {xs : List Int} {k : Nat} {x : Int} (h : xs[k]? = some x) : mostOf (xs.take (k + 1)) = max (mostOf (xs.take k)) (max x (-x)) := by
  rw [List.take_add_one, h]; exact mostOf_snoc _ _
/-- No output of a contractive section is above its bound. -/
theorem run_inside {s : Sec} {xs : List Int} (hs : s.Ok) (hr : 1 ≤ s.room) : ∀ v ∈ s.outs St.zero xs, -(s.bound (mostOf xs)) ≤ v ∧ v ≤ s.bound (mostOf xs) :=
  outs_in (unit_bd hs).1 (bound_nn hr (mostOf_nn xs)) (bound_ge hr _) xs _ (zero_in (mostOf_nn xs) (bound_nn hr (mostOf_nn xs))) mostOf_in
/-! ### A run goes on; raw outputs -/
theorem outs_append (s : Sec) (y : St) (xs zs : List Int) : s.outs y (xs ++ zs) = s.outs y xs ++ s.outs (s.after y xs) zs := by simp [Sec.outs, trace_append]
theorem outs_at {s : Sec} {y : St} {xs : List Int} {k : Nat} {x : Int} (h : xs[k]? = some x) : (s.outs y xs)[k]? = some (s.out (s.after y (xs.take k)) x) := by
  have hk : k < xs.length := (List.getElem?_eq_some_iff.1 h).1
  have e : xs = xs.take k ++ x :: xs.drop (k + 1) := by
    rw [← (List.getElem?_eq_some_iff.1 h).2, List.getElem_cons_drop, List.take_append_drop]
  have hl : (s.outs y (xs.take k)).length = k := by rw [outs_len, List.length_take]; omega
  conv => lhs; rw [e]
  rw [outs_append, List.getElem?_append_right (by omega), hl]
  simp [Sec.outs, Sec.trace]
/-- What came j places ahead of place k, or 0. -/
def prev (l : List Int) (k j : Nat) : Int := if j ≤ k then (l[k - j]?).getD 0 else 0
theorem after_prev (s : Sec) (xs : List Int) (k : Nat) (hk : k ≤ xs.length) : s.after St.zero (xs.take k) = ⟨prev xs k 1, prev xs k 2, prev (s.outs St.zero xs) k 1, prev (s.outs St.zero xs) k 2⟩ := by
  induction k with
  | zero => simp [Sec.after, St.zero, prev]
  | succ k ih =>
    have hx : xs[k]? = some (xs[k]'(by omega)) := List.getElem?_eq_getElem (by omega)
    have ho := outs_at (s := s) (y := St.zero) hx
    rw [after_take_succ s St.zero hx]
    have ih' := ih (by omega)
    unfold Sec.next
    rw [St.mk.injEq]
    refine ⟨by simp [prev, hx], by rw [ih']; simp only [prev]; by_cases h1 : 1 ≤ k <;> simp [h1, show k + 1 - 2 = k - 1 by omega] <;> omega, by simp [prev, ho], by rw [ih']; simp only [prev]; by_cases h1 : 1 ≤ k <;> simp [h1, show k + 1 - 2 = k - 1 by omega] <;> omega⟩
theorem high_iff {s : Sec} (hu : 1 ≤ s.unit) (y : St) (i : Int) : 32768 * s.unit ≤ s.sum y i ↔ 32768 ≤ s.raw y i := (Int.le_ediv_iff_mul_le (by omega)).symm
theorem low_iff {s : Sec} (hu : 1 ≤ s.unit) (y : St) (i : Int) : s.sum y i < -32767 * s.unit ↔ s.raw y i < -32767 := (Int.ediv_lt_iff_lt_mul (by omega)).symm
theorem mid_raw {s : Sec} (hu : 1 ≤ s.unit) (y : St) (i : Int) : s.raw y i * s.unit ≤ s.sum y i ∧ s.sum y i - s.unit < s.raw y i * s.unit := by
  have h1 := Int.ediv_mul_le (s.sum y i) (show s.unit ≠ 0 by omega)
  have h2 := Int.lt_ediv_add_one_mul_self (s.sum y i) (show 0 < s.unit by omega)
  rw [Int.add_mul, Int.one_mul] at h2
  exact ⟨h1, by unfold Sec.raw; omega⟩
theorem out_high {s : Sec} (hu : 1 ≤ s.unit) {y : St} {i : Int} (h : 32768 * s.unit ≤ s.sum y i) : s.out y i = 32767 ∧ s.out y i ≠ s.raw y i := by
  have := (high_iff hu y i).1 h; unfold Sec.out lim; omega
theorem out_low {s : Sec} (hu : 1 ≤ s.unit) {y : St} {i : Int} (h : s.sum y i < -32767 * s.unit) : s.out y i = -32767 ∧ s.out y i ≠ s.raw y i := by
  have := (low_iff hu y i).1 h; unfold Sec.out lim; omega
theorem out_mid {s : Sec} (hu : 1 ≤ s.unit) {y : St} {i : Int} (h1 : ¬ 32768 * s.unit ≤ s.sum y i) (h2 : ¬ s.sum y i < -32767 * s.unit) : s.out y i = s.raw y i := by
  have := mt (high_iff hu y i).2 h1; have := mt (low_iff hu y i).2 h2; unfold Sec.out lim; omega
/-! ### Linear -/
theorem unit_zero {s : Sec} (h : s.sh = 0) : s.unit = 1 := by unfold Sec.unit; rw [h]; rfl
theorem raw_zero {s : Sec} (h : s.sh = 0) (y : St) (i : Int) : s.raw y i = s.sum y i := by unfold Sec.raw; rw [unit_zero h, Int.ediv_one]
def St.neg (y : St) : St := ⟨-y.x1, -y.x2, -y.y1, -y.y2⟩
def St.add (y z : St) : St := ⟨y.x1 + z.x1, y.x2 + z.x2, y.y1 + z.y1, y.y2 + z.y2⟩
theorem sum_neg (s : Sec) (y : St) (i : Int) : s.sum y.neg (-i) = -s.sum y i := by unfold Sec.sum St.neg; simp only [Int.mul_neg]; omega
theorem sum_add (s : Sec) (y z : St) (i j : Int) : s.sum (y.add z) (i + j) = s.sum y i + s.sum z j := by unfold Sec.sum St.add; simp only [Int.mul_add]; omega
theorem lim_neg (n : Int) : lim (-n) = -lim n := by unfold lim; omega
theorem next_neg {s : Sec} (h : s.sh = 0) (y : St) (i : Int) : s.out y.neg (-i) = -s.out y i ∧ s.next y.neg (-i) = (s.next y i).neg := by
  have e : s.out y.neg (-i) = -s.out y i := by unfold Sec.out; rw [raw_zero h, raw_zero h, sum_neg, lim_neg]
  refine ⟨e, ?_⟩
  unfold Sec.next
  rw [e]
  rfl
theorem outs_neg {s : Sec} (h : s.sh = 0) (xs : List Int) : ∀ y : St, s.outs y.neg (xs.map (- ·)) = (s.outs y xs).map (- ·) := by
  induction xs with
  | nil => intro y; rfl
  | cons a l ih =>
    intro y
    have := next_neg h y a
    have hi := ih (s.next y a)
    unfold Sec.outs at hi ⊢
    simp only [List.map_cons, Sec.trace, this.1, this.2, hi]
theorem run_neg {s : Sec} (h : s.sh = 0) (xs : List Int) : s.outs St.zero (xs.map (- ·)) = (s.outs St.zero xs).map (- ·) := outs_neg h xs St.zero
theorem run_later (s : Sec) (xs : List Int) : s.outs St.zero ([0, 0] ++ xs) = [0, 0] ++ s.outs St.zero xs := by
  have e : s.out St.zero 0 = 0 := by unfold Sec.out Sec.raw Sec.sum St.zero; simp; decide
  have e2 : s.next St.zero 0 = St.zero := by unfold Sec.next; rw [e]; rfl
  simp only [Sec.outs, List.cons_append, List.nil_append, Sec.trace, e, e2, List.map_cons]
theorem sats_cons {s : Sec} {y : St} {x : Int} {xs : List Int} (h : s.sats y (x :: xs) = 0) : s.out y x = s.raw y x ∧ s.sats (s.next y x) xs = 0 := by
  have := sats_bd s (s.next y x) xs
  simp only [Sec.sats] at h
  split at h
  · exact ⟨by assumption, by omega⟩
  · omega
theorem outs_add {s : Sec} (h : s.sh = 0) : ∀ (xs zs : List Int) (y z : St), xs.length = zs.length → s.sats y xs = 0 → s.sats z zs = 0 → s.sats (y.add z) (List.zipWith (· + ·) xs zs) = 0 →
    s.outs (y.add z) (List.zipWith (· + ·) xs zs) = List.zipWith (· + ·) (s.outs y xs) (s.outs z zs) := by
  intro xs
  induction xs with
  | nil => intro zs y z _ _ _ _; rfl
  | cons a l ih =>
    intro zs y z hl h1 h2 h3
    cases zs with
    | nil => simp at hl
    | cons b r =>
      simp only [List.zipWith_cons_cons] at h3 ⊢
      obtain ⟨p1, q1⟩ := sats_cons h1
      obtain ⟨p2, q2⟩ := sats_cons h2
      obtain ⟨p3, q3⟩ := sats_cons h3
      have eo : s.out (y.add z) (a + b) = s.out y a + s.out z b := by rw [p1, p2, p3, raw_zero h, raw_zero h, raw_zero h, sum_add]
      have en : s.next (y.add z) (a + b) = (s.next y a).add (s.next z b) := by unfold Sec.next; rw [eo]; rfl
      rw [en] at q3
      have := ih r _ _ (by simpa using hl) q1 q2 q3
      unfold Sec.outs at this ⊢
      simp only [Sec.trace, List.map_cons, List.zipWith_cons_cons, eo, en, this]
theorem run_add {s : Sec} (h : s.sh = 0) {xs zs : List Int} (hl : xs.length = zs.length) (h1 : s.sats St.zero xs = 0) (h2 : s.sats St.zero zs = 0) (h3 : s.sats St.zero (List.zipWith (· + ·) xs zs) = 0) :
    s.outs St.zero (List.zipWith (· + ·) xs zs) = List.zipWith (· + ·) (s.outs St.zero xs) (s.outs St.zero zs) := outs_add h xs zs St.zero St.zero hl h1 h2 h3
/-- A sum of the pulses, so many of them. -/
def conv (h a : List Int) (i : Nat) : Nat → Int
  | 0 => 0
  | k + 1 => conv h a i k + (h[k]?).getD 0 * (a[i - k]?).getD 0
theorem lim_id {n : Int} (h1 : -32767 ≤ n) (h2 : n ≤ 32767) : lim n = n := by unfold lim; omega
theorem pulse_outs {s : Sec} (hs : s.Ok) (h : s.sh = 0) (h1 : s.a1 = 0) (h2 : s.a2 = 0) : s.outs St.zero [1, 0, 0] = [s.b0, s.b1, s.b2] := by
  have g0 := lim_id hs.b0l hs.b0h
  have g1 := lim_id hs.b1l hs.b1h
  have g2 := lim_id hs.b2l hs.b2h
  simp [Sec.outs, Sec.trace, Sec.out, Sec.next, raw_zero h, Sec.sum, St.zero, h1, h2, g0, g1, g2]
theorem run_conv {s : Sec} (h : s.sh = 0) (h1 : s.a1 = 0) (h2 : s.a2 = 0) (hb : ∀ b ∈ [s.b0, s.b1, s.b2], -4 ≤ b ∧ b ≤ 4) {a : List Int} (ha : ∀ x ∈ a, -100 ≤ x ∧ x ≤ 100) {i : Nat} (hi : i < a.length) :
    (s.outs St.zero a)[i]? = some (conv [s.b0, s.b1, s.b2] a i (min 3 (i + 1))) := by
  have hx : a[i]? = some (a[i]'hi) := List.getElem?_eq_getElem hi
  rw [outs_at hx, after_prev s a i (by omega)]
  have hp : ∀ k : Nat, -100 ≤ (a[k]?).getD 0 ∧ (a[k]?).getD 0 ≤ 100 := by
    intro k
    cases hk : a[k]? with
    | none => simp
    | some v => simpa using ha v (List.mem_of_getElem? hk)
  have m : ∀ {b x : Int}, -4 ≤ b ∧ b ≤ 4 → -100 ≤ x ∧ x ≤ 100 → -400 ≤ b * x ∧ b * x ≤ 400 := by
    intro b x hb hx
    have : b = -4 ∨ b = -3 ∨ b = -2 ∨ b = -1 ∨ b = 0 ∨ b = 1 ∨ b = 2 ∨ b = 3 ∨ b = 4 := by omega
    rcases this with rfl | rfl | rfl | rfl | rfl | rfl | rfl | rfl | rfl <;> omega
  have b0 := hb s.b0 (by simp)
  have b1 := hb s.b1 (by simp)
  have b2 := hb s.b2 (by simp)
  have q0 := hp i
  rw [hx] at q0
  simp only [Option.getD_some] at q0
  have m0 := m b0 q0
  have m1 := m b1 (hp (i - 1))
  have m2 := m b2 (hp (i - 2))
  unfold Sec.out
  rw [raw_zero h]
  unfold Sec.sum
  simp only [h1, h2, Int.zero_mul, Int.sub_zero]
  rcases i with _ | _ | i
  · rw [show min 3 (0 + 1) = 1 from rfl]
    simp [prev, conv, hx]
    rw [lim_id (by omega) (by omega)]
  · rw [show min 3 (0 + 1 + 1) = 2 from rfl]
    have m1' : -400 ≤ s.b1 * (a[0]?).getD 0 ∧ s.b1 * (a[0]?).getD 0 ≤ 400 := m1
    simp only [hx, prev, conv, show 1 ≤ 0 + 1 from by omega, show ¬ (2 ≤ 0 + 1) from by omega, if_true, if_false, Int.mul_zero, Int.add_zero, Nat.zero_add, Nat.sub_self, Nat.sub_zero, Option.getD_some, List.getElem?_cons_zero, List.getElem?_cons_succ] at *
    rw [lim_id (by omega) (by omega)]
    congr 1; omega
  · rw [show min 3 (i + 1 + 1 + 1) = 3 by omega]
    have m1' : -400 ≤ s.b1 * (a[i + 1]?).getD 0 ∧ s.b1 * (a[i + 1]?).getD 0 ≤ 400 := m1
    have m2' : -400 ≤ s.b2 * (a[i]?).getD 0 ∧ s.b2 * (a[i]?).getD 0 ≤ 400 := m2
    have e1 : i + 1 + 1 - 1 = i + 1 := by omega
    have e2 : i + 1 + 1 - 2 = i := by omega
    simp only [hx, prev, conv, show 1 ≤ i + 1 + 1 from by omega, show 2 ≤ i + 1 + 1 from by omega, if_true, e1, e2, Nat.sub_zero, Option.getD_some, List.getElem?_cons_zero, List.getElem?_cons_succ] at *
    rw [lim_id (by omega) (by omega)]
    congr 1; omega
/-! ### Cycles -/
theorem hit_is {s : Sec} {x : St} {n i : Nat} (h : s.hit x n = some i) : i < n ∧ s.orb x i = s.orb x n := by
  unfold Sec.hit at h
  rw [List.find?_range_eq_some] at h
  exact ⟨by simpa using h.2.1, St.eqB_iff.1 h.1⟩
theorem hit_not {s : Sec} {x : St} {n : Nat} (h : s.hit x n = none) {i : Nat} (hi : i < n) : s.orb x i ≠ s.orb x n := by
  unfold Sec.hit at h
  rw [List.find?_eq_none] at h
  intro e
  exact h i (by simpa using hi) (St.eqB_iff.2 e)
theorem cyc_is {s : Sec} {x : St} {f n i p : Nat} (h : s.cyc x f n = some (i, p)) : ∃ m, n ≤ m ∧ m < n + f ∧ s.hit x m = some i ∧ i + p = m ∧ 1 ≤ p ∧ ∀ k, n ≤ k → k < m → s.hit x k = none := by
  induction f generalizing n with
  | zero => simp [Sec.cyc] at h
  | succ f ih =>
    simp only [Sec.cyc] at h
    cases hh : s.hit x n with
    | some j =>
      rw [hh] at h
      simp only [Option.some.injEq, Prod.mk.injEq] at h
      obtain ⟨rfl, rfl⟩ := h
      have := (hit_is hh).1
      exact ⟨n, by omega, by omega, hh, by omega, by omega, fun k h1 h2 => by omega⟩
    | none =>
      rw [hh] at h
      obtain ⟨m, h1, h2, h3, h4, h5, h6⟩ := ih h
      refine ⟨m, by omega, by omega, h3, h4, h5, fun k q1 q2 => ?_⟩
      rcases Nat.lt_or_ge n k with q | q
      · exact h6 k (by omega) q2
      · obtain rfl : k = n := by omega
        exact hh
theorem cyc_never {s : Sec} {x : St} {f n : Nat} (h : s.cyc x f n = none) : ∀ k, n ≤ k → k < n + f → s.hit x k = none := by
  induction f generalizing n with
  | zero => intro k h1 h2; omega
  | succ f ih =>
    simp only [Sec.cyc] at h
    cases hh : s.hit x n with
    | some j => rw [hh] at h; simp at h
    | none =>
      rw [hh] at h
      intro k h1 h2
      rcases Nat.lt_or_ge n k with q | q
      · exact ih h k (by omega) (by omega)
      · obtain rfl : k = n := by omega
        exact hh
/-- What a settled section's numbers mean. -/
structure Rest (s : Sec) (x : St) (n p : Nat) : Prop where
  pos : 1 ≤ p
  le : n + p ≤ 4096
  back : s.orb x n = s.orb x (n + p)
  apart : ∀ i k, i < k → k < n + p → s.orb x i ≠ s.orb x k
theorem settle_rest {s : Sec} {x : St} {n p : Nat} (h : s.settle x = some (n, p)) : Rest s x n p := by
  obtain ⟨m, h1, h2, h3, h4, h5, h6⟩ := cyc_is h
  obtain ⟨q1, q2⟩ := hit_is h3
  subst h4
  exact ⟨h5, by omega, q2, fun i k hik hk => hit_not (h6 k (by omega) hk) hik⟩
theorem orb_dead {s : Sec} (h1 : s.a1 = 0) (h2 : s.a2 = 0) (x : St) (k : Nat) (hk : 4 ≤ k) : s.orb x k = St.zero := by
  have e : ∀ y : St, s.out y 0 = lim ((s.b1 * y.x1 + s.b2 * y.x2) / s.unit) := by
    intro y; unfold Sec.out Sec.raw Sec.sum; simp [h1, h2]
  have e0 : s.next St.zero 0 = St.zero := by unfold Sec.next; rw [e]; simp [St.zero]; decide
  induction k with
  | zero => omega
  | succ k ih =>
    rcases Nat.lt_or_ge k 4 with h | h
    · obtain rfl : k = 3 := by omega
      simp only [Sec.orb, Sec.next, e, Int.mul_zero, Int.add_zero, Int.zero_ediv, St.zero]
      simp; decide
    · simp only [Sec.orb]
      rw [ih h, e0]
theorem rest_dead {s : Sec} {x : St} {n p : Nat} (h : Rest s x n p) (h1 : s.a1 = 0) (h2 : s.a2 = 0) : p = 1 ∧ s.orb x n = St.zero ∧ n ≤ 4 := by
  have hp := h.pos
  have per : ∀ t, s.orb x (n + t) = s.orb x (n + p + t) := by
    intro t
    induction t with
    | zero => exact h.back
    | succ t ih => show s.next (s.orb x (n + t)) 0 = s.next (s.orb x (n + p + t)) 0; rw [ih]
  have hn : n + p ≤ 5 := by
    rcases Nat.lt_or_ge 5 (n + p) with q | q
    · exact absurd ((orb_dead h1 h2 x 4 (by omega)).trans (orb_dead h1 h2 x 5 (by omega)).symm) (h.apart 4 5 (by omega) q)
    · exact q
  have many : ∀ t, s.orb x n = s.orb x (n + t * p) := by
    intro t
    induction t with
    | zero => simp
    | succ t ih => rw [ih, per (t * p)]; congr 1; rw [Nat.add_mul]; omega
  have hz : s.orb x n = St.zero := by
    rw [many 4]
    exact orb_dead h1 h2 x _ (by omega)
  have hz1 : s.orb x (n + 1) = St.zero := by
    show s.next (s.orb x n) 0 = St.zero
    rw [hz]
    have := orb_dead h1 h2 x 5 (by omega)
    have e4 := orb_dead h1 h2 x 4 (by omega)
    change s.next (s.orb x 4) 0 = St.zero at this
    rwa [e4] at this
  refine ⟨?_, hz, by omega⟩
  rcases Nat.lt_or_ge 1 p with q | q
  · exact absurd (hz.trans hz1.symm) (h.apart n (n + 1) (by omega) (by omega))
  · omega
theorem never_lives {s : Sec} {x : St} (h : s.settle x = none) : ¬ (s.a1 = 0 ∧ s.a2 = 0) := by
  rintro ⟨h1, h2⟩
  exact hit_not (cyc_never h 5 (by omega) (by omega)) (show 4 < 5 by omega) ((orb_dead h1 h2 x 4 (by omega)).trans (orb_dead h1 h2 x 5 (by omega)).symm)
theorem rest_per {s : Sec} {x : St} {n p : Nat} (h : Rest s x n p) (k : Nat) (hk : n ≤ k) : s.orb x k = s.orb x (k + p) := by
  obtain ⟨t, rfl⟩ : ∃ t, k = n + t := ⟨k - n, by omega⟩
  induction t with
  | zero => exact h.back
  | succ t ih =>
    show s.next (s.orb x (n + t)) 0 = _
    rw [ih (by omega), show n + (t + 1) + p = (n + t + p) + 1 by omega]; rfl
theorem rest_all {s : Sec} {x : St} {n p : Nat} (h : Rest s x n p) {M : Int} (hM : ∀ k, n ≤ k → k < n + p → -M ≤ s.out (s.orb x k) 0 ∧ s.out (s.orb x k) 0 ≤ M) : ∀ k, n ≤ k → -M ≤ s.out (s.orb x k) 0 ∧ s.out (s.orb x k) 0 ≤ M := by
  intro k
  induction k using Nat.strongRecOn with
  | _ k ih =>
    intro hk
    rcases Nat.lt_or_ge k (n + p) with q | q
    · exact hM k hk q
    · have hp := h.pos
      have e := rest_per h (k - p) (by omega)
      rw [show k - p + p = k by omega] at e
      rw [← e]
      exact ih (k - p) (by omega) (by omega)
theorem rest_in {s : Sec} {x : St} {n p : Nat} (h : Rest s x n p) {M : Int} (hM : ∀ k, n ≤ k → k < n + p → -M ≤ s.out (s.orb x k) 0 ∧ s.out (s.orb x k) 0 ≤ M) (k : Nat) (hk : n ≤ k) : (s.orb x k).In 0 M := by
  have hp := h.pos
  have a := rest_all h hM
  obtain ⟨j, hj⟩ : ∃ j, k + p + p = j + 2 := ⟨k + p + p - 2, by omega⟩
  have e : s.orb x k = s.orb x (j + 2) := by rw [rest_per h k hk, rest_per h (k + p) (by omega), hj]
  have a1 := a (j + 1) (by omega)
  have a0 := a j (by omega)
  rw [e]
  simp only [Sec.orb, Sec.next] at a0 a1 ⊢
  exact ⟨by simp, by simp, by simp, by simp, a1.1, a1.2, a0.1, a0.2⟩
theorem out_near {s : Sec} {y : St} {M : Int} (hu : 1 ≤ s.unit) (hM : 0 ≤ M) (_hr : 1 ≤ s.room) (h : y.In 0 M) : max (s.out y 0) (-(s.out y 0)) * s.unit < M * (s.unit - s.room) + s.unit := by
  have p3 := @mul_ab s.a1 y.y1 M h.y1l h.y1h
  have p4 := @mul_ab s.a2 y.y2 M h.y2l h.y2h
  have x1 : y.x1 = 0 := by have := h.x1l; have := h.x1h; omega
  have x2 : y.x2 = 0 := by have := h.x2l; have := h.x2h; omega
  have hs : -(M * (s.unit - s.room)) ≤ s.sum y 0 ∧ s.sum y 0 ≤ M * (s.unit - s.room) := by
    have e : s.unit - s.room = ab s.a1 + ab s.a2 := by unfold Sec.room; omega
    rw [e, Int.mul_add]
    unfold Sec.sum
    rw [x1, x2]
    simp only [Int.mul_zero]
    omega
  obtain ⟨m1, m2⟩ := mid_raw hu y 0
  have hn : 0 ≤ M * (s.unit - s.room) := by
    refine Int.mul_nonneg hM ?_
    have := ab_nn s.a1; have := ab_nn s.a2; unfold Sec.room; omega
  have key : ∀ v r : Int, r * s.unit ≤ s.sum y 0 → s.sum y 0 - s.unit < r * s.unit → v = lim r → max v (-v) * s.unit < M * (s.unit - s.room) + s.unit := by
    intro v r q1 q2 hv
    rcases Int.le_total 0 v with h0 | h0
    · rw [Int.max_eq_left (by omega)]
      have : v ≤ max r 0 := by rw [hv]; unfold lim; omega
      have := Int.mul_le_mul_of_nonneg_right this (show 0 ≤ s.unit by omega)
      rcases Int.le_total 0 r with g | g
      · rw [Int.max_eq_left g] at this; omega
      · rw [Int.max_eq_right g] at this; omega
    · rw [Int.max_eq_right (by omega)]
      have : -v ≤ max (-r) 0 := by rw [hv]; unfold lim; omega
      have := Int.mul_le_mul_of_nonneg_right this (show 0 ≤ s.unit by omega)
      rcases Int.le_total 0 (-r) with g | g
      · rw [Int.max_eq_left g, Int.neg_mul r] at this; omega
      · rw [Int.max_eq_right g] at this; omega
  exact key _ _ m1 m2 rfl
theorem mostOf_hit {l : List Int} : mostOf l = 0 ∨ ∃ v ∈ l, mostOf l = max v (-v) := by
  induction l with
  | nil => left; rfl
  | cons a l ih =>
    have h0 := mostOf_nn l
    simp only [mostOf]
    rcases Int.le_total (mostOf l) (max a (-a)) with h | h
    · right; exact ⟨a, by simp, by omega⟩
    · rcases ih with e | ⟨v, hv, e⟩
      · left; omega
      · right; exact ⟨v, by simp [hv], by omega⟩
theorem after_orb (s : Sec) (x : St) (n : Nat) : s.after x (List.replicate n 0) = s.orb x n := by
  induction n with
  | zero => rfl
  | succ n ih => rw [List.replicate_succ', after_snoc, ih]; rfl
theorem zeros_outs (s : Sec) (x : St) {n k : Nat} (hk : k < n) : (s.outs x (List.replicate n 0))[k]? = some (s.out (s.orb x k) 0) := by
  rw [outs_at (x := 0) (by simp [hk]), List.take_replicate, Nat.min_eq_left (by omega), after_orb]
/-- In a cycle of a contractive section no output, times the room, reaches the unit. -/
theorem rest_small {s : Sec} {x : St} {n p : Nat} (hs : s.Ok) (h : Rest s x n p) (hr : 1 ≤ s.room) : ∀ k, n ≤ k → k < n + p → max (s.out (s.orb x k) 0) (-(s.out (s.orb x k) 0)) * s.room < s.unit := by
  have hu := (unit_bd hs).1
  obtain ⟨l, hl⟩ : ∃ l, l = (List.range p).map fun j => s.out (s.orb x (n + j)) 0 := ⟨_, rfl⟩
  have hin : ∀ k, n ≤ k → k < n + p → s.out (s.orb x k) 0 ∈ l := by
    intro k h1 h2
    rw [hl]
    simp only [List.mem_map, List.mem_range]
    exact ⟨k - n, by omega, by rw [show n + (k - n) = k by omega]⟩
  have hM : ∀ k, n ≤ k → k < n + p → -(mostOf l) ≤ s.out (s.orb x k) 0 ∧ s.out (s.orb x k) 0 ≤ mostOf l := fun k h1 h2 => mostOf_in _ (hin k h1 h2)
  have h0 := mostOf_nn l
  have big : mostOf l * s.room < s.unit := by
    rcases @mostOf_hit l with e | ⟨v, hv, e⟩
    · rw [e]; omega
    · rw [hl] at hv
      simp only [List.mem_map, List.mem_range] at hv
      obtain ⟨j, hj, rfl⟩ := hv
      have := out_near hu h0 hr (rest_in h hM (n + j) (by omega))
      rw [← e, Int.mul_sub] at this
      omega
  intro k h1 h2
  have := hM k h1 h2
  have h3 : max (s.out (s.orb x k) 0) (-(s.out (s.orb x k) 0)) ≤ mostOf l := by omega
  have := Int.mul_le_mul_of_nonneg_right h3 (show 0 ≤ s.room by omega)
  omega
end Go.Proofs.YtlaaajkehjoffaaDoor
