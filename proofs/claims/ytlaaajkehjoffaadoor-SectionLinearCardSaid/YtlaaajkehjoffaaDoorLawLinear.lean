/- The law SectionLinear (draft: the head and the first loop). -/
import Derived.Test.YtlaaajkehjoffaaDoorNegat
import Derived.Test.YtlaaajkehjoffaaDoorGoesS
import Derived.Laws.AppendOwn
import Derived.Deep.LoopGhost
import Derived.Deep.DeepCutAuto
namespace Go.Proofs.YtlaaajkehjoffaaDoor
open Go.RowKit Go.Shelf
set_option maxRecDepth 100000

/-- Two rows of numbers of the call's own, in blocks of their own. -/
def Two (w : World) (B : Nat) (v : Value) (n : Nat) (xs : List Int) (u : Value) (m : Nat) (ys : List Int) : Prop :=
  w.ownsRow B 3 1 v n (ints xs) ∧ w.ownsRow B 3 1 u m (ints ys) ∧ (v.ownBlock = none ∨ v.ownBlock ≠ u.ownBlock) ∧ (u.ownBlock = none ∨ u.ownBlock ≠ v.ownBlock)
theorem Two.symm {w : World} {B : Nat} {v u : Value} {n m : Nat} {xs ys : List Int} (h : Two w B v n xs u m ys) : Two w B u m ys v n xs := ⟨h.2.1, h.1, h.2.2.2, h.2.2.1⟩
theorem Two.alloc {w : World} {B : Nat} {v u : Value} {n m : Nat} {xs ys : List Int} (h : Two w B v n xs u m ys) (o : Obj) : Two (w.alloc o) B v n xs u m ys := ⟨h.1.alloc _, h.2.1.alloc _, h.2.2⟩
theorem Two.drew {w : World} {B : Nat} {v u : Value} {n m : Nat} {xs ys : List Int} (h : Two w B v n xs u m ys) : Two w.drew B v n xs u m ys := h
theorem step_two {P : Program} {ops : Array Oper} {o : Oper} {a : Act} {w : World} {K : Act → World → Prop} {Q : Exit → Act → World → Prop} {E : Prop} (hP : P = Tryd.prog) (hgd : o.guard = none) (s x : Operand) (t : TypeId)
    (ho : o.op = .call { callee := .builtin .append, args := #[s, x], argTypes := #[t, t] }) (ht : P.underlying t = some (.slice 3))
    (B : Nat) (v : Value) (n : Nat) (xs : List Int) (u : Value) (m : Nat) (ys : List Int) (hs : a.eval s = v) (T : Two w B v n xs u m ys)
    (g : Nat) (y : Int) (hx : a.eval x = .slice (some ⟨g, 0, none⟩) 1 1) (hk : Blk w g 3 #[.int .i64 y]) (h63 : n + 1 ≤ 1000) (hB : B ≤ w.heap.size)
    (h : ∀ v' w', Two w' B v' (n + 1) (xs ++ [y]) u m ys → w.grownBy w' v.ownBlock → Below B w w' → (∀ d, some (w.heap.size + d + 1) ≠ v'.ownBlock) → K (a.put o.dst v') w') :
    if Region.wanted o (yielded ops a.tmps) = true then Oper.wp P o a w K Q else E := by
  subst hP
  obtain ⟨i, hi, hz, hsize, hby⟩ := info_parts info_int
  have hr : Reads w w.heap.size 1 (some ⟨g, 0, none⟩) 1 (ints [y]) := blkR (xs := [y]) hk rfl
  refine step_append_any w hgd s x t ho B 3 i (.int .i64 0) 1 8 ht hi hz hsize hby rfl (by decide) v n (ints xs) hs T.1 w.heap.size (some ⟨g, 0, none⟩) 1 1 (ints [y]) hx hr (ints_one _) (by unfold maxLen; omega) (by omega) hB ?_
  intro v' w' ho' hg hq
  have hlu : ∀ b, u.ownBlock = some b → b < w.heap.size := fun b hb => (T.2.1.lt b hb).2
  have hlv : ∀ b, v.ownBlock = some b → b < w.heap.size := fun b hb => (T.1.lt b hb).2
  have hne : v'.ownBlock ≠ u.ownBlock ∨ u.ownBlock = none := by
    cases hu : u.ownBlock with
    | none => right; rfl
    | some b =>
      left
      rcases hq with e | e
      · rw [e]
        rcases T.2.2.2 with e2 | e2
        · rw [hu] at e2; cases e2
        · rw [hu] at e2; exact fun e3 => e2 e3.symm
      · rw [e]
        intro e3
        have := hlu b hu
        injection e3 with e3
        omega
  refine h v' w' ⟨by simpa [ints] using ho', T.2.1.kept hg T.2.2.2, ?_, ?_⟩ hg ((Below.refl B w).grown hg hB fun k hk => (T.1.lt k hk).1) ?_
  · rcases hne with e | e
    · exact .inr e
    · cases hv : v'.ownBlock with
      | none => exact .inl rfl
      | some b => right; rw [e]; intro e3; cases e3
  · rcases hne with e | e
    · exact .inr fun e3 => e e3.symm
    · exact .inl e
  · intro d e
    rcases hq with e2 | e2
    · rw [e2] at e
      have := hlv _ e.symm
      omega
    · rw [e2] at e
      injection e with e
      omega

theorem max5 (a b c d e : Int) : ∃ X : Int, (∀ w, Sem.run Tryd.prog (Builtin.max_ #[3, 3, 3, 3, 3] 3 #[.int .i64 a, .int .i64 b, .int .i64 c, .int .i64 d, .int .i64 e]) w = .ok (.int .i64 X) w) ∧ a ≤ X ∧ b ≤ X ∧ c ≤ X ∧ d ≤ X ∧ e ≤ X :=
  ⟨(if e > (if d > (if c > (if b > a then b else a) then c else (if b > a then b else a)) then d else (if c > (if b > a then b else a) then c else (if b > a then b else a))) then e else (if d > (if c > (if b > a then b else a) then c else (if b > a then b else a)) then d else (if c > (if b > a then b else a) then c else (if b > a then b else a)))), fun _ => rfl, by omega⟩
theorem min5 (a b c d e : Int) : ∃ X : Int, (∀ w, Sem.run Tryd.prog (Builtin.min_ #[3, 3, 3, 3, 3] 3 #[.int .i64 a, .int .i64 b, .int .i64 c, .int .i64 d, .int .i64 e]) w = .ok (.int .i64 X) w) ∧ X ≤ a ∧ X ≤ b ∧ X ≤ c ∧ X ≤ d ∧ X ≤ e :=
  ⟨(if e < (if d < (if c < (if b < a then b else a) then c else (if b < a then b else a)) then d else (if c < (if b < a then b else a) then c else (if b < a then b else a))) then e else (if d < (if c < (if b < a then b else a) then c else (if b < a then b else a)) then d else (if c < (if b < a then b else a) then c else (if b < a then b else a)))), fun _ => rfl, by omega⟩
theorem max4 (a b c d : Int) : ∃ X : Int, (∀ w, Sem.run Tryd.prog (Builtin.max_ #[3, 3, 3, 3] 3 #[.int .i64 a, .int .i64 b, .int .i64 c, .int .i64 d]) w = .ok (.int .i64 X) w) ∧ a ≤ X ∧ c ≤ X :=
  ⟨(if d > (if c > (if b > a then b else a) then c else (if b > a then b else a)) then d else (if c > (if b > a then b else a) then c else (if b > a then b else a))), fun _ => rfl, by omega⟩
theorem min2 (a b : Int) : ∃ X : Int, (∀ w, Sem.run Tryd.prog (Builtin.min_ #[3, 3] 3 #[.int .i64 a, .int .i64 b]) w = .ok (.int .i64 X) w) ∧ X ≤ a ∧ X ≤ b :=
  ⟨(if b < a then b else a), fun _ => rfl, by omega⟩
theorem Two.below {w w' : World} {B : Nat} {v u : Value} {n m : Nat} {xs ys : List Int} (h : Two w B v n xs u m ys) (hb : Below w.heap.size w w') : Two w' B v n xs u m ys := ⟨row_below h.1 hb, row_below h.2.1 hb, h.2.2⟩
theorem zip_succ {xs ys : List Int} {j : Nat} {x y : Int} (hx : xs[j]? = some x) (hy : ys[j]? = some y) : List.zipWith (· + ·) (xs.take (j + 1)) (ys.take (j + 1)) = List.zipWith (· + ·) (xs.take j) (ys.take j) ++ [x + y] := by
  have h1 : j < xs.length := (List.getElem?_eq_some_iff.1 hx).1
  have h2 : j < ys.length := (List.getElem?_eq_some_iff.1 hy).1
  rw [List.take_add_one, List.take_add_one, hx, hy]
  exact List.zipWith_append (by rw [List.length_take, List.length_take]; omega)
theorem neg_succ {xs : List Int} {j : Nat} {x : Int} (hx : xs[j]? = some x) : (xs.take (j + 1)).map (- ·) = (xs.take j).map (- ·) ++ [-x] := by
  rw [List.take_add_one, hx]; simp
/-- What the head of the law asks for. -/
structure LinOk (s : Sec) (n m : Nat) : Prop where
  few : n ≤ 20
  same : n = m
  sh : s.sh = 0
  ok : s.Ok
  hi : (s.b0 ≤ 4 ∧ s.b1 ≤ 4 ∧ s.b2 ≤ 4 ∧ s.a1 ≤ 4 ∧ s.a2 ≤ 4)
  lo : -4 ≤ s.b0 ∧ -4 ≤ s.b1 ∧ -4 ≤ s.b2 ∧ -4 ≤ s.a1 ∧ -4 ≤ s.a2

/-! ### What the rest of the law needs -/
theorem lin_sig {xs ys : List Int} {n : Nat} (hl : xs.length = n) (hl' : ys.length = n) (hn : n ≤ 20) (h : ∀ q, q < n → ∀ x y, xs[q]? = some x → ys[q]? = some y → (-100 ≤ x ∧ x ≤ 100) ∧ -100 ≤ y ∧ y ≤ 100) :
    (∀ x ∈ xs, -100 ≤ x ∧ x ≤ 100) ∧ sigErr xs = 0 ∧ sigErr ys = 0 ∧ sigErr (List.zipWith (· + ·) xs ys) = 0 ∧ sigErr (xs.map (- ·)) = 0 ∧ sigErr ([0, 0] ++ xs) = 0 := by
  have hx : ∀ x ∈ xs, -100 ≤ x ∧ x ≤ 100 := fun x hx => by
    obtain ⟨q, hq, e⟩ := List.getElem_of_mem hx
    exact (h q (by omega) x (ys[q]'(by omega)) (by rw [List.getElem?_eq_getElem hq, e]) (List.getElem?_eq_getElem (by omega))).1
  have hy : ∀ y ∈ ys, -100 ≤ y ∧ y ≤ 100 := fun y hy => by
    obtain ⟨q, hq, e⟩ := List.getElem_of_mem hy
    exact (h q (by omega) (xs[q]'(by omega)) y (List.getElem?_eq_getElem (by omega)) (by rw [List.getElem?_eq_getElem hq, e])).2
  refine ⟨hx, sigErr_of (by omega) fun x q => ?_, sigErr_of (by omega) fun x q => ?_, sigErr_of (by rw [List.length_zipWith]; omega) fun x q => ?_, sigErr_of (by rw [List.length_map]; omega) fun x q => ?_, sigErr_of (by simp; omega) fun x q => ?_⟩
  · have := hx x q; omega
  · have := hy x q; omega
  · obtain ⟨k, hk, e⟩ := List.getElem_of_mem q
    rw [List.length_zipWith] at hk
    have := h k (by omega) (xs[k]'(by omega)) (ys[k]'(by omega)) (List.getElem?_eq_getElem (by omega)) (List.getElem?_eq_getElem (by omega))
    rw [List.getElem_zipWith] at e
    omega
  · obtain ⟨y, hy, rfl⟩ := List.mem_map.1 q
    have := hx y hy; omega
  · simp at q
    rcases q with rfl | q
    · omega
    · have := hx x q; omega
theorem zip_at {X Y : List Int} {q : Nat} {x y z : Int} (hz : (List.zipWith (· + ·) X Y)[q]? = some z) (hx : X[q]? = some x) (hy : Y[q]? = some y) : z = x + y := by
  rw [List.getElem?_zipWith, hx, hy] at hz
  simpa using hz.symm
theorem Impulse_3 (s : Sec) (w : World) (hs : s.Ok) (h : s.sh = 0) (h1 : s.a1 = 0) (h2 : s.a2 = 0) :
    Calls Tryd.prog 46 #[.agg #[.int .i64 s.b0, .int .i64 s.b1, .int .i64 s.b2, .int .i64 s.a1, .int .i64 s.a2, .int .i64 s.sh], .int .i64 1, .int .i64 3] w fun e w' => ∃ A c, e = .returned (.tuple #[.slice A 3 c, .int .i64 0]) ∧ Reads w' w'.heap.size 1 A 3 (ints [s.b0, s.b1, s.b2]) ∧ Below w.heap.size w w' := by
  refine (Impulse_ok s 1 3 w (by unfold impErr; rw [Sec.err_of hs]; decide)).mono fun _ _ ⟨v, he, ho, hb⟩ => ?_
  rw [show pulse 1 3 = [1, 0, 0] from rfl, pulse_outs hs h h1 h2] at ho
  obtain ⟨A', c', rfl, hr⟩ := own_slice ho
  exact ⟨A', c', he, hr, hb⟩
theorem row_two (w : World) (e : TypeId) (x y : Value) : (w.alloc (.cells #[x, y] e)).ownsRow w.heap.size e 1 (.slice (some ⟨w.heap.size, 0, none⟩) 2 2) 2 [x, y] :=
  ⟨rfl, .inr ⟨w.heap.size, 2, #[x, y], rfl, Nat.le_refl _, heap_alloc_new w _, Nat.le_refl _, by unfold maxLen; omega, rfl, rfl⟩⟩
theorem own_roomS {w : World} {base size n : Nat} {e : TypeId} {v : Value} {xs : List Value} (h : w.ownsRow base e size v n xs) (hn : 0 < n) : ∃ g c, v = .slice (some ⟨g, 0, none⟩) n c ∧ n ≤ c ∧ Reads w w.heap.size size (some ⟨g, 0, none⟩) n xs := by
  rcases h.2 with ⟨rfl, rfl⟩ | ⟨g, cap, cur, rfl, _, _, h1, h2, _⟩
  · omega
  · exact ⟨_, cap, rfl, h1, Reads.of_own h⟩
theorem Run_s (s : Sec) (A : Option Addr) (m c : Nat) (xs : List Int) (w : World) (hs : s.Ok) (hx : sigErr xs = 0) (hm : m ≤ 1000000000000) (h0 : 0 < m) (hR : Reads w w.heap.size 1 A m (ints xs)) :
    Calls Tryd.prog 16 #[.agg #[.int .i64 s.b0, .int .i64 s.b1, .int .i64 s.b2, .int .i64 s.a1, .int .i64 s.a2, .int .i64 s.sh], .slice A m c] w fun e w' => ∃ g c', e = .returned (.tuple #[.slice (some ⟨g, 0, none⟩) m c', .int .i64 0]) ∧ m ≤ c' ∧ Reads w' w'.heap.size 1 (some ⟨g, 0, none⟩) m (ints (s.outs St.zero xs)) ∧ Below w.heap.size w w' := by
  refine (Run_ok s A m c xs w (by unfold runErr; rw [Sec.err_of hs, hx]; rfl) hm hR).mono fun _ _ ⟨v, he, ho, hb⟩ => ?_
  obtain ⟨A', c', rfl, h1, hr⟩ := own_roomS ho h0
  exact ⟨A', c', he, h1, hr, hb⟩
theorem max2 (a b : Int) : ∃ X : Int, (∀ w, Sem.run Tryd.prog (Builtin.max_ #[3, 3] 3 #[.int .i64 a, .int .i64 b]) w = .ok (.int .i64 X) w) ∧ X = max a b :=
  ⟨(if b > a then b else a), fun _ => rfl, by omega⟩
/-- The greatest of the first numbers, and of 0. -/
def mx3 (a b c : Int) : Nat → Int
  | 0 => 0
  | 1 => max 0 a
  | 2 => max (max 0 a) b
  | _ => max (max (max 0 a) b) c
theorem mul_400 {b x : Int} (hb : -4 ≤ b ∧ b ≤ 4) (hx : -100 ≤ x ∧ x ≤ 100) : -400 ≤ b * x ∧ b * x ≤ 400 := by
  have : b = -4 ∨ b = -3 ∨ b = -2 ∨ b = -1 ∨ b = 0 ∨ b = 1 ∨ b = 2 ∨ b = 3 ∨ b = 4 := by omega
  rcases this with rfl | rfl | rfl | rfl | rfl | rfl | rfl | rfl | rfl <;> omega
theorem conv_bd {b a : List Int} (hb : ∀ x ∈ b, -4 ≤ x ∧ x ≤ 4) (ha : ∀ x ∈ a, -100 ≤ x ∧ x ≤ 100) (i : Nat) : ∀ k : Nat, -400 * (k : Int) ≤ conv b a i k ∧ conv b a i k ≤ 400 * (k : Int) := by
  intro k
  induction k with
  | zero => simp [conv]
  | succ k ih =>
    have h1 : -4 ≤ (b[k]?).getD 0 ∧ (b[k]?).getD 0 ≤ 4 := by
      cases h : b[k]? with
      | none => simp
      | some v => simpa using hb v (List.mem_of_getElem? h)
    have h2 : -100 ≤ (a[i - k]?).getD 0 ∧ (a[i - k]?).getD 0 ≤ 100 := by
      cases h : a[i - k]? with
      | none => simp
      | some v => simpa using ha v (List.mem_of_getElem? h)
    have h3 := mul_400 h1 h2
    simp only [conv]
    omega



set_option maxHeartbeats 8000000 in
theorem lawLinear_any (s : Sec) (A : Option Addr) (n c : Nat) (xs : List Int) (A' : Option Addr) (m c' : Nat) (ys : List Int) (w : World) (hV : Vars w) (hn : n ≤ 9223372036854775807) (hm : m ≤ 9223372036854775807) (hR : Reads w w.heap.size 1 A n (ints xs)) (hR' : Reads w w.heap.size 1 A' m (ints ys)) :
    Calls Tryd.prog 7 #[.agg #[.int .i64 s.b0, .int .i64 s.b1, .int .i64 s.b2, .int .i64 s.a1, .int .i64 s.a2, .int .i64 s.sh], .slice A n c, .slice A' m c'] w fun e w' => e = .returned (.bool true) ∧ Below w.heap.size w w' := by
  go_enter Tryd.func7, Tryd.ntmps7
  go_upto_region 1 with (fail)
  obtain ⟨w1, e1, hb1, hz1, k0⟩ := box1 w #[.int .i64 s.b0, .int .i64 s.b1, .int .i64 s.b2, .int .i64 s.a1, .int .i64 s.a2, .int .i64 s.sh] 23
  rw [← e1]; clear e1
  go_cut [79] from 32 to 78 (fun s79 wx => ∃ t : Bool, s79 = .bool t ∧ Hid (t = false → LinOk s n m) ∧ Below w1.heap.size w1 wx)
  case first =>
    have cS := (carryK (w' := w1) k0 (by repeat (first | with_reducible assumption | exact Below.refl _ _ | refine below_next (by with_reducible assumption) ?_))).cell
    by_cases h1 : (20 : Int) < (n : Int)
    · go_wp2_with fail
      go_meet
      exact ⟨true, rfl, hide (fun h => by cases h), Below.refl _ _⟩
    · by_cases h2 : n = m
      · have t2 : ((n : Int) != (m : Int)) = false := by simp; omega
        have H2 := hide h2; clear h2
        by_cases h3 : s.sh = 0
        · have t3 : (s.sh != 0) = false := by simpa using h3
          have H3 := hide h3; clear h3
          go_wp2_with fail
          refine (rCheckSection_any s _).mono ?_
          rintro e w2 ⟨rfl, hb2⟩
          have cS2 := (carryK (w' := w2) k0 (by repeat (first | with_reducible assumption | exact Below.refl _ _ | refine below_next (by with_reducible assumption) ?_))).cell
          by_cases h4 : s.err = 0
          · have t4 : (s.err != 0) = false := by simpa using h4
            have H4 := hide h4; clear h4
            obtain ⟨X4, rX, hX⟩ := max5 s.b0 s.b1 s.b2 s.a1 s.a2
            obtain ⟨N4, rN, hN⟩ := min5 s.b0 s.b1 s.b2 s.a1 s.a2
            by_cases h5 : 4 < X4
            · have t5 : decide (4 < X4) = true := decide_eq_true h5
              clear h5
              go_wp2_with fail
              go_meet
              exact ⟨true, rfl, hide (fun h => by cases h), hb2⟩
            · have t5 : decide (4 < X4) = false := decide_eq_false h5
              have H5 := hide h5
              clear h5
              by_cases h6 : N4 < -4
              · have t6 : decide (N4 < -4) = true := decide_eq_true h6
                clear h6
                go_wp2_with fail
                go_meet
                exact ⟨true, rfl, hide (fun h => by cases h), hb2⟩
              · have t6 : decide (N4 < -4) = false := decide_eq_false h6
                have H6 := hide h6
                clear h6
                go_wp2_with fail
                go_meet
                exact ⟨false, rfl, hide (fun _ => ⟨by omega, H2.out, H3.out, Sec.err_ok H4.out, by have := H5.out; omega, by have := H6.out; omega⟩), hb2⟩
          · have t4 : (s.err != 0) = true := by simpa using h4
            clear h4
            go_wp2_with fail
            go_meet
            exact ⟨true, rfl, hide (fun h => by cases h), hb2⟩
        · have t3 : (s.sh != 0) = true := by simpa using h3
          clear h3
          go_wp2_with fail
          go_meet
          exact ⟨true, rfl, hide (fun h => by cases h), Below.refl _ _⟩
      · have t2 : ((n : Int) != (m : Int)) = true := by simp; omega
        clear h2
        go_wp2_with fail
        go_meet
        exact ⟨true, rfl, hide (fun h => by cases h), Below.refl _ _⟩
  case rest =>
    obtain ⟨t, rfl, HT, hv1⟩ := hcut
    rename World => w2
    cases t
    · have hlin := HT.out rfl
      obtain rfl : n = m := hlin.same
      have hn20 := hlin.few
      have HLIN := hide hlin
      clear hlin
      have r2 := carry (w' := w2) hR (by repeat (first | with_reducible assumption | exact Below.refl _ _ | refine below_next (by with_reducible assumption) ?_))
      have r2' := carry (w' := w2) hR' (by repeat (first | with_reducible assumption | exact Below.refl _ _ | refine below_next (by with_reducible assumption) ?_))
      have k2 := carryK (w' := w2) k0 (by repeat (first | with_reducible assumption | exact Below.refl _ _ | refine below_next (by with_reducible assumption) ?_))
      have hbw2 : Below w.heap.size w w2 := (by repeat (first | with_reducible assumption | exact Below.refl _ _ | refine below_next (by with_reducible assumption) ?_))
      have HL := hide (reads_len hR)
      have HL' := hide (reads_len hR')
      clear hR hR' k0 hv1 hb1
      go_upto_region 4 with (fail)
      go_wp2_with fail
      go_loopg [7, 8, 83] n (fun gk v u i wr => ∃ j : Nat, j ≤ n ∧ gk = n - j ∧ i = .int .i64 j ∧ Two wr w2.heap.size v j (List.zipWith (· + ·) (xs.take j) (ys.take j)) u j ((xs.take j).map (- ·)) ∧ Below w2.heap.size w2 wr ∧ Hid (∀ q, q < j → ∀ x y, xs[q]? = some x → ys[q]? = some y → (-100 ≤ x ∧ x ≤ 100) ∧ -100 ≤ y ∧ y ≤ 100))
      case atStart => exact ⟨0, by omega, rfl, rfl, ⟨World.ownsRow_nil .., World.ownsRow_nil .., .inl rfl, .inl rfl⟩, Below.refl _ _, hide (fun q h => absurd h (by omega))⟩
      case round =>
        obtain ⟨j, hj, rfl, rfl, T, hbw, HB⟩ := hrel
        by_cases hlt : j < n
        · skip
          obtain ⟨ad, x, eA, _, hxj, hcx⟩ := reads_at (carry r2 hbw) hlt
          obtain ⟨ad', y, eA', _, hyj, hcy⟩ := reads_at (carry r2' hbw) hlt
          obtain ⟨had, hed, hcd⟩ : ∃ had : ad.block < w2.heap.size, A = some ad ∧ w2.cell? (ad.add j) = some (.int .i64 x) := by
            obtain ⟨a1, x1, e1, h1, h2, h3⟩ := reads_at r2 hlt
            rw [eA] at e1; cases e1
            rw [hxj] at h2; cases h2
            exact ⟨h1, eA, h3⟩
          obtain ⟨had', hed', hcd'⟩ : ∃ had : ad'.block < w2.heap.size, A' = some ad' ∧ w2.cell? (ad'.add j) = some (.int .i64 y) := by
            obtain ⟨a1, x1, e1, h1, h2, h3⟩ := reads_at r2' hlt
            rw [eA'] at e1; cases e1
            rw [hyj] at h2; cases h2
            exact ⟨h1, eA', h3⟩
          subst eA eA'
          have HXJ := hide hxj
          have HYJ := hide hyj
          clear hed hed' hxj hyj hcx hcy
          obtain ⟨vS, hvS⟩ : ∃ q, q = u7 := ⟨_, rfl⟩
          obtain ⟨vM, hvM⟩ : ∃ q, q = u8 := ⟨_, rfl⟩
          subst hvS hvM
          go_upto_region 7 with (fail)
          go_cut [117] from 84 to 139 (fun s117 wx => ∃ t : Bool, s117 = .bool t ∧ Hid (t = false → (-100 ≤ x ∧ x ≤ 100) ∧ -100 ≤ y ∧ y ≤ 100) ∧ Two wx w2.heap.size vS j (List.zipWith (· + ·) (xs.take j) (ys.take j)) vM j ((xs.take j).map (- ·)) ∧ Below w2.heap.size w2 wx)
          case first =>
            have d1 : ∀ W, (over wr.heap.size wr W).cell? (ad.add j) = some (.int .i64 x) := fun W => ((below_next hbw (over_below wr.heap.size wr W)).cell (p := ad.add j) (by rw [block_of_add]; exact had)).trans hcd
            have d2 : ∀ W, (over wr.heap.size wr W).cell? (ad'.add j) = some (.int .i64 y) := fun W => ((below_next hbw (over_below wr.heap.size wr W)).cell (p := ad'.add j) (by rw [block_of_add]; exact had')).trans hcd'
            obtain ⟨nx, hnx⟩ : ∃ q, IntKind.i64.wrap (-x) = q := ⟨_, rfl⟩
            obtain ⟨ny, hny⟩ : ∃ q, IntKind.i64.wrap (-y) = q := ⟨_, rfl⟩
            obtain ⟨X, rX, hX1, hX2⟩ := max4 x nx y ny
            obtain ⟨M, rM, hM1, hM2⟩ := min2 x y
            have TT := fun W => Two.below T (over_below wr.heap.size wr W)
            have TT' := hide TT
            clear TT
            by_cases h1 : 100 < X
            · have t1 : decide (100 < X) = true := decide_eq_true h1
              clear h1
              refine wp_region_over wr.heap.size (by kernel_rfl) (by kernel_rfl) ?_; (repeat (first | go_big_quiet_step (fail) | quiet_step (fail))); refine wpQuiet_nil ?_; rintro W ⟨x, rfl⟩
              go_wp2_with fail
              go_meet
              exact ⟨true, rfl, hide (fun h => by cases h), TT'.out _, below_next hbw (over_below _ _ _)⟩
            · have t1 : decide (100 < X) = false := decide_eq_false h1
              by_cases h2 : M < -100
              · have t2 : decide (M < -100) = true := decide_eq_true h2
                clear h1 h2
                refine wp_region_over wr.heap.size (by kernel_rfl) (by kernel_rfl) ?_; (repeat (first | go_big_quiet_step (fail) | quiet_step (fail))); refine wpQuiet_nil ?_; rintro W ⟨x, rfl⟩
                go_wp2_with fail
                go_meet
                exact ⟨true, rfl, hide (fun h => by cases h), TT'.out _, below_next hbw (over_below _ _ _)⟩
              · have t2 : decide (M < -100) = false := decide_eq_false h2
                have hb100 : (-100 ≤ x ∧ x ≤ 100) ∧ -100 ≤ y ∧ y ≤ 100 := by omega
                clear h1 h2
                refine wp_region_over wr.heap.size (by kernel_rfl) (by kernel_rfl) ?_; (repeat (first | go_big_quiet_step (fail) | quiet_step (fail))); refine wpQuiet_nil ?_; rintro W ⟨x, rfl⟩
                go_wp2_with fail
                go_meet
                exact ⟨false, rfl, hide (fun _ => hb100), TT'.out _, below_next hbw (over_below _ _ _)⟩
          case rest =>
            obtain ⟨t, rfl, HT2, TV, hbV⟩ := hcut
            rename World => V
            cases t
            · have hb100 := HT2.out rfl
              clear T hbw HT2
              have Ts := TV.symm
              have hzV := hbV.size
              have nS0 : some V.heap.size ≠ vS.ownBlock := fun e => by have := (TV.1.lt _ e.symm).2; omega
              have nS1 : some (V.heap.size + 1) ≠ vS.ownBlock := fun e => by have := (TV.1.lt _ e.symm).2; omega
              have nM0 : some V.heap.size ≠ vM.ownBlock := fun e => by have := (TV.2.1.lt _ e.symm).2; omega
              have nM1 : some (V.heap.size + 1) ≠ vM.ownBlock := fun e => by have := (TV.2.1.lt _ e.symm).2; omega
              have d1 : ∀ W, Below w2.heap.size w2 W → W.cell? (ad.add j) = some (.int .i64 x) := fun W h => (h.cell (p := ad.add j) (by rw [block_of_add]; exact had)).trans hcd
              have d2 : ∀ W, Below w2.heap.size w2 W → W.cell? (ad'.add j) = some (.int .i64 y) := fun W h => (h.cell (p := ad'.add j) (by rw [block_of_add]; exact had')).trans hcd'
              have hw1 : IntKind.i64.wrap (x + y) = x + y := IntWalk.i64_in _ (by omega)
              have hw2 : IntKind.i64.wrap (-x) = -x := IntWalk.i64_in _ (by omega)
              have HZ1 := hide (zip_succ HXJ.out HYJ.out)
              have HZ2 := hide (neg_succ HXJ.out)
              have HB2 : Hid (∀ q, q < j + 1 → ∀ x y, xs[q]? = some x → ys[q]? = some y → (-100 ≤ x ∧ x ≤ 100) ∧ -100 ≤ y ∧ y ≤ 100) := fun q hq a b ha hb => by
                rcases Nat.lt_or_ge q j with h | h
                · exact HB.out q h a b ha hb
                · obtain rfl : q = j := by omega
                  rw [HXJ.out] at ha; rw [HYJ.out] at hb
                  cases ha; cases hb
                  exact hb100
              go_upto_region 9 with (fail)
              go_region_held3 (fun W => Below w2.heap.size w2 W) (first | exact hbV.drew | (with_reducible assumption) | exact below_new ‹Below w2.heap.size w2 _› (Nat.le_refl _) _) (first | (refine step_two rfl (by rfl) (.tmp 119) (.tmp 129) _ (by rfl) Tryd.underlying26 w2.heap.size vS j (List.zipWith (· + ·) (xs.take j) (ys.take j)) vB (j + 1) ((xs.take j).map (- ·) ++ [-x]) (by rfl) (by repeat (first | (with_reducible assumption) | (with_reducible refine Two.drew ?_) | (with_reducible refine Two.alloc ?_ _))) (V.heap.size) (x + y) (by rfl) (by repeat (first | (with_reducible refine Blk.drew ?_) | (with_reducible exact Blk.newAt (by first | rfl | simp)) | (with_reducible refine Blk.alloc ?_ _) | (refine HKN.out _ _ _ (by assumption) ?_))) (by omega) (by first | omega | (simp; omega)) ?_; intro vA wN TN hgN hbN hnN; have TNs := TN.symm; have HKN := hide (fun (g : Nat) (t : TypeId) (cs : Array Value) (hne : some g ≠ Value.ownBlock vS) (hb : Blk _ g t cs) => Blk.grown hb hgN hne); have hS := Below.trans ‹Below w2.heap.size w2 _› hbN; have hzN := Below.size hS) | (refine step_two rfl (by rfl) (.tmp 131) (.tmp 137) _ (by rfl) Tryd.underlying26 w2.heap.size vM j ((xs.take j).map (- ·)) vA (j + 1) (List.zipWith (· + ·) (xs.take j) (ys.take j) ++ [x + y]) (by rfl) (by repeat (first | (with_reducible assumption) | (with_reducible refine Two.drew ?_) | (with_reducible refine Two.alloc ?_ _))) (V.heap.size) (-x) (by rfl) (by repeat (first | (with_reducible refine Blk.drew ?_) | (with_reducible exact Blk.newAt (by first | rfl | simp)) | (with_reducible refine Blk.alloc ?_ _) | (refine HKN.out _ _ _ (by assumption) ?_))) (by omega) (by first | omega | (simp; omega)) ?_; intro vB wN TN hgN hbN hnN; have TNs := TN.symm; have HKN := hide (fun (g : Nat) (t : TypeId) (cs : Array Value) (hne : some g ≠ Value.ownBlock vM) (hb : Blk _ g t cs) => Blk.grown hb hgN hne); have hS := Below.trans ‹Below w2.heap.size w2 _› hbN; have hzN := Below.size hS) | (refine step_two rfl (by rfl) (.tmp 119) (.tmp 129) _ (by rfl) Tryd.underlying26 w2.heap.size vS j (List.zipWith (· + ·) (xs.take j) (ys.take j)) vB (j + 1) ((xs.take j).map (- ·) ++ [-x]) (by rfl) (by repeat (first | (with_reducible assumption) | (with_reducible refine Two.drew ?_) | (with_reducible refine Two.alloc ?_ _))) (V.heap.size + 1) (x + y) (by rfl) (by repeat (first | (with_reducible refine Blk.drew ?_) | (with_reducible exact Blk.newAt (by first | rfl | simp)) | (with_reducible refine Blk.alloc ?_ _) | (refine HKN.out _ _ _ (by assumption) ?_))) (by omega) (by first | omega | (simp; omega)) ?_; intro vA wN TN hgN hbN hnN; have TNs := TN.symm; have HKN := hide (fun (g : Nat) (t : TypeId) (cs : Array Value) (hne : some g ≠ Value.ownBlock vS) (hb : Blk _ g t cs) => Blk.grown hb hgN hne); have hS := Below.trans ‹Below w2.heap.size w2 _› hbN; have hzN := Below.size hS) | (refine step_two rfl (by rfl) (.tmp 131) (.tmp 137) _ (by rfl) Tryd.underlying26 w2.heap.size vM j ((xs.take j).map (- ·)) vA (j + 1) (List.zipWith (· + ·) (xs.take j) (ys.take j) ++ [x + y]) (by rfl) (by repeat (first | (with_reducible assumption) | (with_reducible refine Two.drew ?_) | (with_reducible refine Two.alloc ?_ _))) (V.heap.size + 1) (-x) (by rfl) (by repeat (first | (with_reducible refine Blk.drew ?_) | (with_reducible exact Blk.newAt (by first | rfl | simp)) | (with_reducible refine Blk.alloc ?_ _) | (refine HKN.out _ _ _ (by assumption) ?_))) (by omega) (by first | omega | (simp; omega)) ?_; intro vB wN TN hgN hbN hnN; have TNs := TN.symm; have HKN := hide (fun (g : Nat) (t : TypeId) (cs : Array Value) (hne : some g ≠ Value.ownBlock vM) (hb : Blk _ g t cs) => Blk.grown hb hgN hne); have hS := Below.trans ‹Below w2.heap.size w2 _› hbN; have hzN := Below.size hS) | (refine step_two rfl (by rfl) (.tmp 119) (.tmp 129) _ (by rfl) Tryd.underlying26 w2.heap.size vS j (List.zipWith (· + ·) (xs.take j) (ys.take j)) vB (j + 1) ((xs.take j).map (- ·) ++ [-x]) (by rfl) (by repeat (first | (with_reducible assumption) | (with_reducible refine Two.drew ?_) | (with_reducible refine Two.alloc ?_ _))) (wN.heap.size) (x + y) (by rfl) (by repeat (first | (with_reducible refine Blk.drew ?_) | (with_reducible exact Blk.newAt (by first | rfl | simp)) | (with_reducible refine Blk.alloc ?_ _) | (refine HKN.out _ _ _ (by assumption) ?_))) (by omega) (by first | omega | (simp; omega)) ?_; intro vA wN TN hgN hbN hnN; have TNs := TN.symm; have HKN := hide (fun (g : Nat) (t : TypeId) (cs : Array Value) (hne : some g ≠ Value.ownBlock vS) (hb : Blk _ g t cs) => Blk.grown hb hgN hne); have hS := Below.trans ‹Below w2.heap.size w2 _› hbN; have hzN := Below.size hS) | (refine step_two rfl (by rfl) (.tmp 131) (.tmp 137) _ (by rfl) Tryd.underlying26 w2.heap.size vM j ((xs.take j).map (- ·)) vA (j + 1) (List.zipWith (· + ·) (xs.take j) (ys.take j) ++ [x + y]) (by rfl) (by repeat (first | (with_reducible assumption) | (with_reducible refine Two.drew ?_) | (with_reducible refine Two.alloc ?_ _))) (wN.heap.size) (-x) (by rfl) (by repeat (first | (with_reducible refine Blk.drew ?_) | (with_reducible exact Blk.newAt (by first | rfl | simp)) | (with_reducible refine Blk.alloc ?_ _) | (refine HKN.out _ _ _ (by assumption) ?_))) (by omega) (by first | omega | (simp; omega)) ?_; intro vB wN TN hgN hbN hnN; have TNs := TN.symm; have HKN := hide (fun (g : Nat) (t : TypeId) (cs : Array Value) (hne : some g ≠ Value.ownBlock vM) (hb : Blk _ g t cs) => Blk.grown hb hgN hne); have hS := Below.trans ‹Below w2.heap.size w2 _› hbN; have hzN := Below.size hS) | (refine step_two rfl (by rfl) (.tmp 119) (.tmp 129) _ (by rfl) Tryd.underlying26 w2.heap.size vS j (List.zipWith (· + ·) (xs.take j) (ys.take j)) vM (j) ((xs.take j).map (- ·)) (by rfl) (by repeat (first | (with_reducible assumption) | (with_reducible refine Two.drew ?_) | (with_reducible refine Two.alloc ?_ _))) (V.heap.size) (x + y) (by rfl) (by repeat (first | (with_reducible refine Blk.drew ?_) | (with_reducible exact Blk.newAt (by first | rfl | simp)) | (with_reducible refine Blk.alloc ?_ _) | (refine HKN.out _ _ _ (by assumption) ?_))) (by omega) (by first | omega | (simp; omega)) ?_; intro vA wN TN hgN hbN hnN; have TNs := TN.symm; have HKN := hide (fun (g : Nat) (t : TypeId) (cs : Array Value) (hne : some g ≠ Value.ownBlock vS) (hb : Blk _ g t cs) => Blk.grown hb hgN hne); have hS := Below.trans ‹Below w2.heap.size w2 _› hbN; have hzN := Below.size hS) | (refine step_two rfl (by rfl) (.tmp 131) (.tmp 137) _ (by rfl) Tryd.underlying26 w2.heap.size vM j ((xs.take j).map (- ·)) vS (j) (List.zipWith (· + ·) (xs.take j) (ys.take j)) (by rfl) (by repeat (first | (with_reducible assumption) | (with_reducible refine Two.drew ?_) | (with_reducible refine Two.alloc ?_ _))) (V.heap.size) (-x) (by rfl) (by repeat (first | (with_reducible refine Blk.drew ?_) | (with_reducible exact Blk.newAt (by first | rfl | simp)) | (with_reducible refine Blk.alloc ?_ _) | (refine HKN.out _ _ _ (by assumption) ?_))) (by omega) (by first | omega | (simp; omega)) ?_; intro vB wN TN hgN hbN hnN; have TNs := TN.symm; have HKN := hide (fun (g : Nat) (t : TypeId) (cs : Array Value) (hne : some g ≠ Value.ownBlock vM) (hb : Blk _ g t cs) => Blk.grown hb hgN hne); have hS := Below.trans ‹Below w2.heap.size w2 _› hbN; have hzN := Below.size hS) | (refine step_two rfl (by rfl) (.tmp 119) (.tmp 129) _ (by rfl) Tryd.underlying26 w2.heap.size vS j (List.zipWith (· + ·) (xs.take j) (ys.take j)) vM (j) ((xs.take j).map (- ·)) (by rfl) (by repeat (first | (with_reducible assumption) | (with_reducible refine Two.drew ?_) | (with_reducible refine Two.alloc ?_ _))) (V.heap.size + 1) (x + y) (by rfl) (by repeat (first | (with_reducible refine Blk.drew ?_) | (with_reducible exact Blk.newAt (by first | rfl | simp)) | (with_reducible refine Blk.alloc ?_ _) | (refine HKN.out _ _ _ (by assumption) ?_))) (by omega) (by first | omega | (simp; omega)) ?_; intro vA wN TN hgN hbN hnN; have TNs := TN.symm; have HKN := hide (fun (g : Nat) (t : TypeId) (cs : Array Value) (hne : some g ≠ Value.ownBlock vS) (hb : Blk _ g t cs) => Blk.grown hb hgN hne); have hS := Below.trans ‹Below w2.heap.size w2 _› hbN; have hzN := Below.size hS) | (refine step_two rfl (by rfl) (.tmp 131) (.tmp 137) _ (by rfl) Tryd.underlying26 w2.heap.size vM j ((xs.take j).map (- ·)) vS (j) (List.zipWith (· + ·) (xs.take j) (ys.take j)) (by rfl) (by repeat (first | (with_reducible assumption) | (with_reducible refine Two.drew ?_) | (with_reducible refine Two.alloc ?_ _))) (V.heap.size + 1) (-x) (by rfl) (by repeat (first | (with_reducible refine Blk.drew ?_) | (with_reducible exact Blk.newAt (by first | rfl | simp)) | (with_reducible refine Blk.alloc ?_ _) | (refine HKN.out _ _ _ (by assumption) ?_))) (by omega) (by first | omega | (simp; omega)) ?_; intro vB wN TN hgN hbN hnN; have TNs := TN.symm; have HKN := hide (fun (g : Nat) (t : TypeId) (cs : Array Value) (hne : some g ≠ Value.ownBlock vM) (hb : Blk _ g t cs) => Blk.grown hb hgN hne); have hS := Below.trans ‹Below w2.heap.size w2 _› hbN; have hzN := Below.size hS))
              all_goals (
                go_wp2
                go_roundg (n - (j + 1))
                case measure => omega
                case rel => exact ⟨j + 1, by omega, rfl, by go_num, by rw [HZ1.out, HZ2.out]; first | exact TN | exact TNs, by with_reducible assumption, HB2⟩)
            · go_wp2_with fail
              refine (awake_v _ (hV.carry (below_next hbw2 hbV))).mono ?_
              rintro e wz ⟨rfl, hbz⟩
              go_wp2
              go_ret
              exact ⟨rfl, below_next (below_next hbw2 hbV) hbz⟩
        · obtain rfl : j = n := by omega
          have tx : xs.take j = xs := List.take_of_length_le (by rw [HL.out]; omega)
          have ty : ys.take j = ys := List.take_of_length_le (by rw [HL'.out]; omega)
          rw [tx, ty] at T
          obtain ⟨bx, e1, e2, e3, e4, e5⟩ := lin_sig HL.out HL'.out hn20 HB.out
          have BX := hide bx; have EX := hide e1; have EY := hide e2; have EZ := hide e3; have EM := hide e4; have ET := hide e5
          obtain ⟨T1, T2, _, _⟩ := T
          obtain ⟨aS, cS, rfl, rS⟩ := own_slice T1
          obtain ⟨aM, cM, rfl, rM⟩ := own_slice T2
          clear tx ty bx e1 e2 e3 e4 e5 T1 T2 HB
          rename World => w3
          have rx3 := carry (w' := w3) r2 (by repeat (first | with_reducible assumption | exact Below.refl _ _ | refine below_next (by with_reducible assumption) ?_))
          have ry3 := carry (w' := w3) r2' (by repeat (first | with_reducible assumption | exact Below.refl _ _ | refine below_next (by with_reducible assumption) ?_))
          obtain ⟨i, hi, hz, hsize, hby⟩ := info_parts info_int
          have A1 : 2 + j ≤ maxLen := by unfold maxLen; omega
          have A2 : (2 + j) * 8 ≤ 140737488355328 := by omega
          have rx3' := rx3.alloc (Nat.le_refl _) (.cells #[.int .i64 0, .int .i64 0] 3)
          go_upto_region 12 with (at_builtin; refine wpList_append_any _ rfl (.tmp 140) (.tmp 141) _ rfl w3.heap.size 3 i (.int .i64 0) 1 8 Tryd.underlying26 hi hz hsize hby rfl (by decide) _ 2 [.int .i64 0, .int .i64 0] rfl (row_two w3 _ _ _) w3.heap.size _ j _ (ints xs) rfl rx3' (ints_one _) A1 A2 (by simp) ?_; intro v4 w4 ho4 hg4 hq4)
          have hb4 : Below w3.heap.size w3 w4 := ((Below.refl w3.heap.size w3).alloc (Nat.le_refl _) (.cells #[.int .i64 0, .int .i64 0] 3)).grown hg4 (by simp) fun k hk => by cases hk; exact Nat.le_refl _
          obtain ⟨aL, cL, rfl, rL⟩ := own_slice ho4
          have rL' : Reads w4 w4.heap.size 1 aL (2 + j) (ints ([0, 0] ++ xs)) := rL
          clear ho4 hg4 hq4 rx3' A1 A2 hi hz hsize hby rL
          have c0 : ∀ i W, Below w4.heap.size w4 W → W.cell? ⟨w.heap.size, i, none⟩ = (#[.int .i64 s.b0, .int .i64 s.b1, .int .i64 s.b2, .int .i64 s.a1, .int .i64 s.a2, .int .i64 s.sh] : Array Value)[i]? := fun i W h => (carryK (carryK (w' := w4) k2 (by repeat (first | with_reducible assumption | exact Below.refl _ _ | refine below_next (by with_reducible assumption) ?_))) h).cell i
          have R0 := hide (fun W (h : Below w4.heap.size w4 W) => carry (carry (w' := w4) rx3 (by repeat (first | with_reducible assumption | exact Below.refl _ _ | refine below_next (by with_reducible assumption) ?_))) h)
          go_upto_region 12 with (fail)
          go_region_held3 (fun W => Below w4.heap.size w4 W) (first | exact (Below.refl _ _).drew | (with_reducible assumption) | exact below_new ‹Below w4.heap.size w4 _› (Nat.le_refl _) _ | (refine below_set (below_set (below_set (below_set (by assumption) (by omega) _) (by omega) _) (by omega) _) (by omega) _)) (first | (go_at_call 17; refine (ints_any _ _ _ xs _ (R0.out _ ‹Below w4.heap.size w4 _›) (by omega)).mono ?_; rintro e W' ⟨vI, rfl, hoI, hbW⟩; obtain ⟨AI, cI, rfl, hRI⟩ := own_slice hoI; have hS := below_step ‹Below w4.heap.size w4 _› hbW (Below.size ‹Below w4.heap.size w4 _›); have HRI := hide hRI; clear hRI hoI) | (go_at_call 16; refine (Run_z s _ _ _ xs _ HLIN.out.ok EX.out (by omega) HRI.out).mono ?_; rintro e w5 ⟨aX, cX, rfl, rX, hbQ⟩; have hS := below_step ‹Below w4.heap.size w4 _› hbQ (Below.size ‹Below w4.heap.size w4 _›)))
          have hb5 : Below w4.heap.size w4 w5 := ‹Below w4.heap.size w4 w5›
          clear c0 R0 HRI hbW hbQ
          (try clear hS); (try clear hS)
          have c0 : ∀ i W, Below w5.heap.size w5 W → W.cell? ⟨w.heap.size, i, none⟩ = (#[.int .i64 s.b0, .int .i64 s.b1, .int .i64 s.b2, .int .i64 s.a1, .int .i64 s.a2, .int .i64 s.sh] : Array Value)[i]? := fun i W h => (carryK (carryK (w' := w5) k2 (by repeat (first | with_reducible assumption | exact Below.refl _ _ | refine below_next (by with_reducible assumption) ?_))) h).cell i
          have R0 := hide (fun W (h : Below w5.heap.size w5 W) => carry (carry (w' := w5) ry3 (by repeat (first | with_reducible assumption | exact Below.refl _ _ | refine below_next (by with_reducible assumption) ?_))) h)
          go_upto_region 13 with (fail)
          go_region_held3 (fun W => Below w5.heap.size w5 W) (first | exact (Below.refl _ _).drew | (with_reducible assumption) | exact below_new ‹Below w5.heap.size w5 _› (Nat.le_refl _) _ | (refine below_set (below_set (below_set (below_set (by assumption) (by omega) _) (by omega) _) (by omega) _) (by omega) _)) (first | (go_at_call 17; refine (ints_any _ _ _ ys _ (R0.out _ ‹Below w5.heap.size w5 _›) (by omega)).mono ?_; rintro e W' ⟨vI, rfl, hoI, hbW⟩; obtain ⟨AI, cI, rfl, hRI⟩ := own_slice hoI; have hS := below_step ‹Below w5.heap.size w5 _› hbW (Below.size ‹Below w5.heap.size w5 _›); have HRI := hide hRI; clear hRI hoI) | (go_at_call 16; refine (Run_z s _ _ _ ys _ HLIN.out.ok EY.out (by omega) HRI.out).mono ?_; rintro e w6 ⟨aY, cY, rfl, rY, hbQ⟩; have hS := below_step ‹Below w5.heap.size w5 _› hbQ (Below.size ‹Below w5.heap.size w5 _›)))
          have hb6 : Below w5.heap.size w5 w6 := ‹Below w5.heap.size w5 w6›
          clear c0 R0 HRI hbW hbQ
          (try clear hS); (try clear hS)
          have c0 : ∀ i W, Below w6.heap.size w6 W → W.cell? ⟨w.heap.size, i, none⟩ = (#[.int .i64 s.b0, .int .i64 s.b1, .int .i64 s.b2, .int .i64 s.a1, .int .i64 s.a2, .int .i64 s.sh] : Array Value)[i]? := fun i W h => (carryK (carryK (w' := w6) k2 (by repeat (first | with_reducible assumption | exact Below.refl _ _ | refine below_next (by with_reducible assumption) ?_))) h).cell i
          have R0 := hide (fun W (h : Below w6.heap.size w6 W) => carry (carry (w' := w6) rS (by repeat (first | with_reducible assumption | exact Below.refl _ _ | refine below_next (by with_reducible assumption) ?_))) h)
          go_upto_region 14 with (fail)
          go_region_held3 (fun W => Below w6.heap.size w6 W) (first | exact (Below.refl _ _).drew | (with_reducible assumption) | exact below_new ‹Below w6.heap.size w6 _› (Nat.le_refl _) _ | (refine below_set (below_set (below_set (below_set (by assumption) (by omega) _) (by omega) _) (by omega) _) (by omega) _)) (first | (go_at_call 17; refine (ints_any _ _ _ (List.zipWith (· + ·) xs ys) _ (R0.out _ ‹Below w6.heap.size w6 _›) (by omega)).mono ?_; rintro e W' ⟨vI, rfl, hoI, hbW⟩; obtain ⟨AI, cI, rfl, hRI⟩ := own_slice hoI; have hS := below_step ‹Below w6.heap.size w6 _› hbW (Below.size ‹Below w6.heap.size w6 _›); have HRI := hide hRI; clear hRI hoI) | (go_at_call 16; refine (Run_z s _ _ _ (List.zipWith (· + ·) xs ys) _ HLIN.out.ok EZ.out (by omega) HRI.out).mono ?_; rintro e w7 ⟨aZ, cZ, rfl, rZ, hbQ⟩; have hS := below_step ‹Below w6.heap.size w6 _› hbQ (Below.size ‹Below w6.heap.size w6 _›)))
          have hb7 : Below w6.heap.size w6 w7 := ‹Below w6.heap.size w6 w7›
          clear c0 R0 HRI hbW hbQ
          (try clear hS); (try clear hS)
          have c0 : ∀ i W, Below w7.heap.size w7 W → W.cell? ⟨w.heap.size, i, none⟩ = (#[.int .i64 s.b0, .int .i64 s.b1, .int .i64 s.b2, .int .i64 s.a1, .int .i64 s.a2, .int .i64 s.sh] : Array Value)[i]? := fun i W h => (carryK (carryK (w' := w7) k2 (by repeat (first | with_reducible assumption | exact Below.refl _ _ | refine below_next (by with_reducible assumption) ?_))) h).cell i
          have R0 := hide (fun W (h : Below w7.heap.size w7 W) => carry (carry (w' := w7) rM (by repeat (first | with_reducible assumption | exact Below.refl _ _ | refine below_next (by with_reducible assumption) ?_))) h)
          go_upto_region 15 with (fail)
          go_region_held3 (fun W => Below w7.heap.size w7 W) (first | exact (Below.refl _ _).drew | (with_reducible assumption) | exact below_new ‹Below w7.heap.size w7 _› (Nat.le_refl _) _ | (refine below_set (below_set (below_set (below_set (by assumption) (by omega) _) (by omega) _) (by omega) _) (by omega) _)) (first | (go_at_call 17; refine (ints_any _ _ _ (xs.map (- ·)) _ (R0.out _ ‹Below w7.heap.size w7 _›) (by omega)).mono ?_; rintro e W' ⟨vI, rfl, hoI, hbW⟩; obtain ⟨AI, cI, rfl, hRI⟩ := own_slice hoI; have hS := below_step ‹Below w7.heap.size w7 _› hbW (Below.size ‹Below w7.heap.size w7 _›); have HRI := hide hRI; clear hRI hoI) | (go_at_call 16; refine (Run_z s _ _ _ (xs.map (- ·)) _ HLIN.out.ok EM.out (by omega) HRI.out).mono ?_; rintro e w8 ⟨aN, cN, rfl, rN, hbQ⟩; have hS := below_step ‹Below w7.heap.size w7 _› hbQ (Below.size ‹Below w7.heap.size w7 _›)))
          have hb8 : Below w7.heap.size w7 w8 := ‹Below w7.heap.size w7 w8›
          clear c0 R0 HRI hbW hbQ
          (try clear hS); (try clear hS)
          have c0 : ∀ i W, Below w8.heap.size w8 W → W.cell? ⟨w.heap.size, i, none⟩ = (#[.int .i64 s.b0, .int .i64 s.b1, .int .i64 s.b2, .int .i64 s.a1, .int .i64 s.a2, .int .i64 s.sh] : Array Value)[i]? := fun i W h => (carryK (carryK (w' := w8) k2 (by repeat (first | with_reducible assumption | exact Below.refl _ _ | refine below_next (by with_reducible assumption) ?_))) h).cell i
          have R0 := hide (fun W (h : Below w8.heap.size w8 W) => carry (carry (w' := w8) rL' (by repeat (first | with_reducible assumption | exact Below.refl _ _ | refine below_next (by with_reducible assumption) ?_))) h)
          go_upto_region 16 with (fail)
          go_region_held3 (fun W => Below w8.heap.size w8 W) (first | exact (Below.refl _ _).drew | (with_reducible assumption) | exact below_new ‹Below w8.heap.size w8 _› (Nat.le_refl _) _ | (refine below_set (below_set (below_set (below_set (by assumption) (by omega) _) (by omega) _) (by omega) _) (by omega) _)) (first | (go_at_call 17; refine (ints_any _ _ _ ([0, 0] ++ xs) _ (R0.out _ ‹Below w8.heap.size w8 _›) (by omega)).mono ?_; rintro e W' ⟨vI, rfl, hoI, hbW⟩; obtain ⟨AI, cI, rfl, hRI⟩ := own_slice hoI; have hS := below_step ‹Below w8.heap.size w8 _› hbW (Below.size ‹Below w8.heap.size w8 _›); have HRI := hide hRI; clear hRI hoI) | (go_at_call 16; refine (Run_s s _ _ _ ([0, 0] ++ xs) _ HLIN.out.ok ET.out (by omega) (by omega) HRI.out).mono ?_; rintro e w9 ⟨aT, cT, rfl, hcT, rT, hbQ⟩; have hS := below_step ‹Below w8.heap.size w8 _› hbQ (Below.size ‹Below w8.heap.size w8 _›)))
          have hb9 : Below w8.heap.size w8 w9 := ‹Below w8.heap.size w8 w9›
          clear c0 R0 HRI hbW hbQ
          (try clear hS); (try clear hS)
          rw [run_later] at rT
          rw [run_neg HLIN.out.sh] at rN
          have rX := carry (w' := w9) rX (by repeat (first | with_reducible assumption | exact Below.refl _ _ | refine below_next (by with_reducible assumption) ?_))
          have rY := carry (w' := w9) rY (by repeat (first | with_reducible assumption | exact Below.refl _ _ | refine below_next (by with_reducible assumption) ?_))
          have rZ := carry (w' := w9) rZ (by repeat (first | with_reducible assumption | exact Below.refl _ _ | refine below_next (by with_reducible assumption) ?_))
          have rN := carry (w' := w9) rN (by repeat (first | with_reducible assumption | exact Below.refl _ _ | refine below_next (by with_reducible assumption) ?_))
          have rA := carry (w' := w9) rx3 (by repeat (first | with_reducible assumption | exact Below.refl _ _ | refine below_next (by with_reducible assumption) ?_))
          have rB := carry (w' := w9) ry3 (by repeat (first | with_reducible assumption | exact Below.refl _ _ | refine below_next (by with_reducible assumption) ?_))
          have rS := carry (w' := w9) rS (by repeat (first | with_reducible assumption | exact Below.refl _ _ | refine below_next (by with_reducible assumption) ?_))
          have k9 := carryK (w' := w9) k2 (by repeat (first | with_reducible assumption | exact Below.refl _ _ | refine below_next (by with_reducible assumption) ?_))
          have hbw9 : Below w.heap.size w w9 := (by repeat (first | with_reducible assumption | exact Below.refl _ _ | refine below_next (by with_reducible assumption) ?_))
          clear rx3 ry3 rM rL' hb4 hb5 hb6 hb7 hb8 hb9 k2 r2 r2' hbw hbw2
          go_wp2_with fail
          go_loopw [21, 227] (fun v i wx => ∃ k : Nat, k ≤ 3 ∧ i = .int .i64 k ∧ v = .int .i64 (mx3 (s.sats St.zero xs) (s.sats St.zero ys) (s.sats St.zero (List.zipWith (· + ·) xs ys)) k) ∧ Below w9.heap.size w9 wx) (fun _ i _ => 3 - (intOf i).toNat)
          case atStart => exact ⟨0, by omega, rfl, rfl, Below.refl _ _⟩
          case round =>
            obtain ⟨k, hk, rfl, rfl, hbx⟩ := hrel
            rename World => x1
            have hbwx := below_next hbw9 hbx
            have i0 : ∀ w, (Instr.index 78 (.agg #[.slice A j c, .slice A' j c', .slice aS j cS]) (.int .i64 0)).run Tryd.prog w = .ok (.slice A j c) w := fun _ => by kernel_rfl
            have i1 : ∀ w, (Instr.index 78 (.agg #[.slice A j c, .slice A' j c', .slice aS j cS]) (.int .i64 1)).run Tryd.prog w = .ok (.slice A' j c') w := fun _ => by kernel_rfl
            have i2 : ∀ w, (Instr.index 78 (.agg #[.slice A j c, .slice A' j c', .slice aS j cS]) (.int .i64 2)).run Tryd.prog w = .ok (.slice aS j cS) w := fun _ => by kernel_rfl
            by_cases hlt : k < 3
            · have h012 : k = 0 ∨ k = 1 ∨ k = 2 := by omega
              rcases h012 with rfl | rfl | rfl
              ·
                skip
                have hbn := (sats_bd s St.zero xs).1
                have tn : decide (s.sats St.zero xs < 0) = false := by simpa using hbn
                clear hbn
                obtain ⟨X, rXm, hXm⟩ := max2 (mx3 (s.sats St.zero xs) (s.sats St.zero ys) (s.sats St.zero (List.zipWith (· + ·) xs ys)) 0) (s.sats St.zero xs)
                have HXM := hide hXm; clear hXm
                have c0 : ∀ i W, Below x1.heap.size x1 W → W.cell? ⟨w.heap.size, i, none⟩ = (#[.int .i64 s.b0, .int .i64 s.b1, .int .i64 s.b2, .int .i64 s.a1, .int .i64 s.a2, .int .i64 s.sh] : Array Value)[i]? := fun i W h => (carryK (carryK k9 hbx) h).cell i
                have R0 := hide (fun W (h : Below x1.heap.size x1 W) => carry (carry rA hbx) h)
                go_upto_region 23 with (fail)
                go_region_held3 (fun W => Below x1.heap.size x1 W) (first | exact (Below.refl _ _).drew | (with_reducible assumption) | exact below_new ‹Below x1.heap.size x1 _› (Nat.le_refl _) _ | (refine below_set (below_set (below_set (below_set (by assumption) (by omega) _) (by omega) _) (by omega) _) (by omega) _)) (first | (go_at_call 17; refine (ints_any _ _ _ xs _ (R0.out _ ‹Below x1.heap.size x1 _›) (by omega)).mono ?_; rintro e W' ⟨vI, rfl, hoI, hbW⟩; obtain ⟨AI, cI, rfl, hRI⟩ := own_slice hoI; have hS := below_step ‹Below x1.heap.size x1 _› hbW (Below.size ‹Below x1.heap.size x1 _›); have HRI := hide hRI; clear hRI hoI) | (go_at_call 19; refine (Sat_g s _ _ _ xs _ HLIN.out.ok EX.out (by omega) HRI.out).mono ?_; rintro e x2 ⟨rfl, hbQ⟩; have hS := below_step ‹Below x1.heap.size x1 _› hbQ (Below.size ‹Below x1.heap.size x1 _›)))
                have hbx2 : Below x1.heap.size x1 x2 := ‹Below x1.heap.size x1 x2›
                clear c0 R0 HRI hbW hbQ
                (try clear hS); (try clear hS)
                go_wp2_with fail
                go_roundw
                case rel => exact ⟨0 + 1, by omega, by go_num, by rw [HXM.out]; rfl, below_next hbx hbx2⟩
                case measure => simp [intOf]
              ·
                skip
                have hbn := (sats_bd s St.zero ys).1
                have tn : decide (s.sats St.zero ys < 0) = false := by simpa using hbn
                clear hbn
                obtain ⟨X, rXm, hXm⟩ := max2 (mx3 (s.sats St.zero xs) (s.sats St.zero ys) (s.sats St.zero (List.zipWith (· + ·) xs ys)) 1) (s.sats St.zero ys)
                have HXM := hide hXm; clear hXm
                have c0 : ∀ i W, Below x1.heap.size x1 W → W.cell? ⟨w.heap.size, i, none⟩ = (#[.int .i64 s.b0, .int .i64 s.b1, .int .i64 s.b2, .int .i64 s.a1, .int .i64 s.a2, .int .i64 s.sh] : Array Value)[i]? := fun i W h => (carryK (carryK k9 hbx) h).cell i
                have R0 := hide (fun W (h : Below x1.heap.size x1 W) => carry (carry rB hbx) h)
                go_upto_region 23 with (fail)
                go_region_held3 (fun W => Below x1.heap.size x1 W) (first | exact (Below.refl _ _).drew | (with_reducible assumption) | exact below_new ‹Below x1.heap.size x1 _› (Nat.le_refl _) _ | (refine below_set (below_set (below_set (below_set (by assumption) (by omega) _) (by omega) _) (by omega) _) (by omega) _)) (first | (go_at_call 17; refine (ints_any _ _ _ ys _ (R0.out _ ‹Below x1.heap.size x1 _›) (by omega)).mono ?_; rintro e W' ⟨vI, rfl, hoI, hbW⟩; obtain ⟨AI, cI, rfl, hRI⟩ := own_slice hoI; have hS := below_step ‹Below x1.heap.size x1 _› hbW (Below.size ‹Below x1.heap.size x1 _›); have HRI := hide hRI; clear hRI hoI) | (go_at_call 19; refine (Sat_g s _ _ _ ys _ HLIN.out.ok EY.out (by omega) HRI.out).mono ?_; rintro e x2 ⟨rfl, hbQ⟩; have hS := below_step ‹Below x1.heap.size x1 _› hbQ (Below.size ‹Below x1.heap.size x1 _›)))
                have hbx2 : Below x1.heap.size x1 x2 := ‹Below x1.heap.size x1 x2›
                clear c0 R0 HRI hbW hbQ
                (try clear hS); (try clear hS)
                go_wp2_with fail
                go_roundw
                case rel => exact ⟨1 + 1, by omega, by go_num, by rw [HXM.out]; rfl, below_next hbx hbx2⟩
                case measure => simp [intOf]
              ·
                skip
                have hbn := (sats_bd s St.zero (List.zipWith (· + ·) xs ys)).1
                have tn : decide (s.sats St.zero (List.zipWith (· + ·) xs ys) < 0) = false := by simpa using hbn
                clear hbn
                obtain ⟨X, rXm, hXm⟩ := max2 (mx3 (s.sats St.zero xs) (s.sats St.zero ys) (s.sats St.zero (List.zipWith (· + ·) xs ys)) 2) (s.sats St.zero (List.zipWith (· + ·) xs ys))
                have HXM := hide hXm; clear hXm
                have c0 : ∀ i W, Below x1.heap.size x1 W → W.cell? ⟨w.heap.size, i, none⟩ = (#[.int .i64 s.b0, .int .i64 s.b1, .int .i64 s.b2, .int .i64 s.a1, .int .i64 s.a2, .int .i64 s.sh] : Array Value)[i]? := fun i W h => (carryK (carryK k9 hbx) h).cell i
                have R0 := hide (fun W (h : Below x1.heap.size x1 W) => carry (carry rS hbx) h)
                go_upto_region 23 with (fail)
                go_region_held3 (fun W => Below x1.heap.size x1 W) (first | exact (Below.refl _ _).drew | (with_reducible assumption) | exact below_new ‹Below x1.heap.size x1 _› (Nat.le_refl _) _ | (refine below_set (below_set (below_set (below_set (by assumption) (by omega) _) (by omega) _) (by omega) _) (by omega) _)) (first | (go_at_call 17; refine (ints_any _ _ _ (List.zipWith (· + ·) xs ys) _ (R0.out _ ‹Below x1.heap.size x1 _›) (by omega)).mono ?_; rintro e W' ⟨vI, rfl, hoI, hbW⟩; obtain ⟨AI, cI, rfl, hRI⟩ := own_slice hoI; have hS := below_step ‹Below x1.heap.size x1 _› hbW (Below.size ‹Below x1.heap.size x1 _›); have HRI := hide hRI; clear hRI hoI) | (go_at_call 19; refine (Sat_g s _ _ _ (List.zipWith (· + ·) xs ys) _ HLIN.out.ok EZ.out (by omega) HRI.out).mono ?_; rintro e x2 ⟨rfl, hbQ⟩; have hS := below_step ‹Below x1.heap.size x1 _› hbQ (Below.size ‹Below x1.heap.size x1 _›)))
                have hbx2 : Below x1.heap.size x1 x2 := ‹Below x1.heap.size x1 x2›
                clear c0 R0 HRI hbW hbQ
                (try clear hS); (try clear hS)
                go_wp2_with fail
                go_roundw
                case rel => exact ⟨2 + 1, by omega, by go_num, by rw [HXM.out]; rfl, below_next hbx hbx2⟩
                case measure => simp [intOf]
            · obtain rfl : k = 3 := by omega
              obtain ⟨L, hL⟩ : ∃ L, L = mx3 (s.sats St.zero xs) (s.sats St.zero ys) (s.sats St.zero (List.zipWith (· + ·) xs ys)) 3 := ⟨_, rfl⟩
              rw [← hL]
              have HLM := hide hL
              clear hL i0 i1 i2
              have rTx := carry (w' := x1) rT (by repeat (first | with_reducible assumption | exact Below.refl _ _ | refine below_next (by with_reducible assumption) ?_))
              have rXx := carry (w' := x1) rX (by repeat (first | with_reducible assumption | exact Below.refl _ _ | refine below_next (by with_reducible assumption) ?_))
              have rNx := carry (w' := x1) rN (by repeat (first | with_reducible assumption | exact Below.refl _ _ | refine below_next (by with_reducible assumption) ?_))
              go_upto_region 28 with (fail)
              go_cut [270] from 247 to 270 (fun s270 wx => s270 = .bool false ∧ Below x1.heap.size x1 wx)
              case first =>
                by_cases hc2 : cT = 2
                · obtain rfl := hc2
                  obtain rfl : j = 0 := by omega
                  have hXnil : s.outs St.zero xs = [] := List.eq_nil_of_length_eq_zero (reads_len rXx)
                  have HXN := hide hXnil
                  clear hXnil
                  go_wp2_with fail
                  refine (c_sameG _ _ _ (s.outs St.zero xs) _ _ _ _ (by rw [HXN.out]; exact reads_zero _ _) rXx (by omega) (by omega)).mono ?_
                  rintro e x2 ⟨rfl, hx2⟩
                  have q0 : x2.cell? ⟨aT, 0, none⟩ = some (.int .i64 0) := by
                    obtain ⟨a0, e0, _, hc0⟩ := (carry rTx hx2).2 (by omega)
                    cases e0
                    exact hc0 0 _ rfl
                  have q1 : x2.cell? ⟨aT, 1, none⟩ = some (.int .i64 0) := by
                    obtain ⟨a0, e0, _, hc0⟩ := (carry rTx hx2).2 (by omega)
                    cases e0
                    exact hc0 1 _ rfl
                  go_wp2_with fail
                  refine (negative_any _ _ _ (s.outs St.zero xs) _ (carry rXx hx2) (by omega) outs_bd).mono ?_
                  rintro e x3 ⟨vn, rfl, on, hx3⟩
                  obtain ⟨an, cn, rfl, rn⟩ := own_slice on
                  go_wp2_with fail
                  refine (c_sameG _ _ _ ((s.outs St.zero xs).map (- ·)) _ _ _ _ (carry (carry rNx hx2) hx3) rn (by omega) (by omega)).mono ?_
                  rintro e x4 ⟨rfl, hx4⟩
                  go_wp2_with fail
                  go_meet
                  exact ⟨rfl, (by repeat (first | with_reducible assumption | exact Below.refl _ _ | refine below_next (by with_reducible assumption) ?_))⟩
                · have rD : Reads x1 x1.heap.size 1 (some ⟨aT, 2, none⟩) j (ints (s.outs St.zero xs)) := by
                    have := reads_drop rTx (k := 2) (by omega)
                    simpa [Addr.add] using this
                  go_wp2_with fail
                  refine (c_sameG _ _ _ (s.outs St.zero xs) _ _ _ _ rD rXx (by omega) (by omega)).mono ?_
                  rintro e x2 ⟨rfl, hx2⟩
                  have q0 : x2.cell? ⟨aT, 0, none⟩ = some (.int .i64 0) := by
                    obtain ⟨a0, e0, _, hc0⟩ := (carry rTx hx2).2 (by omega)
                    cases e0
                    exact hc0 0 _ rfl
                  have q1 : x2.cell? ⟨aT, 1, none⟩ = some (.int .i64 0) := by
                    obtain ⟨a0, e0, _, hc0⟩ := (carry rTx hx2).2 (by omega)
                    cases e0
                    exact hc0 1 _ rfl
                  go_wp2_with fail
                  refine (negative_any _ _ _ (s.outs St.zero xs) _ (carry rXx hx2) (by omega) outs_bd).mono ?_
                  rintro e x3 ⟨vn, rfl, on, hx3⟩
                  obtain ⟨an, cn, rfl, rn⟩ := own_slice on
                  go_wp2_with fail
                  refine (c_sameG _ _ _ ((s.outs St.zero xs).map (- ·)) _ _ _ _ (carry (carry rNx hx2) hx3) rn (by omega) (by omega)).mono ?_
                  rintro e x4 ⟨rfl, hx4⟩
                  go_wp2_with fail
                  go_meet
                  exact ⟨rfl, (by repeat (first | with_reducible assumption | exact Below.refl _ _ | refine below_next (by with_reducible assumption) ?_))⟩
              case rest =>
                obtain ⟨rfl, hv⟩ := hcut
                rename World => x5
                clear rTx rXx rNx
                by_cases hL0 : 0 < L
                · have tL : decide (0 < L) = true := decide_eq_true hL0
                  clear hL0
                  go_wp2_with fail
                  refine (awake_v _ (hV.carry (by repeat (first | with_reducible assumption | exact Below.refl _ _ | refine below_next (by with_reducible assumption) ?_)))).mono ?_
                  rintro e wz ⟨rfl, hbz⟩
                  go_wp2
                  go_ret
                  exact ⟨rfl, (by repeat (first | with_reducible assumption | exact Below.refl _ _ | refine below_next (by with_reducible assumption) ?_))⟩
                · have tL : decide (0 < L) = false := decide_eq_false hL0
                  have hs0 : s.sats St.zero xs = 0 ∧ s.sats St.zero ys = 0 ∧ s.sats St.zero (List.zipWith (· + ·) xs ys) = 0 := by
                    have q1 := (sats_bd s St.zero xs).1
                    have q2 := (sats_bd s St.zero ys).1
                    have q3 := (sats_bd s St.zero (List.zipWith (· + ·) xs ys)).1
                    have q4 : L = max (max (max 0 (s.sats St.zero xs)) (s.sats St.zero ys)) (s.sats St.zero (List.zipWith (· + ·) xs ys)) := HLM.out
                    clear tL
                    omega
                  have HADD := hide (run_add HLIN.out.sh (xs := xs) (zs := ys) (by rw [HL.out, HL'.out]) hs0.1 hs0.2.1 hs0.2.2)
                  clear hs0 hL0
                  rw [HADD.out] at rZ
                  have rZ5 := carry (w' := x5) rZ (by repeat (first | with_reducible assumption | exact Below.refl _ _ | refine below_next (by with_reducible assumption) ?_))
                  have rX5 := carry (w' := x5) rX (by repeat (first | with_reducible assumption | exact Below.refl _ _ | refine below_next (by with_reducible assumption) ?_))
                  have rY5 := carry (w' := x5) rY (by repeat (first | with_reducible assumption | exact Below.refl _ _ | refine below_next (by with_reducible assumption) ?_))
                  have rA5 := carry (w' := x5) rA (by repeat (first | with_reducible assumption | exact Below.refl _ _ | refine below_next (by with_reducible assumption) ?_))
                  have k5 := carryK (w' := x5) k9 (by repeat (first | with_reducible assumption | exact Below.refl _ _ | refine below_next (by with_reducible assumption) ?_))
                  have hbw5 : Below w.heap.size w x5 := (by repeat (first | with_reducible assumption | exact Below.refl _ _ | refine below_next (by with_reducible assumption) ?_))
                  clear rT rX rY rZ rN rA rB rS k9 hbwx hbw9 hbx hv
                  go_wp2_with fail
                  go_loopw [276] (fun i wx => ∃ q : Nat, q ≤ j ∧ i = .int .i64 q ∧ Below x5.heap.size x5 wx) (fun i _ => j - (intOf i).toNat)
                  case atStart => exact ⟨0, by omega, rfl, Below.refl _ _⟩
                  case round =>
                    obtain ⟨q, hq, rfl, hby⟩ := hrel
                    rename World => y1
                    by_cases hlt : q < j
                    · obtain ⟨pz, z, rfl, bz, hzq, hcz⟩ := reads_at (carry rZ5 hby) hlt
                      obtain ⟨px, x, rfl, bx, hxq, hcx⟩ := reads_at (carry rX5 hby) hlt
                      obtain ⟨py, y, rfl, by', hyq, hcy⟩ := reads_at (carry rY5 hby) hlt
                      obtain rfl : z = x + y := zip_at hzq hxq hyq
                      have d0 : ∀ W, (over y1.heap.size y1 W).cell? (pz.add q) = some (.int .i64 (x + y)) := fun W => ((over_below y1.heap.size y1 W).cell (p := pz.add q) (by rw [block_of_add]; exact bz)).trans hcz
                      have d1 : ∀ W, (over y1.heap.size y1 W).cell? (px.add q) = some (.int .i64 x) := fun W => ((over_below y1.heap.size y1 W).cell (p := px.add q) (by rw [block_of_add]; exact bx)).trans hcx
                      have d2 : ∀ W, (over y1.heap.size y1 W).cell? (py.add q) = some (.int .i64 y) := fun W => ((over_below y1.heap.size y1 W).cell (p := py.add q) (by rw [block_of_add]; exact by')).trans hcy
                      have hx1 := outs_bd x (List.mem_of_getElem? hxq)
                      have hy1 := outs_bd y (List.mem_of_getElem? hyq)
                      have hw1 : IntKind.i64.wrap (x + y) = x + y := IntWalk.i64_in _ (by omega)
                      clear hzq hxq hyq hcz hcx hcy
                      go_upto_region 35 with (fail)
                      refine wp_region_over y1.heap.size (by kernel_rfl) (by kernel_rfl) ?_; (repeat (first | go_big_quiet_step (fail) | quiet_step (fail))); refine wpQuiet_nil ?_; rintro W ⟨x, rfl⟩
                      go_wp2_with fail
                      go_roundw
                      case rel => exact ⟨q + 1, by omega, by go_num, below_next hby (over_below _ _ _)⟩
                      case measure => simp [intOf]; omega
                    · obtain rfl : q = j := by omega
                      have cS := (carryK (w' := y1) k5 (by repeat (first | with_reducible assumption | exact Below.refl _ _ | refine below_next (by with_reducible assumption) ?_))).cell
                      by_cases h1 : s.a1 = 0
                      · have t1 : (s.a1 != 0) = false := by simpa using h1
                        have H1 := hide h1; clear h1
                        by_cases h2 : s.a2 = 0
                        · have t2 : (s.a2 != 0) = false := by simpa using h2
                          have H2 := hide h2; clear h2
                          go_wp2_with fail
                          refine (Impulse_3 s _ HLIN.out.ok HLIN.out.sh H1.out H2.out).mono ?_
                          rintro e y2 ⟨aH, cH, rfl, rH, hy2⟩
                          have rXy := carry (w' := y2) rX5 (by repeat (first | with_reducible assumption | exact Below.refl _ _ | refine below_next (by with_reducible assumption) ?_))
                          have rAy := carry (w' := y2) rA5 (by repeat (first | with_reducible assumption | exact Below.refl _ _ | refine below_next (by with_reducible assumption) ?_))
                          have hbwy : Below w.heap.size w y2 := (by repeat (first | with_reducible assumption | exact Below.refl _ _ | refine below_next (by with_reducible assumption) ?_))
                          have HB4 : Hid (∀ b ∈ [s.b0, s.b1, s.b2], -4 ≤ b ∧ b ≤ 4) := fun b hb => by
                            have g1 := HLIN.out.hi
                            have g2 := HLIN.out.lo
                            simp only [List.mem_cons, List.not_mem_nil, or_false] at hb
                            omega
                          have HCV : Hid (∀ p, p < q → (s.outs St.zero xs)[p]? = some (conv [s.b0, s.b1, s.b2] xs p (min 3 (p + 1)))) := fun p hp => run_conv HLIN.out.sh H1.out H2.out HB4.out BX.out (by rw [HL.out]; exact hp)
                          clear rZ5 rX5 rY5 rA5 k5 hbw5 hby hy2 cS t1 t2
                          go_wp2_with fail
                          go_loopw [317] (fun i wx => ∃ r : Nat, r ≤ q ∧ i = .int .i64 r ∧ Below y2.heap.size y2 wx) (fun i _ => q - (intOf i).toNat)
                          case atStart => exact ⟨0, by omega, rfl, Below.refl _ _⟩
                          case round =>
                            obtain ⟨r, hr, rfl, hbz⟩ := hrel
                            rename World => z1
                            by_cases hlt2 : r < q
                            · go_wp2_with fail
                              go_loopw [30, 31] (fun wv kv wx => ∃ p : Nat, p ≤ 3 ∧ p ≤ r + 1 ∧ kv = .int .i64 p ∧ wv = .int .i64 (conv [s.b0, s.b1, s.b2] xs r p) ∧ Below z1.heap.size z1 wx) (fun _ kv _ => 3 - (intOf kv).toNat)
                              case atStart => exact ⟨0, by omega, by omega, rfl, rfl, Below.refl _ _⟩
                              case round =>
                                obtain ⟨p, hp3, hpr, rfl, rfl, hbv⟩ := hrel
                                rename World => z2
                                by_cases hp : p < 3
                                · by_cases hpq : p ≤ r
                                  · obtain ⟨ph, hb, rfl, bh, hhp, hch⟩ := reads_at (carry (carry rH hbz) hbv) hp
                                    obtain ⟨pa, xa, rfl, ba, hap, hca⟩ := reads_at (carry (carry rAy hbz) hbv) (k := r - p) (by omega)
                                    have d0 : ∀ W, (over z2.heap.size z2 W).cell? (ph.add p) = some (.int .i64 hb) := fun W => ((over_below z2.heap.size z2 W).cell (p := ph.add p) (by rw [block_of_add]; exact bh)).trans hch
                                    have d1 : ∀ W, (over z2.heap.size z2 W).cell? (pa.add (r - p)) = some (.int .i64 xa) := fun W => ((over_below z2.heap.size z2 W).cell (p := pa.add (r - p)) (by rw [block_of_add]; exact ba)).trans hca
                                    have hm := mul_400 (HB4.out hb (List.mem_of_getElem? hhp)) (BX.out xa (List.mem_of_getElem? hap))
                                    have hc := conv_bd HB4.out BX.out r p
                                    have hcs : conv [s.b0, s.b1, s.b2] xs r (p + 1) = conv [s.b0, s.b1, s.b2] xs r p + hb * xa := by simp only [conv, hhp, hap, Option.getD_some]
                                    have HCS := hide hcs
                                    have hw1 : IntKind.i64.wrap ((r : Int) - (p : Int)) = ((r - p : Nat) : Int) := by rw [IntWalk.i64_in _ (by omega)]; omega
                                    have hw2 : IntKind.i64.wrap (hb * xa) = hb * xa := IntWalk.i64_in _ (by omega)
                                    have hw3 : IntKind.i64.wrap (conv [s.b0, s.b1, s.b2] xs r p + hb * xa) = conv [s.b0, s.b1, s.b2] xs r p + hb * xa := IntWalk.i64_in _ (by omega)
                                    clear hcs hhp hap hch hca hm hc
                                    go_upto_region 50 with (fail)
                                    refine wp_region_over z2.heap.size (by kernel_rfl) (by kernel_rfl) ?_; (repeat (first | go_big_quiet_step (fail) | quiet_step (fail))); refine wpQuiet_nil ?_; rintro W ⟨x, rfl⟩
                                    go_wp2_with fail
                                    go_roundw
                                    case rel => exact ⟨p + 1, by omega, by omega, by go_num, by rw [HCS.out], below_next hbv (over_below _ _ _)⟩
                                    case measure => simp [intOf]; omega
                                  · obtain rfl : p = r + 1 := by omega
                                    obtain ⟨px, x, rfl, bx, hxr, hcx⟩ := reads_at (carry (carry rXy hbz) hbv) hlt2
                                    have hxe := HCV.out r hlt2
                                    rw [hxr, show min 3 (r + 1) = r + 1 by omega] at hxe
                                    injection hxe with hxe
                                    subst hxe
                                    clear hxr
                                    go_wp2_with fail
                                    go_roundw
                                    case rel => exact ⟨r + 1, by omega, by go_num, below_next hbz hbv⟩
                                    case measure => simp [intOf]; omega
                                · obtain rfl : p = 3 := by omega
                                  obtain ⟨px, x, rfl, bx, hxr, hcx⟩ := reads_at (carry (carry rXy hbz) hbv) hlt2
                                  have hxe := HCV.out r hlt2
                                  rw [hxr, show min 3 (r + 1) = 3 by omega] at hxe
                                  injection hxe with hxe
                                  subst hxe
                                  clear hxr
                                  go_wp2_with fail
                                  go_roundw
                                  case rel => exact ⟨r + 1, by omega, by go_num, below_next hbz hbv⟩
                                  case measure => simp [intOf]; omega
                            · obtain rfl : r = q := by omega
                              go_wp2_with fail
                              refine (awake_v _ (hV.carry (below_next hbwy hbz))).mono ?_
                              rintro e wz ⟨rfl, hbq⟩
                              go_wp2
                              go_ret
                              exact ⟨rfl, below_next (below_next hbwy hbz) hbq⟩
                        · have t2 : (s.a2 != 0) = true := by simpa using h2
                          clear h2
                          go_wp2_with fail
                          refine (awake_v _ (hV.carry (by repeat (first | with_reducible assumption | exact Below.refl _ _ | refine below_next (by with_reducible assumption) ?_)))).mono ?_
                          rintro e wz ⟨rfl, hbz⟩
                          go_wp2
                          go_ret
                          exact ⟨rfl, (by repeat (first | with_reducible assumption | exact Below.refl _ _ | refine below_next (by with_reducible assumption) ?_))⟩
                      · have t1 : (s.a1 != 0) = true := by simpa using h1
                        clear h1
                        go_wp2_with fail
                        refine (awake_v _ (hV.carry (by repeat (first | with_reducible assumption | exact Below.refl _ _ | refine below_next (by with_reducible assumption) ?_)))).mono ?_
                        rintro e wz ⟨rfl, hbz⟩
                        go_wp2
                        go_ret
                        exact ⟨rfl, (by repeat (first | with_reducible assumption | exact Below.refl _ _ | refine below_next (by with_reducible assumption) ?_))⟩
    · go_wp2_with fail
      refine (awake_v _ (hV.carry (by repeat (first | with_reducible assumption | exact Below.refl _ _ | refine below_next (by with_reducible assumption) ?_)))).mono ?_
      rintro e wz ⟨rfl, hbz⟩
      go_wp2
      go_ret
      exact ⟨rfl, (by repeat (first | with_reducible assumption | exact Below.refl _ _ | refine below_next (by with_reducible assumption) ?_))⟩
end Go.Proofs.YtlaaajkehjoffaaDoor
