/- Plain mathematics: the polynomials of a ladder: their degrees, their signs, and that A D less B C is the square of the divisor, coefficient by coefficient. No program in sight. -/
import Derived.Test.YtnndaipnfniciaaDoorPlainA
import Derived.Test.YtnndaipnfniciaaDoorNPols
namespace Go.Proofs.YtnndaipnfniciaaDoor
open Go.RowKit
set_option maxRecDepth 100000
theorem pc_far1 {a b : List Int} {k : Nat} (h : a.length + b.length ≤ k + 1) : pc a b k = 0 := by
  have key : ∀ n, n ≤ a.length → cv a b k n = 0 := by
    intro n
    induction n with
    | zero => intro _; rfl
    | succ n ih =>
      intro hn
      rw [cv, ih (by omega)]
      split
      · have : co b (k - n) = 0 := co_far (by omega)
        rw [this]; simp
      · rfl
  rw [← cv_all]; exact key _ (Nat.le_refl _)
theorem trim_short {l : List Int} (h : Trim l) {n : Nat} (hz : ∀ k, n ≤ k → co l k = 0) : l.length ≤ n := by
  rcases last_trim h with rfl | hl
  · exact Nat.zero_le _
  · rcases Nat.lt_or_ge n l.length with q | q
    · exact absurd (hz (l.length - 1) (by omega)) hl
    · exact q
theorem padd_short {p a b : List Int} {n : Nat} (hp : p.length ≤ n) (hab : a.length + b.length ≤ n + 1) : (padd p a b).length ≤ n := by
  refine trim_short (padd_trim p a b) fun k hk => ?_
  rw [co_padd, co_far (by omega), pc_far1 (by omega)]; rfl
/-- Of at most n coefficients each. -/
structure PM.Sh (m : PM) (n : Nat) : Prop where
  a : m.a.length ≤ n
  b : m.b.length ≤ n
  c : m.c.length ≤ n
  d : m.d.length ≤ n
theorem pv_len2 (x : El) : x.pv.length ≤ 2 := by unfold El.pv; exact trim_len _
theorem pm_sh (x : El) : x.pm.Sh 2 := by
  have := pv_len2 x
  unfold El.pm
  split
  · exact ⟨by simp, by simpa using this, by simp, by simp⟩
  · split
    · exact ⟨by simp, by simp, by simpa using this, by simp⟩
    · split
      · exact ⟨by simpa using this, by simp, by simp, by simpa using this⟩
      · exact ⟨by simpa using this, by simp, by simp, by simpa using this⟩
theorem PM.Sh.mul {m e : PM} {n : Nat} (h : m.Sh n) (g : e.Sh 2) : (m.mul e).Sh (n + 1) := by
  have a := h.a; have b := h.b; have c := h.c; have d := h.d
  have a' := g.a; have b' := g.b; have c' := g.c; have d' := g.d
  exact ⟨padd_short (padd_short (by simp) (by omega)) (by omega), padd_short (padd_short (by simp) (by omega)) (by omega), padd_short (padd_short (by simp) (by omega)) (by omega), padd_short (padd_short (by simp) (by omega)) (by omega)⟩
theorem pch_sh : ∀ (l : List El) (m : PM) (n : Nat), m.Sh n → (pch m l).Sh (n + l.length) := by
  intro l
  induction l with
  | nil => intro m n h; exact h
  | cons x l ih =>
    intro m n h
    have := ih _ (n + 1) (h.mul (pm_sh x))
    rw [List.length_cons, show n + (l.length + 1) = n + 1 + l.length by omega]
    exact this
theorem pdv_sh : ∀ (l : List El) (d : List Int) (n : Nat), d.length ≤ n → (pdv d l).length ≤ n + l.length := by
  intro l
  induction l with
  | nil => intro d n h; exact h
  | cons x l ih =>
    intro d n h
    have h2 : (if x.divides then padd [] d x.pv else d).length ≤ n + 1 := by
      split
      · have := pv_len2 x
        exact padd_short (by simp) (by omega)
      · omega
    have := ih _ (n + 1) h2
    rw [List.length_cons, show n + (l.length + 1) = n + 1 + l.length by omega]
    exact this
/-- No coefficient below 0. -/
def Nn (l : List Int) : Prop := ∀ k, 0 ≤ co l k
theorem Nn.pc {a b : List Int} (ha : Nn a) (hb : Nn b) (k : Nat) : 0 ≤ Go.Proofs.YtnndaipnfniciaaDoor.pc a b k := by
  have key : ∀ n, 0 ≤ cv a b k n := by
    intro n
    induction n with
    | zero => exact Int.le_refl _
    | succ n ih =>
      rw [cv]
      split
      · have := Int.mul_nonneg (ha n) (hb (k - n)); omega
      · omega
  exact key _
theorem Nn.padd {p a b : List Int} (hp : Nn p) (ha : Nn a) (hb : Nn b) : Nn (Go.Proofs.YtnndaipnfniciaaDoor.padd p a b) := fun k => by
  rw [co_padd]; have := hp k; have := Nn.pc ha hb k; omega
theorem Nn.nil : Nn [] := fun k => by rw [co_nil]; exact Int.le_refl _
theorem Nn.one : Nn [1] := fun k => by cases k <;> simp [co]
theorem Nn.pv {x : El} (h : x.Ok) : Nn x.pv := fun k => by
  unfold El.pv
  rw [co_trim]
  have ha := h.al; have hb := h.bl
  match k with
  | 0 => simpa [co] using ha
  | 1 => simpa [co] using hb
  | k + 2 => simp [co]
structure PM.Nn (m : PM) : Prop where
  a : Go.Proofs.YtnndaipnfniciaaDoor.Nn m.a
  b : Go.Proofs.YtnndaipnfniciaaDoor.Nn m.b
  c : Go.Proofs.YtnndaipnfniciaaDoor.Nn m.c
  d : Go.Proofs.YtnndaipnfniciaaDoor.Nn m.d
theorem pm_nn {x : El} (h : x.Ok) : x.pm.Nn := by
  have hv := Nn.pv h
  unfold El.pm
  split
  · exact ⟨Nn.one, hv, Nn.nil, Nn.one⟩
  · split
    · exact ⟨Nn.one, Nn.nil, hv, Nn.one⟩
    · split
      · exact ⟨hv, Nn.one, Nn.nil, hv⟩
      · exact ⟨hv, Nn.nil, Nn.one, hv⟩
theorem PM.Nn.mul {m e : PM} (h : m.Nn) (g : e.Nn) : (m.mul e).Nn :=
  ⟨(Nn.nil.padd h.a g.a).padd h.b g.c, (Nn.nil.padd h.a g.b).padd h.b g.d, (Nn.nil.padd h.c g.a).padd h.d g.c, (Nn.nil.padd h.c g.b).padd h.d g.d⟩
theorem pch_nn : ∀ (l : List El) (m : PM), (∀ x ∈ l, x.Ok) → m.Nn → (pch m l).Nn := by
  intro l
  induction l with
  | nil => intro m _ h; exact h
  | cons x l ih => intro m hl h; exact ih _ (fun y hy => hl y (by simp [hy])) (h.mul (pm_nn (hl x (by simp))))
theorem pdv_nn : ∀ (l : List El) (d : List Int), (∀ x ∈ l, x.Ok) → Nn d → Nn (pdv d l) := by
  intro l
  induction l with
  | nil => intro d _ h; exact h
  | cons x l ih =>
    intro d hl h
    refine ih _ (fun y hy => hl y (by simp [hy])) ?_
    show Nn (if x.divides then padd [] d x.pv else d)
    split
    · exact Nn.nil.padd h (Nn.pv (hl x (by simp)))
    · exact h
theorem pdv_trim : ∀ (l : List El) (d : List Int), Trim d → Trim (pdv d l) := by
  intro l
  induction l with
  | nil => intro d h; exact h
  | cons x l ih =>
    intro d h
    refine ih _ ?_
    show Trim (if x.divides then padd [] d x.pv else d)
    split
    · exact padd_trim _ _ _
    · exact h
/-- A polynomial of a valid ladder, as the law asks. -/
structure Fine (p : List Int) : Prop where
  len : p.length ≤ 6
  last : p = [] ∨ co p (p.length - 1) ≠ 0
  all : ∀ x ∈ p, 0 ≤ x ∧ x ≤ 10000000
theorem n1_mem {l : List Int} {x : Int} (h : x ∈ l) : x.natAbs ≤ n1 l := by
  induction l with
  | nil => simp at h
  | cons a l ih =>
    rw [n1_cons]
    rcases List.mem_cons.1 h with rfl | h
    · omega
    · have := ih h; omega
theorem fine_of {p : List Int} (h1 : p.length ≤ 6) (h2 : Trim p) (h3 : Nn p) (h4 : n1 p ≤ 1419857) : Fine p := by
  refine ⟨h1, last_trim h2, fun x hx => ?_⟩
  have hb := n1_mem hx
  obtain ⟨k, hk⟩ := List.mem_iff_getElem?.1 hx
  have := h3 k
  rw [co_get hk] at this
  omega
theorem id_sh : PM.id.Sh 1 := ⟨by simp [PM.id], by simp [PM.id], by simp [PM.id], by simp [PM.id]⟩
theorem id_nn : PM.id.Nn := ⟨Nn.one, Nn.nil, Nn.nil, Nn.one⟩
theorem lad_fine {l : List El} (h : LadOk l) : Fine (pch .id l).a ∧ Fine (pch .id l).b ∧ Fine (pch .id l).c ∧ Fine (pch .id l).d ∧ Fine (pdv [1] l) := by
  have hb := lad_pm h l.length
  have hd := lad_pd h l.length
  rw [List.take_length] at hb hd
  have hs := pch_sh l _ 1 id_sh
  have hn := pch_nn l _ h.all id_nn
  have ht : (pch .id l).T := by
    have : ∀ (l : List El) (m : PM), m.T → (pch m l).T := by
      intro l
      induction l with
      | nil => intro m h; exact h
      | cons x l ih => intro m _; exact ih _ (PM.mul_t _ _)
    exact this l _ PM.id_t
  have hds := pdv_sh l [1] 1 (by simp)
  have hl := h.len
  have r1 := hb.r1
  have r2 := hb.r2
  exact ⟨fine_of (by have := hs.a; omega) ht.a hn.a (by omega), fine_of (by have := hs.b; omega) ht.b hn.b (by omega), fine_of (by have := hs.c; omega) ht.c hn.c (by omega), fine_of (by have := hs.d; omega) ht.d hn.d (by omega),
    fine_of (by omega) (pdv_trim l [1] rfl) (pdv_nn l [1] h.all Nn.one) hd.2⟩
/-- What vanishes at all i w is 0. -/
theorem evf_all : ∀ (n : Nat) (F : Nat → Int), (∀ w : Int, 1 ≤ w → evf (iw w) F n = .zero) → ∀ k, k < n → F k = 0 := by
  intro n
  induction n with
  | zero => intro F _ k hk; omega
  | succ n ih =>
    intro F h
    have key : ∀ w : Int, 1 ≤ w → ∃ er ei : Int, evf (iw w) (fun k => F (k + 1)) n = ⟨er, ei⟩ ∧ F 0 = w * ei ∧ w * er = 0 := by
      intro w hw
      have hz := h w hw
      rw [evf] at hz
      obtain ⟨⟨er, ei⟩, he⟩ : ∃ z, evf (iw w) (fun k => F (k + 1)) n = z := ⟨_, rfl⟩
      rw [he] at hz
      have h1 := congrArg G.re hz
      have h2 := congrArg G.im hz
      simp only [G.add, G.mul, G.of, iw, G.zero] at h1 h2
      refine ⟨er, ei, he, ?_, ?_⟩
      · have : (0 : Int) * er - w * ei = -(w * ei) := by omega
        omega
      · have : (0 : Int) * ei + w * er = w * er := by omega
        omega
    have h0 : F 0 = 0 := by
      obtain ⟨er, ei, _, h1, _⟩ := key (F 0).natAbs.succ (by omega)
      by_cases hi : ei = 0
      · rw [hi] at h1; omega
      · have h2 := congrArg Int.natAbs h1
        rw [Int.natAbs_mul] at h2
        have h3 : ((F 0).natAbs.succ : Int).natAbs = (F 0).natAbs.succ := rfl
        rw [h3] at h2
        have h4 : (F 0).natAbs.succ * 1 ≤ (F 0).natAbs.succ * ei.natAbs := Nat.mul_le_mul_left _ (by omega)
        omega
    intro k hk
    cases k with
    | zero => exact h0
    | succ k =>
      refine ih (fun k => F (k + 1)) (fun w hw => ?_) k (by omega)
      obtain ⟨er, ei, he, h1, h2⟩ := key w hw
      rw [h0] at h1
      have e1 : ei = 0 := by
        rcases Int.mul_eq_zero.1 h1.symm with q | q
        · omega
        · exact q
      have e2 : er = 0 := by
        rcases Int.mul_eq_zero.1 h2 with q | q
        · omega
        · exact q
      rw [he, e1, e2]; rfl
theorem sum_zero {l : List El} (h : LadOk l) (k : Nat) (hk : k < 12) : pc (pch .id l).a (pch .id l).d k - pc (pch .id l).b (pch .id l).c k - pc (pdv [1] l) (pdv [1] l) k = 0 := by
  obtain ⟨fa, fb, fc, fd, fg⟩ := lad_fine h
  have ha := fa.len; have hb := fb.len; have hc := fc.len; have hd := fd.len; have hg := fg.len
  refine evf_all 12 (fun k => pc (pch .id l).a (pch .id l).d k - pc (pch .id l).b (pch .id l).c k - pc (pdv [1] l) (pdv [1] l) k) (fun w _ => ?_) k hk
  have e : evf (iw w) (fun k => pc (pch .id l).a (pch .id l).d k - pc (pch .id l).b (pch .id l).c k - pc (pdv [1] l) (pdv [1] l) k) 12 =
      (evf (iw w) (pc (pch .id l).a (pch .id l).d) 12).add (((G.of (-1)).mul (evf (iw w) (pc (pch .id l).b (pch .id l).c) 12)).add ((G.of (-1)).mul (evf (iw w) (pc (pdv [1] l) (pdv [1] l)) 12))) := by
    rw [← evf_scale, ← evf_scale, ← evf_add, ← evf_add]
    exact evf_congr _ _ _ _ fun k => by omega
  rw [e, evf_pc _ _ _ _ (by omega), evf_pc _ _ _ _ (by omega), evf_pc _ _ _ _ (by omega)]
  have h1 := ev_pch w l .id
  have h2 := ev_pdv w l [1]
  rw [ev_id] at h1
  rw [ev_one] at h2
  have h3 := det_chn (w := w) (l := l) fun x hx => (h.all x hx).kn
  rw [← h1, ← h2] at h3
  simp only [PM.ev] at h3
  unfold Mat.det at h3
  simp only at h3
  have r1 := congrArg G.re h3
  have r2 := congrArg G.im h3
  apply G.ext'
  · simp only [G.add, G.mul, G.of, G.sub, G.zero] at r1 ⊢; omega
  · simp only [G.add, G.mul, G.of, G.sub, G.zero] at r2 ⊢; omega
/-! ### The sum that the law makes -/
/-- out with the first n rows of a times b, less. -/
def subRows (out a b : List Int) : Nat → List Int := addRows out (a.map (-·)) b
theorem co_neg (a : List Int) (k : Nat) : co (a.map (-·)) k = -co a k := by
  unfold co; rw [List.getElem?_map]; cases a[k]? <;> simp
theorem cv_neg (a b : List Int) (k : Nat) : ∀ n, cv (a.map (-·)) b k n = -cv a b k n := by
  intro n
  induction n with
  | zero => rfl
  | succ n ih =>
    rw [cv, cv, ih, co_neg]
    split
    · rw [Int.neg_mul]; omega
    · omega
theorem sums_zero {l : List El} (h : LadOk l) : subRows (subRows (addRows (List.replicate 12 0) (pch .id l).a (pch .id l).d (pch .id l).a.length) (pch .id l).b (pch .id l).c (pch .id l).b.length) (pdv [1] l) (pdv [1] l) (pdv [1] l).length = List.replicate 12 0 := by
  apply List.ext_getElem?
  intro k
  have hl : (subRows (subRows (addRows (List.replicate 12 0) (pch .id l).a (pch .id l).d (pch .id l).a.length) (pch .id l).b (pch .id l).c (pch .id l).b.length) (pdv [1] l) (pdv [1] l) (pdv [1] l).length).length = 12 := by
    unfold subRows; rw [addRows_len, addRows_len, addRows_len, List.length_replicate]
  rcases Nat.lt_or_ge k 12 with q | q
  · have e1 : co (subRows (subRows (addRows (List.replicate 12 0) (pch .id l).a (pch .id l).d (pch .id l).a.length) (pch .id l).b (pch .id l).c (pch .id l).b.length) (pdv [1] l) (pdv [1] l) (pdv [1] l).length) k = 0 := by
      unfold subRows
      rw [co_addRows (by rw [addRows_len, addRows_len, List.length_replicate]; exact q), co_addRows (by rw [addRows_len, List.length_replicate]; exact q), co_addRows (by rw [List.length_replicate]; exact q), cv_neg, cv_neg, cv_all, cv_all, cv_all]
      have := sum_zero h k q
      have hz : co (List.replicate 12 (0 : Int)) k = 0 := by unfold co; rw [List.getElem?_replicate]; split <;> rfl
      omega
    rw [List.getElem?_replicate, if_pos q]
    unfold co at e1
    rw [List.getElem?_eq_getElem (by rw [hl]; exact q)] at e1 ⊢
    rw [Option.getD_some] at e1
    rw [e1]
  · rw [List.getElem?_eq_none (by rw [hl]; exact q), List.getElem?_eq_none (by rw [List.length_replicate]; exact q)]
theorem lt_via {x b y : Rt} (hx : x.Pos) (hb : b.Pos) (hy : y.Pos) (h1 : b.lt x = false) (h2 : b.lt y = true) : x.lt y = true ∧ y.lt x = false := by
  unfold Rt.lt at h1 h2 ⊢
  rw [decide_eq_false_iff_not] at h1 ⊢
  rw [decide_eq_true_eq] at h2 ⊢
  have dx := hx.d; have db := hb.d; have dy := hy.d
  have e1 : x.n * b.d * y.d ≤ b.n * x.d * y.d := Int.mul_le_mul_of_nonneg_right (by omega) (by omega)
  have e2 : b.n * y.d * x.d < y.n * b.d * x.d := Int.mul_lt_mul_of_pos_right h2 (by omega)
  have e3 : x.n * y.d * b.d < y.n * x.d * b.d := by
    have a1 : x.n * y.d * b.d = x.n * b.d * y.d := by grind
    have a2 : b.n * x.d * y.d = b.n * y.d * x.d := by grind
    have a3 : y.n * b.d * x.d = y.n * x.d * b.d := by grind
    omega
  have e4 : x.n * y.d < y.n * x.d := Int.lt_of_mul_lt_mul_right e3 (by omega)
  exact ⟨e4, by omega⟩
theorem lt_self (x : Rt) : x.lt x = false := by unfold Rt.lt; simp
/-- The greatest one, and the first of them. -/
theorem pkN_top {t : List Rt} (hp : ∀ x ∈ t, x.Pos) : ∀ k, k < t.length → ∀ b, t[pkN t (k + 1)]? = some b → ∀ i x, i ≤ k → t[i]? = some x → b.lt x = false ∧ (i < pkN t (k + 1) → x.lt b = true) := by
  intro k
  induction k with
  | zero =>
    intro hk b hb i x hi hx
    obtain rfl : i = 0 := by omega
    have h1 : t[pkN t 0]? = some x := hx
    have := pkN_succ h1 hx
    rw [lt_self, if_neg (by decide)] at this
    have h0 : pkN t (0 + 1) = 0 := this
    rw [h0, hx] at hb
    cases hb
    exact ⟨lt_self _, fun h => by omega⟩
  | succ k ih =>
    intro hk b hb i x hi hx
    obtain ⟨c, hc⟩ : ∃ c, t[pkN t (k + 1)]? = some c := by
      have := pkN_lt t (show 0 < k + 1 by omega)
      exact ⟨_, List.getElem?_eq_getElem (by omega)⟩
    obtain ⟨y, hy⟩ : ∃ y, t[k + 1]? = some y := ⟨_, List.getElem?_eq_getElem hk⟩
    have hs := pkN_succ hc hy
    have hcp := hp c (List.mem_of_getElem? hc)
    have hyp := hp y (List.mem_of_getElem? hy)
    have hxp := hp x (List.mem_of_getElem? hx)
    by_cases h : c.lt y = true
    · rw [if_pos h] at hs
      rw [hs] at hb ⊢
      rw [hy] at hb
      cases hb
      rcases Nat.lt_or_ge i (k + 1) with q | q
      · have := ih (by omega) c hc i x (by omega) hx
        obtain ⟨r1, r2⟩ := lt_via hxp hcp hyp this.1 h
        exact ⟨r2, fun _ => r1⟩
      · obtain rfl : i = k + 1 := by omega
        rw [hy] at hx
        cases hx
        exact ⟨lt_self _, fun h => by omega⟩
    · rw [if_neg h] at hs
      rw [hs] at hb ⊢
      rw [hc] at hb
      cases hb
      rcases Nat.lt_or_ge i (k + 1) with q | q
      · exact ih (by omega) _ hc i x (by omega) hx
      · obtain rfl : i = k + 1 := by omega
        rw [hy] at hx
        cases hx
        exact ⟨by simpa using h, fun q => by have := pkN_le t (k + 1); omega⟩
end Go.Proofs.YtnndaipnfniciaaDoor
