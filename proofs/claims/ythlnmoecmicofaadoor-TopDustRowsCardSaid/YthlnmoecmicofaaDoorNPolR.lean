/- Plain mathematics: the polynomials of joined and reversed ladders, by their values. No program in sight. -/
import Derived.Test.YthlnmoecmicofaaDoorNVal
import Derived.Test.YthlnmoecmicofaaDoorNPass
import Derived.Test.YthlnmoecmicofaaDoorNPols
import Derived.Test.YthlnmoecmicofaaDoorNConv2
namespace Go.Proofs.YthlnmoecmicofaaDoor
open Go.RowKit
set_option maxRecDepth 100000
theorem ev_head (z : G) (l : List Int) : ev z l = (G.of (co l 0)).add (z.mul (ev z l.tail)) := by
  cases l with
  | nil => rw [List.tail_nil, ev_nil, G.mul_zero]; rfl
  | cons a l => rw [ev_cons, co_cons_zero]; rfl
theorem co_tail (l : List Int) (k : Nat) : co l.tail k = co l (k + 1) := by
  cases l with
  | nil => rw [List.tail_nil, co_nil, co_nil]
  | cons a l => rw [co_cons_succ]; rfl
theorem ev_inj : ∀ (n : Nat) (l m : List Int), l.length ≤ n → m.length ≤ n → (∀ w : Int, 1 ≤ w → ev (iw w) l = ev (iw w) m) → ∀ k, co l k = co m k := by
  intro n
  induction n with
  | zero =>
    intro l m hl hm _ k
    rw [List.eq_nil_of_length_eq_zero (Nat.le_zero.1 hl), List.eq_nil_of_length_eq_zero (Nat.le_zero.1 hm)]
  | succ n ih =>
    intro l m hl hm h k
    have hs : ∀ w : Int, 1 ≤ w → co l 0 - w * (ev (iw w) l.tail).im = co m 0 - w * (ev (iw w) m.tail).im ∧ w * (ev (iw w) l.tail).re = w * (ev (iw w) m.tail).re := fun w hw => by
      have := h w hw
      rw [ev_head, ev_head (iw w) m] at this
      generalize ev (iw w) l.tail = X at this ⊢
      generalize ev (iw w) m.tail = Y at this ⊢
      have h1 := congrArg G.re this
      have h2 := congrArg G.im this
      simp only [G.add, G.mul, G.of, iw] at h1 h2
      constructor <;> grind
    have h0 : co l 0 = co m 0 := by
      have := (hs ((co l 0 - co m 0).natAbs + 1) (by omega)).1
      have hd : (((co l 0 - co m 0).natAbs + 1 : Int)) ∣ (co l 0 - co m 0) := ⟨(ev (iw ((co l 0 - co m 0).natAbs + 1)) l.tail).im - (ev (iw ((co l 0 - co m 0).natAbs + 1)) m.tail).im, by rw [Int.mul_sub]; omega⟩
      have := Int.eq_zero_of_dvd_of_natAbs_lt_natAbs hd (by omega)
      omega
    cases k with
    | zero => exact h0
    | succ k =>
      rw [← co_tail, ← co_tail]
      refine ih l.tail m.tail (by rw [List.length_tail]; omega) (by rw [List.length_tail]; omega) (fun w hw => ?_) k
      obtain ⟨h1, h2⟩ := hs w hw
      rw [h0] at h1
      have hw0 : w ≠ 0 := by omega
      apply G.ext'
      · exact Int.eq_of_mul_eq_mul_left hw0 h2
      · exact Int.eq_of_mul_eq_mul_left hw0 (by omega)
theorem ev_eq {l m : List Int} (hl : Trim l) (hm : Trim m) (h : ∀ w : Int, ev (iw w) l = ev (iw w) m) : l = m :=
  hl.ext hm (ev_inj (max l.length m.length) l m (by omega) (by omega) fun w _ => h w)
theorem pm_eq {x y : PM} (hx : x.T) (hy : y.T) (h : ∀ w : Int, x.ev w = y.ev w) : x = y :=
  PM.ext' (ev_eq hx.a hy.a fun w => congrArg Mat.a (h w)) (ev_eq hx.b hy.b fun w => congrArg Mat.b (h w)) (ev_eq hx.c hy.c fun w => congrArg Mat.c (h w)) (ev_eq hx.d hy.d fun w => congrArg Mat.d (h w))
theorem pch_T : ∀ (l : List El) (m : PM), m.T → (pch m l).T := by
  intro l
  induction l with
  | nil => intro m h; exact h
  | cons x l ih => intro m _; exact ih _ (PM.mul_t _ _)
theorem pch_join (a b : List El) : pch .id (a ++ b) = (pch .id a).mul (pch .id b) :=
  pm_eq (pch_T _ _ PM.id_t) (PM.mul_t _ _) fun w => by rw [ev_pch, ev_mul, ev_pch, ev_pch, ev_id, chn_join]
def PM.rev (m : PM) : PM := ⟨m.d, m.b, m.c, m.a⟩
theorem pch_rev (l : List El) : pch .id l.reverse = (pch .id l).rev := by
  have ht := pch_T l _ PM.id_t
  refine pm_eq (pch_T _ _ PM.id_t) ⟨ht.d, ht.b, ht.c, ht.a⟩ fun w => ?_
  show _ = ((pch .id l).ev w).rev
  rw [ev_pch, ev_pch, ev_id, chn_rev]
theorem pdv_T : ∀ (l : List El) (d : List Int), Trim d → Trim (pdv d l) := by
  intro l
  induction l with
  | nil => intro d h; exact h
  | cons x l ih =>
    intro d h
    refine ih _ ?_
    show Trim (if x.divides = true then padd [] d x.pv else d)
    split
    · exact padd_trim _ _ _
    · exact h
theorem dvs_rev (w : Int) (l : List El) : dvs w .one l.reverse = dvs w .one l := by
  induction l with
  | nil => rfl
  | cons x l ih =>
    rw [List.reverse_cons, dvs_append, ih, dvs_cons w x l, dvs_cons w x []]
    show G.mul _ (if _ then G.mul _ G.one else G.one) = _
    split
    · rw [G.mul_one, G.mul_comm]
    · rw [G.mul_one]
theorem pdv_join (a b : List El) : pdv [1] (a ++ b) = padd [] (pdv [1] a) (pdv [1] b) :=
  ev_eq (pdv_T _ _ rfl) (padd_trim _ _ _) fun w => by rw [ev_pdv, ev_padd, ev_pdv, ev_pdv, ev_one, ev_nil, G.zero_add, dvs_append]
theorem pdv_rev (l : List El) : pdv [1] l.reverse = pdv [1] l :=
  ev_eq (pdv_T _ _ rfl) (pdv_T _ _ rfl) fun w => by rw [ev_pdv, ev_pdv, ev_one, dvs_rev]
/-! ### Convolutions without last zeros -/
theorem pc_last {a b : List Int} (ha : 0 < a.length) (hb : 0 < b.length) : pc a b (a.length + b.length - 2) = co a (a.length - 1) * co b (b.length - 1) := by
  have key : ∀ n, n ≤ a.length - 1 → cv a b (a.length + b.length - 2) n = 0 := by
    intro n
    induction n with
    | zero => intro _; rfl
    | succ n ih =>
      intro hn
      rw [cv, ih (by omega)]
      have : co b (a.length + b.length - 2 - n) = 0 := co_far (by omega)
      rw [this]; simp
  obtain ⟨n, hn⟩ : ∃ n, a.length = n + 1 := ⟨a.length - 1, by omega⟩
  have e := cv_all (a := a) (b := b) (k := a.length + b.length - 2)
  rw [← e]
  conv => lhs; rw [show cv a b (a.length + b.length - 2) a.length = cv a b (a.length + b.length - 2) (n + 1) by rw [← hn]]
  rw [cv, key n (by omega), if_pos (by omega), show a.length + b.length - 2 - n = b.length - 1 by omega, show a.length - 1 = n by omega]
  omega
theorem cvl_padd {a b : List Int} (ha : Trim a) (hb : Trim b) : cvl a b = padd [] a b := by
  refine Trim.ext (trim_last ?_) (padd_trim _ _ _) fun k => by rw [co_cvl, co_padd, co_nil]; omega
  rcases Nat.eq_zero_or_pos a.length with h1 | h1
  · left; exact List.eq_nil_of_length_eq_zero (by rw [cvl_len]; unfold cvLen; rw [if_pos (.inl h1)])
  · rcases Nat.eq_zero_or_pos b.length with h2 | h2
    · left; exact List.eq_nil_of_length_eq_zero (by rw [cvl_len]; unfold cvLen; rw [if_pos (.inr h2)])
    · right
      rw [cvl_len]
      unfold cvLen
      rw [if_neg (by omega), co_cvl, show a.length + b.length - 1 - 1 = a.length + b.length - 2 by omega, pc_last h1 h2]
      rcases last_trim ha with q | q
      · rw [q] at h1; simp at h1
      · rcases last_trim hb with r | r
        · rw [r] at h2; simp at h2
        · exact Int.mul_ne_zero q r
theorem n1_cvl (a b : List Int) : n1 (cvl a b) ≤ n1 a * n1 b := by
  unfold cvl
  have h := n1_addRows (List.replicate (cvLen a b) 0) a b a.length
  rw [n1_zeros, List.take_length] at h
  omega
theorem seq_ok {l : List Int} (h1 : l.length ≤ 4096) (h2 : n1 l ≤ 1048576) : seqErr l = 0 := by
  unfold seqErr
  rw [if_neg (by omega), fnz_zero]
  intro x hx
  obtain ⟨y, hy, rfl⟩ := List.mem_map.1 hx
  obtain ⟨k, hk⟩ := List.getElem?_of_mem hy
  have := co_n1 l k
  rw [co_get hk] at this
  unfold lvl
  exact rng_zero.2 ⟨by omega, by omega⟩
theorem cv_ok {a b : List Int} (h1 : a.length ≤ 11) (h2 : b.length ≤ 11) (h3 : n1 a ≤ 289) (h4 : n1 b ≤ 289) : CvOk a b := by
  have hm := Nat.mul_le_mul h3 h4
  have hc := n1_cvl a b
  have hl : cvLen a b ≤ 4096 := by unfold cvLen; split <;> omega
  exact ⟨seq_ok (by omega) (by omega), seq_ok (by omega) (by omega), hl, seq_ok (by rw [cvl_len]; exact hl) (by omega), by omega⟩
/-- Sizes of ladders of at most 2 elements. -/
theorem lad_pm2 {l : List El} (h : LadOk l) (h2 : l.length ≤ 2) : (pch .id l).Bd 11 289 := by
  have h1 := pch_bd l .id 1 1 h.all ⟨by decide, by decide, by decide, by decide, by decide, by decide⟩
  refine h1.more (by omega) ?_
  have : l.length = 0 ∨ l.length = 1 ∨ l.length = 2 := by omega
  rcases this with e | e | e <;> rw [e] <;> decide
theorem lad_pd2 {l : List El} (h : LadOk l) (h2 : l.length ≤ 2) : (pdv [1] l).length ≤ 11 ∧ n1 (pdv [1] l) ≤ 289 := by
  have h1 := pdv_bd l [1] 1 1 h.all (by decide) (by decide)
  refine ⟨by omega, Nat.le_trans h1.2 ?_⟩
  have : l.length = 0 ∨ l.length = 1 ∨ l.length = 2 := by omega
  rcases this with e | e | e <;> rw [e] <;> decide
end Go.Proofs.YthlnmoecmicofaaDoor
