/- Plain: what the laws of chapter 6 ask besides: errors of lists that are made of others. No program in sight. -/
import Derived.Test.YtcihiglpahhboaaGreatDoorPlainA
namespace Go.Proofs.YtcihiglpahhboaaGreatDoor
open Go.RowKit
set_option maxRecDepth 100000
theorem lst_03 {l : List Src} (h : l.length ≤ 16) : lstErr l = 0 ∨ lstErr l = 3 := by
  unfold lstErr
  rw [if_neg (by omega)]
  exact fnz_03 fun x hx => by
    obtain ⟨s, _, rfl⟩ := List.mem_map.1 hx
    exact s.err_03
theorem lst_congr {l l' : List Src} (hl : l.length ≤ 16) (hl' : l'.length ≤ 16) (h : (∀ s ∈ l, s.Ok) ↔ ∀ s ∈ l', s.Ok) : lstErr l = lstErr l' := by
  have e : lstErr l = 0 ↔ lstErr l' = 0 := by
    rw [lst_iff, lst_iff]
    exact ⟨fun q => ⟨hl', h.1 q.all⟩, fun q => ⟨hl, h.2 q.all⟩⟩
  have h1 := lst_03 hl
  have h2 := lst_03 hl'
  omega
theorem rep_len (l b : List Src) : (rep l b).length = l.length * b.length := by
  induction l with
  | nil => simp [rep]
  | cons s l ih =>
    show (b.map (rep1 s) ++ rep l b).length = _
    rw [List.length_append, List.length_map, ih, List.length_cons, Nat.succ_mul, Nat.add_comm]
theorem rep_mem {l b : List Src} {t : Src} : t ∈ rep l b ↔ ∃ s ∈ l, ∃ o ∈ b, rep1 s o = t := by
  simp [rep, List.mem_flatMap, List.mem_map]
theorem rep1_comm (s o : Src) : rep1 s o = rep1 o s := by
  unfold rep1
  rw [Int.add_comm s.x, Int.add_comm s.y, Int.mul_comm s.g, Int.add_comm s.p]
theorem rep_err {l b : List Src} (hl : l.length ≤ 4) (hb : b.length ≤ 4) : lstErr (rep l b) = lstErr (rep b l) := by
  have h1 : l.length * b.length ≤ 4 * 4 := Nat.mul_le_mul hl hb
  refine lst_congr (by rw [rep_len]; exact h1) (by rw [rep_len, Nat.mul_comm]; exact h1) ?_
  constructor
  · intro h t ht
    obtain ⟨s, hs, o, ho, rfl⟩ := rep_mem.1 ht
    rw [rep1_comm]
    exact h _ (rep_mem.2 ⟨o, ho, s, hs, rfl⟩)
  · intro h t ht
    obtain ⟨s, hs, o, ho, rfl⟩ := rep_mem.1 ht
    rw [rep1_comm]
    exact h _ (rep_mem.2 ⟨o, ho, s, hs, rfl⟩)
/-- Repeated by one source with the gain 1 at 0, 0. -/
def oneS : Src := ⟨0, 0, 1, 0⟩
theorem rep_one {l : List Src} (h : ∀ s ∈ l, s.Ok) : rep l [oneS] = l := by
  induction l with
  | nil => rfl
  | cons s l ih =>
    show (rep1 s oneS) :: rep l [oneS] = _
    rw [ih fun t ht => h t (by simp [ht])]
    have := (h s (by simp)).p1
    have := (h s (by simp)).p2
    congr 1
    apply Src.ext' <;> simp [rep1, oneS]
    omega
theorem bino_in {n k : Nat} (hn : n < 9) (hk : k < 9) : 0 ≤ bino n k ∧ bino n k ≤ 70 := by
  have h : ((List.range 9).all fun n => (List.range 9).all fun k => decide (0 ≤ bino n k ∧ bino n k ≤ 70)) = true := by decide +kernel
  have h1 := List.all_eq_true.1 (List.all_eq_true.1 h n (by simpa using hn)) k (by simpa using hk)
  simpa using h1
theorem row_ok {n : Nat} {x y : Int} (hn : n ≤ 9) (hx : -11 ≤ x ∧ x ≤ 11) (hy : -11 ≤ y ∧ y ≤ 11) : LOk (row n x y) := by
  refine ⟨by simp [row]; omega, fun s hs => ?_⟩
  unfold row at hs
  obtain ⟨k, hk, rfl⟩ := List.mem_map.1 hs
  have hk := List.mem_range.1 hk
  obtain ⟨g1, g2⟩ := bino_in (n := n - 1) (k := k) (by omega) (by omega)
  have a1 : (k : Int) * x ≤ (k : Int) * 11 := Int.mul_le_mul_of_nonneg_left hx.2 (by omega)
  have a2 : (k : Int) * (-11) ≤ (k : Int) * x := Int.mul_le_mul_of_nonneg_left hx.1 (by omega)
  have b1 : (k : Int) * y ≤ (k : Int) * 11 := Int.mul_le_mul_of_nonneg_left hy.2 (by omega)
  have b2 : (k : Int) * (-11) ≤ (k : Int) * y := Int.mul_le_mul_of_nonneg_left hy.1 (by omega)
  exact ⟨by simp only; omega, by simp only; omega, by simp only; omega, by simp only; omega, by simp only; omega, by simp only; omega, by simp only; omega, by simp only; omega⟩
theorem row_len (n : Nat) (x y : Int) : (row n x y).length = n := by simp [row]
/-- The pattern of a longer row. -/
theorem prs_row_two {m : Nat} (h1 : 1 ≤ m) (h2 : m < 9) (x y : Int) (k : Nat) : prs (row (m + 1) x y) k = (prs (row m x y) k).mul (prs (row 2 x y) k) := by
  rw [prs_row, prs_row, prs_row]
  rcases rowP_two m h2 (x * stx k + y * sty k) with e | e
  · exact e
  · omega
/-- Mirrored, hard or soft: the same error. -/
theorem mir_err {l : List Src} (hl : l.length ≤ 8) (u : Int) : lstErr (l ++ l.map (mir u false)) = lstErr (l ++ l.map (mir u true)) := by
  refine lst_congr (by simp; omega) (by simp; omega) ?_
  have key : ∀ s : Src, (mir u false s).Ok ↔ (mir u true s).Ok := fun s =>
    ⟨fun h => ⟨h.x1, h.x2, h.y1, h.y2, by have := h.g2; simp only [mir] at *; simp at *; omega, by have := h.g1; simp only [mir] at *; simp at *; omega, h.p1, h.p2⟩,
     fun h => ⟨h.x1, h.x2, h.y1, h.y2, by have := h.g2; simp only [mir] at *; simp at *; omega, by have := h.g1; simp only [mir] at *; simp at *; omega, h.p1, h.p2⟩⟩
  simp only [List.mem_append, List.mem_map]
  constructor
  · rintro h t (ht | ⟨s, hs, rfl⟩)
    · exact h t (.inl ht)
    · exact (key s).1 (h _ (.inr ⟨s, hs, rfl⟩))
  · rintro h t (ht | ⟨s, hs, rfl⟩)
    · exact h t (.inl ht)
    · exact (key s).2 (h _ (.inr ⟨s, hs, rfl⟩))
/-! ### The last source first, its gain taken apart into two -/
def apart (l : List Src) : List Src := match l.reverse with
  | [] => []
  | s :: r => ⟨s.x, s.y, s.g.tdiv 2, s.p⟩ :: r ++ [⟨s.x, s.y, s.g - s.g.tdiv 2, s.p⟩]
theorem apart_sum (l : List Src) (x y : Int) : sumAt (apart l) x y = sumAt l x y := by
  unfold apart
  split
  · rename_i h
    rw [← sumAt_rev l, h]
  · rename_i s r h
    rw [← sumAt_rev l, h]
    exact sumAt_apart r s _ x y
theorem apart_prs (l : List Src) (k : Nat) : prs (apart l) k = prs l k := by
  unfold apart
  split
  · rename_i h
    rw [← prs_rev l, h]
  · rename_i s r h
    rw [← prs_rev l, h]
    exact prs_apart r s _ k
theorem apart_nrm (l : List Src) : nrm (apart l) = nrm l := nrm_congr (apart_sum l)
theorem half_in {g : Int} (h : -100 ≤ g ∧ g ≤ 100) : (-100 ≤ g.tdiv 2 ∧ g.tdiv 2 ≤ 100) ∧ -100 ≤ g - g.tdiv 2 ∧ g - g.tdiv 2 ≤ 100 := by
  rcases Int.le_total 0 g with h0 | h0
  · rw [Int.tdiv_eq_ediv_of_nonneg h0]; omega
  · have e : g.tdiv 2 = -((-g) / 2) := by
      rw [← Int.tdiv_eq_ediv_of_nonneg (by omega : 0 ≤ -g), Int.neg_tdiv, Int.neg_neg]
    rw [e]; omega
theorem apart_ok {l : List Src} (h : LOk l) (hl : l.length ≤ 8) : LOk (apart l) := by
  have hr : ∀ s ∈ l.reverse, s.Ok := fun s hs => h.all s (List.mem_reverse.1 hs)
  have hn : l.reverse.length ≤ 8 := by rw [List.length_reverse]; exact hl
  unfold apart
  split
  · exact ⟨by simp, by simp⟩
  · rename_i s r e
    rw [e] at hr hn
    have hs := hr s (by simp)
    obtain ⟨a, b⟩ := half_in ⟨hs.g1, hs.g2⟩
    refine ⟨by simp at hn ⊢; omega, fun t ht => ?_⟩
    simp only [List.cons_append, List.mem_cons, List.mem_append, List.not_mem_nil, or_false] at ht
    rcases ht with rfl | ht | rfl
    · exact ⟨hs.x1, hs.x2, hs.y1, hs.y2, a.1, a.2, hs.p1, hs.p2⟩
    · exact hr t (by simp [ht])
    · exact ⟨hs.x1, hs.x2, hs.y1, hs.y2, b.1, b.2, hs.p1, hs.p2⟩
/-! ### Neighbours among the weights -/
theorem nrm_next {l : List Src} {i : Nat} {a b : Wt} (ha : (nrm l)[i]? = some a) (hb : (nrm l)[i + 1]? = some b) : a.lt b := by
  obtain ⟨h1, rfl⟩ := List.getElem?_eq_some_iff.1 ha
  obtain ⟨h2, rfl⟩ := List.getElem?_eq_some_iff.1 hb
  exact List.pairwise_iff_getElem.1 (nrm_is l).sorted i (i + 1) h1 h2 (by omega)
theorem nrm_ne {l : List Src} {i : Nat} {a : Wt} (ha : (nrm l)[i]? = some a) : a.z ≠ .zero := (((nrm_is l).mem a).1 (List.mem_of_getElem? ha)).2
/-! ### Scores -/
/-- All phases one more. -/
def on1 (s : Src) : Src := s.at ((s.p + 1) % 4)
theorem snd_on (s : Src) (k : Nat) : snd (on1 s) k = (⟨0, 1⟩ : G).mul (snd s k) := by
  have e : turnI ((on1 s).p + pth (on1 s) k) = (turnI 1).mul (turnI (s.p + pth s k)) := by
    rw [← turnI_add, ← turnI_emod, ← turnI_emod (1 + _)]
    congr 1
    have hp : pth (on1 s) k = pth s k := rfl
    rw [hp]
    simp only [on1, Src.at]
    omega
  unfold snd
  rw [e, G.mul_assoc]
  rfl
theorem prs_on (l : List Src) (k : Nat) : (prs (l.map on1) k).sq = (prs l k).sq := by
  rw [prs_map on1 ⟨0, 1⟩ k k fun s _ => snd_on s k, G.sq_mul]
  simp [G.sq]
theorem scr_congr {l l' : List Src} (a : List Int) (h : ∀ k, (prs l k).sq = (prs l' k).sq) : scr l a = scr l' a := by
  unfold scr
  refine foldl_same fun s k => ?_
  rw [h]
theorem scr_on (l : List Src) (a : List Int) : scr (l.map on1) a = scr l a := scr_congr a (prs_on l)
/-- No choice of phases has a greater score than the best. -/
theorem bst_max {l l' : List Src} (a : List Int) (hl : l'.length = l.length) (hp : ∀ (i : Nat) (s : Src), l'[i]? = some s → 0 ≤ s.p ∧ s.p ≤ 3 ∧ ∃ t, l[i]? = some t ∧ s = t.at s.p) : scr l' a ≤ scr (bst l a) a := by
  obtain ⟨n, hn, rfl⟩ := ph_all l l' hl hp
  exact bstN_max l a (4 ^ l.length - 1) n (by omega)
theorem sq_le_gsum (l : List Src) (k : Nat) : (prs l k).sq ≤ gsum l * gsum l := by
  have h := prs_gsum l k
  have h1 := sq_in (Nat.le_refl (prs l k).nrm)
  have h2 : ((prs l k).nrm : Int) * (prs l k).nrm ≤ gsum l * gsum l := Int.mul_le_mul h h (by omega) (by omega)
  omega
end Go.Proofs.YtcihiglpahhboaaGreatDoor
