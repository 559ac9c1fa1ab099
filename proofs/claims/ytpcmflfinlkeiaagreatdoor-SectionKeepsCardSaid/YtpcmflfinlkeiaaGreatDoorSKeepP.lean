/- Plain facts of the law SectionKeeps: a section that keeps all information is undone; the nearest section of a list that has it. -/
import Derived.Test.YtpcmflfinlkeiaaGreatDoorNearA
import Derived.Test.YtpcmflfinlkeiaaGreatDoorUndoB
import Derived.Test.YtpcmflfinlkeiaaGreatDoorSats
import Derived.Test.YtpcmflfinlkeiaaGreatDoorBaseC
namespace Go.Proofs.YtpcmflfinlkeiaaGreatDoor
open Go.RowKit Go.Shelf
set_option maxRecDepth 100000
/-- The section that keeps all information. -/
def Sec.keep (s : Sec) : Sec := ⟨s.unit, s.b1, s.b2, 0, 0, s.sh⟩
theorem keep_unit (s : Sec) : s.keep.unit = s.unit := rfl
theorem keep_ok {s : Sec} (h : s.Ok) (hu : s.unit ≤ 32767) : s.keep.Ok := by
  have h1 := unit_bd h
  exact ⟨by show -32767 ≤ s.unit; omega, hu, h.b1l, h.b1h, h.b2l, h.b2h, by show (-32767 : Int) ≤ 0; omega, by show (0 : Int) ≤ 32767; omega, by show (-32767 : Int) ≤ 0; omega, by show (0 : Int) ≤ 32767; omega, h.shl, h.shh⟩
theorem keep_keepB (s : Sec) : s.keep.keepB = true := by simp [Sec.keepB, Sec.keep, Sec.unit]
theorem keep_raw {s : Sec} (h : s.Ok) (y : St) (i : Int) : s.keep.raw y i = i + (s.b1 * y.x1 + s.b2 * y.x2) / s.unit := by
  have hu := unit_bd h
  unfold Sec.raw Sec.sum
  rw [keep_unit]
  show (s.unit * i + s.b1 * y.x1 + s.b2 * y.x2 - 0 * y.y1 - 0 * y.y2) / s.unit = _
  rw [show s.unit * i + s.b1 * y.x1 + s.b2 * y.x2 - 0 * y.y1 - 0 * y.y2 = (s.b1 * y.x1 + s.b2 * y.x2) + s.unit * i by rw [Int.zero_mul, Int.zero_mul]; omega]
  rw [Int.add_mul_ediv_left _ _ (by omega), Int.add_comm]
theorem keep_und {s : Sec} (h : s.Ok) : ∀ (xs : List Int) (y : St), s.keep.sats y xs = 0 → s.keep.und y.x1 y.x2 (s.keep.outs y xs) = xs := by
  intro xs
  induction xs with
  | nil => intro y _; rfl
  | cons x xs ih =>
    intro y hs
    have hb := (sats_bd s.keep (s.keep.next y x) xs).1
    simp only [Sec.sats] at hs
    have h1 : s.keep.out y x = s.keep.raw y x := by
      by_cases e : s.keep.out y x = s.keep.raw y x
      · exact e
      · rw [if_neg e] at hs; omega
    rw [if_pos h1] at hs
    have h2 : s.keep.sats (s.keep.next y x) xs = 0 := by omega
    have h3 : s.keep.ui y.x1 y.x2 (s.keep.out y x) = x := by
      rw [h1, keep_raw h]
      show x + (s.b1 * y.x1 + s.b2 * y.x2) / s.unit - (s.b1 * y.x1 + s.b2 * y.x2) / s.unit = x
      omega
    show s.keep.ui y.x1 y.x2 (s.keep.out y x) :: s.keep.und (s.keep.ui y.x1 y.x2 (s.keep.out y x)) y.x1 (s.keep.outs (s.keep.next y x) xs) = x :: xs
    rw [h3]
    have := ih (s.keep.next y x) h2
    show x :: s.keep.und x y.x1 (s.keep.outs (s.keep.next y x) xs) = x :: xs
    rw [show s.keep.und x y.x1 (s.keep.outs (s.keep.next y x) xs) = xs from this]
theorem keep_back {s : Sec} (h : s.Ok) {xs : List Int} (hx : sigErr xs = 0) (hs : s.keep.sats St.zero xs = 0) : s.keep.und 0 0 (s.keep.outs St.zero xs) = xs ∧ s.keep.undB (s.keep.outs St.zero xs) = true := by
  have h1 : s.keep.und 0 0 (s.keep.outs St.zero xs) = xs := keep_und h xs St.zero hs
  refine ⟨h1, ?_⟩
  unfold Sec.undB
  rw [h1]
  exact List.all_eq_true.2 fun x hm => inB_iff.2 ((sigErr_ok hx).2 x hm)
theorem outs_sig {s : Sec} {xs : List Int} (hx : sigErr xs = 0) : sigErr (s.outs St.zero xs) = 0 :=
  sigErr_of (by rw [outs_len]; exact (sigErr_ok hx).1) fun x hm => outs_bd x hm
/-! ### Nearest -/
theorem dist_self (s : Sec) : dist s s = 0 := by
  simp only [dist, distN, nth6, Int.sub_self]; rfl
theorem dist_zero {a b : Sec} (hs : a.sh = b.sh) (h : dist a b ≤ 0) : a = b := by
  simp only [dist, distN, nth6, ab] at h
  have e0 : a.b0 = b.b0 := by omega
  have e1 : a.b1 = b.b1 := by omega
  have e2 : a.b2 = b.b2 := by omega
  have e3 : a.a1 = b.a1 := by omega
  have e4 : a.a2 = b.a2 := by omega
  cases a; cases b; simp at e0 e1 e2 e3 e4 hs; simp [e0, e1, e2, e3, e4, hs]
theorem dist_nn (a b : Sec) : 0 ≤ dist a b := by simp only [dist, distN, nth6, ab]; omega
theorem near_self {l : List Sec} {s : Sec} {k : Nat} (hk : l[k]? = some s) : ∀ d : Nat, ∃ i : Nat, nbest l s (k + 1 + d) = (i : Int) ∧ i ≤ k ∧ l[i]? = some s := by
  intro d
  induction d with
  | zero =>
    show ∃ i : Nat, nbest l s (k + 1) = (i : Int) ∧ _
    rcases @nbest_at l s k with h | ⟨j, y, h1, h2, h3, h4⟩
    · exact ⟨k, nbest_hit hk ⟨rfl, .inl (by omega)⟩, Nat.le_refl _, hk⟩
    · by_cases hd : dist s s < bestD l s (nbest l s k)
      · exact ⟨k, nbest_hit hk ⟨rfl, .inr hd⟩, Nat.le_refl _, hk⟩
      · have hm : nbest l s (k + 1) = nbest l s k := nbest_miss hk (by rintro ⟨_, h | h⟩ <;> omega)
        rw [h1, bestD_at h3, dist_self] at hd
        obtain rfl := dist_zero h4 (by omega)
        exact ⟨j, by rw [hm, h1], by omega, h3⟩
  | succ d ih =>
    obtain ⟨i, h1, h2, h3⟩ := ih
    refine ⟨i, ?_, h2, h3⟩
    show nbest l s (k + 1 + d + 1) = _
    cases hx : l[k + 1 + d]? with
    | none => simp only [nbest, hx]; exact h1
    | some x =>
      rw [nbest_miss hx, h1]
      rintro ⟨_, h | h⟩
      · omega
      · rw [h1, bestD_at h3, dist_self] at h
        have := dist_nn x s
        omega
theorem near_in {l : List Sec} {s : Sec} {k : Nat} (h0 : secErr l = 0) (hk : l[k]? = some s) : ∃ i : Nat, nearE l s = ((i : Int), 0) ∧ i ≤ k ∧ l[i]? = some s := by
  have hl := (List.getElem?_eq_some_iff.1 hk).1
  obtain ⟨d, hd⟩ : ∃ d, l.length = k + 1 + d := ⟨l.length - (k + 1), by omega⟩
  obtain ⟨i, h1, h2, h3⟩ := near_self hk d
  rw [← hd] at h1
  have he : s.err = 0 := Sec.err_of ((secErr_ok h0).2 s (List.mem_of_getElem? hk))
  have hn : nearErr l s = 0 := by unfold nearErr; rw [h0, he]; rfl
  refine ⟨i, ?_, h2, h3⟩
  unfold nearE
  rw [if_pos hn, nearV_pos (by omega), h1]
end Go.Proofs.YtpcmflfinlkeiaaGreatDoor
