/- Opening lists of sections, and arrays of two numbers. -/
import Derived.Test.YtlaaajkehjoffaaDoorLiftB
import Derived.Test.YtlaaajkehjoffaaDoorSecs
import Derived.Deep.SlicePairs
namespace Go.Proofs.YtlaaajkehjoffaaDoor
open Go.ChangeShapes Go.WideShapes Go.ChangeAt Go.WideElems Go.RowKit Go.Joins Go.Deep
set_option maxRecDepth 100000

section
variable {H : Type} {enc : TypeId × Value → H}

theorem open_cells6 {P : Program} {w : World} {base : Nat} {spare : Nat → Bool} {held : Bool} {t : TypeId} {f0 f1 f2 f3 f4 f5 : Field} {n : Nat} {cs : List Value} {x : DataW H × List MemPlace} (hs : P.underlying t = some (.struct #[f0, f1, f2, f3, f4, f5])) (hone : oneCellFields P #[f0, f1, f2, f3, f4, f5] = true)
    (hl : cs.length = 6) (h : DataW.trod enc P w base spare held n t cs = some x) :
    ∃ (v0 v1 v2 v3 v4 v5 : Value) (y0 y1 y2 y3 y4 y5 : DataW H × List MemPlace) (k : Nat), cs = [v0, v1, v2, v3, v4, v5] ∧
      DataW.trod enc P w base spare held k f0.type [v0] = some y0 ∧ DataW.trod enc P w base spare held k f1.type [v1] = some y1 ∧ DataW.trod enc P w base spare held k f2.type [v2] = some y2 ∧ DataW.trod enc P w base spare held k f3.type [v3] = some y3 ∧ DataW.trod enc P w base spare held k f4.type [v4] = some y4 ∧ DataW.trod enc P w base spare held k f5.type [v5] = some y5 := by
  match cs, hl with
  | [c0, c1, c2, c3, c4, c5], _ =>
    obtain ⟨xs, n, _, hx, _, hlen, hg⟩ := DataW.trod_struct hs h
    obtain ⟨o0, k0⟩ := hone_of hone 0 f0 rfl
    obtain ⟨o1, k1⟩ := hone_of hone 1 f1 rfl
    obtain ⟨o2, k2⟩ := hone_of hone 2 f2 rfl
    obtain ⟨o3, k3⟩ := hone_of hone 3 f3 rfl
    obtain ⟨o4, k4⟩ := hone_of hone 4 f4 rfl
    obtain ⟨o5, k5⟩ := hone_of hone 5 f5 rfl
    match xs, hlen with
    | [y0, y1, y2, y3, y4, y5], _ =>
      exact ⟨c0, c1, c2, c3, c4, c5, y0, y1, y2, y3, y4, y5, n, rfl, by simpa [o0, k0] using hg 0 f0 rfl, by simpa [o1, k1] using hg 1 f1 rfl, by simpa [o2, k2] using hg 2 f2 rfl, by simpa [o3, k3] using hg 3 f3 rfl, by simpa [o4, k4] using hg 4 f4 rfl, by simpa [o5, k5] using hg 5 f5 rfl⟩

theorem sec_cells {W : World} {base : Nat} {sp : Nat → Bool} {held : Bool} {n : Nat} {cs : List Value} {x : DataW H × List MemPlace} (hl : cs.length = 6) (h : DataW.trod enc Tryd.prog W base sp held n 23 cs = some x) : ∃ s : Sec, cs = secCells s := by
  obtain ⟨v0, v1, v2, v3, v4, v5, y0, y1, y2, y3, y4, y5, n, rfl, h0, h1, h2, h3, h4, h5⟩ := open_cells6 Tryd.underlying23 (by kernel_rfl) hl h
  obtain ⟨a0, rfl⟩ := cell_i64 h0
  obtain ⟨a1, rfl⟩ := cell_i64 h1
  obtain ⟨a2, rfl⟩ := cell_i64 h2
  obtain ⟨a3, rfl⟩ := cell_i64 h3
  obtain ⟨a4, rfl⟩ := cell_i64 h4
  obtain ⟨a5, rfl⟩ := cell_i64 h5
  exact ⟨⟨a0, a1, a2, a3, a4, a5⟩, rfl⟩

theorem open_secs {W : World} {base : Nat} {v : Value} {d : DataW H} {p : List MemPlace} (hv : Value.okWide Tryd.prog W .any base 92 v) (h : DataW.Trod enc Tryd.prog W 0 (fun _ => true) true 92 v d p) :
    ∃ (A : Option Addr) (n c : Nat) (l : List Sec), v = .slice A n c ∧ n ≤ maxLen ∧ Reads W W.heap.size 6 A n (secs l) := by
  obtain ⟨A, n, c, rfl⟩ := okWide_slice Tryd.underlying92 hv
  obtain ⟨fuel, hf⟩ := h
  have ce : (Tryd.prog).cellsOf 23 = 6 := by kernel_rfl
  rcases open_slice Tryd.underlying92 hf with ⟨hcs, hx⟩ | ⟨a, len, cap, m, k, D, Pl, hcs, hb, hl, hm, hmm, hx0, hx⟩
  · simp [Value.cells] at hcs
    obtain ⟨rfl, rfl, rfl⟩ := hcs
    exact ⟨none, 0, 0, [], rfl, by unfold maxLen; omega, Reads.none_⟩
  · simp [Value.cells] at hcs
    obtain ⟨rfl, rfl, rfl⟩ := hcs
    simp only [if_true] at hmm
    have each : ∀ i, i < n → ∃ s : Sec, ∀ j u, (secCells s)[j]? = some u → W.cell? (a.add (i * 6 + j)) = some u := by
      intro i hi
      obtain ⟨cs', g1, g2⟩ := hx i (by omega)
      rw [ce] at g1
      obtain ⟨_, hlen, hcell⟩ := World.cells?_some g1
      obtain ⟨s, rfl⟩ := sec_cells hlen g2
      refine ⟨s, fun j u hj => ?_⟩
      have hj6 : j < 6 := by rw [← hlen]; exact (List.getElem?_eq_some_iff.1 hj).1
      have := hcell j (by omega)
      rw [add_add] at this
      rw [this]
      exact hj
    haveI : Inhabited Sec := ⟨⟨0, 0, 0, 0, 0, 0⟩⟩
    obtain ⟨q, hq⟩ := choose_lt each
    have hql : ∀ i, i < n → ((List.range n).map q)[i]? = some (q i) := fun i hi => by simp [hi]
    refine ⟨some a, n, c, (List.range n).map q, rfl, by omega, by rw [secs_len]; simp, fun hn => ⟨a, rfl, ?_, fun j u hu => ?_⟩⟩
    · have h0 := hq 0 hn 0 _ rfl
      unfold World.cell? at h0
      rcases Nat.lt_or_ge (a.add (0 * 6 + 0)).block W.heap.size with h | h
      · rwa [block_of_add] at h
      · rw [Array.getElem?_eq_none h] at h0; cases h0
    · have hj : j < n * 6 := by
        have := (List.getElem?_eq_some_iff.1 hu).1
        rw [secs_len] at this; simpa using this
      have e : j / 6 * 6 + j % 6 = j := by omega
      have := secs_at (hql (j / 6) (by omega)) (show j % 6 < 6 by omega)
      rw [e] at this
      rw [this] at hu
      have := hq (j / 6) (by omega) (j % 6) u hu
      rwa [e] at this

theorem trod_array2 {P : Program} {w : World} {base : Nat} {spare : Nat → Bool} {held : Bool} {t e : TypeId} {fuel : Nat} {c0 c1 : Value} {x : DataW H × List MemPlace} (ht : P.underlying t = some (.array 2 e)) (hce : P.cellsOf e = 1)
    (h : DataW.trod enc P w base spare held fuel t [c0, c1] = some x) :
    ∃ y0 y1 n, DataW.trod enc P w base spare held n e [c0] = some y0 ∧ DataW.trod enc P w base spare held n e [c1] = some y1 := by
  cases fuel with
  | zero => simp [DataW.trod] at h
  | succ n =>
    unfold DataW.trod at h
    rw [ht] at h
    have r2 : List.range 2 = [0, 1] := rfl
    simp [r2, hce] at h
    obtain ⟨_, h⟩ := h
    cases h0 : DataW.trod enc P w base spare held n e [c0] with
    | none => simp [h0] at h
    | some y0 =>
      cases h1 : DataW.trod enc P w base spare held n e [c1] with
      | none => simp [h0, h1] at h
      | some y1 => exact ⟨y0, y1, n, h0, h1⟩
theorem open_arr2 {W : World} {base : Nat} {v : Value} {d : DataW H} {p : List MemPlace} (hv : Value.okWide Tryd.prog W .any base 93 v) (h : DataW.Trod enc Tryd.prog W 0 (fun _ => true) true 93 v d p) :
    ∃ a b : Int, v = .agg #[.int .i64 a, .int .i64 b] := by
  have hu := Tryd.underlying93
  have hc : (Tryd.prog).cellsOf 93 = 2 := by kernel_rfl
  have hv' := hv
  simp only [Value.okWide, hu] at hv'
  obtain ⟨cs, rfl, hsz, _⟩ := hv'
  obtain ⟨l⟩ := cs
  match l, hsz.trans hc with
  | [c0, c1], _ =>
    obtain ⟨fuel, hf⟩ := h
    obtain ⟨y0, y1, n, h0, h1⟩ := trod_array2 hu (by kernel_rfl) (by simpa [Value.cells] using hf)
    obtain ⟨a, rfl⟩ := cell_i64 h0
    obtain ⟨b, rfl⟩ := cell_i64 h1
    exact ⟨a, b, rfl⟩
end
end Go.Proofs.YtlaaajkehjoffaaDoor
