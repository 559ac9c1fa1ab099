/- Drivers: plain mathematics; the contracts of the program's reckoning of an impedance. Drivers: the checks and Impedance. From a law's walk to its row: what is alike for all laws of this seat. Opening a law's arguments; the post of a law. -/
import Derived.Test.YtnndaipnfniciaaGreatDoorBaseO
import Derived.Test.YtnndaipnfniciaaGreatDoorRows
import Derived.Test.YtnndaipnfniciaaGreatDoorTie
import Derived.Test.YtnndaipnfniciaaGreatDoorCards
import Derived.Test.YtnndaipnfniciaaGreatDoorBaseS
import Derived.ProofKit
import Derived.LaidMore
import Derived.OpenShut
import Derived.Carry
import Derived.Lib.LaidTab
import Derived.Stop.Joined
import Derived.SevenTiedAt
import Derived.Deep.Slices
import Derived.Deep.Fields
import Derived.Lib.SmallJoins
import Derived.ChangeSlices
import Derived.Deep.SlicePairs
namespace Go.Proofs.YtnndaipnfniciaaGreatDoor
open Go.RowKit Go.Shelf
set_option maxRecDepth 100000

/-- The six numbers of a driver. -/
structure Drv where
  re : Int
  le : Int
  bl : Int
  ms : Int
  st : Int
  ls : Int
structure Drv.Ok (d : Drv) : Prop where
  re1 : 1 ≤ d.re
  re2 : d.re ≤ 50
  le1 : 0 ≤ d.le
  le2 : d.le ≤ 10
  bl1 : 1 ≤ d.bl
  bl2 : d.bl ≤ 20
  ms1 : 1 ≤ d.ms
  ms2 : d.ms ≤ 100
  st1 : 1 ≤ d.st
  st2 : d.st ≤ 5000
  ls1 : 1 ≤ d.ls
  ls2 : d.ls ≤ 100
def Drv.mech (d : Drv) (f : Int) : G := ⟨d.st - f * f * d.ms, f * d.ls⟩
def Drv.num (d : Drv) (f : Int) : G := ((⟨d.re, f * d.le⟩ : G).mul (d.mech f)).add ((⟨0, f * d.bl * d.bl⟩ : G).mul .one)
/-- A driver gives no power. -/
theorem drv_pw {d : Drv} (h : d.Ok) (f : Int) : 0 ≤ pw (d.num f) (d.mech f) := by
  have e : pw (d.num f) (d.mech f) = d.re * (d.mech f).sq + (f * d.bl) * (f * d.bl) * d.ls := by
    simp only [pw, Drv.num, Drv.mech, G.mul, G.add, G.one, G.sq]; grind
  rw [e]
  have h1 := Int.mul_nonneg (show 0 ≤ d.re by have := h.re1; omega) (G.sq_nn (d.mech f))
  have h2 : 0 ≤ (f * d.bl) * (f * d.bl) := by
    rcases Int.le_total 0 (f * d.bl) with q | q
    · exact Int.mul_nonneg q q
    · exact Int.mul_nonneg_of_nonpos_of_nonpos q q
  have h3 := Int.mul_nonneg h2 (show 0 ≤ d.ls by have := h.ls1; omega)
  omega
theorem mul_bd {a b m n : Int} (ha : 0 ≤ a ∧ a ≤ m) (hb : 0 ≤ b ∧ b ≤ n) : 0 ≤ a * b ∧ a * b ≤ m * n :=
  ⟨Int.mul_nonneg ha.1 hb.1, Int.mul_le_mul ha.2 hb.2 hb.1 (by omega)⟩
structure Drv.Bd (d : Drv) (f : Int) : Prop where
  ff : 0 ≤ f * f ∧ f * f ≤ 64
  fm : 0 ≤ f * f * d.ms ∧ f * f * d.ms ≤ 6400
  fl : 0 ≤ f * d.ls ∧ f * d.ls ≤ 800
  fe : 0 ≤ f * d.le ∧ f * d.le ≤ 80
  fb : 0 ≤ f * d.bl ∧ f * d.bl ≤ 160
  fbb : 0 ≤ f * d.bl * d.bl ∧ f * d.bl * d.bl ≤ 3200
theorem Drv.bd {d : Drv} (h : d.Ok) {f : Int} (h1 : 1 ≤ f) (h8 : f ≤ 8) : d.Bd f := by
  have hf : 0 ≤ f ∧ f ≤ 8 := by omega
  have ff := mul_bd hf hf
  exact ⟨ff, mul_bd ff ⟨by have := h.ms1; omega, h.ms2⟩, mul_bd hf ⟨by have := h.ls1; omega, h.ls2⟩, mul_bd hf ⟨h.le1, h.le2⟩, mul_bd hf ⟨by have := h.bl1; omega, h.bl2⟩,
    mul_bd (mul_bd hf ⟨by have := h.bl1; omega, h.bl2⟩) ⟨by have := h.bl1; omega, h.bl2⟩⟩
end Go.Proofs.YtnndaipnfniciaaGreatDoor

namespace Go.Proofs.YtnndaipnfniciaaGreatDoor
open Go.RowKit Go.Shelf
set_option maxRecDepth 100000
theorem fin6 {Q : World → Prop} {B : Nat} {v W : World} {g : Nat} {c0 c1 c2 c3 c4 c5 u0 u1 u2 u3 u4 u5 : Value} (t : TypeId) (hB : Below B v W) (hg : B ≤ g) (hk : Blk W g t #[c0, c1, c2, c3, c4, c5]) (h : ∀ X, Below B v X → Blk X g t #[u0, u1, u2, u3, u4, u5] → Q X) :
    Q ((((((W.setCell ⟨g, 0, none⟩ u0).setCell ⟨g, 1, none⟩ u1).setCell ⟨g, 2, none⟩ u2).setCell ⟨g, 3, none⟩ u3).setCell ⟨g, 4, none⟩ u4).setCell ⟨g, 5, none⟩ u5) := by
  have k5 := (((((hk.set_ 0 u0).set_ 1 u1).set_ 2 u2).set_ 3 u3).set_ 4 u4).set_ 5 u5
  exact h _ (below_set (below_set (below_set (below_set (below_set (below_set hB hg _) hg _) hg _) hg _) hg _) hg _) (by simpa using k5)
end Go.Proofs.YtnndaipnfniciaaGreatDoor

namespace Go.Proofs.YtnndaipnfniciaaGreatDoor
open Go.ChangeShapes Go.WideShapes Go.ChangeAt Go.WideElems Go.RowKit
set_option maxRecDepth 100000

theorem ownK : ownKnob Tryz.prog.godebug = none := by kernel_rfl
theorem laidOut : laidOutB Tryz.prog = true := by kernel_rfl
theorem var_lt {W : World} {name : String} {g : Nat} {cs : Array Value} (hg : Tryz.prog.globalNamed name = some g) (hv : W.var? Tryz.prog name = some cs) : g < W.heap.size := by
  unfold World.var? at hv
  rw [hg] at hv
  simp only [Option.bind_some] at hv
  rcases Nat.lt_or_ge g W.heap.size with h | h
  · exact h
  · rw [Array.getElem?_eq_none h] at hv; cases hv
theorem gauss_cells {H : Type} {enc : TypeId × Value → H} {w : World} {base : Nat} {sp : Nat → Bool} {held : Bool} {m : Nat} {l : List Value} {a b : Int} {p : List MemPlace} (h : DataW.trod enc Tryz.prog w base sp held m 23 l = some (.agg [.lit (.int .i64 a), .lit (.int .i64 b)], p)) : l = [.int .i64 a, .int .i64 b] := by
  obtain ⟨y0, y1, n, hx, hl, h0, h1⟩ := trod_struct2 Tryz.underlying23 h
  have e0 : Tryz.prog.cellsOf 3 = 1 := by kernel_rfl
  have e2 : Tryz.prog.cellsOf 23 = 2 := by kernel_rfl
  rw [e2] at hl
  match l, hl with
  | [c0, c1], _ =>
    simp only [e0, List.drop_zero, List.drop_succ_cons, List.take_succ_cons, List.take_zero] at h0 h1
    simp only [Prod.mk.injEq, DataW.agg.injEq, List.cons.injEq, and_true] at hx
    obtain ⟨k0, e1, e2, _⟩ := DataW.trod_int Tryz.underlying3 h0
    obtain ⟨k1, e3, e4, _⟩ := DataW.trod_int Tryz.underlying3 h1
    simp only [List.cons.injEq, and_true] at e1 e3
    rw [e2, e4] at hx
    simp at hx
    subst e1; subst e3
    rw [hx.1.1, hx.1.2]
theorem con_of {W : World} {cn co : Array Value} (e0 : Tryz.prog.globalNamed "woofer/network.none" = some 0) (e1 : Tryz.prog.globalNamed "woofer/network.one" = some 2) (hv0 : W.var? Tryz.prog "woofer/network.none" = some cn) (hv1 : W.var? Tryz.prog "woofer/network.one" = some co) (hn : cn.toList = [.int .i64 0, .int .i64 0]) (ho : co.toList = [.int .i64 1, .int .i64 0]) : Con W := by
  obtain ⟨ln⟩ := cn
  obtain ⟨lo⟩ := co
  simp only at hn ho
  subst hn; subst ho
  exact ⟨var_lt e0 hv0, (World.var?_cell e0 hv0 0).trans rfl, (World.var?_cell e0 hv0 1).trans rfl, var_lt e1 hv1, (World.var?_cell e1 hv1 0).trans rfl, (World.var?_cell e1 hv1 1).trans rfl⟩
end Go.Proofs.YtnndaipnfniciaaGreatDoor

namespace Go.Proofs.YtnndaipnfniciaaGreatDoor
open Go.ChangeShapes Go.WideShapes Go.ChangeAt Go.WideElems Go.RowKit Go.Joins Go.Deep
set_option maxRecDepth 100000

section
variable {H : Type} {enc : TypeId × Value → H}

theorem trodAll_stays {P : Program} (hl : laidOutB P = true) {W W' : World} {sp' : Nat → Bool} : ∀ {ts : List TypeId} {vs : List Value} {ds : List (DataW H)} {ps : List MemPlace},
    (ts.all fun t => P.readableRec t && decide (t < P.types.size)) = true → DataW.TrodAll enc P W 0 (fun _ => true) true ts vs ds ps → (∀ p ∈ ps, W.sameAt W' p) → (∀ p ∈ ps, sp' p.block = true) → DataW.TrodAll enc P W' 0 sp' true ts vs ds ps := by
  intro ts
  induction ts with
  | nil =>
    intro vs ds ps _ h _ _
    cases vs <;> cases ds <;> simp [DataW.TrodAll] at h ⊢
    exact h
  | cons t ts ih =>
    intro vs ds ps hr h hs hsp
    obtain ⟨v, vs', d, ds', p, q, rfl, rfl, rfl, h1, h2⟩ := trodAll_cons h
    simp only [List.all_cons, Bool.and_eq_true, decide_eq_true_eq] at hr
    exact ⟨p, q, Trod_stays hl hr.1.1 hr.1.2 h1 (fun x hx => hs x (by simp [hx])) (fun x hx => hsp x (by simp [hx])), ih hr.2 h2 (fun x hx => hs x (by simp [hx])) (fun x hx => hsp x (by simp [hx])), rfl⟩

theorem law_post {f : Func} {s : ChangeSpec} {W W' : World} {args : Array Value} {ds gs : List (DataW H)} {before : List MemPlace} (hv : s.vars = []) (hr : f.resultTypes = #[4])
    (hrd : (f.params.toList.all fun t => Tryz.prog.readableRec t && decide (t < Tryz.prog.types.size)) = true) (hW : DataW.Whole enc Tryz.prog f.params.toList s.vars false W args.toList ds gs before)
    (hfn : (s.fn H ds).results = [.lit (.bool true)] ∧ (s.fn H ds).args = ds ∧ (s.fn H ds).vars = []) (hb : Below W.heap.size W W') :
    s.post enc Tryz.prog f false true false false W args (.bool true) W' := by
  have hW' := hW
  obtain ⟨p, q, hA, hV, rfl, hz, hn⟩ := hW
  rw [hv] at hV
  obtain ⟨rfl, rfl⟩ := trodVars_none hV
  have hlt : ∀ x ∈ p ++ [], x.block < W.heap.size := fun x hx => hW'.lt x hx
  have hold : ∀ x ∈ p ++ [], (fun b => decide (b < W.heap.size)) x.block = true := fun x hx => by simpa using hlt x hx
  have ha : ∀ sp : Nat → Bool, (∀ x ∈ p ++ [], sp x.block = true) → DataW.TrodAll enc Tryz.prog W' 0 sp true f.params.toList args.toList (s.fn H (ds ++ [])).args p := fun sp hsp => by
    rw [List.append_nil, hfn.2.1]
    exact trodAll_stays laidOut hrd hA (fun x hx => hb.same (hlt x (by simp [hx]))) (fun x hx => hsp x (by simp [hx]))
  have hvv : ∀ sp : Nat → Bool, DataW.TrodVars enc Tryz.prog W' sp s.vars (s.fn H (ds ++ [])).vars [] := fun sp => by
    rw [hv, List.append_nil, hfn.2.2]
    rfl
  have hres : ∀ (b : Nat) (sp : Nat → Bool) (hd : Bool), DataW.TrodAll enc Tryz.prog W' b sp hd f.resultTypes.toList ((Value.bool true).resultList f.resultTypes.size) (s.fn H (ds ++ [])).results [] := fun b sp hd => by
    rw [hr, List.append_nil, hfn.1]
    exact trodAll_mk1 (shut_bool Tryz.underlying4 true)
  refine ⟨ds, [], p ++ [], [], p, [], hW', hres _ _ _, ha _ hold, hvv _, World.keptBut_mono (fun x hx => ⟨hx, Or.inr (List.mem_append.1 hx)⟩) (hb.frame (· ∈ p ++ [])), fun h => by cases h⟩

/-! ### Opening -/
theorem open_i64 {W : World} {base : Nat} {v : Value} {d : DataW H} {p : List MemPlace} (hv : Value.okWide Tryz.prog W .any base 3 v) (h : DataW.Trod enc Tryz.prog W 0 (fun _ => true) true 3 v d p) :
    ∃ n : Int, v = .int .i64 n ∧ -9223372036854775808 ≤ n ∧ n ≤ 9223372036854775807 := by
  obtain ⟨n, rfl, _, _, hw⟩ := open_int Tryz.underlying3 hv h
  have e1 : IntKind.i64.min = -9223372036854775808 := by decide
  have e2 : IntKind.i64.max = 9223372036854775807 := by decide
  simp only [Lit.wf, e1, e2, Bool.and_eq_true, decide_eq_true_eq] at hw
  exact ⟨n, rfl, by omega, by omega⟩

theorem open_agg6 {P : Program} {w : World} {base : Nat} {spare : Nat → Bool} {held : Bool} {r : Reach} {b0 : Nat} {t : TypeId} {f0 f1 f2 f3 f4 f5 : Field} {v : Value} {d : DataW H} {p : List MemPlace} (hs : P.underlying t = some (.struct #[f0, f1, f2, f3, f4, f5])) (hone : oneCellFields P #[f0, f1, f2, f3, f4, f5] = true) (hC : P.cellsOf t = 6)
    (hv : Value.okWide P w r b0 t v) (h : DataW.Trod enc P w base spare held t v d p) :
    ∃ (v0 v1 v2 v3 v4 v5 : Value) (y0 y1 y2 y3 y4 y5 : DataW H × List MemPlace) (n : Nat), v = .agg #[v0, v1, v2, v3, v4, v5] ∧
      DataW.trod enc P w base spare held n f0.type [v0] = some y0 ∧ DataW.trod enc P w base spare held n f1.type [v1] = some y1 ∧ DataW.trod enc P w base spare held n f2.type [v2] = some y2 ∧ DataW.trod enc P w base spare held n f3.type [v3] = some y3 ∧ DataW.trod enc P w base spare held n f4.type [v4] = some y4 ∧ DataW.trod enc P w base spare held n f5.type [v5] = some y5 := by
  obtain ⟨cs, rfl, hsz⟩ := okWide_struct hs hv
  obtain ⟨l⟩ := cs
  match l, hsz.trans hC with
  | [c0, c1, c2, c3, c4, c5], _ =>
    obtain ⟨fuel, hf⟩ := h
    obtain ⟨xs, n, _, hx, _, hlen, hg⟩ := DataW.trod_struct hs hf
    obtain ⟨o0, k0⟩ := hone_of hone 0 f0 rfl
    obtain ⟨o1, k1⟩ := hone_of hone 1 f1 rfl
    obtain ⟨o2, k2⟩ := hone_of hone 2 f2 rfl
    obtain ⟨o3, k3⟩ := hone_of hone 3 f3 rfl
    obtain ⟨o4, k4⟩ := hone_of hone 4 f4 rfl
    obtain ⟨o5, k5⟩ := hone_of hone 5 f5 rfl
    match xs, hlen with
    | [y0, y1, y2, y3, y4, y5], _ =>
      exact ⟨c0, c1, c2, c3, c4, c5, y0, y1, y2, y3, y4, y5, n, rfl, by simpa [Value.cells, o0, k0] using hg 0 f0 rfl, by simpa [Value.cells, o1, k1] using hg 1 f1 rfl, by simpa [Value.cells, o2, k2] using hg 2 f2 rfl, by simpa [Value.cells, o3, k3] using hg 3 f3 rfl, by simpa [Value.cells, o4, k4] using hg 4 f4 rfl, by simpa [Value.cells, o5, k5] using hg 5 f5 rfl⟩
theorem cell_i64 {w : World} {base : Nat} {sp : Nat → Bool} {held : Bool} {n : Nat} {v : Value} {y : DataW H × List MemPlace} (h : DataW.trod enc Tryz.prog w base sp held n 3 [v] = some y) : ∃ a : Int, v = .int .i64 a := by
  obtain ⟨k0, e1, _, _⟩ := DataW.trod_int Tryz.underlying3 h
  exact ⟨k0, by simpa using e1⟩
theorem open_list {W : World} {base : Nat} {v : Value} {d : DataW H} {p : List MemPlace} (hv : Value.okWide Tryz.prog W .any base 26 v) (h : DataW.Trod enc Tryz.prog W 0 (fun _ => true) true 26 v d p) :
    ∃ (A : Option Addr) (n c : Nat) (xs : List Int), v = .slice A n c ∧ n ≤ maxLen ∧ Reads W W.heap.size 1 A n (ints xs) := by
  obtain ⟨A, n, c, rfl⟩ := okWide_slice Tryz.underlying26 hv
  obtain ⟨fuel, hf⟩ := h
  rcases open_ints Tryz.underlying26 Tryz.underlying3 (by kernel_rfl) hf with ⟨hcs, hx⟩ | ⟨a, len, cap, zs, hcs, _, hl, hm, hz, hx, hcell, hwz⟩
  · simp [Value.cells] at hcs
    obtain ⟨rfl, rfl, rfl⟩ := hcs
    exact ⟨none, 0, 0, [], rfl, by unfold maxLen; omega, Reads.none_⟩
  · simp [Value.cells] at hcs
    obtain ⟨rfl, rfl, rfl⟩ := hcs
    simp only [if_true] at hz
    refine ⟨some a, n, c, zs.take n, rfl, by omega, by rw [ints_len, List.length_take]; omega, fun hn => ⟨a, rfl, ?_, fun j u hu => ?_⟩⟩
    · have h0 := hcell 0 (by omega)
      unfold World.cell? at h0
      rcases Nat.lt_or_ge (a.add 0).block W.heap.size with h | h
      · rwa [block_of_add] at h
      · rw [Array.getElem?_eq_none h] at h0; cases h0
    · obtain ⟨x, hx', rfl⟩ := ints_at hu
      rw [List.getElem?_take] at hx'
      split at hx'
      · have hj : j < zs.length := (List.getElem?_eq_some_iff.1 hx').1
        rw [hcell j hj]
        simp [List.getD, hx']
      · cases hx'
theorem open_cells3 {P : Program} {w : World} {base : Nat} {spare : Nat → Bool} {held : Bool} {t : TypeId} {f0 f1 f2 : Field} {n : Nat} {cs : List Value} {x : DataW H × List MemPlace} (hs : P.underlying t = some (.struct #[f0, f1, f2])) (hone : oneCellFields P #[f0, f1, f2] = true)
    (hl : cs.length = 3) (h : DataW.trod enc P w base spare held n t cs = some x) :
    ∃ (v0 v1 v2 : Value) (y0 y1 y2 : DataW H × List MemPlace) (k : Nat), cs = [v0, v1, v2] ∧
      DataW.trod enc P w base spare held k f0.type [v0] = some y0 ∧ DataW.trod enc P w base spare held k f1.type [v1] = some y1 ∧ DataW.trod enc P w base spare held k f2.type [v2] = some y2 := by
  match cs, hl with
  | [c0, c1, c2], _ =>
    obtain ⟨xs, n, _, hx, _, hlen, hg⟩ := DataW.trod_struct hs h
    obtain ⟨o0, k0⟩ := hone_of hone 0 f0 rfl
    obtain ⟨o1, k1⟩ := hone_of hone 1 f1 rfl
    obtain ⟨o2, k2⟩ := hone_of hone 2 f2 rfl
    match xs, hlen with
    | [y0, y1, y2], _ =>
      exact ⟨c0, c1, c2, y0, y1, y2, n, rfl, by simpa [o0, k0] using hg 0 f0 rfl, by simpa [o1, k1] using hg 1 f1 rfl, by simpa [o2, k2] using hg 2 f2 rfl⟩
theorem cell_str {w : World} {base : Nat} {sp : Nat → Bool} {held : Bool} {n : Nat} {v : Value} {y : DataW H × List MemPlace} (h : DataW.trod enc Tryz.prog w base sp held n 9 [v] = some y) : ∃ a : ByteArray, v = .string a := by
  obtain ⟨k0, e1, _⟩ := DataW.trod_string Tryz.underlying9 h
  exact ⟨k0, by simpa using e1⟩
theorem el_cells {W : World} {base : Nat} {sp : Nat → Bool} {held : Bool} {n : Nat} {cs : List Value} {x : DataW H × List MemPlace} (hl : cs.length = 3) (h : DataW.trod enc Tryz.prog W base sp held n 103 cs = some x) : ∃ s : El, cs = elCells s := by
  obtain ⟨v0, v1, v2, y0, y1, y2, n, rfl, h0, h1, h2⟩ := open_cells3 Tryz.underlying103 (by kernel_rfl) hl h
  obtain ⟨a0, rfl⟩ := cell_str h0
  obtain ⟨a1, rfl⟩ := cell_i64 h1
  obtain ⟨a2, rfl⟩ := cell_i64 h2
  exact ⟨⟨a0, a1, a2⟩, rfl⟩
theorem open_els {W : World} {base : Nat} {v : Value} {d : DataW H} {p : List MemPlace} (hv : Value.okWide Tryz.prog W .any base 42 v) (h : DataW.Trod enc Tryz.prog W 0 (fun _ => true) true 42 v d p) :
    ∃ (A : Option Addr) (n c : Nat) (l : List El), v = .slice A n c ∧ n ≤ maxLen ∧ Reads W W.heap.size 3 A n (els l) := by
  obtain ⟨A, n, c, rfl⟩ := okWide_slice Tryz.underlying42 hv
  obtain ⟨fuel, hf⟩ := h
  have ce : (Tryz.prog).cellsOf 103 = 3 := by kernel_rfl
  rcases open_slice Tryz.underlying42 hf with ⟨hcs, hx⟩ | ⟨a, len, cap, m, k, D, Pl, hcs, hb, hl, hm, hmm, hx0, hx⟩
  · simp [Value.cells] at hcs
    obtain ⟨rfl, rfl, rfl⟩ := hcs
    exact ⟨none, 0, 0, [], rfl, by unfold maxLen; omega, Reads.none_⟩
  · simp [Value.cells] at hcs
    obtain ⟨rfl, rfl, rfl⟩ := hcs
    simp only [if_true] at hmm
    have each : ∀ i, i < n → ∃ s : El, ∀ j u, (elCells s)[j]? = some u → W.cell? (a.add (i * 3 + j)) = some u := by
      intro i hi
      obtain ⟨cs', g1, g2⟩ := hx i (by omega)
      rw [ce] at g1
      obtain ⟨_, hlen, hcell⟩ := World.cells?_some g1
      obtain ⟨s, rfl⟩ := el_cells hlen g2
      refine ⟨s, fun j u hj => ?_⟩
      have hj6 : j < 3 := by rw [← hlen]; exact (List.getElem?_eq_some_iff.1 hj).1
      have := hcell j (by omega)
      rw [add_add] at this
      rw [this]
      exact hj
    haveI : Inhabited El := ⟨⟨kTrap, 0, 0⟩⟩
    obtain ⟨q, hq⟩ := choose_lt each
    have hql : ∀ i, i < n → ((List.range n).map q)[i]? = some (q i) := fun i hi => by simp [hi]
    refine ⟨some a, n, c, (List.range n).map q, rfl, by omega, by rw [els_len]; simp, fun hn => ⟨a, rfl, ?_, fun j u hu => ?_⟩⟩
    · have h0 := hq 0 hn 0 _ rfl
      unfold World.cell? at h0
      rcases Nat.lt_or_ge (a.add (0 * 3 + 0)).block W.heap.size with h | h
      · rwa [block_of_add] at h
      · rw [Array.getElem?_eq_none h] at h0; cases h0
    · have hj : j < n * 3 := by
        have := (List.getElem?_eq_some_iff.1 hu).1
        rw [els_len] at this; simpa using this
      have e : j / 3 * 3 + j % 3 = j := by omega
      have := els_at (hql (j / 3) (by omega)) (show j % 3 < 3 by omega)
      rw [e] at this
      rw [this] at hu
      have := hq (j / 3) (by omega) (j % 3) u hu
      rwa [e] at this

theorem open_u8 {W : World} {base : Nat} {v : Value} {d : DataW H} {p : List MemPlace} (hv : Value.okWide Tryz.prog W .any base 5 v) (h : DataW.Trod enc Tryz.prog W 0 (fun _ => true) true 5 v d p) :
    ∃ n : Int, v = .int .u8 n ∧ 0 ≤ n ∧ n ≤ 255 := by
  obtain ⟨n, rfl, _, _, hw⟩ := open_int Tryz.underlying5 hv h
  have e1 : IntKind.u8.min = 0 := by decide
  have e2 : IntKind.u8.max = 255 := by decide
  simp only [Lit.wf, e1, e2, Bool.and_eq_true, decide_eq_true_eq] at hw
  exact ⟨n, rfl, by omega, by omega⟩
end
end Go.Proofs.YtnndaipnfniciaaGreatDoor
