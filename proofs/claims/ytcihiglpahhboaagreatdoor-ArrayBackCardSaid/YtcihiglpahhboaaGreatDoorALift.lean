/- From a law's walk to its row; opening a law's arguments; the laid variables of chapter 6. -/
import Derived.Test.YtcihiglpahhboaaGreatDoorRows
import Derived.Test.YtcihiglpahhboaaGreatDoorTie
import Derived.Test.YtcihiglpahhboaaGreatDoorCards
import Derived.Test.YtcihiglpahhboaaGreatDoorBaseF
import Derived.Test.YtcihiglpahhboaaGreatDoorAPrint
import Derived.ProofKit
import Derived.LaidMore
import Derived.OpenShut
import Derived.Carry
import Derived.Lib.LaidTab
import Derived.Stop.Joined
import Derived.SevenTiedAt
import Derived.Deep.Slices
import Derived.Deep.Fields
import Derived.Lib.SmallJoins
import Derived.ChangeSlices
import Derived.Deep.SlicePairs
namespace Go.Proofs.YtcihiglpahhboaaGreatDoor
open Go.ChangeShapes Go.WideShapes Go.ChangeAt Go.WideElems Go.RowKit Go.Joins Go.Deep
set_option maxRecDepth 100000
theorem ownK : ownKnob Tryz.prog.godebug = none := by kernel_rfl
theorem var_lt {W : World} {name : String} {g : Nat} {cs : Array Value} (hg : Tryz.prog.globalNamed name = some g) (hv : W.var? Tryz.prog name = some cs) : g < W.heap.size := by
  unfold World.var? at hv
  rw [hg] at hv
  simp only [Option.bind_some] at hv
  rcases Nat.lt_or_ge g W.heap.size with h | h
  · exact h
  · rw [Array.getElem?_eq_none h] at hv; cases hv
theorem gauss_cells {H : Type} {enc : TypeId × Value → H} {w : World} {base : Nat} {sp : Nat → Bool} {held : Bool} {m : Nat} {l : List Value} {a b : Int} {p : List MemPlace} (h : DataW.trod enc Tryz.prog w base sp held m 54 l = some (.agg [.lit (.int .i64 a), .lit (.int .i64 b)], p)) : l = [.int .i64 a, .int .i64 b] := by
  obtain ⟨y0, y1, n, hx, hl, h0, h1⟩ := trod_struct2 Tryz.underlying54 h
  have e0 : Tryz.prog.cellsOf 3 = 1 := by kernel_rfl
  have e2 : Tryz.prog.cellsOf 54 = 2 := by kernel_rfl
  rw [e2] at hl
  match l, hl with
  | [c0, c1], _ =>
    simp only [e0, List.drop_zero, List.drop_succ_cons, List.take_succ_cons, List.take_zero] at h0 h1
    simp only [Prod.mk.injEq, DataW.agg.injEq, List.cons.injEq, and_true] at hx
    obtain ⟨k0, e1, e2, _⟩ := DataW.trod_int Tryz.underlying3 h0
    obtain ⟨k1, e3, e4, _⟩ := DataW.trod_int Tryz.underlying3 h1
    simp only [List.cons.injEq, and_true] at e1 e3
    rw [e2, e4] at hx
    simp at hx
    subst e1; subst e3
    rw [hx.1.1, hx.1.2]
theorem pair_cells {H : Type} {enc : TypeId × Value → H} {w : World} {base : Nat} {sp : Nat → Bool} {held : Bool} {m : Nat} {l : List Value} {a b : Int} {p : List MemPlace} (h : DataW.trod enc Tryz.prog w base sp held m 154 l = some (.agg [.lit (.int .i64 a), .lit (.int .i64 b)], p)) : l = [.int .i64 a, .int .i64 b] := by
  obtain ⟨xs, n, _, hx, hl, hn, hel⟩ := DataW.trod_array Tryz.underlying154 h
  have e0 : Tryz.prog.cellsOf 3 = 1 := by kernel_rfl
  have e2 : Tryz.prog.cellsOf 154 = 2 := by kernel_rfl
  rw [e2] at hl
  have h0 := hel 0 (by decide)
  have h1 := hel 1 (by decide)
  match l, hl, xs, hn with
  | [c0, c1], _, [x0, x1], _ =>
    simp only [e0, Nat.zero_mul, Nat.one_mul, List.drop_zero, List.drop_succ_cons, List.take_succ_cons, List.take_zero, List.getElem?_cons_zero, List.getElem?_cons_succ] at h0 h1
    simp only [Prod.mk.injEq, DataW.agg.injEq, List.map_cons, List.map_nil, List.cons.injEq, and_true] at hx
    obtain ⟨k0, e1, e2, _⟩ := DataW.trod_int Tryz.underlying3 h0
    obtain ⟨k1, e3, e4, _⟩ := DataW.trod_int Tryz.underlying3 h1
    simp only [List.cons.injEq, and_true] at e1 e3
    rw [e2, e4] at hx
    simp at hx
    subst e1; subst e3
    rw [hx.1.1, hx.1.2]
theorem stp_cells {H : Type} {enc : TypeId × Value → H} {w : World} {base : Nat} {sp : Nat → Bool} {held : Bool} {m : Nat} {l : List Value} {p : List MemPlace} (h : DataW.trod enc Tryz.prog w base sp held m 155 l = some (Rows.laid_woofer_array_steps, p)) : l = stpCells.toList := by
  obtain ⟨xs, n, _, hx, hl, hn, hel⟩ := DataW.trod_array Tryz.underlying155 h
  have e0 : Tryz.prog.cellsOf 154 = 2 := by kernel_rfl
  have e2 : Tryz.prog.cellsOf 155 = 16 := by kernel_rfl
  rw [e2] at hl
  have h0 := hel 0 (by decide)
  have h1 := hel 1 (by decide)
  have h2 := hel 2 (by decide)
  have h3 := hel 3 (by decide)
  have h4 := hel 4 (by decide)
  have h5 := hel 5 (by decide)
  have h6 := hel 6 (by decide)
  have h7 := hel 7 (by decide)
  match l, hl, xs, hn with
  | [c0, c1, c2, c3, c4, c5, c6, c7, c8, c9, c10, c11, c12, c13, c14, c15], _, [x0, x1, x2, x3, x4, x5, x6, x7], _ =>
    simp only [e0, Nat.zero_mul, Nat.one_mul, Nat.reduceMul, List.drop_zero, List.drop_succ_cons, List.take_succ_cons, List.take_zero, List.getElem?_cons_zero, List.getElem?_cons_succ] at h0 h1 h2 h3 h4 h5 h6 h7
    simp only [Rows.laid_woofer_array_steps, Prod.mk.injEq, DataW.agg.injEq, List.map_cons, List.map_nil, List.cons.injEq, and_true] at hx
    obtain ⟨d0, q0⟩ := x0
    obtain ⟨d1, q1⟩ := x1
    obtain ⟨d2, q2⟩ := x2
    obtain ⟨d3, q3⟩ := x3
    obtain ⟨d4, q4⟩ := x4
    obtain ⟨d5, q5⟩ := x5
    obtain ⟨d6, q6⟩ := x6
    obtain ⟨d7, q7⟩ := x7
    obtain ⟨⟨z0, z1, z2, z3, z4, z5, z6, z7⟩, _⟩ := hx
    simp only at z0 z1 z2 z3 z4 z5 z6 z7
    subst z0; subst z1; subst z2; subst z3; subst z4; subst z5; subst z6; subst z7
    have a0 := pair_cells h0
    have a1 := pair_cells h1
    have a2 := pair_cells h2
    have a3 := pair_cells h3
    have a4 := pair_cells h4
    have a5 := pair_cells h5
    have a6 := pair_cells h6
    have a7 := pair_cells h7
    simp only [List.cons.injEq, and_true] at a0 a1 a2 a3 a4 a5 a6 a7
    simp [stpCells, a0, a1, a2, a3, a4, a5, a6, a7]
theorem pow_cells {H : Type} {enc : TypeId × Value → H} {w : World} {base : Nat} {sp : Nat → Bool} {held : Bool} {m : Nat} {l : List Value} {p : List MemPlace} (h : DataW.trod enc Tryz.prog w base sp held m 114 l = some (Rows.laid_woofer_array_powers, p)) : l = powCells.toList := by
  obtain ⟨xs, n, _, hx, hl, hn, hel⟩ := DataW.trod_array Tryz.underlying114 h
  have e0 : Tryz.prog.cellsOf 54 = 2 := by kernel_rfl
  have e2 : Tryz.prog.cellsOf 114 = 8 := by kernel_rfl
  rw [e2] at hl
  have h0 := hel 0 (by decide)
  have h1 := hel 1 (by decide)
  have h2 := hel 2 (by decide)
  have h3 := hel 3 (by decide)
  match l, hl, xs, hn with
  | [c0, c1, c2, c3, c4, c5, c6, c7], _, [x0, x1, x2, x3], _ =>
    simp only [e0, Nat.zero_mul, Nat.one_mul, Nat.reduceMul, List.drop_zero, List.drop_succ_cons, List.take_succ_cons, List.take_zero, List.getElem?_cons_zero, List.getElem?_cons_succ] at h0 h1 h2 h3
    simp only [Rows.laid_woofer_array_powers, Prod.mk.injEq, DataW.agg.injEq, List.map_cons, List.map_nil, List.cons.injEq, and_true] at hx
    obtain ⟨d0, q0⟩ := x0
    obtain ⟨d1, q1⟩ := x1
    obtain ⟨d2, q2⟩ := x2
    obtain ⟨d3, q3⟩ := x3
    obtain ⟨⟨z0, z1, z2, z3⟩, _⟩ := hx
    simp only at z0 z1 z2 z3
    subst z0; subst z1; subst z2; subst z3
    have a0 := gauss_cells h0
    have a1 := gauss_cells h1
    have a2 := gauss_cells h2
    have a3 := gauss_cells h3
    simp only [List.cons.injEq, and_true] at a0 a1 a2 a3
    simp [powCells, a0, a1, a2, a3]
abbrev layA : List (String × DataW Unit) := [("math/bits.deBruijn32tab", Rows.laid_math_bits_deBruijn32tab), ("math/bits.deBruijn64tab", Rows.laid_math_bits_deBruijn64tab), ("internal/strconv.uint64pow10", Rows.laid_internal_strconv_uint64pow10), ("woofer/array.powers", Rows.laid_woofer_array_powers), ("woofer/array.steps", Rows.laid_woofer_array_steps)]
theorem door_metA (os : Os) (args : Array Value) : laidMetH Tryz.prog layA ((World.doorLaid Tryz.prog 400 os).forCall (fun _ _ => 0) ⟨#[], args, []⟩).memory :=
  laidMetH_of_parts3 (fuel := 8) (laidMet_of_run' 8 (by kernel_rfl) (by kernel_rfl)) (by kernel_rfl) (by kernel_rfl)
/-- What the laws of chapter 6 ask of the variables. -/
structure VarsA (w : World) : Prop where
  vr : Vr w
  ten : Tens w
theorem vars_ofA {W : World} (h : laidMetH Tryz.prog layA W) : VarsA W := by
  rw [MakeChecks.laidMetH_plain _ _ _ (by kernel_rfl)] at h
  obtain ⟨ps, ⟨g0, t0, cs0, f0, p0, q0, hg0, ht0, hv0, hd0, ⟨g1, t1, cs1, f1, p1, q1, hg1, ht1, hv1, hd1, ⟨g2, t2, cs2, f2, p2, q2, hg2, ht2, hv2, hd2, ⟨g3, t3, cs3, f3, p3, q3, hg3, ht3, hv3, hd3, ⟨g4, t4, cs4, f4, p4, q4, hg4, ht4, hv4, hd4, _, _⟩, _⟩, _⟩, _⟩, _⟩, _, _⟩ := h
  have e2 : Tryz.prog.globalNamed "internal/strconv.uint64pow10" = some 3 := by kernel_rfl
  have e3 : Tryz.prog.globalNamed "woofer/array.powers" = some 1 := by kernel_rfl
  have e4 : Tryz.prog.globalNamed "woofer/array.steps" = some 0 := by kernel_rfl
  have y2 : (Tryz.prog.globals[3]?).map (·.type) = some 240 := by kernel_rfl
  have y3 : (Tryz.prog.globals[1]?).map (·.type) = some 114 := by kernel_rfl
  have y4 : (Tryz.prog.globals[0]?).map (·.type) = some 155 := by kernel_rfl
  obtain rfl := Option.some.inj (e2.symm.trans hg2)
  obtain rfl := Option.some.inj (e3.symm.trans hg3)
  obtain rfl := Option.some.inj (e4.symm.trans hg4)
  obtain rfl := Option.some.inj (y2.symm.trans ht2)
  obtain rfl := Option.some.inj (y3.symm.trans ht3)
  obtain rfl := Option.some.inj (y4.symm.trans ht4)
  refine ⟨⟨var_lt e3 hv3, fun i _ => ?_, var_lt e4 hv4, fun i _ => ?_⟩, ⟨var_lt e2 hv2, ?_⟩⟩
  · rw [World.var?_cell e3 hv3 i]
    have := pow_cells hd3
    rw [← Array.toArray_toList (xs := cs3), this]
  · rw [World.var?_cell e4 hv4 i]
    have := stp_cells hd4
    rw [← Array.toArray_toList (xs := cs4), this]
  · have hc := Lib.cells_of_tab (zs := Lib.pow10Tab) (k := .u64) Tryz.underlying240 Tryz.underlying223 (by kernel_rfl) (by kernel_rfl) hd2
    unfold Lib.TabIs
    rw [hv2, ← hc]
section
variable {H : Type} {enc : TypeId × Value → H}

theorem trodAll_stays {P : Program} (hl : laidOutB P = true) {W W' : World} {sp' : Nat → Bool} : ∀ {ts : List TypeId} {vs : List Value} {ds : List (DataW H)} {ps : List MemPlace},
    (ts.all fun t => P.readableRec t && decide (t < P.types.size)) = true → DataW.TrodAll enc P W 0 (fun _ => true) true ts vs ds ps → (∀ p ∈ ps, W.sameAt W' p) → (∀ p ∈ ps, sp' p.block = true) → DataW.TrodAll enc P W' 0 sp' true ts vs ds ps := by
  intro ts
  induction ts with
  | nil =>
    intro vs ds ps _ h _ _
    cases vs <;> cases ds <;> simp [DataW.TrodAll] at h ⊢
    exact h
  | cons t ts ih =>
    intro vs ds ps hr h hs hsp
    obtain ⟨v, vs', d, ds', p, q, rfl, rfl, rfl, h1, h2⟩ := trodAll_cons h
    simp only [List.all_cons, Bool.and_eq_true, decide_eq_true_eq] at hr
    exact ⟨p, q, Trod_stays hl hr.1.1 hr.1.2 h1 (fun x hx => hs x (by simp [hx])) (fun x hx => hsp x (by simp [hx])), ih hr.2 h2 (fun x hx => hs x (by simp [hx])) (fun x hx => hsp x (by simp [hx])), rfl⟩

theorem law_post {f : Func} {s : ChangeSpec} {W W' : World} {args : Array Value} {ds gs : List (DataW H)} {before : List MemPlace} (hv : s.vars = []) (hr : f.resultTypes = #[4])
    (hrd : (f.params.toList.all fun t => Tryz.prog.readableRec t && decide (t < Tryz.prog.types.size)) = true) (hW : DataW.Whole enc Tryz.prog f.params.toList s.vars false W args.toList ds gs before)
    (hfn : (s.fn H ds).results = [.lit (.bool true)] ∧ (s.fn H ds).args = ds ∧ (s.fn H ds).vars = []) (hb : Below W.heap.size W W') :
    s.post enc Tryz.prog f false true false false W args (.bool true) W' := by
  have hW' := hW
  obtain ⟨p, q, hA, hV, rfl, hz, hn⟩ := hW
  rw [hv] at hV
  obtain ⟨rfl, rfl⟩ := trodVars_none hV
  have hlt : ∀ x ∈ p ++ [], x.block < W.heap.size := fun x hx => hW'.lt x hx
  have hold : ∀ x ∈ p ++ [], (fun b => decide (b < W.heap.size)) x.block = true := fun x hx => by simpa using hlt x hx
  have ha : ∀ sp : Nat → Bool, (∀ x ∈ p ++ [], sp x.block = true) → DataW.TrodAll enc Tryz.prog W' 0 sp true f.params.toList args.toList (s.fn H (ds ++ [])).args p := fun sp hsp => by
    rw [List.append_nil, hfn.2.1]
    exact trodAll_stays laidOut hrd hA (fun x hx => hb.same (hlt x (by simp [hx]))) (fun x hx => hsp x (by simp [hx]))
  have hvv : ∀ sp : Nat → Bool, DataW.TrodVars enc Tryz.prog W' sp s.vars (s.fn H (ds ++ [])).vars [] := fun sp => by
    rw [hv, List.append_nil, hfn.2.2]
    rfl
  have hres : ∀ (b : Nat) (sp : Nat → Bool) (hd : Bool), DataW.TrodAll enc Tryz.prog W' b sp hd f.resultTypes.toList ((Value.bool true).resultList f.resultTypes.size) (s.fn H (ds ++ [])).results [] := fun b sp hd => by
    rw [hr, List.append_nil, hfn.1]
    exact trodAll_mk1 (shut_bool Tryz.underlying4 true)
  refine ⟨ds, [], p ++ [], [], p, [], hW', hres _ _ _, ha _ hold, hvv _, World.keptBut_mono (fun x hx => ⟨hx, Or.inr (List.mem_append.1 hx)⟩) (hb.frame (· ∈ p ++ [])), fun h => by cases h⟩

/-! ### Opening -/
theorem open_i64 {W : World} {base : Nat} {v : Value} {d : DataW H} {p : List MemPlace} (hv : Value.okWide Tryz.prog W .any base 3 v) (h : DataW.Trod enc Tryz.prog W 0 (fun _ => true) true 3 v d p) :
    ∃ n : Int, v = .int .i64 n ∧ -9223372036854775808 ≤ n ∧ n ≤ 9223372036854775807 := by
  obtain ⟨n, rfl, _, _, hw⟩ := open_int Tryz.underlying3 hv h
  have e1 : IntKind.i64.min = -9223372036854775808 := by decide
  have e2 : IntKind.i64.max = 9223372036854775807 := by decide
  simp only [Lit.wf, e1, e2, Bool.and_eq_true, decide_eq_true_eq] at hw
  exact ⟨n, rfl, by omega, by omega⟩

theorem cell_i64 {w : World} {base : Nat} {sp : Nat → Bool} {held : Bool} {n : Nat} {v : Value} {y : DataW H × List MemPlace} (h : DataW.trod enc Tryz.prog w base sp held n 3 [v] = some y) : ∃ a : Int, v = .int .i64 a := by
  obtain ⟨k0, e1, _, _⟩ := DataW.trod_int Tryz.underlying3 h
  exact ⟨k0, by simpa using e1⟩
theorem open_list {W : World} {base : Nat} {v : Value} {d : DataW H} {p : List MemPlace} (hv : Value.okWide Tryz.prog W .any base 34 v) (h : DataW.Trod enc Tryz.prog W 0 (fun _ => true) true 34 v d p) :
    ∃ (A : Option Addr) (n c : Nat) (xs : List Int), v = .slice A n c ∧ n ≤ maxLen ∧ Reads W W.heap.size 1 A n (ints xs) := by
  obtain ⟨A, n, c, rfl⟩ := okWide_slice Tryz.underlying34 hv
  obtain ⟨fuel, hf⟩ := h
  rcases open_ints Tryz.underlying34 Tryz.underlying3 (by kernel_rfl) hf with ⟨hcs, hx⟩ | ⟨a, len, cap, zs, hcs, _, hl, hm, hz, hx, hcell, hwz⟩
  · simp [Value.cells] at hcs
    obtain ⟨rfl, rfl, rfl⟩ := hcs
    exact ⟨none, 0, 0, [], rfl, by unfold maxLen; omega, Reads.none_⟩
  · simp [Value.cells] at hcs
    obtain ⟨rfl, rfl, rfl⟩ := hcs
    simp only [if_true] at hz
    refine ⟨some a, n, c, zs.take n, rfl, by omega, by rw [ints_len, List.length_take]; omega, fun hn => ⟨a, rfl, ?_, fun j u hu => ?_⟩⟩
    · have h0 := hcell 0 (by omega)
      unfold World.cell? at h0
      rcases Nat.lt_or_ge (a.add 0).block W.heap.size with h | h
      · rwa [block_of_add] at h
      · rw [Array.getElem?_eq_none h] at h0; cases h0
    · obtain ⟨x, hx', rfl⟩ := ints_at hu
      rw [List.getElem?_take] at hx'
      split at hx'
      · have hj : j < zs.length := (List.getElem?_eq_some_iff.1 hx').1
        rw [hcell j hj]
        simp [List.getD, hx']
      · cases hx'
theorem open_cells4 {P : Program} {w : World} {base : Nat} {spare : Nat → Bool} {held : Bool} {t : TypeId} {f0 f1 f2 f3 : Field} {n : Nat} {cs : List Value} {x : DataW H × List MemPlace} (hs : P.underlying t = some (.struct #[f0, f1, f2, f3])) (hone : oneCellFields P #[f0, f1, f2, f3] = true)
    (hl : cs.length = 4) (h : DataW.trod enc P w base spare held n t cs = some x) :
    ∃ (v0 v1 v2 v3 : Value) (y0 y1 y2 y3 : DataW H × List MemPlace) (k : Nat), cs = [v0, v1, v2, v3] ∧
      DataW.trod enc P w base spare held k f0.type [v0] = some y0 ∧ DataW.trod enc P w base spare held k f1.type [v1] = some y1 ∧ DataW.trod enc P w base spare held k f2.type [v2] = some y2 ∧ DataW.trod enc P w base spare held k f3.type [v3] = some y3 := by
  match cs, hl with
  | [c0, c1, c2, c3], _ =>
    obtain ⟨xs, n, _, hx, _, hlen, hg⟩ := DataW.trod_struct hs h
    obtain ⟨o0, k0⟩ := hone_of hone 0 f0 rfl
    obtain ⟨o1, k1⟩ := hone_of hone 1 f1 rfl
    obtain ⟨o2, k2⟩ := hone_of hone 2 f2 rfl
    obtain ⟨o3, k3⟩ := hone_of hone 3 f3 rfl
    match xs, hlen with
    | [y0, y1, y2, y3], _ =>
      exact ⟨c0, c1, c2, c3, y0, y1, y2, y3, n, rfl, by simpa [o0, k0] using hg 0 f0 rfl, by simpa [o1, k1] using hg 1 f1 rfl, by simpa [o2, k2] using hg 2 f2 rfl, by simpa [o3, k3] using hg 3 f3 rfl⟩
theorem src_cells {W : World} {base : Nat} {sp : Nat → Bool} {held : Bool} {n : Nat} {cs : List Value} {x : DataW H × List MemPlace} (hl : cs.length = 4) (h : DataW.trod enc Tryz.prog W base sp held n 78 cs = some x) : ∃ s : Src, cs = srcCells s := by
  obtain ⟨v0, v1, v2, v3, y0, y1, y2, y3, n, rfl, h0, h1, h2, h3⟩ := open_cells4 Tryz.underlying78 (by kernel_rfl) hl h
  obtain ⟨a0, rfl⟩ := cell_i64 h0
  obtain ⟨a1, rfl⟩ := cell_i64 h1
  obtain ⟨a2, rfl⟩ := cell_i64 h2
  obtain ⟨a3, rfl⟩ := cell_i64 h3
  exact ⟨⟨a0, a1, a2, a3⟩, rfl⟩
theorem open_srcs {W : World} {base : Nat} {v : Value} {d : DataW H} {p : List MemPlace} (hv : Value.okWide Tryz.prog W .any base 22 v) (h : DataW.Trod enc Tryz.prog W 0 (fun _ => true) true 22 v d p) :
    ∃ (A : Option Addr) (n c : Nat) (l : List Src), v = .slice A n c ∧ n ≤ maxLen ∧ Reads W W.heap.size 4 A n (srcs l) := by
  obtain ⟨A, n, c, rfl⟩ := okWide_slice Tryz.underlying22 hv
  obtain ⟨fuel, hf⟩ := h
  have ce : (Tryz.prog).cellsOf 78 = 4 := by kernel_rfl
  rcases open_slice Tryz.underlying22 hf with ⟨hcs, hx⟩ | ⟨a, len, cap, m, k, D, Pl, hcs, hb, hl, hm, hmm, hx0, hx⟩
  · simp [Value.cells] at hcs
    obtain ⟨rfl, rfl, rfl⟩ := hcs
    exact ⟨none, 0, 0, [], rfl, by unfold maxLen; omega, Reads.none_⟩
  · simp [Value.cells] at hcs
    obtain ⟨rfl, rfl, rfl⟩ := hcs
    simp only [if_true] at hmm
    have each : ∀ i, i < n → ∃ s : Src, ∀ j u, (srcCells s)[j]? = some u → W.cell? (a.add (i * 4 + j)) = some u := by
      intro i hi
      obtain ⟨cs', g1, g2⟩ := hx i (by omega)
      rw [ce] at g1
      obtain ⟨_, hlen, hcell⟩ := World.cells?_some g1
      obtain ⟨s, rfl⟩ := src_cells hlen g2
      refine ⟨s, fun j u hj => ?_⟩
      have hj4 : j < 4 := by rw [← hlen]; exact (List.getElem?_eq_some_iff.1 hj).1
      have := hcell j (by omega)
      rw [add_add] at this
      rw [this]
      exact hj
    haveI : Inhabited Src := ⟨⟨0, 0, 0, 0⟩⟩
    obtain ⟨q, hq⟩ := choose_lt each
    have hql : ∀ i, i < n → ((List.range n).map q)[i]? = some (q i) := fun i hi => by simp [hi]
    refine ⟨some a, n, c, (List.range n).map q, rfl, by omega, by rw [srcs_len]; simp, fun hn => ⟨a, rfl, ?_, fun j u hu => ?_⟩⟩
    · have h0 := hq 0 hn 0 _ rfl
      unfold World.cell? at h0
      rcases Nat.lt_or_ge (a.add (0 * 4 + 0)).block W.heap.size with h | h
      · rwa [block_of_add] at h
      · rw [Array.getElem?_eq_none h] at h0; cases h0
    · have hj : j < n * 4 := by
        have := (List.getElem?_eq_some_iff.1 hu).1
        rw [srcs_len] at this; simpa using this
      have e : j / 4 * 4 + j % 4 = j := by omega
      have := srcs_at (hql (j / 4) (by omega)) (show j % 4 < 4 by omega)
      rw [e] at this
      rw [this] at hu
      have := hq (j / 4) (by omega) (j % 4) u hu
      rwa [e] at this

theorem open_u8 {W : World} {base : Nat} {v : Value} {d : DataW H} {p : List MemPlace} (hv : Value.okWide Tryz.prog W .any base 5 v) (h : DataW.Trod enc Tryz.prog W 0 (fun _ => true) true 5 v d p) :
    ∃ n : Int, v = .int .u8 n ∧ 0 ≤ n ∧ n ≤ 255 := by
  obtain ⟨n, rfl, _, _, hw⟩ := open_int Tryz.underlying5 hv h
  have e1 : IntKind.u8.min = 0 := by decide
  have e2 : IntKind.u8.max = 255 := by decide
  simp only [Lit.wf, e1, e2, Bool.and_eq_true, decide_eq_true_eq] at hw
  exact ⟨n, rfl, by omega, by omega⟩
theorem open_arrG {α : Type} [Inhabited α] (f : α → Value) {t e : TypeId} {k : Nat} (hu : Tryz.prog.underlying t = some (.array k e)) (he1 : Tryz.prog.cellsOf e = 1) (hc : Tryz.prog.cellsOf t = k) {W : World} {base : Nat} {v : Value} {d : DataW H} {p : List MemPlace}
    (he : ∀ (n : Nat) (c : Value) (y : DataW H × List MemPlace), DataW.trod enc Tryz.prog W 0 (fun _ => true) true n e [c] = some y → ∃ a : α, c = f a)
    (hv : Value.okWide Tryz.prog W .any base t v) (h : DataW.Trod enc Tryz.prog W 0 (fun _ => true) true t v d p) : ∃ xs : List α, xs.length = k ∧ v = .agg (xs.map f).toArray := by
  have hv' := hv
  simp only [Value.okWide, hu] at hv'
  obtain ⟨cs, rfl, hsz, _⟩ := hv'
  obtain ⟨l⟩ := cs
  have hsz : l.length = k := hsz.trans hc
  obtain ⟨fuel, hf⟩ := h
  obtain ⟨ys, n, _, hx, hl, hn, hel⟩ := DataW.trod_array hu (by simpa [Value.cells] using hf)
  have each : ∀ i, i < k → ∃ a : α, l[i]? = some (f a) := by
    intro i hi
    have h1 := hel i hi
    obtain ⟨c, hc'⟩ : ∃ c, l[i]? = some c := ⟨_, List.getElem?_eq_getElem (by omega)⟩
    have h2 : (l.drop (i * 1)).take 1 = [c] := by
      rw [Nat.mul_one, List.take_one, List.head?_drop, hc']; rfl
    rw [he1, h2] at h1
    obtain ⟨y, hy⟩ : ∃ y, ys[i]? = some y := ⟨_, List.getElem?_eq_getElem (by omega)⟩
    rw [hy] at h1
    obtain ⟨a, rfl⟩ := he _ _ _ h1
    exact ⟨a, hc'⟩
  obtain ⟨q, hq⟩ := choose_lt each
  refine ⟨(List.range k).map q, by simp, ?_⟩
  congr 1
  apply congrArg List.toArray
  apply List.ext_getElem?
  intro i
  by_cases hi : i < k
  · rw [hq i hi]; simp [hi]
  · rw [List.getElem?_eq_none (by omega), List.getElem?_eq_none (by simp; omega)]
theorem open_arr3 {W : World} {base : Nat} {v : Value} {d : DataW H} {p : List MemPlace} (hv : Value.okWide Tryz.prog W .any base 23 v) (h : DataW.Trod enc Tryz.prog W 0 (fun _ => true) true 23 v d p) : ∃ a b c : Int, v = .agg #[.int .i64 a, .int .i64 b, .int .i64 c] := by
  obtain ⟨xs, hl, rfl⟩ := open_arrG (Value.int .i64) Tryz.underlying23 (by kernel_rfl) (by kernel_rfl) (fun _ _ _ h => cell_i64 h) hv h
  match xs, hl with
  | [a, b, c], _ => exact ⟨a, b, c, rfl⟩
end
end Go.Proofs.YtcihiglpahhboaaGreatDoor
