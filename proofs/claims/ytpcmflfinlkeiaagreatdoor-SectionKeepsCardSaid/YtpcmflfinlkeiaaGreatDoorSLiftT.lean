/- The laid variables of the laws on texts: the sentinels, a pinned table, and a variable that stays open. -/
import Derived.Test.YtpcmflfinlkeiaaGreatDoorSLift
import Derived.HandedShaped
import Derived.Lay
import Derived.Stop.LaidErr
import Derived.Shelf.Vars
import Derived.Lib.LaidU8
import Derived.ChangeMaps
namespace Go.Proofs.YtpcmflfinlkeiaaGreatDoor
open Go.ChangeShapes Go.WideShapes Go.ChangeAt Go.WideElems Go.RowKit
set_option maxRecDepth 100000
/-- The wrap of a law, with what is laid and with the world's shape. -/
theorem returnsInHanded_andS {H : Type} {enc : TypeId × Value → H} {a : Assume} {C : Checked} {os : Os} {f : FuncId} {fn : Func} {s : ChangeSpec} {conds : List PathCond} {apart fresh handsOn again : Bool} {X : World → Array Value → Prop}
    (hX : ∀ (w w' : World) (args : Array Value), w.heap = w'.heap → X w args → X w' args)
    (own : ownKnob C.prog.godebug = none) (started : os.Started) (noInit : C.prog.inits.idxOf? f = none) (hfn : C.prog.funcs[f]? = some fn)
    (witness : ∃ (w : World) (tape : Tape) (i : Input), w.os = os ∧ (w.forCall tape i).Shaped C.prog ∧ i.vars = [] ∧ Input.okWide C.prog (w.forCall tape i) .any w.heap.size f i ∧
      ((s.pre enc C.prog fn conds apart (w.forCall tape i).memory i.args ∧ X (w.forCall tape i).memory i.args) ∧ sizedMet enc C.prog fn (OpenSpec.ofChange s) apart (w.forCall tape i).memory i.args) ∧ a.holds C.prog (lone (Frame.enter C.prog f i.args .normal) [] (w.forCall tape i)))
    (contract : ∀ (W : World) (base : Nat) (args : Array Value) (ds gs : List (DataW H)) (before : List MemPlace),
      (∀ (j : Nat) t v, fn.params[j]? = some t → args[j]? = some v → Value.okWide C.prog W .any base t v) →
      DataW.Whole enc C.prog fn.params.toList s.vars apart W args.toList ds gs before → X W args → W.ShapedOpen C.prog →
      Calls C.prog f args W fun e W' => ∃ v, e = .returned v ∧ s.post enc C.prog fn apart fresh handsOn again W args v W') :
    ReturnsInHanded a C os f .any (fun w args => (s.pre enc C.prog fn conds apart w args ∧ X w args) ∧ sizedMet enc C.prog fn (OpenSpec.ofChange s) apart w args) (s.post enc C.prog fn apart fresh handsOn again) := by
  refine returnsInHanded_of_calls own started noInit witness ?_
  intro w tape i _ hsh _ hok hpre hholds
  obtain ⟨_, _, _, fn', hfn', _, _, _, _, hval⟩ := hok
  have e : fn' = fn := Option.some.inj (hfn'.symm.trans hfn)
  subst e
  obtain ⟨⟨⟨ds, gs, before, hw, hc⟩, hx⟩, hz⟩ := hpre
  have hw' := DataW.Whole.of_heap (w' := w.forCall tape i) (by rfl) hw
  refine (contract (w.forCall tape i) w.heap.size i.args ds gs before hval hw' (hX _ _ _ (by rfl) hx) hsh).mono fun e W' ⟨v, he, hp⟩ => ?_
  subst he
  exact ChangeSpec.post_blind hp
abbrev layT : List (String × DataW Unit) := [("math/bits.deBruijn32tab", Rows.laid_math_bits_deBruijn32tab), ("math/bits.deBruijn64tab", Rows.laid_math_bits_deBruijn64tab), ("internal/strconv.uint64pow10", Rows.laid_internal_strconv_uint64pow10), ("unicode/utf8.acceptRanges", Rows.laid_unicode_utf8_acceptRanges), ("strconv.ErrRange", Rows.laid_strconv_ErrRange), ("strconv.ErrSyntax", Rows.laid_strconv_ErrSyntax), ("woofer/section.powers", Rows.laid_woofer_section_powers), ("unicode/utf8.first", Rows.laid_unicode_utf8_first)]
theorem met_T (os : Os) (args : Array Value) : laidMetH Tryz.prog layT ((World.laidAll Tryz.prog os layT).forCall (fun _ _ => 0) ⟨#[], args, []⟩).memory := by
  rw [MakeChecks.laidMetH_plain _ _ _ (by kernel_rfl)]
  exact laidMet_laidAll _ (by kernel_rfl) (by kernel_rfl)
theorem var_ltS {W : World} {name : String} {g : Nat} {cs : Array Value} (hg : Tryz.prog.globalNamed name = some g) (hv : W.var? Tryz.prog name = some cs) : g < W.heap.size := by
  unfold World.var? at hv
  rw [hg] at hv
  simp only [Option.bind_some] at hv
  rcases Nat.lt_or_ge g W.heap.size with h | h
  · exact h
  · rw [Array.getElem?_eq_none h] at hv; cases hv
theorem vars_reads {W : World} (h : ∀ n d, (n, d) ∈ layT → Lib.VarReads Tryz.prog W n d) : Pow W ∧ Tens W := by
  obtain ⟨g2, t2, cs2, f2, p2, hg2, ht2, hv2, hd2⟩ := h "internal/strconv.uint64pow10" Rows.laid_internal_strconv_uint64pow10 (by simp [layT])
  obtain ⟨g3, t3, cs3, f3, p3, hg3, ht3, hv3, hd3⟩ := h "woofer/section.powers" Rows.laid_woofer_section_powers (by simp [layT])
  have e2 : Tryz.prog.globalNamed "internal/strconv.uint64pow10" = some 2 := by kernel_rfl
  have e3 : Tryz.prog.globalNamed "woofer/section.powers" = some 0 := by kernel_rfl
  have y2 : (Tryz.prog.globals[2]?).map (·.type) = some 166 := by kernel_rfl
  have y3 : (Tryz.prog.globals[0]?).map (·.type) = some 148 := by kernel_rfl
  obtain rfl := Option.some.inj (e2.symm.trans hg2)
  obtain rfl := Option.some.inj (e3.symm.trans hg3)
  obtain rfl := Option.some.inj (y2.symm.trans ht2)
  obtain rfl := Option.some.inj (y3.symm.trans ht3)
  refine ⟨⟨var_ltS e3 hv3, ?_⟩, ⟨var_ltS e2 hv2, ?_⟩⟩
  · obtain ⟨xs, m, _, hx, hl, hn, hel⟩ := DataW.trod_array Tryz.underlying148 hd3
    have c57 : Tryz.prog.cellsOf 66 = 2 := by kernel_rfl
    have c156 : Tryz.prog.cellsOf 148 = 8 := by kernel_rfl
    rw [c156] at hl
    have h0 := hel 0 (by decide)
    have h1 := hel 1 (by decide)
    have h2 := hel 2 (by decide)
    have h3 := hel 3 (by decide)
    rw [c57] at h0 h1 h2 h3
    simp only [Prod.mk.injEq, Rows.laid_woofer_section_powers, DataW.agg.injEq] at hx
    obtain ⟨l3⟩ := cs3
    match l3, hl, xs, hn, hx, h0, h1, h2, h3 with
    | [v0, v1, v2, v3, v4, v5, v6, v7], _, [x0, x1, x2, x3], _, hx, h0, h1, h2, h3 =>
      simp only [List.map_cons, List.map_nil, List.cons.injEq, and_true] at hx
      simp only [Nat.zero_mul, Nat.one_mul, Nat.reduceMul, List.drop_zero, List.drop_succ_cons, List.take_succ_cons, List.take_zero, List.getElem?_cons_zero, List.getElem?_cons_succ] at h0 h1 h2 h3
      obtain ⟨d0, q0⟩ := x0
      obtain ⟨d1, q1⟩ := x1
      obtain ⟨d2, q2⟩ := x2
      obtain ⟨d3, q3⟩ := x3
      obtain ⟨⟨z0, z1, z2, z3⟩, _⟩ := hx
      simp only at z0 z1 z2 z3
      subst z0; subst z1; subst z2; subst z3
      obtain ⟨rfl, rfl⟩ := gauss_two h0
      obtain ⟨rfl, rfl⟩ := gauss_two h1
      obtain ⟨rfl, rfl⟩ := gauss_two h2
      obtain ⟨rfl, rfl⟩ := gauss_two h3
      intro j x hj
      have := World.var?_cell e3 hv3 j
      rw [this]
      simp only [powRow] at hj
      rcases j with _ | _ | _ | _ | _ | _ | _ | _ | j <;> simp at hj <;> subst hj <;> rfl
  · have hc := Lib.cells_of_tab (zs := Lib.pow10Tab) (k := .u64) Tryz.underlying166 Tryz.underlying157 (by kernel_rfl) (by kernel_rfl) hd2
    unfold Lib.TabIs
    rw [hv2, ← hc]
theorem starE : "*" ++ "errors.errorString" = "*errors.errorString" := by decide
theorem rowE (u : TypeId) (h : Tryz.prog.typeName? 3 u = some "*errors.errorString") : u = 191 :=
  typeName_ptr_named (nm := "errors.errorString") (by rw [starE]; kernel_rfl) (by kernel_rfl) (by decide) u (by rw [starE]; exact h)
theorem ztype_int {P : Program} {g : Nat} {t : TypeId} (h : (((begin P (fun _ _ => 0) default).world.heap[g]?).bind Obj.row?).map (fun x => (x.1.size, x.2)) = some (1, t)) : ∃ zero, ((begin P (fun _ _ => 0) default).world.heap[g]?).bind Obj.row? = some (zero, t) ∧ Array.size zero = 1 := by
  obtain ⟨⟨z, t'⟩, h1, h2⟩ := Option.map_eq_some_iff.1 h
  injection h2 with h3 h4
  exact ⟨z, by rw [h1, ← h4], h3⟩
theorem vars_ofT {W : World} (hL : laidMetH Tryz.prog layT W) (hsh : W.ShapedOpen Tryz.prog) : VarsT W := by
  rw [MakeChecks.laidMetH_plain _ _ _ (by kernel_rfl)] at hL
  have hN := vars_reads fun n d hm => Lib.laidMet.reads hL hm
  have er : Tryz.prog.globalNamed "strconv.ErrRange" = some 4 := by kernel_rfl
  have es : Tryz.prog.globalNamed "strconv.ErrSyntax" = some 3 := by kernel_rfl
  obtain ⟨a1, s1, v1, _⟩ := laid_sentinel (ti := 90) (tp := 191) (te := 193) (ts := 9) hL.tail.tail.tail.tail er (by kernel_rfl) Tryz.underlying90 rowE Tryz.underlying191 Tryz.underlying193 rfl rfl Tryz.underlying9 (by kernel_rfl) (by kernel_rfl)
  obtain ⟨a2, s2, v2, _⟩ := laid_sentinel (ti := 90) (tp := 191) (te := 193) (ts := 9) hL.tail.tail.tail.tail.tail es (by kernel_rfl) Tryz.underlying90 rowE Tryz.underlying191 Tryz.underlying193 rfl rfl Tryz.underlying9 (by kernel_rfl) (by kernel_rfl)
  obtain ⟨z, hz, hz1⟩ := ztype_int (P := Tryz.prog) (g := 1) (t := 3) (by kernel_rfl)
  obtain ⟨m, hm⟩ := cell_of_shapedOpen_int hsh (g := 1) (of_decide_eq_true (by kernel_rfl)) hz hz1 (by kernel_rfl) (by kernel_rfl) Tryz.underlying3
  refine ⟨hN.1, ⟨hN.2, var_ltS er v1, ⟨_, _, World.var?_cell er v1 0⟩, var_ltS es v2, ⟨_, _, World.var?_cell es v2 0⟩, ?_, ⟨m, hm⟩⟩⟩
  unfold World.cell? at hm
  cases hh : W.heap[1]? with
  | none => simp [hh] at hm
  | some o => exact (Array.getElem?_eq_some_iff.1 hh).1
end Go.Proofs.YtpcmflfinlkeiaaGreatDoor
