/- The law TopSpiderCircuit. -/
import Derived.Test.YthlnmoecmicofaaDoorNCirF
import Derived.Test.YthlnmoecmicofaaDoorNCirc
import Derived.Test.YthlnmoecmicofaaDoorNJoin
import Derived.Test.YthlnmoecmicofaaDoorNFin2
import Derived.Test.YthlnmoecmicofaaDoorSplitA
import Derived.Test.YthlnmoecmicofaaDoorNCopy
import Derived.Deep.DeepCutAuto
namespace Go.Proofs.YthlnmoecmicofaaDoor
open Go.RowKit Go.Shelf
set_option maxRecDepth 100000
theorem blkE1 {w : World} {g : Nat} {t : TypeId} {x : El} (h : Blk w g t #[.string x.kind, .int .i64 x.a, .int .i64 x.b]) : Reads w w.heap.size 3 (some ⟨g, 0, none⟩) 1 (els [x]) := by
  refine ⟨rfl, fun _ => ⟨_, rfl, h.lt, fun j u hu => ?_⟩⟩
  have : (⟨g, 0, none⟩ : Addr).add j = ⟨g, j, none⟩ := by unfold Addr.add; split <;> simp_all
  rw [this, h.cell]
  simpa [els, elCells] using hu
set_option maxHeartbeats 8000000 in
theorem lawCir_bad1 (d : Drv) (x' : El) (f : Int) (w : World) (hC : Con w) (hL : Lim w) (h1 : (d.err != 0) = true) :
    Calls Tryd.prog 5 #[.agg #[.int .i64 d.re, .int .i64 d.le, .int .i64 d.bl, .int .i64 d.ms, .int .i64 d.st, .int .i64 d.ls], .agg #[.string x'.kind, .int .i64 x'.a, .int .i64 x'.b], .int .i64 f] w fun e w' => e = .returned (.bool true) ∧ Below w.heap.size w w' := by
  go_enter Tryd.func5, Tryd.ntmps5
  go_upto_region 1 with (fail)
  obtain ⟨w1, e1, hb1, hz1, k0, kE⟩ := box2 w #[.int .i64 d.re, .int .i64 d.le, .int .i64 d.bl, .int .i64 d.ms, .int .i64 d.st, .int .i64 d.ls] #[.string x'.kind, .int .i64 x'.a, .int .i64 x'.b] 24 53
  rw [← e1]; clear e1
  go_wp2_with fail
  refine (circ_any _ (hC.carry hb1) (hL.carry hb1)).mono ?_
  rintro e w2 ⟨rfl, hb2⟩
  have c0 := (carryK (w' := w2) k0 (by repeat (first | with_reducible assumption | exact Below.refl _ _ | refine below_next (by with_reducible assumption) ?_))).cell
  go_wp2_with fail
  refine (rCheckDriver_any d _).mono ?_
  rintro e w3 ⟨rfl, hb3⟩
  clear c0
  go_wp2_with fail
  refine (circ_any _ (hC.carry (by repeat (first | with_reducible assumption | exact Below.refl _ _ | refine below_next (by with_reducible assumption) ?_))) (hL.carry (by repeat (first | with_reducible assumption | exact Below.refl _ _ | refine below_next (by with_reducible assumption) ?_)))).mono ?_
  rintro e wz ⟨rfl, hbz⟩
  go_wp2_with fail
  go_ret
  exact ⟨rfl, (by repeat (first | with_reducible assumption | exact Below.refl _ _ | refine below_next (by with_reducible assumption) ?_))⟩
set_option maxHeartbeats 8000000 in
theorem lawCir_bad2 (d : Drv) (x' : El) (f : Int) (w : World) (hC : Con w) (hL : Lim w) (h1 : (d.err != 0) = false) (h2 : (ladErr [x'] != 0) = true) :
    Calls Tryd.prog 5 #[.agg #[.int .i64 d.re, .int .i64 d.le, .int .i64 d.bl, .int .i64 d.ms, .int .i64 d.st, .int .i64 d.ls], .agg #[.string x'.kind, .int .i64 x'.a, .int .i64 x'.b], .int .i64 f] w fun e w' => e = .returned (.bool true) ∧ Below w.heap.size w w' := by
  go_enter Tryd.func5, Tryd.ntmps5
  go_upto_region 1 with (fail)
  obtain ⟨w1, e1, hb1, hz1, k0, kE⟩ := box2 w #[.int .i64 d.re, .int .i64 d.le, .int .i64 d.bl, .int .i64 d.ms, .int .i64 d.st, .int .i64 d.ls] #[.string x'.kind, .int .i64 x'.a, .int .i64 x'.b] 24 53
  rw [← e1]; clear e1
  go_wp2_with fail
  refine (circ_any _ (hC.carry hb1) (hL.carry hb1)).mono ?_
  rintro e w2 ⟨rfl, hb2⟩
  have c0 := (carryK (w' := w2) k0 (by repeat (first | with_reducible assumption | exact Below.refl _ _ | refine below_next (by with_reducible assumption) ?_))).cell
  go_wp2_with fail
  refine (rCheckDriver_any d _).mono ?_
  rintro e w3 ⟨rfl, hb3⟩
  clear c0
  have cE := (carryK (w' := w3) kE (by repeat (first | with_reducible assumption | exact Below.refl _ _ | refine below_next (by with_reducible assumption) ?_))).cell
  go_wp2_with fail
  obtain ⟨w4, e4, hb4, hz4, kL⟩ := box1 w3 #[.string x'.kind, .int .i64 x'.a, .int .i64 x'.b] 53
  rw [← e4]; clear e4
  refine (rCheckLadder_any (some ⟨w3.heap.size, 0, none⟩) 1 1 [x'] _ (blkE1 kL) (by omega)).mono ?_
  rintro e w5 ⟨rfl, hb5⟩
  clear cE
  go_wp2_with fail
  refine (circ_any _ (hC.carry (by repeat (first | with_reducible assumption | exact Below.refl _ _ | refine below_next (by with_reducible assumption) ?_))) (hL.carry (by repeat (first | with_reducible assumption | exact Below.refl _ _ | refine below_next (by with_reducible assumption) ?_)))).mono ?_
  rintro e wz ⟨rfl, hbz⟩
  go_wp2_with fail
  go_ret
  exact ⟨rfl, (by repeat (first | with_reducible assumption | exact Below.refl _ _ | refine below_next (by with_reducible assumption) ?_))⟩
set_option maxHeartbeats 8000000 in
theorem lawCir_bad3 (d : Drv) (x' : El) (f : Int) (w : World) (hC : Con w) (hL : Lim w) (h1 : (d.err != 0) = false) (h2 : (ladErr [x'] != 0) = false) (h3 : (rng f 1 8 != 0) = true) :
    Calls Tryd.prog 5 #[.agg #[.int .i64 d.re, .int .i64 d.le, .int .i64 d.bl, .int .i64 d.ms, .int .i64 d.st, .int .i64 d.ls], .agg #[.string x'.kind, .int .i64 x'.a, .int .i64 x'.b], .int .i64 f] w fun e w' => e = .returned (.bool true) ∧ Below w.heap.size w w' := by
  go_enter Tryd.func5, Tryd.ntmps5
  go_upto_region 1 with (fail)
  obtain ⟨w1, e1, hb1, hz1, k0, kE⟩ := box2 w #[.int .i64 d.re, .int .i64 d.le, .int .i64 d.bl, .int .i64 d.ms, .int .i64 d.st, .int .i64 d.ls] #[.string x'.kind, .int .i64 x'.a, .int .i64 x'.b] 24 53
  rw [← e1]; clear e1
  go_wp2_with fail
  refine (circ_any _ (hC.carry hb1) (hL.carry hb1)).mono ?_
  rintro e w2 ⟨rfl, hb2⟩
  have c0 := (carryK (w' := w2) k0 (by repeat (first | with_reducible assumption | exact Below.refl _ _ | refine below_next (by with_reducible assumption) ?_))).cell
  go_wp2_with fail
  refine (rCheckDriver_any d _).mono ?_
  rintro e w3 ⟨rfl, hb3⟩
  clear c0
  have cE := (carryK (w' := w3) kE (by repeat (first | with_reducible assumption | exact Below.refl _ _ | refine below_next (by with_reducible assumption) ?_))).cell
  go_wp2_with fail
  obtain ⟨w4, e4, hb4, hz4, kL⟩ := box1 w3 #[.string x'.kind, .int .i64 x'.a, .int .i64 x'.b] 53
  rw [← e4]; clear e4
  refine (rCheckLadder_any (some ⟨w3.heap.size, 0, none⟩) 1 1 [x'] _ (blkE1 kL) (by omega)).mono ?_
  rintro e w5 ⟨rfl, hb5⟩
  clear cE
  go_wp2_with fail
  refine (rCheckW3_any f _).mono ?_
  rintro e W' ⟨rfl, rfl⟩
  go_wp2_with fail
  refine (circ_any _ (hC.carry (by repeat (first | with_reducible assumption | exact Below.refl _ _ | refine below_next (by with_reducible assumption) ?_))) (hL.carry (by repeat (first | with_reducible assumption | exact Below.refl _ _ | refine below_next (by with_reducible assumption) ?_)))).mono ?_
  rintro e wz ⟨rfl, hbz⟩
  go_wp2_with fail
  go_ret
  exact ⟨rfl, (by repeat (first | with_reducible assumption | exact Below.refl _ _ | refine below_next (by with_reducible assumption) ?_))⟩
theorem quo_ne {a c : G} (h : ¬ c = .zero) : quo a c = ⟨a, c⟩ := by unfold quo; rw [if_neg h]
theorem quoE_ne {c : G} (h : ¬ c = .zero) : quoE c = 0 := by unfold quoE; rw [if_neg h]
/-- What the callees say, of one of the two rounds, by name. -/
structure CirK (s : Drv) (f : Int) (x' : El) (k : Nat) (X : Mat) (N M a c v LN LD yA yC : G) : Prop where
  fac : Cir f X N M a c v LN LD yA yC
  inp : ∀ A cp W, Con W → Reads W W.heap.size 3 A (2 + k) (els (lad s k)) → Calls Tryd.prog 31 #[.slice A (2 + k) cp, .int .i64 f] W fun e W' => e = .returned (.tuple #[.agg #[.int .i64 (⟨a, c⟩ : Pr).n.re, .int .i64 (⟨a, c⟩ : Pr).n.im, .int .i64 (⟨a, c⟩ : Pr).d.re, .int .i64 (⟨a, c⟩ : Pr).d.im], .int .i64 0]) ∧ Below W.heap.size W W'
  tra : ∀ A cp W, Con W → Reads W W.heap.size 3 A (2 + k) (els (lad s k)) → Calls Tryd.prog 33 #[.slice A (2 + k) cp, .int .i64 f] W fun e W' => e = .returned (.tuple #[.agg #[.int .i64 (⟨v, a⟩ : Pr).n.re, .int .i64 (⟨v, a⟩ : Pr).n.im, .int .i64 (⟨v, a⟩ : Pr).d.re, .int .i64 (⟨v, a⟩ : Pr).d.im], .int .i64 0]) ∧ Below W.heap.size W W'
  joi : ∀ A cp B cq W, Reads W W.heap.size 3 A 1 (els [x']) → Reads W W.heap.size 3 B (2 + k) (els (lad s k)) → Calls Tryd.prog 35 #[.slice A 1 cp, .slice B (2 + k) cq] W fun e W' => ∃ D cd, e = .returned (.tuple #[.slice D (3 + k) cd, .int .i64 0]) ∧ Reads W' W'.heap.size 3 D (3 + k) (els (x' :: lad s k)) ∧ Below W.heap.size W W'
  chn : ∀ A cp W, Con W → Reads W W.heap.size 3 A 1 (els [x']) → Calls Tryd.prog 12 #[.slice A 1 cp, .int .i64 f] W fun e W' => e = .returned (.tuple #[.agg #[.int .i64 X.a.re, .int .i64 X.a.im, .int .i64 X.b.re, .int .i64 X.b.im, .int .i64 X.c.re, .int .i64 X.c.im, .int .i64 X.d.re, .int .i64 X.d.im], .int .i64 0]) ∧ Below W.heap.size W W'
  iny : ∀ A cp W, Con W → Reads W W.heap.size 3 A (3 + k) (els (x' :: lad s k)) → Calls Tryd.prog 31 #[.slice A (3 + k) cp, .int .i64 f] W fun e W' => e = .returned (.tuple #[.agg #[.int .i64 (quo yA yC).n.re, .int .i64 (quo yA yC).n.im, .int .i64 (quo yA yC).d.re, .int .i64 (quo yA yC).d.im], .int .i64 (quoE yC)]) ∧ Below W.heap.size W W'
theorem at_ofC {l : List El} {f : Int} (h : LadOk l) (h1 : 1 ≤ f) (h8 : f ≤ 8) : atErr l f = 0 := by
  unfold atErr
  rw [fnz_zero]
  simp [ok_lad h, rng_zero, h1, h8]
theorem cirK_of {s : Drv} (hs : s.Sm) {x' : El} (hx : x'.Ok) {f : Int} (h1 : 1 ≤ f) (h8 : f ≤ 8) {k : Nat} (hk : k = 1 ∨ k = 2) :
    ∃ X a c v LN LD yA yC, CirK s f x' k X ((s.st_ k).num f) ((s.st_ k).mech f) a c v LN LD yA yC := by
  obtain ⟨LN, LD, F⟩ := cir_facts hs hx h1 h8 hk
  have ho := lad_okD hs hk
  have ho1 : LadOk [x'] := ⟨by simp, fun y hy => by simp at hy; subst hy; exact hx⟩
  have hoy : LadOk (x' :: lad s k) := ⟨by unfold lad; simp; omega, fun y hy => by rcases List.mem_cons.1 hy with rfl | hy; exact hx; exact ho.all y hy⟩
  refine ⟨_, _, _, _, LN, LD, _, _, ⟨F, fun A cp W hC hR => ?_, fun A cp W hC hR => ?_, fun A cp B cq W hR hS => ?_, fun A cp W hC hR => ?_, fun A cp W hC hR => ?_⟩⟩
  · have := Input_ok (lad s k) f A (2 + k) cp W hC (at_ofC ho h1 h8) (by omega) hR
    rw [quo_ne F.nc, quoE_ne F.nc] at this
    exact this
  · have := Transfer_ok (lad s k) f A (2 + k) cp W hC (at_ofC ho h1 h8) (by omega) hR
    rw [quo_ne F.na, quoE_ne F.na] at this
    exact this
  · have := Join_ok A 1 cp [x'] B (2 + k) cq (lad s k) W hR hS (ok_lad ho1) (ok_lad ho) (by omega)
    rw [show 1 + (2 + k) = 3 + k by omega] at this
    exact this
  · exact Chain_ok [x'] f A 1 cp W hC (at_ofC ho1 h1 h8) (by omega) hR
  · exact Input_ok (x' :: lad s k) f A (3 + k) cp W hC (at_ofC hoy h1 h8) (by omega) hR
theorem Drv.sm_err {d : Drv} (h : d.Sm) {f : Int} (h1 : 1 ≤ f) (h8 : f ≤ 8) : (d.st_ 1).atE f = 0 := by
  have := h.re1; have := h.re2; have := h.le1; have := h.le2; have := h.ms1; have := h.ms2; have := h.ls1; have := h.ls2
  unfold Drv.atE Drv.err Drv.errs
  rw [fnz_zero]
  simp only [List.mem_cons, List.not_mem_nil, or_false, forall_eq_or_imp, forall_eq, fnz_zero, rng_zero, Drv.st_]
  omega
/-- The drivers of both rounds. -/
structure CirD (s : Drv) (f : Int) (N M P Q : G) : Prop where
  imp : ∀ W, Lim W → Calls Tryd.prog 11 #[.agg #[.int .i64 s.re, .int .i64 s.le, .int .i64 s.bl, .int .i64 s.ms, .int .i64 s.st, .int .i64 s.ls], .int .i64 f] W fun e W' => e = .returned (.tuple #[.agg #[.int .i64 (⟨N, M⟩ : Pr).n.re, .int .i64 (⟨N, M⟩ : Pr).n.im, .int .i64 (⟨N, M⟩ : Pr).d.re, .int .i64 (⟨N, M⟩ : Pr).d.im], .int .i64 0]) ∧ Below W.heap.size W W'
  exc : ∀ W, Lim W → Calls Tryd.prog 28 #[.agg #[.int .i64 s.re, .int .i64 s.le, .int .i64 s.bl, .int .i64 s.ms, .int .i64 s.st, .int .i64 s.ls], .int .i64 f] W fun e W' => e = .returned (.tuple #[.agg #[.int .i64 (⟨⟨1, 0⟩, N⟩ : Pr).n.re, .int .i64 (⟨⟨1, 0⟩, N⟩ : Pr).n.im, .int .i64 (⟨⟨1, 0⟩, N⟩ : Pr).d.re, .int .i64 (⟨⟨1, 0⟩, N⟩ : Pr).d.im], .int .i64 0]) ∧ Below W.heap.size W W'
  box : ∀ W, Lim W → Calls Tryd.prog 29 #[.agg #[.int .i64 s.re, .int .i64 s.le, .int .i64 s.bl, .int .i64 s.ms, .int .i64 s.st, .int .i64 s.ls], .agg #[.int .i64 1, .int .i64 0, .int .i64 0, .int .i64 0], .int .i64 f] W fun e W' => e = .returned (.tuple #[.agg #[.int .i64 (⟨P, Q⟩ : Pr).n.re, .int .i64 (⟨P, Q⟩ : Pr).n.im, .int .i64 (⟨P, Q⟩ : Pr).d.re, .int .i64 (⟨P, Q⟩ : Pr).d.im], .int .i64 0]) ∧ Below W.heap.size W W'
  mov : ∀ W, Lim W → Calls Tryd.prog 30 #[.agg #[.int .i64 s.re, .int .i64 s.le, .int .i64 s.bl, .int .i64 s.ms, .int .i64 s.st, .int .i64 s.ls], .agg #[.int .i64 1, .int .i64 0, .int .i64 0, .int .i64 0], .int .i64 f] W fun e W' => e = .returned (.tuple #[.agg #[.int .i64 1, .int .i64 0, .int .i64 P.re, .int .i64 P.im, .int .i64 0, .int .i64 0, .int .i64 1, .int .i64 0], .int .i64 0]) ∧ Below W.heap.size W W'
theorem cirD_of (d : Drv) {f : Int} (h1 : 1 ≤ f) (h8 : f ≤ 8) : CirD d.small f ((d.small.st_ 1).num f) ((d.small.st_ 1).mech f) ((d.small.st_ 2).num f) ((d.small.st_ 2).mech f) := by
  have hs := d.small_sm
  have he : d.small.atE f = 0 := Drv.sm_err hs h1 h8
  have hu : d.small.up.Ok := Drv.st_ok hs (k := 2) (.inr rfl)
  exact ⟨fun W hL => DrImpedance_ok d.small f W hL he, fun W hL => DrExcursion_ok d.small f W hL he, fun W hL => DrBoxed_ok d.small f W hL he hu, fun W hL => DrMoved_ok d.small f W hL he hu⟩
theorem nle {z : G} (h : z.nrm ≤ 1000000) : z.nrm ≤ 1073741824 := by omega
theorem nle0 {f : Int} (h1 : 1 ≤ f) (h8 : f ≤ 8) : (⟨0, f⟩ : G).nrm ≤ 1073741824 := by simp only [G.nrm]; omega
theorem times_if (f : Int) (h1 : 1 ≤ f) (h8 : f ≤ 8) (w : World) :
    Calls Tryd.prog 18 #[.agg #[.int .i64 1, .int .i64 0], .agg #[.int .i64 0, .int .i64 f]] w fun e w' => e = .returned (.agg #[.int .i64 0, .int .i64 f]) ∧ Below w.heap.size w w' := by
  have := rTimes_any ⟨1, 0⟩ ⟨0, f⟩ w
  rw [show ((⟨1, 0⟩ : G).mul ⟨0, f⟩).w = ⟨0, f⟩ from by rw [show (⟨1, 0⟩ : G).mul ⟨0, f⟩ = ⟨0, f⟩ from by simp [G.mul]]; exact G.w_in (by simp only [G.nrm]; omega)] at this
  exact this
theorem step_cp {P : Program} {ops : Array Oper} {o : Oper} {a : Act} {w : World} {K : Act → World → Prop} {Q : Exit → Act → World → Prop} {E : Prop} (hP : P = Tryd.prog) (hgd : o.guard = none) (s x : Operand) (t : TypeId)
    (ho : o.op = .call { callee := .builtin .append, args := #[s, x], argTypes := #[t, t] }) (ht : P.underlying t = some (.slice 62))
    (B : Nat) (hs : a.eval s = .slice (some ⟨B, 0, none⟩) 0 0) (hk : Blk w B 62 #[])
    (A : Option Addr) (n c : Nat) (xs : List El) (hx : a.eval x = .slice A n c) (hr : Reads w w.heap.size 3 A n (els xs)) (hn : n ≤ 1000) (hB : B ≤ w.heap.size)
    (h : ∀ A' c' w', Reads w' w'.heap.size 3 A' n (els xs) → Below B w w' → K (a.put o.dst (.slice A' n c')) w') :
    if Region.wanted o (yielded ops a.tmps) = true then Oper.wp P o a w K Q else E := by
  subst hP
  obtain ⟨i, hi, hz, hsize, hby⟩ := info_parts info_el
  have hown : w.ownsRow B 62 3 (.slice (some ⟨B, 0, none⟩) 0 0) 0 [] :=
    ⟨by simp, .inr ⟨B, 0, #[], rfl, Nat.le_refl _, hk, Nat.le_refl _, by unfold maxLen; omega, by simp, by simp⟩⟩
  refine step_append_any w hgd s x t ho B 62 i _ 3 32 ht hi hz hsize hby rfl (by decide) _ 0 [] hs hown w.heap.size A n c (els xs) hx hr (one_els _) (by unfold maxLen; omega) (by omega) hB ?_
  intro v' w' ho' hg _
  rw [List.nil_append, Nat.zero_add] at ho'
  obtain ⟨A', c', rfl, hR⟩ := own_slice ho'
  exact h A' c' w' hR ((Below.refl B w).grown hg hB fun k hk => (hown.lt k hk).1)
section
variable {f : Int} {X : Mat} {N M a c v LN LD yA yC : G}
theorem roomX (F : Cir f X N M a c v LN LD yA yC) : roomB 128 [X.a, X.b, X.c, X.d] = true := by
  have b := F.bX
  exact roomB_iff.2 fun z hz => G.inR_of (n := 128) (by simp at hz; rcases hz with rfl | rfl | rfl | rfl <;> omega)
theorem roomZ (F : Cir f X N M a c v LN LD yA yC) : roomB 1048576 [N, M] = true := by
  have b := F.bN
  have b2 := F.bM
  exact roomB_iff.2 fun z hz => G.inR_of (n := 1048576) (by simp at hz; rcases hz with rfl | rfl <;> omega)
theorem bigX (F : Cir f X N M a c v LN LD yA yC) : ∀ z ∈ [X.a, X.b, X.c, X.d], z.nrm ≤ 4611686018427387904 := by
  have b := F.bX
  intro z hz
  simp at hz; rcases hz with rfl | rfl | rfl | rfl <;> omega
theorem bigZ (F : Cir f X N M a c v LN LD yA yC) : ∀ z ∈ [N, M], z.nrm ≤ 4611686018427387904 := by
  have b := F.bN
  have b2 := F.bM
  intro z hz
  simp at hz; rcases hz with rfl | rfl <;> omega
end
theorem plusN {f : Int} {X : Mat} {N M a c v LN LD yA yC : G} (F : Cir f X N M a c v LN LD yA yC) (w : World) :
    Calls Tryd.prog 17 #[.agg #[.int .i64 (X.a.mul N).w.re, .int .i64 (X.a.mul N).w.im], .agg #[.int .i64 (X.b.mul M).w.re, .int .i64 (X.b.mul M).w.im]] w fun e w' => e = .returned (.agg #[.int .i64 LN.re, .int .i64 LN.im]) ∧ Below w.heap.size w w' := by
  have := rPlus_any (X.a.mul N).w (X.b.mul M).w w
  rw [G.w_add, ← F.eN, G.w_in (a := LN) (by have := F.bL; omega)] at this
  exact this
theorem plusD {f : Int} {X : Mat} {N M a c v LN LD yA yC : G} (F : Cir f X N M a c v LN LD yA yC) (w : World) :
    Calls Tryd.prog 17 #[.agg #[.int .i64 (X.c.mul N).w.re, .int .i64 (X.c.mul N).w.im], .agg #[.int .i64 (X.d.mul M).w.re, .int .i64 (X.d.mul M).w.im]] w fun e w' => e = .returned (.agg #[.int .i64 LD.re, .int .i64 LD.im]) ∧ Below w.heap.size w w' := by
  have := rPlus_any (X.c.mul N).w (X.d.mul M).w w
  rw [G.w_add, ← F.eD, G.w_in (a := LD) (by have := F.bL; omega)] at this
  exact this
theorem nleY {f : Int} {X : Mat} {N M a c v LN LD yA yC : G} (F : Cir f X N M a c v LN LD yA yC) : yA.nrm ≤ 1073741824 ∧ yC.nrm ≤ 1073741824 ∧ LN.nrm ≤ 1073741824 ∧ LD.nrm ≤ 1073741824 := by
  have := F.bL; have := F.bY; omega
set_option maxHeartbeats 8000000 in
theorem lawCir_good (d : Drv) (x' : El) (f : Int) (w : World) (hC : Con w) (hL : Lim w) (h1 : d.err = 0) (hx : x'.Ok) (f1 : 1 ≤ f) (f8 : f ≤ 8) (N M P Q : G) (hD : CirD d.small f N M P Q) (X : Mat) (a c v LN LD yA yC : G) (hK : CirK d.small f x' 1 X N M a c v LN LD yA yC) (X2 : Mat) (a2 c2 v2 LN2 LD2 yA2 yC2 : G) (hK2 : CirK d.small f x' 2 X2 P Q a2 c2 v2 LN2 LD2 yA2 yC2) :
    Calls Tryd.prog 5 #[.agg #[.int .i64 d.re, .int .i64 d.le, .int .i64 d.bl, .int .i64 d.ms, .int .i64 d.st, .int .i64 d.ls], .agg #[.string x'.kind, .int .i64 x'.a, .int .i64 x'.b], .int .i64 f] w fun e w' => e = .returned (.bool true) ∧ Below w.heap.size w w' := by
  have h2 : ladErr [x'] = 0 := ok_lad ⟨by simp, fun y hy => by simp at hy; subst hy; exact hx⟩
  have t1 : (d.err != 0) = false := by rw [h1]; rfl
  have t2 : (ladErr [x'] != 0) = false := by rw [h2]; rfl
  have t3 : (rng f 1 8 != 0) = false := by rw [rng_zero.2 ⟨f1, f8⟩]; rfl
  have HO := hide (Drv.ok_of h1)
  have HD := hide hD
  have HK := hide hK
  have HK2 := hide hK2
  clear h1 h2 hD hK hK2 hx
  go_enter Tryd.func5, Tryd.ntmps5
  go_upto_region 1 with (fail)
  obtain ⟨w1, e1, hb1, hz1, k0, kE⟩ := box2 w #[.int .i64 d.re, .int .i64 d.le, .int .i64 d.bl, .int .i64 d.ms, .int .i64 d.st, .int .i64 d.ls] #[.string x'.kind, .int .i64 x'.a, .int .i64 x'.b] 24 53
  rw [← e1]; clear e1
  go_wp2_with fail
  refine (circ_any _ (hC.carry hb1) (hL.carry hb1)).mono ?_
  rintro e w2 ⟨rfl, hb2⟩
  have c0 := (carryK (w' := w2) k0 (by repeat (first | with_reducible assumption | exact Below.refl _ _ | refine below_next (by with_reducible assumption) ?_))).cell
  go_wp2_with fail
  refine (rCheckDriver_any d _).mono ?_
  rintro e w3 ⟨rfl, hb3⟩
  clear c0
  have cE := (carryK (w' := w3) kE (by repeat (first | with_reducible assumption | exact Below.refl _ _ | refine below_next (by with_reducible assumption) ?_))).cell
  go_wp2_with fail
  obtain ⟨w4, e4, hb4, hz4, kL⟩ := box1 w3 #[.string x'.kind, .int .i64 x'.a, .int .i64 x'.b] 53
  rw [← e4]; clear e4
  refine (rCheckLadder_any (some ⟨w3.heap.size, 0, none⟩) 1 1 [x'] _ (blkE1 kL) (by omega)).mono ?_
  rintro e w5 ⟨rfl, hb5⟩
  clear cE
  go_wp2_with fail
  refine (rCheckW3_any f _).mono ?_
  rintro e W' ⟨rfl, rfl⟩
  have c0 := (carryK (w' := w5) k0 (by repeat (first | with_reducible assumption | exact Below.refl _ _ | refine below_next (by with_reducible assumption) ?_))).cell
  go_wp2_with fail
  refine (small_any d _ HO.out).mono ?_
  rintro e w6 ⟨rfl, hb6⟩
  clear c0
  generalize d.small = s at *
  go_upto_region 4 with (fail)
  obtain ⟨w7, e7, hb7, hz7, kS⟩ := box1 w6 #[.int .i64 s.re, .int .i64 s.le, .int .i64 s.bl, .int .i64 s.ms, .int .i64 s.st, .int .i64 s.ls] 24
  rw [← e7]; clear e7
  have kE7 := carryK (w' := w7) kE (by repeat (first | with_reducible assumption | exact Below.refl _ _ | refine below_next (by with_reducible assumption) ?_))
  have hb07 : Below w.heap.size w w7 := (by repeat (first | with_reducible assumption | exact Below.refl _ _ | refine below_next (by with_reducible assumption) ?_))
  have HC := hide (hC.carry hb07)
  have HL := hide (hL.carry hb07)
  clear k0 kE kL hb1 hb2 hb3 hb4 hb5 hb6 hb7 t1 t2 t3 hC hL
  go_wp2_with fail
  go_loopw [49] (fun i wr => ∃ j : Nat, j ≤ 2 ∧ i = .int .i64 j ∧ Below w7.heap.size w7 wr) (fun i _ => 2 - (intOf i).toNat)
  case atStart => exact ⟨0, by omega, rfl, Below.refl _ _⟩
  case round =>
    rename World => wo
    obtain ⟨j, hj, rfl, hbo⟩ := hrel
    have hc : j = 0 ∨ j = 1 ∨ j = 2 := by omega
    rcases hc with rfl | rfl | rfl
    · have hj0 := hj
      have cS := (carryK (w' := wo) kS (by repeat (first | with_reducible assumption | exact Below.refl _ _ | refine below_next (by with_reducible assumption) ?_))).cell
      go_upto_region 8 with (fail)
      obtain ⟨x1, y1, hbx1, hzx1, kD0, kB0⟩ := box2 wo #[.int .i64 s.re, .int .i64 s.le, .int .i64 s.bl, .int .i64 s.ms, .int .i64 s.st, .int .i64 s.ls] #[.int .i64 1, .int .i64 0, .int .i64 0, .int .i64 0] 36 66
      rw [← y1]; clear y1 cS
      have cD := (carryK (w' := x1) kD0 (by repeat (first | with_reducible assumption | exact Below.refl _ _ | refine below_next (by with_reducible assumption) ?_))).cell
      go_wp2_with fail
      refine (HD.out.imp _ (HL.out.carry (by repeat (first | with_reducible assumption | exact Below.refl _ _ | refine below_next (by with_reducible assumption) ?_)))).mono ?_
      rintro e x2 ⟨rfl, hbx2⟩
      clear cD
      go_upto_region 9 with (fail)
      obtain ⟨x3, y3, hbx3, hzx3, kZ⟩ := box1 x2 #[.int .i64 (⟨N, M⟩ : Pr).n.re, .int .i64 (⟨N, M⟩ : Pr).n.im, .int .i64 (⟨N, M⟩ : Pr).d.re, .int .i64 (⟨N, M⟩ : Pr).d.im] 32
      rw [← y3]; clear y3
      have cD := (carryK (w' := x3) kD0 (by repeat (first | with_reducible assumption | exact Below.refl _ _ | refine below_next (by with_reducible assumption) ?_))).cell
      go_wp2_with fail
      refine (HD.out.exc _ (HL.out.carry (by repeat (first | with_reducible assumption | exact Below.refl _ _ | refine below_next (by with_reducible assumption) ?_)))).mono ?_
      rintro e x4 ⟨rfl, hbx4⟩
      clear cD
      go_upto_region 10 with (fail)
      obtain ⟨x5, y5, hbx5, hzx5, kM⟩ := box1 x4 #[.int .i64 (⟨⟨1, 0⟩, N⟩ : Pr).n.re, .int .i64 (⟨⟨1, 0⟩, N⟩ : Pr).n.im, .int .i64 (⟨⟨1, 0⟩, N⟩ : Pr).d.re, .int .i64 (⟨⟨1, 0⟩, N⟩ : Pr).d.im] 32
      rw [← y5]; clear y5
      have cS := (carryK (w' := x5) kS (by repeat (first | with_reducible assumption | exact Below.refl _ _ | refine below_next (by with_reducible assumption) ?_))).cell
      go_wp2_with fail
      refine (spiLad_any s 1 _ (by omega)).mono ?_
      rintro e x6 ⟨A6, c6, rfl, r6, hbx6⟩
      clear cS
      go_wp2_with fail
      refine (HK.out.inp A6 c6 _ (HC.out.carry (by repeat (first | with_reducible assumption | exact Below.refl _ _ | refine below_next (by with_reducible assumption) ?_))) r6).mono ?_
      rintro e x7 ⟨rfl, hbx7⟩
      go_upto_region 16 with (fail)
      obtain ⟨x8, y8, hbx8, hzx8, kU⟩ := box1 x7 #[.int .i64 (⟨a, c⟩ : Pr).n.re, .int .i64 (⟨a, c⟩ : Pr).n.im, .int .i64 (⟨a, c⟩ : Pr).d.re, .int .i64 (⟨a, c⟩ : Pr).d.im] 32
      rw [← y8]; clear y8
      have cS := (carryK (w' := x8) kS (by repeat (first | with_reducible assumption | exact Below.refl _ _ | refine below_next (by with_reducible assumption) ?_))).cell
      go_wp2_with fail
      refine (spiLad_any s 1 _ (by omega)).mono ?_
      rintro e x9 ⟨A9, c9, rfl, r9, hbx9⟩
      clear cS
      go_wp2_with fail
      refine (HK.out.tra A9 c9 _ (HC.out.carry (by repeat (first | with_reducible assumption | exact Below.refl _ _ | refine below_next (by with_reducible assumption) ?_))) r9).mono ?_
      rintro e x10 ⟨rfl, hbx10⟩
      go_upto_region 17 with (fail)
      obtain ⟨x11, y11, hbx11, hzx11, kV⟩ := box1 x10 #[.int .i64 (⟨v, a⟩ : Pr).n.re, .int .i64 (⟨v, a⟩ : Pr).n.im, .int .i64 (⟨v, a⟩ : Pr).d.re, .int .i64 (⟨v, a⟩ : Pr).d.im] 32
      rw [← y11]; clear y11
      have cZ := (carryK (w' := x11) kZ (by repeat (first | with_reducible assumption | exact Below.refl _ _ | refine below_next (by with_reducible assumption) ?_))).cell
      have cU := (carryK (w' := x11) kU (by repeat (first | with_reducible assumption | exact Below.refl _ _ | refine below_next (by with_reducible assumption) ?_))).cell
      go_wp2_with fail
      refine (same_true ⟨N, M⟩ ⟨a, c⟩ _ (nle HK.out.fac.bN) (nle HK.out.fac.bM) (nle HK.out.fac.ba) (nle HK.out.fac.bc) HK.out.fac.nM HK.out.fac.nc HK.out.fac.s1).mono ?_
      rintro e x12 ⟨rfl, hbx12⟩
      clear cZ cU
      have cM := (carryK (w' := x12) kM (by repeat (first | with_reducible assumption | exact Below.refl _ _ | refine below_next (by with_reducible assumption) ?_))).cell
      go_wp2_with fail
      obtain ⟨x13, y13, hbx13, hzx13, kA⟩ := box1 x12 #[.int .i64 1, .int .i64 0] 30
      rw [← y13]; clear y13
      refine (room25_any _ 1 1 [⟨1, 0⟩] _ (blkG kA rfl) (by omega) (by intro z hz; simp at hz; subst hz; decide)).mono ?_
      rintro e x14 ⟨rfl, hbx14⟩
      rw [show roomB 33554432 [⟨1, 0⟩] = true from by decide]
      clear cM
      go_upto_region 19 with (fail)
      have cM := over_blk (carryK (w' := x14) kM (by repeat (first | with_reducible assumption | exact Below.refl _ _ | refine below_next (by with_reducible assumption) ?_))) (carryK (w' := x14) kM (by repeat (first | with_reducible assumption | exact Below.refl _ _ | refine below_next (by with_reducible assumption) ?_))).lt
      have cV := over_blk (carryK (w' := x14) kV (by repeat (first | with_reducible assumption | exact Below.refl _ _ | refine below_next (by with_reducible assumption) ?_))) (carryK (w' := x14) kV (by repeat (first | with_reducible assumption | exact Below.refl _ _ | refine below_next (by with_reducible assumption) ?_))).lt
      refine wp_region_over x14.heap.size (by kernel_rfl) (by kernel_rfl) ?_; (repeat (first | go_big_quiet_step (first | (go_at_call 18; exact over_call (Nat.le_refl _) (times_if f f1 f8 _)) | (go_at_call 34; exact over_call (Nat.le_refl _) (same_true ⟨⟨0, f⟩, N⟩ ⟨v, a⟩ _ (nle0 f1 f8) (nle HK.out.fac.bN) (nle HK.out.fac.bv) (nle HK.out.fac.ba) HK.out.fac.nN HK.out.fac.na HK.out.fac.s2))) | quiet_step (first | (go_at_call 18; exact over_call (Nat.le_refl _) (times_if f f1 f8 _)) | (go_at_call 34; exact over_call (Nat.le_refl _) (same_true ⟨⟨0, f⟩, N⟩ ⟨v, a⟩ _ (nle0 f1 f8) (nle HK.out.fac.bN) (nle HK.out.fac.bv) (nle HK.out.fac.ba) HK.out.fac.nN HK.out.fac.na HK.out.fac.s2))))); refine wpQuiet_nil ?_; rintro W ⟨x, rfl⟩
      have hbx15 := over_below x14.heap.size x14 x
      generalize over x14.heap.size x14 x = x15 at hbx15 ⊢
      clear cM cV
      have cE := (carryK (w' := x15) kE7 (by repeat (first | with_reducible assumption | exact Below.refl _ _ | refine below_next (by with_reducible assumption) ?_))).cell
      go_wp2_with fail
      obtain ⟨x16, y16, hbx16, hzx16, kL2⟩ := box1 x15 #[.string x'.kind, .int .i64 x'.a, .int .i64 x'.b] 53
      rw [← y16]; clear y16 cE
      refine (spiEls_lad (some ⟨x15.heap.size, 0, none⟩) 1 1 [x'] _ (blkE1 kL2) (by omega)).mono ?_
      rintro e x17 ⟨A17, c17, rfl, r17, hbx17⟩
      go_upto_region 22 with (fail)
      have cS : ∀ i W, Below x17.heap.size x17 W → W.cell? ⟨w6.heap.size, i, none⟩ = (#[.int .i64 s.re, .int .i64 s.le, .int .i64 s.bl, .int .i64 s.ms, .int .i64 s.st, .int .i64 s.ls] : Array Value)[i]? := fun i W h => (carryK (w' := W) kS (below_next (by repeat (first | with_reducible assumption | exact Below.refl _ _ | refine below_next (by with_reducible assumption) ?_)) h)).cell i
      go_region_held3 (fun W => Below x17.heap.size x17 W) (first | exact (Below.refl _ _).drew | (with_reducible assumption) | exact below_new ‹Below x17.heap.size x17 _› (Nat.le_refl _) _ | (refine below_set (below_set (below_set (below_set (by assumption) (by omega) _) (by omega) _) (by omega) _) (by omega) _)) (first | (refine step_cp rfl (by rfl) (.tmp 144) (.tmp 145) _ (by rfl) Tryd.underlying41 x17.heap.size (by rfl) (by repeat (first | (with_reducible refine Blk.drew ?_) | (with_reducible exact Blk.newAt (by first | rfl | simp)))) A17 1 c17 [x'] (by rfl) (carry r17 ‹Below x17.heap.size x17 _›) (by omega) (Below.size ‹Below x17.heap.size x17 _›) ?_; intro A18 c18 w18 r18 hb18; have hS18 := Below.trans ‹Below x17.heap.size x17 _› hb18) | (go_at_call 32; refine (spiLad_any s 1 _ (by omega)).mono ?_; rintro e w20 ⟨A20, c20, rfl, r20, hb20⟩; have hS20 := below_step ‹Below x17.heap.size x17 _› hb20 (Below.size ‹Below x17.heap.size x17 _›)) | (go_at_call 35; refine (HK.out.joi A18 c18 A20 c20 _ (carry r18 hb20) r20).mono ?_; rintro e w21 ⟨A21, c21, rfl, r21, hb21⟩; have hS21 := below_step ‹Below x17.heap.size x17 _› hb21 (Below.size ‹Below x17.heap.size x17 _›)))
      have hbx21 : Below x17.heap.size x17 w21 := hS21
      clear cS
      go_wp2_with fail
      refine (HK.out.chn A17 c17 _ (HC.out.carry (by repeat (first | with_reducible assumption | exact Below.refl _ _ | refine below_next (by with_reducible assumption) ?_))) (carry r17 (by repeat (first | with_reducible assumption | exact Below.refl _ _ | refine below_next (by with_reducible assumption) ?_)))).mono ?_
      rintro e x22 ⟨rfl, hbx22⟩
      go_upto_region 24 with (fail)
      obtain ⟨x23, y23, hbx23, hzx23, kX⟩ := box1 x22 #[.int .i64 X.a.re, .int .i64 X.a.im, .int .i64 X.b.re, .int .i64 X.b.im, .int .i64 X.c.re, .int .i64 X.c.im, .int .i64 X.d.re, .int .i64 X.d.im] 38
      rw [← y23]; clear y23
      have HRX := hide (roomX HK.out.fac)
      have HRZ := hide (roomZ HK.out.fac)
      have cX := (carryK (w' := x23) kX (by repeat (first | with_reducible assumption | exact Below.refl _ _ | refine below_next (by with_reducible assumption) ?_))).cell
      have cZ := (carryK (w' := x23) kZ (by repeat (first | with_reducible assumption | exact Below.refl _ _ | refine below_next (by with_reducible assumption) ?_))).cell
      go_wp2_with fail
      obtain ⟨x24, y24, hbx24, hzx24, kA2⟩ := box1 x23 #[.int .i64 X.a.re, .int .i64 X.a.im, .int .i64 X.b.re, .int .i64 X.b.im, .int .i64 X.c.re, .int .i64 X.c.im, .int .i64 X.d.re, .int .i64 X.d.im] 30
      rw [← y24]; clear y24
      refine (room7_any _ 4 4 [X.a, X.b, X.c, X.d] _ (blkG kA2 rfl) (by omega) (bigX HK.out.fac)).mono ?_
      rintro e x25 ⟨rfl, hbx25⟩
      rw [HRX.out]
      clear cX cZ
      have cZ := (carryK (w' := x25) kZ (by repeat (first | with_reducible assumption | exact Below.refl _ _ | refine below_next (by with_reducible assumption) ?_))).cell
      go_wp2_with fail
      obtain ⟨x26, y26, hbx26, hzx26, kA3⟩ := box1 x25 #[.int .i64 N.re, .int .i64 N.im, .int .i64 M.re, .int .i64 M.im] 30
      rw [← y26]; clear y26
      refine (room20_any _ 2 2 [N, M] _ (blkG kA3 rfl) (by omega) (bigZ HK.out.fac)).mono ?_
      rintro e x27 ⟨rfl, hbx27⟩
      rw [HRZ.out]
      clear cZ
      go_upto_region 26 with (fail)
      refine wp_region_alloc1 23 (af := ?af1m) (t1 := 32) (cs1 := #[.int .i64 0, .int .i64 0, .int .i64 0, .int .i64 0]) (by kernel_rfl) (by kernel_rfl) (by kernel_rfl) rfl ⟨rfl, rfl, fun _ _ => by kernel_rfl⟩ (by kernel_rfl) ?q1m1 ?q2m1
      case q1m1 =>
        intro W0 hW0
        have cX := over_blk (carryK (w' := W0) kX (by repeat (first | with_reducible assumption | exact Below.refl _ _ | refine below_next (by with_reducible assumption) ?_))) (carryK (w' := W0) kX (by repeat (first | with_reducible assumption | exact Below.refl _ _ | refine below_next (by with_reducible assumption) ?_))).lt
        have cZ := over_blk (carryK (w' := W0) kZ (by repeat (first | with_reducible assumption | exact Below.refl _ _ | refine below_next (by with_reducible assumption) ?_))) (carryK (w' := W0) kZ (by repeat (first | with_reducible assumption | exact Below.refl _ _ | refine below_next (by with_reducible assumption) ?_))).lt
        simp only [List.take_succ_cons, List.take_zero]
        (repeat (first | go_big_quiet_step (first | (go_at_call 18; with_reducible first | exact over_call (Nat.le_refl _) (rTimes_any X.a N _) | exact over_call (Nat.le_refl _) (rTimes_any X.b M _) | exact over_call (Nat.le_refl _) (rTimes_any X.c N _) | exact over_call (Nat.le_refl _) (rTimes_any X.d M _)) | (go_at_call 17; with_reducible first | exact over_call (Nat.le_refl _) (plusN HK.out.fac _) | exact over_call (Nat.le_refl _) (plusD HK.out.fac _)))))
        refine wpQuiet_nil ?_
        rfl
      intro g28 x28 hg28 hbx28 kF0
      simp only [List.drop_succ_cons, List.drop_zero, Act.put, List.setIfInBounds_toArray, List.set_cons_succ, List.set_cons_zero]
      have cF0 := kF0.cell
      have fF0 := kF0.frozen
      go_upto_region 27 with (fail)
      have kF : Blk _ g28 32 #[.int .i64 (⟨LN, LD⟩ : Pr).n.re, .int .i64 (⟨LN, LD⟩ : Pr).n.im, .int .i64 (⟨LN, LD⟩ : Pr).d.re, .int .i64 (⟨LN, LD⟩ : Pr).d.im] := blk4 (u0 := .int .i64 LN.re) (u1 := .int .i64 LN.im) (u2 := .int .i64 LD.re) (u3 := .int .i64 LD.im) kF0
      have hbx29 := below4 (u0 := .int .i64 LN.re) (u1 := .int .i64 LN.im) (u2 := .int .i64 LD.re) (u3 := .int .i64 LD.im) hbx28 hg28
      clear cF0 fF0
      generalize World.setCell _ _ _ = x29 at kF hbx29 ⊢
      go_wp2_with (at_builtin; refine wpList_copied x29 rfl (.tmp 212) (.tmp 213) 41 (by rfl) 62 _ 3 32 Tryd.underlying41 info_el rfl (by decide) (by decide) (by rfl) A21 (3 + 1) c21 (els (x' :: lad s 1)) (by rfl) (carry r21 (by repeat (first | with_reducible assumption | exact Below.refl _ _ | refine below_next (by with_reducible assumption) ?_))) (one_els _) (by omega) ?_; intro A30 c30 x30 r30 hbx30)
      refine (HK.out.iny A30 c30 _ (HC.out.carry (by repeat (first | with_reducible assumption | exact Below.refl _ _ | refine below_next (by with_reducible assumption) ?_))) r30).mono ?_
      rintro e x31 ⟨rfl, hbx31⟩
      by_cases hz : LD = .zero
      · have hy := hide (HK.out.fac.ny.2 hz)
        rw [hy.out]
        have qE : ∀ W, (binOp .eql 30 (.agg #[.int .i64 LD.re, .int .i64 LD.im]) (.agg #[.int .i64 0, .int .i64 0])).run Tryd.prog W = .ok (.bool true) W := fun W => by
          have := eqG LD .zero W
          rw [decide_eq_true hz] at this
          exact this
        rw [show quo yA .zero = Pr.zero from by unfold quo; rw [if_pos rfl], show quoE .zero = 17 from by unfold quoE; rw [if_pos rfl]]
        clear hz
        go_upto_region 28 with (fail)
        obtain ⟨x32, y32, hbx32, hzx32, kY⟩ := box1 x31 #[.int .i64 Pr.zero.n.re, .int .i64 Pr.zero.n.im, .int .i64 Pr.zero.d.re, .int .i64 Pr.zero.d.im] 32
        rw [← y32]; clear y32
        have cF := (carryK (w' := x32) kF (by repeat (first | with_reducible assumption | exact Below.refl _ _ | refine below_next (by with_reducible assumption) ?_))).cell
        go_wp2_with fail
        go_roundw
        case rel => exact ⟨1, by omega, by go_num, (by repeat (first | with_reducible assumption | exact Below.refl _ _ | refine below_next (by with_reducible assumption) ?_))⟩
        case measure => simp [intOf]
      · have qE : ∀ W, (binOp .eql 30 (.agg #[.int .i64 LD.re, .int .i64 LD.im]) (.agg #[.int .i64 0, .int .i64 0])).run Tryd.prog W = .ok (.bool false) W := fun W => by
          have := eqG LD .zero W
          rw [decide_eq_false hz] at this
          exact this
        have hy : ¬ yC = .zero := fun e => hz (HK.out.fac.ny.1 e)
        rw [quo_ne hy, quoE_ne hy]
        have HY := hide hy
        have HZ := hide hz
        clear hz hy
        go_upto_region 28 with (fail)
        obtain ⟨x32, y32, hbx32, hzx32, kY⟩ := box1 x31 #[.int .i64 (⟨yA, yC⟩ : Pr).n.re, .int .i64 (⟨yA, yC⟩ : Pr).n.im, .int .i64 (⟨yA, yC⟩ : Pr).d.re, .int .i64 (⟨yA, yC⟩ : Pr).d.im] 32
        rw [← y32]; clear y32
        have cF := (carryK (w' := x32) kF (by repeat (first | with_reducible assumption | exact Below.refl _ _ | refine below_next (by with_reducible assumption) ?_))).cell
        have cY := (carryK (w' := x32) kY (by repeat (first | with_reducible assumption | exact Below.refl _ _ | refine below_next (by with_reducible assumption) ?_))).cell
        go_wp2_with fail
        refine (same_true ⟨yA, yC⟩ ⟨LN, LD⟩ _ (nleY HK.out.fac).1 (nleY HK.out.fac).2.1 (nleY HK.out.fac).2.2.1 (nleY HK.out.fac).2.2.2 HY.out HZ.out HK.out.fac.s3).mono ?_
        rintro e x33 ⟨rfl, hbx33⟩
        clear cF cY
        go_wp2_with fail
        go_roundw
        case rel => exact ⟨1, by omega, by go_num, (by repeat (first | with_reducible assumption | exact Below.refl _ _ | refine below_next (by with_reducible assumption) ?_))⟩
        case measure => simp [intOf]
    · have cS := (carryK (w' := wo) kS (by repeat (first | with_reducible assumption | exact Below.refl _ _ | refine below_next (by with_reducible assumption) ?_))).cell
      go_upto_region 8 with (fail)
      obtain ⟨x1, y1, hbx1, hzx1, kD0, kB0⟩ := box2 wo #[.int .i64 s.re, .int .i64 s.le, .int .i64 s.bl, .int .i64 s.ms, .int .i64 s.st, .int .i64 s.ls] #[.int .i64 1, .int .i64 0, .int .i64 0, .int .i64 0] 36 66
      rw [← y1]; clear y1 cS
      have cD := (carryK (w' := x1) kD0 (by repeat (first | with_reducible assumption | exact Below.refl _ _ | refine below_next (by with_reducible assumption) ?_))).cell
      go_wp2_with fail
      refine (HD.out.imp _ (HL.out.carry (by repeat (first | with_reducible assumption | exact Below.refl _ _ | refine below_next (by with_reducible assumption) ?_)))).mono ?_
      rintro e x2 ⟨rfl, hbx2⟩
      clear cD
      go_upto_region 9 with (fail)
      obtain ⟨x3, y3, hbx3, hzx3, kZ0⟩ := box1 x2 #[.int .i64 (⟨N, M⟩ : Pr).n.re, .int .i64 (⟨N, M⟩ : Pr).n.im, .int .i64 (⟨N, M⟩ : Pr).d.re, .int .i64 (⟨N, M⟩ : Pr).d.im] 32
      rw [← y3]; clear y3
      have cD := (carryK (w' := x3) kD0 (by repeat (first | with_reducible assumption | exact Below.refl _ _ | refine below_next (by with_reducible assumption) ?_))).cell
      go_wp2_with fail
      refine (HD.out.exc _ (HL.out.carry (by repeat (first | with_reducible assumption | exact Below.refl _ _ | refine below_next (by with_reducible assumption) ?_)))).mono ?_
      rintro e x4 ⟨rfl, hbx4⟩
      clear cD
      go_upto_region 10 with (fail)
      obtain ⟨xa, ya, hbxa, hzxa, kM0⟩ := box1 x4 #[.int .i64 (⟨⟨1, 0⟩, N⟩ : Pr).n.re, .int .i64 (⟨⟨1, 0⟩, N⟩ : Pr).n.im, .int .i64 (⟨⟨1, 0⟩, N⟩ : Pr).d.re, .int .i64 (⟨⟨1, 0⟩, N⟩ : Pr).d.im] 32
      rw [← ya]; clear ya
      go_upto_region 12 with (fail)
      obtain ⟨xb, yb, hbxb, hzxb, kW0⟩ := box1 xa #[.int .i64 0, .int .i64 0, .int .i64 0, .int .i64 0, .int .i64 0, .int .i64 0, .int .i64 0, .int .i64 0] 67
      rw [← yb]; clear yb
      have cD := (carryK (w' := xb) kD0 (by repeat (first | with_reducible assumption | exact Below.refl _ _ | refine below_next (by with_reducible assumption) ?_))).cell
      have cB := (carryK (w' := xb) kB0 (by repeat (first | with_reducible assumption | exact Below.refl _ _ | refine below_next (by with_reducible assumption) ?_))).cell
      go_wp2_with fail
      refine (HD.out.box _ (HL.out.carry (by repeat (first | with_reducible assumption | exact Below.refl _ _ | refine below_next (by with_reducible assumption) ?_)))).mono ?_
      rintro e xc ⟨rfl, hbxc⟩
      clear cD cB
      have sz2 : wo.heap.size + 2 ≤ x2.heap.size := Nat.le_trans hzx1 hbx2.size
      have sz4 : x2.heap.size + 1 ≤ x4.heap.size := Nat.le_trans hzx3 hbx4.size
      have sza : x4.heap.size + 1 ≤ xa.heap.size := hzxa
      have kZc := carryK (w' := xc) kZ0 (by repeat (first | with_reducible assumption | exact Below.refl _ _ | refine below_next (by with_reducible assumption) ?_))
      have kDc := carryK (w' := xc) kD0 (by repeat (first | with_reducible assumption | exact Below.refl _ _ | refine below_next (by with_reducible assumption) ?_))
      have kBc := carryK (w' := xc) kB0 (by repeat (first | with_reducible assumption | exact Below.refl _ _ | refine below_next (by with_reducible assumption) ?_))
      have kMc := carryK (w' := xc) kM0 (by repeat (first | with_reducible assumption | exact Below.refl _ _ | refine below_next (by with_reducible assumption) ?_))
      have kWc := carryK (w' := xc) kW0 (by repeat (first | with_reducible assumption | exact Below.refl _ _ | refine below_next (by with_reducible assumption) ?_))
      have hbwc : Below wo.heap.size wo xc := (by repeat (first | with_reducible assumption | exact Below.refl _ _ | refine below_next (by with_reducible assumption) ?_))
      have cZc := kZc.cell
      have fZc := kZc.frozen
      go_upto_region 13 with (fail)
      have kZ : Blk _ x2.heap.size 32 #[.int .i64 (⟨P, Q⟩ : Pr).n.re, .int .i64 (⟨P, Q⟩ : Pr).n.im, .int .i64 (⟨P, Q⟩ : Pr).d.re, .int .i64 (⟨P, Q⟩ : Pr).d.im] := blk4 (u0 := .int .i64 P.re) (u1 := .int .i64 P.im) (u2 := .int .i64 Q.re) (u3 := .int .i64 Q.im) kZc
      have kDd := far4 (g := x2.heap.size) (u0 := .int .i64 P.re) (u1 := .int .i64 P.im) (u2 := .int .i64 Q.re) (u3 := .int .i64 Q.im) kDc (by omega)
      have kBd := far4 (g := x2.heap.size) (u0 := .int .i64 P.re) (u1 := .int .i64 P.im) (u2 := .int .i64 Q.re) (u3 := .int .i64 Q.im) kBc (by omega)
      have kMd := far4 (g := x2.heap.size) (u0 := .int .i64 P.re) (u1 := .int .i64 P.im) (u2 := .int .i64 Q.re) (u3 := .int .i64 Q.im) kMc (by omega)
      have kWd := far4 (g := x2.heap.size) (u0 := .int .i64 P.re) (u1 := .int .i64 P.im) (u2 := .int .i64 Q.re) (u3 := .int .i64 Q.im) kWc (by omega)
      have hbxd := below4 (g := x2.heap.size) (u0 := .int .i64 P.re) (u1 := .int .i64 P.im) (u2 := .int .i64 Q.re) (u3 := .int .i64 Q.im) hbwc (by omega)
      clear cZc fZc kZc kDc kBc kMc kWc kZ0 kD0 kB0 kM0 kW0 hbx1 hbx2 hbx3 hbx4 hbxa hbxb hbxc hbwc
      generalize World.setCell _ _ _ = xd at kZ kDd kBd kMd kWd hbxd ⊢
      have cD := kDd.cell
      have cB := kBd.cell
      go_wp2_with fail
      refine (HD.out.mov _ (HL.out.carry (by repeat (first | with_reducible assumption | exact Below.refl _ _ | refine below_next (by with_reducible assumption) ?_)))).mono ?_
      rintro e xe ⟨rfl, hbxe⟩
      clear cD cB
      have szb : wo.heap.size ≤ xa.heap.size := by omega
      have kWe := carryK kWd hbxe
      obtain ⟨xf, yf, kW, _, oth, bel⟩ := set8 xe xa.heap.size _ _ _ _ _ _ _ _ _ (.int .i64 1) (.int .i64 0) (.int .i64 P.re) (.int .i64 P.im) (.int .i64 0) (.int .i64 0) (.int .i64 1) (.int .i64 0) kWe
      have kZf := oth _ _ _ (show x2.heap.size ≠ xa.heap.size by omega) (carryK kZ hbxe)
      have kMf := oth _ _ _ (show x4.heap.size ≠ xa.heap.size by omega) (carryK kMd hbxe)
      have hbxf := bel _ wo szb (below_next hbxd hbxe)
      have cW := kWe.cell
      have fW := kWe.frozen
      go_upto_region 14 with (fail)
      rw [← yf]
      clear yf cW fW oth bel kWe kWd kMd kZ kDd kBd hbxd hbxe
      have cW := kW.cell
      have cM := kMf.cell
      have fM := kMf.frozen
      go_upto_region 15 with (fail)
      have kM : Blk _ x4.heap.size 32 #[.int .i64 (⟨⟨1, 0⟩, P⟩ : Pr).n.re, .int .i64 (⟨⟨1, 0⟩, P⟩ : Pr).n.im, .int .i64 (⟨⟨1, 0⟩, P⟩ : Pr).d.re, .int .i64 (⟨⟨1, 0⟩, P⟩ : Pr).d.im] := blk4 (u0 := .int .i64 1) (u1 := .int .i64 0) (u2 := .int .i64 P.re) (u3 := .int .i64 P.im) kMf
      have kZ := far4 (g := x4.heap.size) (u0 := .int .i64 1) (u1 := .int .i64 0) (u2 := .int .i64 P.re) (u3 := .int .i64 P.im) kZf (by omega)
      have hbx5 := below4 (g := x4.heap.size) (u0 := .int .i64 1) (u1 := .int .i64 0) (u2 := .int .i64 P.re) (u3 := .int .i64 P.im) hbxf (by omega)
      clear cW cM fM kMf kZf hbxf kW
      generalize World.setCell _ _ _ = x5 at kM kZ hbx5 ⊢
      have cS := (carryK (w' := x5) kS (by repeat (first | with_reducible assumption | exact Below.refl _ _ | refine below_next (by with_reducible assumption) ?_))).cell
      go_wp2_with fail
      refine (spiLad_any s 2 _ (by omega)).mono ?_
      rintro e x6 ⟨A6, c6, rfl, r6, hbx6⟩
      clear cS
      go_wp2_with fail
      refine (HK2.out.inp A6 c6 _ (HC.out.carry (by repeat (first | with_reducible assumption | exact Below.refl _ _ | refine below_next (by with_reducible assumption) ?_))) r6).mono ?_
      rintro e x7 ⟨rfl, hbx7⟩
      go_upto_region 16 with (fail)
      obtain ⟨x8, y8, hbx8, hzx8, kU⟩ := box1 x7 #[.int .i64 (⟨a2, c2⟩ : Pr).n.re, .int .i64 (⟨a2, c2⟩ : Pr).n.im, .int .i64 (⟨a2, c2⟩ : Pr).d.re, .int .i64 (⟨a2, c2⟩ : Pr).d.im] 32
      rw [← y8]; clear y8
      have cS := (carryK (w' := x8) kS (by repeat (first | with_reducible assumption | exact Below.refl _ _ | refine below_next (by with_reducible assumption) ?_))).cell
      go_wp2_with fail
      refine (spiLad_any s 2 _ (by omega)).mono ?_
      rintro e x9 ⟨A9, c9, rfl, r9, hbx9⟩
      clear cS
      go_wp2_with fail
      refine (HK2.out.tra A9 c9 _ (HC.out.carry (by repeat (first | with_reducible assumption | exact Below.refl _ _ | refine below_next (by with_reducible assumption) ?_))) r9).mono ?_
      rintro e x10 ⟨rfl, hbx10⟩
      go_upto_region 17 with (fail)
      obtain ⟨x11, y11, hbx11, hzx11, kV⟩ := box1 x10 #[.int .i64 (⟨v2, a2⟩ : Pr).n.re, .int .i64 (⟨v2, a2⟩ : Pr).n.im, .int .i64 (⟨v2, a2⟩ : Pr).d.re, .int .i64 (⟨v2, a2⟩ : Pr).d.im] 32
      rw [← y11]; clear y11
      have cZ := (carryK (w' := x11) kZ (by repeat (first | with_reducible assumption | exact Below.refl _ _ | refine below_next (by with_reducible assumption) ?_))).cell
      have cU := (carryK (w' := x11) kU (by repeat (first | with_reducible assumption | exact Below.refl _ _ | refine below_next (by with_reducible assumption) ?_))).cell
      go_wp2_with fail
      refine (same_true ⟨P, Q⟩ ⟨a2, c2⟩ _ (nle HK2.out.fac.bN) (nle HK2.out.fac.bM) (nle HK2.out.fac.ba) (nle HK2.out.fac.bc) HK2.out.fac.nM HK2.out.fac.nc HK2.out.fac.s1).mono ?_
      rintro e x12 ⟨rfl, hbx12⟩
      clear cZ cU
      have cM := (carryK (w' := x12) kM (by repeat (first | with_reducible assumption | exact Below.refl _ _ | refine below_next (by with_reducible assumption) ?_))).cell
      go_wp2_with fail
      obtain ⟨x13, y13, hbx13, hzx13, kA⟩ := box1 x12 #[.int .i64 1, .int .i64 0] 30
      rw [← y13]; clear y13
      refine (room25_any _ 1 1 [⟨1, 0⟩] _ (blkG kA rfl) (by omega) (by intro z hz; simp at hz; subst hz; decide)).mono ?_
      rintro e x14 ⟨rfl, hbx14⟩
      rw [show roomB 33554432 [⟨1, 0⟩] = true from by decide]
      clear cM
      go_upto_region 19 with (fail)
      have cM := over_blk (carryK (w' := x14) kM (by repeat (first | with_reducible assumption | exact Below.refl _ _ | refine below_next (by with_reducible assumption) ?_))) (carryK (w' := x14) kM (by repeat (first | with_reducible assumption | exact Below.refl _ _ | refine below_next (by with_reducible assumption) ?_))).lt
      have cV := over_blk (carryK (w' := x14) kV (by repeat (first | with_reducible assumption | exact Below.refl _ _ | refine below_next (by with_reducible assumption) ?_))) (carryK (w' := x14) kV (by repeat (first | with_reducible assumption | exact Below.refl _ _ | refine below_next (by with_reducible assumption) ?_))).lt
      refine wp_region_over x14.heap.size (by kernel_rfl) (by kernel_rfl) ?_; (repeat (first | go_big_quiet_step (first | (go_at_call 18; exact over_call (Nat.le_refl _) (times_if f f1 f8 _)) | (go_at_call 34; exact over_call (Nat.le_refl _) (same_true ⟨⟨0, f⟩, P⟩ ⟨v2, a2⟩ _ (nle0 f1 f8) (nle HK2.out.fac.bN) (nle HK2.out.fac.bv) (nle HK2.out.fac.ba) HK2.out.fac.nN HK2.out.fac.na HK2.out.fac.s2))) | quiet_step (first | (go_at_call 18; exact over_call (Nat.le_refl _) (times_if f f1 f8 _)) | (go_at_call 34; exact over_call (Nat.le_refl _) (same_true ⟨⟨0, f⟩, P⟩ ⟨v2, a2⟩ _ (nle0 f1 f8) (nle HK2.out.fac.bN) (nle HK2.out.fac.bv) (nle HK2.out.fac.ba) HK2.out.fac.nN HK2.out.fac.na HK2.out.fac.s2))))); refine wpQuiet_nil ?_; rintro W ⟨x, rfl⟩
      have hbx15 := over_below x14.heap.size x14 x
      generalize over x14.heap.size x14 x = x15 at hbx15 ⊢
      clear cM cV
      have cE := (carryK (w' := x15) kE7 (by repeat (first | with_reducible assumption | exact Below.refl _ _ | refine below_next (by with_reducible assumption) ?_))).cell
      go_wp2_with fail
      obtain ⟨x16, y16, hbx16, hzx16, kL2⟩ := box1 x15 #[.string x'.kind, .int .i64 x'.a, .int .i64 x'.b] 53
      rw [← y16]; clear y16 cE
      refine (spiEls_lad (some ⟨x15.heap.size, 0, none⟩) 1 1 [x'] _ (blkE1 kL2) (by omega)).mono ?_
      rintro e x17 ⟨A17, c17, rfl, r17, hbx17⟩
      go_upto_region 22 with (fail)
      have cS : ∀ i W, Below x17.heap.size x17 W → W.cell? ⟨w6.heap.size, i, none⟩ = (#[.int .i64 s.re, .int .i64 s.le, .int .i64 s.bl, .int .i64 s.ms, .int .i64 s.st, .int .i64 s.ls] : Array Value)[i]? := fun i W h => (carryK (w' := W) kS (below_next (by repeat (first | with_reducible assumption | exact Below.refl _ _ | refine below_next (by with_reducible assumption) ?_)) h)).cell i
      go_region_held3 (fun W => Below x17.heap.size x17 W) (first | exact (Below.refl _ _).drew | (with_reducible assumption) | exact below_new ‹Below x17.heap.size x17 _› (Nat.le_refl _) _ | (refine below_set (below_set (below_set (below_set (by assumption) (by omega) _) (by omega) _) (by omega) _) (by omega) _)) (first | (refine step_cp rfl (by rfl) (.tmp 144) (.tmp 145) _ (by rfl) Tryd.underlying41 x17.heap.size (by rfl) (by repeat (first | (with_reducible refine Blk.drew ?_) | (with_reducible exact Blk.newAt (by first | rfl | simp)))) A17 1 c17 [x'] (by rfl) (carry r17 ‹Below x17.heap.size x17 _›) (by omega) (Below.size ‹Below x17.heap.size x17 _›) ?_; intro A18 c18 w18 r18 hb18; have hS18 := Below.trans ‹Below x17.heap.size x17 _› hb18) | (go_at_call 32; refine (spiLad_any s 2 _ (by omega)).mono ?_; rintro e w20 ⟨A20, c20, rfl, r20, hb20⟩; have hS20 := below_step ‹Below x17.heap.size x17 _› hb20 (Below.size ‹Below x17.heap.size x17 _›)) | (go_at_call 35; refine (HK2.out.joi A18 c18 A20 c20 _ (carry r18 hb20) r20).mono ?_; rintro e w21 ⟨A21, c21, rfl, r21, hb21⟩; have hS21 := below_step ‹Below x17.heap.size x17 _› hb21 (Below.size ‹Below x17.heap.size x17 _›)))
      have hbx21 : Below x17.heap.size x17 w21 := hS21
      clear cS
      go_wp2_with fail
      refine (HK2.out.chn A17 c17 _ (HC.out.carry (by repeat (first | with_reducible assumption | exact Below.refl _ _ | refine below_next (by with_reducible assumption) ?_))) (carry r17 (by repeat (first | with_reducible assumption | exact Below.refl _ _ | refine below_next (by with_reducible assumption) ?_)))).mono ?_
      rintro e x22 ⟨rfl, hbx22⟩
      go_upto_region 24 with (fail)
      obtain ⟨x23, y23, hbx23, hzx23, kX⟩ := box1 x22 #[.int .i64 X2.a.re, .int .i64 X2.a.im, .int .i64 X2.b.re, .int .i64 X2.b.im, .int .i64 X2.c.re, .int .i64 X2.c.im, .int .i64 X2.d.re, .int .i64 X2.d.im] 38
      rw [← y23]; clear y23
      have HRX := hide (roomX HK2.out.fac)
      have HRZ := hide (roomZ HK2.out.fac)
      have cX := (carryK (w' := x23) kX (by repeat (first | with_reducible assumption | exact Below.refl _ _ | refine below_next (by with_reducible assumption) ?_))).cell
      have cZ := (carryK (w' := x23) kZ (by repeat (first | with_reducible assumption | exact Below.refl _ _ | refine below_next (by with_reducible assumption) ?_))).cell
      go_wp2_with fail
      obtain ⟨x24, y24, hbx24, hzx24, kA2⟩ := box1 x23 #[.int .i64 X2.a.re, .int .i64 X2.a.im, .int .i64 X2.b.re, .int .i64 X2.b.im, .int .i64 X2.c.re, .int .i64 X2.c.im, .int .i64 X2.d.re, .int .i64 X2.d.im] 30
      rw [← y24]; clear y24
      refine (room7_any _ 4 4 [X2.a, X2.b, X2.c, X2.d] _ (blkG kA2 rfl) (by omega) (bigX HK2.out.fac)).mono ?_
      rintro e x25 ⟨rfl, hbx25⟩
      rw [HRX.out]
      clear cX cZ
      have cZ := (carryK (w' := x25) kZ (by repeat (first | with_reducible assumption | exact Below.refl _ _ | refine below_next (by with_reducible assumption) ?_))).cell
      go_wp2_with fail
      obtain ⟨x26, y26, hbx26, hzx26, kA3⟩ := box1 x25 #[.int .i64 P.re, .int .i64 P.im, .int .i64 Q.re, .int .i64 Q.im] 30
      rw [← y26]; clear y26
      refine (room20_any _ 2 2 [P, Q] _ (blkG kA3 rfl) (by omega) (bigZ HK2.out.fac)).mono ?_
      rintro e x27 ⟨rfl, hbx27⟩
      rw [HRZ.out]
      clear cZ
      go_upto_region 26 with (fail)
      refine wp_region_alloc1 23 (af := ?af2m) (t1 := 32) (cs1 := #[.int .i64 0, .int .i64 0, .int .i64 0, .int .i64 0]) (by kernel_rfl) (by kernel_rfl) (by kernel_rfl) rfl ⟨rfl, rfl, fun _ _ => by kernel_rfl⟩ (by kernel_rfl) ?q1m2 ?q2m2
      case q1m2 =>
        intro W0 hW0
        have cX := over_blk (carryK (w' := W0) kX (by repeat (first | with_reducible assumption | exact Below.refl _ _ | refine below_next (by with_reducible assumption) ?_))) (carryK (w' := W0) kX (by repeat (first | with_reducible assumption | exact Below.refl _ _ | refine below_next (by with_reducible assumption) ?_))).lt
        have cZ := over_blk (carryK (w' := W0) kZ (by repeat (first | with_reducible assumption | exact Below.refl _ _ | refine below_next (by with_reducible assumption) ?_))) (carryK (w' := W0) kZ (by repeat (first | with_reducible assumption | exact Below.refl _ _ | refine below_next (by with_reducible assumption) ?_))).lt
        simp only [List.take_succ_cons, List.take_zero]
        (repeat (first | go_big_quiet_step (first | (go_at_call 18; with_reducible first | exact over_call (Nat.le_refl _) (rTimes_any X2.a P _) | exact over_call (Nat.le_refl _) (rTimes_any X2.b Q _) | exact over_call (Nat.le_refl _) (rTimes_any X2.c P _) | exact over_call (Nat.le_refl _) (rTimes_any X2.d Q _)) | (go_at_call 17; with_reducible first | exact over_call (Nat.le_refl _) (plusN HK2.out.fac _) | exact over_call (Nat.le_refl _) (plusD HK2.out.fac _)))))
        refine wpQuiet_nil ?_
        rfl
      intro g28 x28 hg28 hbx28 kF0
      simp only [List.drop_succ_cons, List.drop_zero, Act.put, List.setIfInBounds_toArray, List.set_cons_succ, List.set_cons_zero]
      have cF0 := kF0.cell
      have fF0 := kF0.frozen
      go_upto_region 27 with (fail)
      have kF : Blk _ g28 32 #[.int .i64 (⟨LN2, LD2⟩ : Pr).n.re, .int .i64 (⟨LN2, LD2⟩ : Pr).n.im, .int .i64 (⟨LN2, LD2⟩ : Pr).d.re, .int .i64 (⟨LN2, LD2⟩ : Pr).d.im] := blk4 (u0 := .int .i64 LN2.re) (u1 := .int .i64 LN2.im) (u2 := .int .i64 LD2.re) (u3 := .int .i64 LD2.im) kF0
      have hbx29 := below4 (u0 := .int .i64 LN2.re) (u1 := .int .i64 LN2.im) (u2 := .int .i64 LD2.re) (u3 := .int .i64 LD2.im) hbx28 hg28
      clear cF0 fF0
      generalize World.setCell _ _ _ = x29 at kF hbx29 ⊢
      go_wp2_with (at_builtin; refine wpList_copied x29 rfl (.tmp 212) (.tmp 213) 41 (by rfl) 62 _ 3 32 Tryd.underlying41 info_el rfl (by decide) (by decide) (by rfl) A21 (3 + 2) c21 (els (x' :: lad s 2)) (by rfl) (carry r21 (by repeat (first | with_reducible assumption | exact Below.refl _ _ | refine below_next (by with_reducible assumption) ?_))) (one_els _) (by omega) ?_; intro A30 c30 x30 r30 hbx30)
      refine (HK2.out.iny A30 c30 _ (HC.out.carry (by repeat (first | with_reducible assumption | exact Below.refl _ _ | refine below_next (by with_reducible assumption) ?_))) r30).mono ?_
      rintro e x31 ⟨rfl, hbx31⟩
      by_cases hz : LD2 = .zero
      · have hy := hide (HK2.out.fac.ny.2 hz)
        rw [hy.out]
        have qE : ∀ W, (binOp .eql 30 (.agg #[.int .i64 LD2.re, .int .i64 LD2.im]) (.agg #[.int .i64 0, .int .i64 0])).run Tryd.prog W = .ok (.bool true) W := fun W => by
          have := eqG LD2 .zero W
          rw [decide_eq_true hz] at this
          exact this
        rw [show quo yA2 .zero = Pr.zero from by unfold quo; rw [if_pos rfl], show quoE .zero = 17 from by unfold quoE; rw [if_pos rfl]]
        clear hz
        go_upto_region 28 with (fail)
        obtain ⟨x32, y32, hbx32, hzx32, kY⟩ := box1 x31 #[.int .i64 Pr.zero.n.re, .int .i64 Pr.zero.n.im, .int .i64 Pr.zero.d.re, .int .i64 Pr.zero.d.im] 32
        rw [← y32]; clear y32
        have cF := (carryK (w' := x32) kF (by repeat (first | with_reducible assumption | exact Below.refl _ _ | refine below_next (by with_reducible assumption) ?_))).cell
        go_wp2_with fail
        go_roundw
        case rel => exact ⟨2, by omega, by go_num, (by repeat (first | with_reducible assumption | exact Below.refl _ _ | refine below_next (by with_reducible assumption) ?_))⟩
        case measure => simp [intOf]
      · have qE : ∀ W, (binOp .eql 30 (.agg #[.int .i64 LD2.re, .int .i64 LD2.im]) (.agg #[.int .i64 0, .int .i64 0])).run Tryd.prog W = .ok (.bool false) W := fun W => by
          have := eqG LD2 .zero W
          rw [decide_eq_false hz] at this
          exact this
        have hy : ¬ yC2 = .zero := fun e => hz (HK2.out.fac.ny.1 e)
        rw [quo_ne hy, quoE_ne hy]
        have HY := hide hy
        have HZ := hide hz
        clear hz hy
        go_upto_region 28 with (fail)
        obtain ⟨x32, y32, hbx32, hzx32, kY⟩ := box1 x31 #[.int .i64 (⟨yA2, yC2⟩ : Pr).n.re, .int .i64 (⟨yA2, yC2⟩ : Pr).n.im, .int .i64 (⟨yA2, yC2⟩ : Pr).d.re, .int .i64 (⟨yA2, yC2⟩ : Pr).d.im] 32
        rw [← y32]; clear y32
        have cF := (carryK (w' := x32) kF (by repeat (first | with_reducible assumption | exact Below.refl _ _ | refine below_next (by with_reducible assumption) ?_))).cell
        have cY := (carryK (w' := x32) kY (by repeat (first | with_reducible assumption | exact Below.refl _ _ | refine below_next (by with_reducible assumption) ?_))).cell
        go_wp2_with fail
        refine (same_true ⟨yA2, yC2⟩ ⟨LN2, LD2⟩ _ (nleY HK2.out.fac).1 (nleY HK2.out.fac).2.1 (nleY HK2.out.fac).2.2.1 (nleY HK2.out.fac).2.2.2 HY.out HZ.out HK2.out.fac.s3).mono ?_
        rintro e x33 ⟨rfl, hbx33⟩
        clear cF cY
        go_wp2_with fail
        go_roundw
        case rel => exact ⟨2, by omega, by go_num, (by repeat (first | with_reducible assumption | exact Below.refl _ _ | refine below_next (by with_reducible assumption) ?_))⟩
        case measure => simp [intOf]
    · go_wp2_with fail
      go_ret
      exact ⟨rfl, below_next hb07 hbo⟩
theorem lawCir_any (d : Drv) (x' : El) (f : Int) (w : World) (hC : Con w) (hL : Lim w) :
    Calls Tryd.prog 5 #[.agg #[.int .i64 d.re, .int .i64 d.le, .int .i64 d.bl, .int .i64 d.ms, .int .i64 d.st, .int .i64 d.ls], .agg #[.string x'.kind, .int .i64 x'.a, .int .i64 x'.b], .int .i64 f] w fun e w' => e = .returned (.bool true) ∧ Below w.heap.size w w' := by
  by_cases h1 : d.err = 0
  · by_cases h2 : ladErr [x'] = 0
    · by_cases h3 : rng f 1 8 = 0
      · obtain ⟨f1, f8⟩ := rng_zero.1 h3
        have hx := (lad_ok h2).all x' (by simp)
        obtain ⟨X, a, c, v, LN, LD, yA, yC, K1⟩ := cirK_of d.small_sm hx f1 f8 (k := 1) (.inl rfl)
        obtain ⟨X2, a2, c2, v2, LN2, LD2, yA2, yC2, K2⟩ := cirK_of d.small_sm hx f1 f8 (k := 2) (.inr rfl)
        exact lawCir_good d x' f w hC hL h1 hx f1 f8 _ _ _ _ (cirD_of d f1 f8) X a c v LN LD yA yC K1 X2 a2 c2 v2 LN2 LD2 yA2 yC2 K2
      · exact lawCir_bad3 d x' f w hC hL (by rw [h1]; rfl) (by rw [h2]; rfl) (by simpa using h3)
    · exact lawCir_bad2 d x' f w hC hL (by rw [h1]; rfl) (by simpa using h2)
  · exact lawCir_bad1 d x' f w hC hL (by simpa using h1)
end Go.Proofs.YthlnmoecmicofaaDoor
