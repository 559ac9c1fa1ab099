/- The program's section of a line. -/
import Derived.Test.YtpcmflfinlkeiaaGreatDoorSTak
namespace Go.Proofs.YtpcmflfinlkeiaaGreatDoor
open Go.RowKit Go.Shelf
set_option maxRecDepth 100000
/-- Six numbers as cells. -/
def cel6 (V : Nat → Int) : Array Value := #[.int .i64 (V 0), .int .i64 (V 1), .int .i64 (V 2), .int .i64 (V 3), .int .i64 (V 4), .int .i64 (V 5)]
def upd (V : Nat → Int) (j : Nat) (v : Int) : Nat → Int := fun i => if i = j then v else V i
theorem cel6_at {V : Nat → Int} {j : Nat} (h : j < 6) : (cel6 V)[j]? = some (.int .i64 (V j)) := by
  have hc : j = 0 ∨ j = 1 ∨ j = 2 ∨ j = 3 ∨ j = 4 ∨ j = 5 := by omega
  rcases hc with rfl | rfl | rfl | rfl | rfl | rfl <;> rfl
theorem cel6_set {V : Nat → Int} {j : Nat} {v : Int} (h : j < 6) : (cel6 V).setIfInBounds j (.int .i64 v) = cel6 (upd V j v) := by
  have hc : j = 0 ∨ j = 1 ∨ j = 2 ∨ j = 3 ∨ j = 4 ∨ j = 5 := by omega
  rcases hc with rfl | rfl | rfl | rfl | rfl | rfl <;> rfl
theorem drop_at {α : Type} {l : List α} {k : Nat} {x : α} (h : l[k]? = some x) : l.drop k = x :: l.drop (k + 1) := by
  have hk := (List.getElem?_eq_some_iff.1 h).1
  rw [List.drop_eq_getElem_cons hk]
  congr 1
  exact (List.getElem?_eq_some_iff.1 h).2
def zero6 : Sec := ⟨0, 0, 0, 0, 0, 0⟩
def sec6 (V : Nat → Int) : Sec := ⟨V 0, V 1, V 2, V 3, V 4, V 5⟩
/-- Whether all words so far were numbers. -/
def allB (ws : List ByteArray) : Bool := ws.all fun w => (snum w.data.toList).isSome
theorem allB_snoc {ws : List ByteArray} {j : Nat} {s : ByteArray} (h : ws[j]? = some s) : allB (ws.take (j + 1)) = (allB (ws.take j) && (snum s.data.toList).isSome) := by
  unfold allB
  rw [List.take_add_one, h, List.all_append]; simp
theorem line_short {l : List UInt8} (h : (spl 32 l).length ≠ 6) : pline l = none := by
  unfold pline
  cases hn : nums (spl 32 l) with
  | none => rfl
  | some x => show secOf x = none; exact secOf_none (by rw [nums_len hn]; exact h)
theorem line_six {l : List UInt8} {ws : List ByteArray} {V : Nat → Int} (hws : ws.map dat = spl 32 l) (h6 : ws.length = 6) (hV : ∀ i x, i < 6 → ∀ w, ws[i]? = some w → snum w.data.toList = some x → V i = x) :
    (pline l).isSome = allB ws ∧ ∀ y, pline l = some y → sec6 V = y := by
  match ws, h6 with
  | [a, b, c, d, e, f], _ =>
    unfold pline
    rw [← hws]
    have va : ∀ x, snum a.data.toList = some x → V 0 = x := fun x h => hV 0 x (by omega) a rfl h
    have vb : ∀ x, snum b.data.toList = some x → V 1 = x := fun x h => hV 1 x (by omega) b rfl h
    have vc : ∀ x, snum c.data.toList = some x → V 2 = x := fun x h => hV 2 x (by omega) c rfl h
    have vd : ∀ x, snum d.data.toList = some x → V 3 = x := fun x h => hV 3 x (by omega) d rfl h
    have ve : ∀ x, snum e.data.toList = some x → V 4 = x := fun x h => hV 4 x (by omega) e rfl h
    have vf : ∀ x, snum f.data.toList = some x → V 5 = x := fun x h => hV 5 x (by omega) f rfl h
    unfold allB sec6
    simp only [List.map_cons, List.map_nil, dat, List.all_cons, List.all_nil, Bool.and_true]
    cases ha : snum a.data.toList with
    | none => simp [nums, ha]
    | some x0 =>
      cases hb : snum b.data.toList with
      | none => simp [nums, ha, hb]
      | some x1 =>
        cases hc : snum c.data.toList with
        | none => simp [nums, ha, hb, hc]
        | some x2 =>
          cases hd : snum d.data.toList with
          | none => simp [nums, ha, hb, hc, hd]
          | some x3 =>
            cases he : snum e.data.toList with
            | none => simp [nums, ha, hb, hc, hd, he]
            | some x4 =>
              cases hf : snum f.data.toList with
              | none => simp [nums, ha, hb, hc, hd, he, hf]
              | some x5 =>
                rw [va x0 ha, vb x1 hb, vc x2 hc, vd x3 hd, ve x4 he, vf x5 hf]
                simp [nums, ha, hb, hc, hd, he, hf, secOf]
theorem blk6' {W : World} {g : Nat} {t : TypeId} {c0 c1 c2 c3 c4 c5 u0 u1 u2 u3 u4 u5 : Value} (hk : Blk W g t #[c0, c1, c2, c3, c4, c5]) : Blk ((((((W.setCell ⟨g, 0, none⟩ u0).setCell ⟨g, 1, none⟩ u1).setCell ⟨g, 2, none⟩ u2).setCell ⟨g, 3, none⟩ u3).setCell ⟨g, 4, none⟩ u4).setCell ⟨g, 5, none⟩ u5) g t #[u0, u1, u2, u3, u4, u5] := by
  simpa using (((((hk.set_ 0 u0).set_ 1 u1).set_ 2 u2).set_ 3 u3).set_ 4 u4).set_ 5 u5
theorem finA6 {Q : World → Prop} {v W : World} {g : Nat} {c0 c1 c2 c3 c4 c5 u0 u1 u2 u3 u4 u5 : Value} (t : TypeId) (hA : Apart g v W) (hk : Blk W g t #[c0, c1, c2, c3, c4, c5]) (h : ∀ X, Apart g v X → Blk X g t #[u0, u1, u2, u3, u4, u5] → Q X) :
    Q ((((((W.setCell ⟨g, 0, none⟩ u0).setCell ⟨g, 1, none⟩ u1).setCell ⟨g, 2, none⟩ u2).setCell ⟨g, 3, none⟩ u3).setCell ⟨g, 4, none⟩ u4).setCell ⟨g, 5, none⟩ u5) :=
  h _ ((((((hA.set_ 0 u0).set_ 1 u1).set_ 2 u2).set_ 3 u3).set_ 4 u4).set_ 5 u5) (blk6' hk)
theorem of_any (a b c d e f : Int) (w : World) :
    Calls Tryz.prog 40 #[.agg #[.int .i64 a, .int .i64 b, .int .i64 c, .int .i64 d, .int .i64 e, .int .i64 f]] w fun r w' => r = .returned (.agg #[.int .i64 a, .int .i64 b, .int .i64 c, .int .i64 d, .int .i64 e, .int .i64 f]) ∧ Below w.heap.size w w' := by
  go_enter Tryz.func40, Tryz.ntmps40
  go_wp2
  refine bodyPost_ret (v := .agg #[.int .i64 a, .int .i64 b, .int .i64 c, .int .i64 d, .int .i64 e, .int .i64 f]) (by simp [results, Tryz.results40, go_sem]) rfl ?_
  exact ⟨rfl, (by repeat (first | exact Below.refl _ _ | exact Below.refl _ _ | refine Below.drew ?_ | refine below_drewN ?_ _ | refine below_set ?_ (by omega) _ | refine below_new ?_ (by omega) _))⟩
set_option maxHeartbeats 4000000 in
theorem parsed_any (s : ByteArray) (w : World) (hT : TxV w) (hs : s.size ≤ 1000000) :
    Calls Tryz.prog 48 #[.string s] w fun e w' => ∃ x : Sec, e = .returned (.tuple #[.agg #[.int .i64 x.b0, .int .i64 x.b1, .int .i64 x.b2, .int .i64 x.a1, .int .i64 x.a2, .int .i64 x.sh], .bool (pline s.data.toList).isSome]) ∧ (∀ y, pline s.data.toList = some y → x = y) ∧ Below w.heap.size w w' := by
  go_enter Tryz.func48, Tryz.ntmps48
  go_upto_region 1 with (fail)
  obtain ⟨w0, e0, hb0, hz0, kR⟩ := box1 w #[.int .i64 0, .int .i64 0, .int .i64 0, .int .i64 0, .int .i64 0, .int .i64 0] 53
  rw [← e0]; clear e0
  go_wp2_with fail
  refine (split_any s 32 _ (hT.carry hb0) hs).mono ?_
  rintro e w1 ⟨ws, hws, rfl, hR, hb01⟩
  have hb1 := below_nx hb0 hb01
  have kR1 := carryB kR hb01
  have hT1 := hT.carry hb1
  have hws' : ws.map dat = spl 32 s.data.toList := hws
  have hpz : ∀ p ∈ ws, p.size ≤ 1000000 := fun p hp => by
    have h1 := spl_mem 32 s.data.toList p.data.toList (by rw [← hws]; exact List.mem_map_of_mem hp)
    have := bsize p
    have := bsize s
    omega
  have HWS := hide hws'
  have HPZ := hide hpz
  clear hws hws' hpz hs hT
  go_upto_region 2 with (fail)
  obtain ⟨w2, e2, hb2, hz2, kT⟩ := box1 w1 #[readF, .slice (some ⟨w0.heap.size, 0, none⟩) ws.length ws.length, .bool false] 144
  unfold readF at e2
  rw [← e2]; clear e2
  have kR2 := carryB kR1 hb2
  have cT := kT.cell
  unfold readF at cT
  have hlw : w.heap.size < w1.heap.size := kR1.lt
  have hne : w.heap.size ≠ w1.heap.size := by omega
  clear kR hz0 hb01 hb0
  by_cases h6 : ws.length = 6
  · have H6 := hide h6
    rw [h6] at kT cT ⊢
    clear h6
    go_wp2_with fail
    obtain ⟨w3, e3, hb3, hz3, kN⟩ := box1 w2 #[.int .i64 0, .int .i64 0, .int .i64 0, .int .i64 0, .int .i64 0, .int .i64 0] 79
    rw [← e3]; clear e3
    have hR3 := hR.below (hb2.trans (hb3.mono hb2.size))
    have kT3 := carryB kT hb3
    have kN3 : Blk w3 w2.heap.size 79 (cel6 fun _ => 0) := kN
    have hb13 : Below w1.heap.size w1 w3 := hb2.trans (hb3.mono hb2.size)
    have hl3 : w1.heap.size < w2.heap.size := by omega
    rw [H6.out] at hR3
    clear kT cT kN kR2 hb2 hb3 hR hz2 hz3
    go_loopw [22] (fun v wr => ∃ (j : Nat) (V : Nat → Int) (A : Option Addr) (q : Bool), j ≤ 6 ∧ v = .int .i64 j ∧ Blk wr w1.heap.size 144 #[readF, .slice A (ws.drop j).length (ws.drop j).length, .bool q] ∧ Reads wr w1.heap.size 1 A (ws.drop j).length (strs (ws.drop j)) ∧ Blk wr w2.heap.size 79 (cel6 V) ∧ Hid (q = !allB (ws.take j)) ∧ Hid (∀ i x, i < j → ∀ w, ws[i]? = some w → snum w.data.toList = some x → V i = x) ∧ Below w1.heap.size w1 wr) (fun v _ => 6 - (intOf v).toNat)
    case atStart => exact ⟨0, fun _ => 0, some ⟨w0.heap.size, 0, none⟩, false, by omega, rfl, (by rw [List.drop_zero, H6.out]; exact kT3), (by rw [List.drop_zero, H6.out]; exact hR3), kN3, rfl, fun i x h => by omega, hb13⟩
    case round =>
      rename World => wr
      obtain ⟨j, V, A, q, hj, rfl, kT, hRr, kN, HQ, HV, hbr⟩ := hrel
      clear kT3 hR3 kN3 hb13
      by_cases hlt : j < 6
      · obtain ⟨p, hp⟩ : ∃ p, ws[j]? = some p := ⟨_, List.getElem?_eq_getElem (by rw [H6.out]; exact hlt)⟩
        have hpz := HPZ.out p (List.mem_of_getElem? hp)
        have hd := drop_at hp
        rw [hd] at kT hRr
        have HP := hide hp
        clear hp hd
        have hji : (j : Int) < 6 := by omega
        go_wp2_with fail
        refine (taken_any w1.heap.size A p (ws.drop (j + 1)) q w1 wr hT1 hbr kT hRr hpz).mono ?_
        rintro e x1 ⟨v, A1, rfl, hv, ha, hR1, kT1⟩
        have hne2 : w2.heap.size ≠ w1.heap.size := by omega
        have kN1 := ha.blk kN hne2
        have hbx := ha.to hbr (Nat.le_refl _) hbr.size
        have cN : x1.cell? ⟨w2.heap.size, j, none⟩ = some (.int .i64 (V j)) := (kN1.cell j).trans (cel6_at hlt)
        have fN := kN1.frozen j
        have HVV := hide hv
        clear kT hRr kN hbr hv ha
        go_wp2_with fail
        have kN2 := kN1.set_ j (.int .i64 v)
        rw [cel6_set hlt] at kN2
        have kT2 := kT1.far (p := ⟨w2.heap.size, j, none⟩) (fun e => hne2 e.symm) (.int .i64 v)
        have hR2 := hR1.setCell (p := ⟨w2.heap.size, j, none⟩) (Nat.le_of_lt hl3) (.int .i64 v)
        have hbx2 := below_set (i := j) hbx (Nat.le_of_lt hl3) (.int .i64 v)
        have hq2 : (q || !(snum p.data.toList).isSome) = !allB (ws.take (j + 1)) := by rw [allB_snoc HP.out, HQ.out]; simp
        have hv2 : ∀ i x, i < j + 1 → ∀ w, ws[i]? = some w → snum w.data.toList = some x → upd V j v i = x := fun i x hi w hw hx => by
          unfold upd
          by_cases hij : i = j
          · subst hij
            rw [HP.out] at hw
            obtain rfl := Option.some.inj hw
            rw [if_pos rfl]; exact HVV.out x hx
          · rw [if_neg hij]; exact HV.out i x (by omega) w hw hx
        have HQ2 := hide hq2
        have HV2 := hide hv2
        clear hq2 hv2 cN fN kN1 kT1 hR1 hbx
        go_roundw
        case rel =>
          first
            | exact ⟨j + 1, upd V j v, A1, _, by omega, by go_num, kT2, hR2, kN2, HQ2, HV2, hbx2⟩
            | ((repeat (apply Exists.intro)); refine ⟨?_, rfl⟩; exact ⟨j + 1, upd V j v, A1, _, by omega, by go_num, kT2, hR2, kN2, HQ2, HV2, hbx2⟩)
        case measure => simp [intOf]; omega
      · obtain rfl : j = 6 := by omega
        have hji : ¬ ((6 : Int) < 6) := by omega
        obtain ⟨f1, f2⟩ := line_six (V := V) HWS.out H6.out HV.out
        have hq6 : allB ws = !q := by
          have := HQ.out
          rw [List.take_of_length_le (by rw [H6.out]; exact Nat.le_refl _)] at this
          rw [this]; simp
        rw [hq6] at f1
        have F1 := hide f1
        have F2 := hide f2
        have kR4 : Blk wr w.heap.size 53 #[.int .i64 0, .int .i64 0, .int .i64 0, .int .i64 0, .int .i64 0, .int .i64 0] := kR1.below hbr hlw
        have hbW := below_nx hb1 hbr
        clear f1 f2 hq6
        go_upto_region 11 with (fail)
        cases q
        all_goals
          refine wp_region_chainE [true, true, true, true, true, true, true, false, false] (fun W => Apart w.heap.size wr W) (fun _ _ h hb => h.below hb) (Apart.refl _ _) (by kernel_rfl) (by kernel_rfl) (by kernel_rfl) ?_
          apply Exists.intro
          refine ⟨fun W0 hW0 => ?_, fun W hW => ?_⟩
          · have kU0 := hW0.blk kN (by omega)
            have kV0 := hW0.blk kT hne.symm
            have cU := over_blk kU0 kU0.lt
            have cV := over_blk kV0 kV0.lt
            unfold cel6 at cU
            simp only [selT]
            (repeat (first | go_big_quiet_step ((go_at_call 40; exact over_call (Nat.le_refl _) (of_any _ _ _ _ _ _ _))) | quiet_step ((go_at_call 40; exact over_call (Nat.le_refl _) (of_any _ _ _ _ _ _ _)))))
            refine wpQuiet_nil ?_
            rfl
          · simp only [selF]
            refine chainD_cons ?_
            have kRW := carryB kR4 hW
            have cR := kRW.cell
            have fR := kRW.frozen
            have aW := (Apart.refl w.heap.size wr).below hW
            go_wp2_with fail
            with_reducible refine finA6 53 aW kRW ?_
            intro X aX kX
            refine LinkD.go rfl aX (fun W2 hW2 => ?_)
            refine chainD_cons ?_
            go_wp2_with fail
            refine LinkD.go rfl (aX.below hW2) (fun W3 hW3 => ?_)
            refine chainD_nil ?_
            have hX := ((aX.below hW2).below hW3).to hbW (Nat.le_refl _) hbW.size
            have cX := (carryB (carryB kX hW2) hW3).cell
            refine ‹∀ (a : Act) (w : World), Code.wp Tryz.prog Code.ret _ a w → _› _ _ ?_
            go_wp2_with fail
            refine bodyPost_ret (v := .tuple #[.agg #[.int .i64 (sec6 V).b0, .int .i64 (sec6 V).b1, .int .i64 (sec6 V).b2, .int .i64 (sec6 V).a1, .int .i64 (sec6 V).a2, .int .i64 (sec6 V).sh], .bool (pline s.data.toList).isSome]) (by rw [F1.out]; simp [results, Tryz.results48, go_sem, cX, sec6]) rfl ?_
            exact ⟨sec6 V, rfl, F2.out, hX⟩
  · have t6 : ((ws.length : Int) != 6) = true := by simp; omega
    have hn : pline s.data.toList = none := line_short (by rw [← HWS.out, List.length_map]; exact h6)
    have HN := hide hn
    have cR := kR2.cell
    have fR := kR2.frozen
    have aR := Apart.refl w.heap.size w2
    have hb02 := below_nx hb1 hb2
    clear h6 hn
    go_wp2_with fail
    with_reducible refine finA6 53 aR kR2 ?_
    intro X aX kX
    have cX := kX.cell
    have hX := aX.to hb02 (Nat.le_refl _) hb02.size
    refine bodyPost_ret (v := .tuple #[.agg #[.int .i64 zero6.b0, .int .i64 zero6.b1, .int .i64 zero6.b2, .int .i64 zero6.a1, .int .i64 zero6.a2, .int .i64 zero6.sh], .bool (pline s.data.toList).isSome]) (by rw [HN.out]; simp [results, Tryz.results48, go_sem, cX, zero6]) rfl ?_
    exact ⟨zero6, rfl, fun y h => (by rw [HN.out] at h; cases h), hX⟩
end Go.Proofs.YtpcmflfinlkeiaaGreatDoor
