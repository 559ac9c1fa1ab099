/- The program's source of a line. -/
import Derived.Test.YtcihiglpahhboaaGreatDoorATak
import Derived.Test.YtcihiglpahhboaaGreatDoorBaseF
import Derived.Test.YtcihiglpahhboaaGreatDoorSplitD
namespace Go.Proofs.YtcihiglpahhboaaGreatDoor
open Go.RowKit Go.Shelf
set_option maxRecDepth 100000
theorem source_word (a : ByteArray) : (a.toList == [115, 111, 117, 114, 99, 101]) = decide (a.data.toList = wordS) := by
  have h := toList_beqA a { data := #[115, 111, 117, 114, 99, 101] }
  rw [show ({ data := #[115, 111, 117, 114, 99, 101] } : ByteArray).toList = [115, 111, 117, 114, 99, 101] from by rw [ByteArray.toList_eq]] at h
  rw [h]
  congr 1
  apply propext
  constructor
  · intro e; rw [e]; rfl
  · intro e
    have : a = ⟨a.data.toList.toArray⟩ := by simp
    rw [this, e]; rfl
theorem fourOk_is {ws : List (List UInt8)} {n : Nat} (hn : n = ws.tail.tail.tail.tail.length) : fourOk ws = (!((((false || !(hd ws).isSome) || !(hd ws.tail).isSome) || !(hd ws.tail.tail).isSome) || !(hd ws.tail.tail.tail).isSome) && decide (n = 0)) := by
  subst hn
  unfold fourOk
  cases (hd ws).isSome <;> cases (hd ws.tail).isSome <;> cases (hd ws.tail.tail).isSome <;> cases (hd ws.tail.tail.tail).isSome <;> simp
theorem map_tail (ws : List ByteArray) : ws.tail.map dat = (ws.map dat).tail := by cases ws <;> rfl
/-- The line's source, in the words of the walk. -/
theorem pline_walk {s a r : ByteArray} {b : Bool} {ws : List ByteArray} {n : Nat} {v1 v2 v3 v4 : Int} (hc : Cutd 32 s.data.toList a.data.toList r.data.toList b) (hws : ws.map dat = spl 32 r.data.toList)
    (h1 : ∀ x, hd (ws.map dat) = some x → v1 = x) (h2 : ∀ x, hd (ws.tail.map dat) = some x → v2 = x) (h3 : ∀ x, hd (ws.tail.tail.map dat) = some x → v3 = x) (h4 : ∀ x, hd (ws.tail.tail.tail.map dat) = some x → v4 = x) (hn : n = ws.tail.tail.tail.tail.length) :
    ((pline s.data.toList).isSome = (decide (a.data.toList = wordS) && (b && (!((((false || !(hd (ws.map dat)).isSome) || !(hd (ws.tail.map dat)).isSome) || !(hd (ws.tail.tail.map dat)).isSome) || !(hd (ws.tail.tail.tail.map dat)).isSome) && decide (n = 0))))) ∧
      (∀ y, pline s.data.toList = some y → (⟨v1, v2, v3, v4⟩ : Src) = y) := by
  simp only [map_tail] at h1 h2 h3 h4 ⊢
  have hn' : n = (ws.map dat).tail.tail.tail.tail.length := by rw [← map_tail, ← map_tail, ← map_tail, ← map_tail, List.length_map]; exact hn
  rw [← fourOk_is hn']
  cases b with
  | false => rw [pline_less (hc.2 rfl).1]; exact ⟨by simp, fun y h => by cases h⟩
  | true =>
    rw [pline_more (hc.1 rfl).1]
    by_cases ha : a.data.toList = wordS
    · rw [if_pos ha, ← hws, decide_eq_true ha]
      cases hf : fourOk (ws.map dat) with
      | true =>
        have := pnums_four h1 h2 h3 h4 hf
        rw [this]
        exact ⟨rfl, fun y h => Option.some.inj h⟩
      | false =>
        rw [pnums_bad hf]
        exact ⟨rfl, fun y h => by cases h⟩
    · rw [if_neg ha, decide_eq_false ha]
      exact ⟨rfl, fun y h => by cases h⟩
theorem finA4 {Q : World → Prop} {v W : World} {g : Nat} {c0 c1 c2 c3 u0 u1 u2 u3 : Value} (t : TypeId) (hA : Apart g v W) (hk : Blk W g t #[c0, c1, c2, c3]) (h : ∀ X, Apart g v X → Blk X g t #[u0, u1, u2, u3] → Q X) :
    Q ((((W.setCell ⟨g, 0, none⟩ u0).setCell ⟨g, 1, none⟩ u1).setCell ⟨g, 2, none⟩ u2).setCell ⟨g, 3, none⟩ u3) :=
  h _ ((((hA.set_ 0 u0).set_ 1 u1).set_ 2 u2).set_ 3 u3) (blk4 hk)
set_option maxHeartbeats 4000000 in
theorem source_any (s : ByteArray) (w : World) (hT : TxV w) (hs : s.size ≤ 1000000) :
    Calls Tryz.prog 126 #[.string s] w fun e w' => ∃ x : Src, e = .returned (.tuple #[.agg #[.int .i64 x.x, .int .i64 x.y, .int .i64 x.g, .int .i64 x.p], .bool (pline s.data.toList).isSome]) ∧ (∀ y, pline s.data.toList = some y → x = y) ∧ Below w.heap.size w w' := by
  go_enter Tryz.func126, Tryz.ntmps126
  go_upto_region 1 with (fail)
  obtain ⟨w0, e0, hb0, hz0, kR⟩ := box1 w #[.int .i64 0, .int .i64 0, .int .i64 0, .int .i64 0] 60
  rw [← e0]; clear e0
  go_wp2_with fail
  refine (cut_any s 32 _ (hT.carry hb0) hs).mono ?_
  rintro e w1 ⟨a, r, b, hc, rfl, hb01⟩
  have hb1 := below_next hb0 hb01
  have kR1 := carryK kR hb01
  have hrs : r.size ≤ 1000000 := by have := hc.le.2; rw [← bsize, ← bsize] at this; omega
  go_wp2_with fail
  refine (split_any r 32 _ (hT.carry hb1) hrs).mono ?_
  rintro e w2 ⟨ws, hws, rfl, hR, hb2⟩
  have kR2 := carryK kR1 hb2
  have hb02 := below_next hb1 hb2
  have hT2 := hT.carry hb02
  have hpz : ∀ p ∈ ws, p.size ≤ 1000000 := fun p hp => by
    have h1 := spl_mem 32 r.data.toList p.data.toList (by rw [← hws]; exact List.mem_map_of_mem hp)
    have := bsize p
    have := bsize r
    omega
  have hws' : ws.map dat = spl 32 r.data.toList := hws
  have HC := hide hc
  have HWS := hide hws'
  have HPZ := hide hpz
  clear hc hws hws' hpz hs hrs
  go_wp2_with fail
  obtain ⟨w3, e3, hb3, hz3, kT, kS⟩ := box2 w2 #[.slice (some ⟨w1.heap.size, 0, none⟩) ws.length ws.length, .bool false] #[.int .i64 0, .int .i64 0, .int .i64 0, .int .i64 0] 199 60
  rw [← e3]; clear e3
  have hne : w2.heap.size + 1 ≠ w2.heap.size := by omega
  have hR3 := hR.below hb3
  clear hR hz3 kR kR1 hb0 hb01 hb1 hb2 hz0
  refine (taken_any w2.heap.size (some ⟨w1.heap.size, 0, none⟩) ws false w2 w3 hT2 hb3 (Nat.le_refl _) kT hR3 (fun p hp => HPZ.out p ((fun p hp => hp) p hp))).mono ?_
  rintro e x1 ⟨v1, A1, rfl, hv1, ha1, hR1, kT1⟩
  obtain ⟨q1, hq1⟩ : ∃ q, q = (false || !(hd ((ws).map dat)).isSome) := ⟨_, rfl⟩
  obtain ⟨t1, ht1⟩ : ∃ t, t = (ws).tail := ⟨_, rfl⟩
  rw [← hq1, ← ht1] at kT1
  rw [← ht1] at hR1
  have HQ1 := hide hq1
  have HT1 := hide ht1
  have hm1 : ∀ p ∈ t1, p ∈ ws := fun p hp => (fun p hp => hp) p (List.mem_of_mem_tail (by rw [← HT1.out]; exact hp))
  have HV1 := hide hv1
  have hx1 := ha1.to hb3 (Nat.le_refl _) (hb3).size
  have kS1 := ha1.blk kS hne
  have cS := kS1.cell
  have fS := kS1.frozen
  clear hq1 ht1 hv1 ha1 kT kS hR3 hb3
  go_wp2_with fail
  have kU1 : Blk _ (w2.heap.size + 1) 60 #[.int .i64 v1, .int .i64 0, .int .i64 0, .int .i64 0] := kS1.set_ 0 (.int .i64 v1)
  have kV1 := kT1.far (p := ⟨w2.heap.size + 1, 0, none⟩) (fun q => hne q.symm) (.int .i64 v1)
  have hU1 := hR1.setCell (p := ⟨w2.heap.size + 1, 0, none⟩) (Nat.le_succ _) (.int .i64 v1)
  have hy1 := below_set (i := 0) hx1 (Nat.le_succ w2.heap.size) (.int .i64 v1)
  generalize World.setCell x1 _ _ = y1 at kU1 kV1 hU1 hy1 ⊢
  clear cS fS kS1 kT1 hR1 hx1
  refine (taken_any w2.heap.size A1 t1 q1 w2 y1 hT2 hy1 (Nat.le_refl _) kV1 hU1 (fun p hp => HPZ.out p (hm1 p hp))).mono ?_
  rintro e x2 ⟨v2, A2, rfl, hv2, ha2, hR2, kT2⟩
  obtain ⟨q2, hq2⟩ : ∃ q, q = (q1 || !(hd ((t1).map dat)).isSome) := ⟨_, rfl⟩
  obtain ⟨t2, ht2⟩ : ∃ t, t = (t1).tail := ⟨_, rfl⟩
  rw [← hq2, ← ht2] at kT2
  rw [← ht2] at hR2
  have HQ2 := hide hq2
  have HT2 := hide ht2
  have hm2 : ∀ p ∈ t2, p ∈ ws := fun p hp => hm1 p (List.mem_of_mem_tail (by rw [← HT2.out]; exact hp))
  have HV2 := hide hv2
  have hx2 := ha2.to hy1 (Nat.le_refl _) (hy1).size
  have kS2 := ha2.blk kU1 hne
  have cS := kS2.cell
  have fS := kS2.frozen
  clear hq2 ht2 hv2 ha2 kV1 kU1 hU1 hy1
  go_wp2_with fail
  have kU2 : Blk _ (w2.heap.size + 1) 60 #[.int .i64 v1, .int .i64 v2, .int .i64 0, .int .i64 0] := kS2.set_ 1 (.int .i64 v2)
  have kV2 := kT2.far (p := ⟨w2.heap.size + 1, 1, none⟩) (fun q => hne q.symm) (.int .i64 v2)
  have hU2 := hR2.setCell (p := ⟨w2.heap.size + 1, 1, none⟩) (Nat.le_succ _) (.int .i64 v2)
  have hy2 := below_set (i := 1) hx2 (Nat.le_succ w2.heap.size) (.int .i64 v2)
  generalize World.setCell x2 _ _ = y2 at kU2 kV2 hU2 hy2 ⊢
  clear cS fS kS2 kT2 hR2 hx2
  refine (taken_any w2.heap.size A2 t2 q2 w2 y2 hT2 hy2 (Nat.le_refl _) kV2 hU2 (fun p hp => HPZ.out p (hm2 p hp))).mono ?_
  rintro e x3 ⟨v3, A3, rfl, hv3, ha3, hR3, kT3⟩
  obtain ⟨q3, hq3⟩ : ∃ q, q = (q2 || !(hd ((t2).map dat)).isSome) := ⟨_, rfl⟩
  obtain ⟨t3, ht3⟩ : ∃ t, t = (t2).tail := ⟨_, rfl⟩
  rw [← hq3, ← ht3] at kT3
  rw [← ht3] at hR3
  have HQ3 := hide hq3
  have HT3 := hide ht3
  have hm3 : ∀ p ∈ t3, p ∈ ws := fun p hp => hm2 p (List.mem_of_mem_tail (by rw [← HT3.out]; exact hp))
  have HV3 := hide hv3
  have hx3 := ha3.to hy2 (Nat.le_refl _) (hy2).size
  have kS3 := ha3.blk kU2 hne
  have cS := kS3.cell
  have fS := kS3.frozen
  clear hq3 ht3 hv3 ha3 kV2 kU2 hU2 hy2
  go_wp2_with fail
  have kU3 : Blk _ (w2.heap.size + 1) 60 #[.int .i64 v1, .int .i64 v2, .int .i64 v3, .int .i64 0] := kS3.set_ 2 (.int .i64 v3)
  have kV3 := kT3.far (p := ⟨w2.heap.size + 1, 2, none⟩) (fun q => hne q.symm) (.int .i64 v3)
  have hU3 := hR3.setCell (p := ⟨w2.heap.size + 1, 2, none⟩) (Nat.le_succ _) (.int .i64 v3)
  have hy3 := below_set (i := 2) hx3 (Nat.le_succ w2.heap.size) (.int .i64 v3)
  generalize World.setCell x3 _ _ = y3 at kU3 kV3 hU3 hy3 ⊢
  clear cS fS kS3 kT3 hR3 hx3
  refine (taken_any w2.heap.size A3 t3 q3 w2 y3 hT2 hy3 (Nat.le_refl _) kV3 hU3 (fun p hp => HPZ.out p (hm3 p hp))).mono ?_
  rintro e x4 ⟨v4, A4, rfl, hv4, ha4, hR4, kT4⟩
  obtain ⟨q4, hq4⟩ : ∃ q, q = (q3 || !(hd ((t3).map dat)).isSome) := ⟨_, rfl⟩
  obtain ⟨t4, ht4⟩ : ∃ t, t = (t3).tail := ⟨_, rfl⟩
  rw [← hq4, ← ht4] at kT4
  rw [← ht4] at hR4
  have HQ4 := hide hq4
  have HT4 := hide ht4
  have hm4 : ∀ p ∈ t4, p ∈ ws := fun p hp => hm3 p (List.mem_of_mem_tail (by rw [← HT4.out]; exact hp))
  have HV4 := hide hv4
  have hx4 := ha4.to hy3 (Nat.le_refl _) (hy3).size
  have kS4 := ha4.blk kU3 hne
  have cS := kS4.cell
  have fS := kS4.frozen
  clear hq4 ht4 hv4 ha4 kV3 kU3 hU3 hy3
  go_upto_region 8 with (fail)
  have kU4 : Blk _ (w2.heap.size + 1) 60 #[.int .i64 v1, .int .i64 v2, .int .i64 v3, .int .i64 v4] := kS4.set_ 3 (.int .i64 v4)
  have kV4 := kT4.far (p := ⟨w2.heap.size + 1, 3, none⟩) (fun q => hne q.symm) (.int .i64 v4)
  have hU4 := hR4.setCell (p := ⟨w2.heap.size + 1, 3, none⟩) (Nat.le_succ _) (.int .i64 v4)
  have hy4 := below_set (i := 3) hx4 (Nat.le_succ w2.heap.size) (.int .i64 v4)
  generalize World.setCell x4 _ _ = y4 at kU4 kV4 hU4 hy4 ⊢
  clear cS fS kS4 kT4 hR4 hx4
  obtain ⟨f1, f2⟩ := pline_walk HC.out HWS.out HV1.out (by rw [← HT1.out]; exact HV2.out) (by rw [← HT1.out, ← HT2.out]; exact HV3.out) (by rw [← HT1.out, ← HT2.out, ← HT3.out]; exact HV4.out) (show t4.length = _ by rw [HT4.out, HT3.out, HT2.out, HT1.out])
  have hq : ((((false || !(hd (ws.map dat)).isSome) || !(hd (ws.tail.map dat)).isSome) || !(hd (ws.tail.tail.map dat)).isSome) || !(hd (ws.tail.tail.tail.map dat)).isSome) = q4 := by rw [HQ4.out, HQ3.out, HQ2.out, HQ1.out, HT3.out, HT2.out, HT1.out]
  rw [hq] at f1
  obtain ⟨T, hw⟩ : ∃ T, decide (a.data.toList = wordS) = T := ⟨_, rfl⟩
  have tw : (a.toList == [115, 111, 117, 114, 99, 101]) = T := by rw [source_word]; exact hw
  obtain ⟨Z, hz⟩ : ∃ Z, decide (t4.length = 0) = Z := ⟨_, rfl⟩
  have tz : ((t4.length : Int) == 0) = Z := by
    rw [← hz]
    by_cases h : t4.length = 0
    · rw [h]; rfl
    · rw [decide_eq_false h]; exact beq_eq_false_iff_ne.2 (by omega)
  rw [hw, hz] at f1
  have F1 := hide f1
  have F2 := hide f2
  have kR4 := kR2.below hy4 kR2.lt
  have hby := below_next hb02 hy4
  have hn1 : w2.heap.size + 1 ≠ w.heap.size := by have := hb02.size; omega
  have hn2 : w2.heap.size ≠ w.heap.size := by have := kR2.lt; omega
  clear f1 f2 hq hw hz hm1 hm2 hm3 hm4 hT hT2 kR2 hb02 hU4 hy4
  cases T <;> cases b <;> cases q4 <;> cases Z
  all_goals
    refine wp_region_chainE [true, true, true, true, true, true, true, true, true, true, true, true, true, true, true, true, true, true, true, true, true, false, false] (fun W => Apart w.heap.size y4 W) (fun _ _ h hb => h.below hb) (Apart.refl _ _) (by kernel_rfl) (by kernel_rfl) (by kernel_rfl) ?_
    apply Exists.intro
    refine ⟨fun W0 hW0 => ?_, fun W hW => ?_⟩
    · have kU0 := hW0.blk kU4 hn1
      have kV0 := hW0.blk kV4 hn2
      have cU := over_blk kU0 kU0.lt
      have cV := over_blk kV0 kV0.lt
      simp only [selT]
      (repeat (first | go_big_quiet_step (fail) | quiet_step (fail)))
      refine wpQuiet_nil ?_
      rfl
    · simp only [selF]
      refine chainD_cons ?_
      have kRW := carryK kR4 hW
      have cR := kRW.cell
      have fR := kRW.frozen
      have aW := (Apart.refl w.heap.size y4).below hW
      go_wp2_with fail
      with_reducible refine finA4 60 aW kRW ?_
      intro X aX kX
      refine LinkD.go rfl aX (fun W2 hW2 => ?_)
      refine chainD_cons ?_
      go_wp2_with fail
      refine LinkD.go rfl (aX.below hW2) (fun W3 hW3 => ?_)
      refine chainD_nil ?_
      have hX := ((aX.below hW2).below hW3).to hby (Nat.le_refl _) hby.size
      have cX := (carryK (carryK kX hW2) hW3).cell
      refine ‹∀ (a : Act) (w : World), Code.wp Tryz.prog Code.ret _ a w → _› _ _ ?_
      go_wp2_with fail
      refine bodyPost_ret (v := .tuple #[.agg #[.int .i64 v1, .int .i64 v2, .int .i64 v3, .int .i64 v4], .bool (pline s.data.toList).isSome]) (by rw [F1.out]; simp [results, Tryz.results126, go_sem, cX]) rfl ?_
      exact ⟨⟨v1, v2, v3, v4⟩, rfl, F2.out, hX⟩
end Go.Proofs.YtcihiglpahhboaaGreatDoor
