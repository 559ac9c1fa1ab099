/- The law ArrayBeams: for all arguments it returns true. -/
import Derived.Test.YtcihiglpahhboaaGreatDoorALawBeP
namespace Go.Proofs.YtcihiglpahhboaaGreatDoor
open Go.RowKit Go.Shelf
set_option maxRecDepth 100000
/-- Four small numbers. -/
def four8 (b0 b1 b2 b3 : Nat) (k : Nat) : Nat := [b0, b1, b2, b3].getD k 0
theorem four8_in {b0 b1 b2 b3 : Nat} (h0 : b0 ≤ 255) (h1 : b1 ≤ 255) (h2 : b2 ≤ 255) (h3 : b3 ≤ 255) (k : Nat) : four8 b0 b1 b2 b3 k ≤ 255 := by
  unfold four8
  rcases (show k = 0 ∨ k = 1 ∨ k = 2 ∨ k = 3 ∨ 4 ≤ k by omega) with rfl | rfl | rfl | rfl | h
  · exact h0
  · exact h1
  · exact h2
  · exact h3
  · rw [List.getD_eq_getElem?_getD, List.getElem?_eq_none (by simpa using h)]; simp
theorem four8_cell {W : World} {g : Nat} {t : TypeId} {b0 b1 b2 b3 : Nat} {k : Nat} (hk : k < 4) (h : Blk W g t #[.int .u8 (b0 : Int), .int .u8 (b1 : Int), .int .u8 (b2 : Int), .int .u8 (b3 : Int)]) : W.cell? ⟨g, k, none⟩ = some (.int .u8 ((four8 b0 b1 b2 b3 k : Nat) : Int)) := by
  rw [h.cell]
  rcases (show k = 0 ∨ k = 1 ∨ k = 2 ∨ k = 3 by omega) with rfl | rfl | rfl | rfl <;> rfl
theorem reflS_ne (s : Src) (w : World) : (binOp .neq 78 (.agg #[.int .i64 s.x, .int .i64 s.y, .int .i64 s.g, .int .i64 s.p]) (.agg #[.int .i64 s.x, .int .i64 s.y, .int .i64 s.g, .int .i64 s.p])).run Tryz.prog w = .ok (.bool false) w := by have := neqS s s w; simpa using this
/-- A copy of sources in a region that draws its order. -/
theorem step_copiedD {P : Program} {ops : Array Oper} {o : Oper} {a : Act} {K : Act → World → Prop} {Q : Exit → Act → World → Prop} {E : Prop} (w : World) (hP : P = Tryz.prog) (hgd : o.guard = none) (s x : Operand)
    (ho : o.op = .call { callee := .builtin .append, args := #[s, x], argTypes := #[26, 26] })
    (hs : a.eval s = .slice (some ⟨w.heap.size, 0, none⟩) 0 0) (A : Option Addr) (n c : Nat) (l : List Src) (hx : a.eval x = .slice A n c) (hR : Reads w w.heap.size 4 A n (srcs l)) (hn : n ≤ 100000)
    (h : ∀ A' c' w', Reads w' w'.heap.size 4 A' n (srcs l) → Below w.heap.size w w' → K (a.put o.dst (.slice A' n c')) w') :
    if Region.wanted o (yielded ops a.tmps) = true then Oper.wp P o a (w.alloc (.cells #[] 60)).drew K Q else E := by
  subst hP
  obtain ⟨i, hi, hz, hsize, hby⟩ := info_parts info_src
  have hown : (w.alloc (.cells #[] 60)).drew.ownsRow w.heap.size 60 4 (.slice (some ⟨w.heap.size, 0, none⟩) 0 0) 0 [] :=
    ⟨by simp, .inr ⟨w.heap.size, 0, #[], rfl, Nat.le_refl _, Blk.new w _ #[], Nat.le_refl _, by unfold maxLen; omega, by simp, by simp⟩⟩
  refine step_append_any _ hgd s x _ ho w.heap.size _ i _ 4 32 Tryz.underlying26 hi hz hsize hby rfl (by decide) _ 0 [] hs hown w.heap.size A n c (srcs l) hx (Reads.drew (hR.alloc (Nat.le_refl _) _)) (srcs_one _) (by unfold maxLen; omega) (by omega) (by show w.heap.size ≤ (w.alloc _).heap.size; simp) ?_
  intro v1 w1 ho1 hg1 _
  rw [Nat.zero_add, List.nil_append] at ho1
  obtain ⟨A', c', rfl, hr⟩ := own_slice ho1
  exact h A' c' w1 hr (((Below.refl w.heap.size w).alloc (Nat.le_refl _) _).drew.grown hg1 (by show w.heap.size ≤ (w.alloc _).heap.size; simp) fun k hk => (hown.lt k hk).1)
set_option maxHeartbeats 8000000 in
theorem lawBea_any (A : Option Addr) (m c : Nat) (l : List Src) (a : Au) (b0 b1 b2 b3 : Nat) (w : World) (hR : Reads w w.heap.size 4 A m (srcs l)) (h0 : b0 ≤ 255) (h1 : b1 ≤ 255) (h2 : b2 ≤ 255) (h3 : b3 ≤ 255) (hV : Vr w) (hT : Tens w) :
    Calls Tryz.prog 7 #[.slice A m c, .agg #[.int .i64 a.a0, .int .i64 a.a1, .int .i64 a.a2, .int .i64 a.a3, .int .i64 a.a4, .int .i64 a.a5, .int .i64 a.a6, .int .i64 a.a7], .agg #[.int .u8 (b0 : Int), .int .u8 (b1 : Int), .int .u8 (b2 : Int), .int .u8 (b3 : Int)]] w fun e w' => e = .returned (.bool true) ∧ Below w.heap.size w w' := by
  have HL := hide (srcs_reads_len hR)
  go_enter Tryz.func7, Tryz.ntmps7
  go_upto_region 1 with (fail)
  obtain ⟨w1, e1, hb1, hz1, kA, kB⟩ := box2 w #[.int .i64 a.a0, .int .i64 a.a1, .int .i64 a.a2, .int .i64 a.a3, .int .i64 a.a4, .int .i64 a.a5, .int .i64 a.a6, .int .i64 a.a7] #[.int .u8 (b0 : Int), .int .u8 (b1 : Int), .int .u8 (b2 : Int), .int .u8 (b3 : Int)] 64 77
  rw [← e1]; clear e1
  have hR1 := carry hR hb1
  have hV1 := hV.carry hb1
  have hT1 := tens_below hT hb1 hT.1
  clear hR hV hT hz1
  go_cut [48] from 32 to 47 (fun s48 wx => ∃ t : Bool, s48 = .bool t ∧ Hid (t = false → m ≤ 4 ∧ LOk l ∧ auE a = 0) ∧ Below w1.heap.size w1 wx)
  case first =>
    as_aux_lemma =>
      go_wp2_with fail
      refine (awake_any _ hV1 hT1).mono ?_
      rintro e w2 ⟨rfl, hb2⟩
      by_cases h4 : m ≤ 4
      · have g1 : decide ((4 : Int) < (m : Int)) = false := by simp; omega
        have g1' : decide (4 < m) = false := by simp; omega
        go_wp2_with fail
        refine (rCheckSources_any A m c l _ (carry hR1 hb2) (by omega)).mono ?_
        rintro e w3 ⟨rfl, hb3⟩
        by_cases e0 : lstErr l = 0
        · have t0 : (lstErr l != 0) = false := by rw [e0]; rfl
          have E0 := hide e0
          have cA := (carryK kA (w' := w3) (by repeat (first | with_reducible assumption | exact Below.refl _ _ | refine below_next (by with_reducible assumption) ?_))).cell
          clear e0
          go_wp2_with fail
          refine (rCheckAudience_any a _).mono ?_
          rintro e w4 ⟨rfl, hb4⟩
          by_cases e1 : auE a = 0
          · have t1 : (auE a != 0) = false := by rw [e1]; rfl
            have E1 := hide e1
            clear e1 cA
            go_wp2_with fail
            go_meet
            exact ⟨false, rfl, fun _ => ⟨h4, lst_ok E0.out, E1.out⟩, (by repeat (first | with_reducible assumption | exact Below.refl _ _ | refine below_next (by with_reducible assumption) ?_))⟩
          · have t1 : (auE a != 0) = true := by simpa using e1
            clear e1 cA
            go_wp2_with fail
            go_meet
            exact ⟨true, rfl, fun h => (by cases h), (by repeat (first | with_reducible assumption | exact Below.refl _ _ | refine below_next (by with_reducible assumption) ?_))⟩
        · have t0 : (lstErr l != 0) = true := by simpa using e0
          clear e0
          go_wp2_with fail
          go_meet
          exact ⟨true, rfl, fun h => (by cases h), (by repeat (first | with_reducible assumption | exact Below.refl _ _ | refine below_next (by with_reducible assumption) ?_))⟩
      · have g1 : decide ((4 : Int) < (m : Int)) = true := by simp; omega
        have g1' : decide (4 < m) = true := by simp; omega
        go_wp2_with fail
        go_meet
        exact ⟨true, rfl, fun h => (by cases h), hb2⟩
  case rest =>
    obtain ⟨t, rfl, HH, hb2⟩ := hcut
    rename World => w2
    have hR2 := carry hR1 hb2
    have hV2 := hV1.carry hb2
    have hT2 := tens_below hT1 hb2 hT1.1
    have kA2 := carryK kA hb2
    have kB2 := carryK kB hb2
    have hb02 := below_next hb1 hb2
    clear hb1 hb2 hR1 hV1 hT1 kA kB
    cases t
    case true =>
      go_wp2_with fail
      refine (awake_any _ hV2 hT2).mono ?_
      rintro e w3 ⟨rfl, hb3⟩
      go_wp2_with fail
      go_ret
      exact ⟨rfl, below_next hb02 hb3⟩
    case false =>
      obtain ⟨h4, hok, hau⟩ := HH.out rfl
      have HO := hide hok
      have hf8 := four8_in h0 h1 h2 h3
      obtain ⟨f, hf⟩ : ∃ f, four8 b0 b1 b2 b3 = f := ⟨_, rfl⟩
      have HCELL : Hid (∀ k W, k < 4 → Below w2.heap.size w2 W → W.cell? ⟨w.heap.size + 1, k, none⟩ = some (.int .u8 ((f k : Nat) : Int))) := fun k W hk hb => by rw [← hf]; exact four8_cell hk (carryK kB2 hb)
      rw [hf] at hf8
      have HF8 := hide hf8
      obtain ⟨BB, hBB⟩ : ∃ B, bst l a.l = B := ⟨_, rfl⟩
      obtain ⟨MO, hMO⟩ : ∃ v, scr BB a.l = v := ⟨_, rfl⟩
      obtain ⟨D, hD⟩ : ∃ D, drw f l = D := ⟨_, rfl⟩
      obtain ⟨N, hN⟩ : ∃ D, drw (fun i => f i + 1) l = D := ⟨_, rfl⟩
      obtain ⟨sD, hsD⟩ : ∃ v, scr D a.l = v := ⟨_, rfl⟩
      obtain ⟨gs, hgs⟩ : ∃ v, gsum l = v := ⟨_, rfl⟩
      have hll := HL.out
      have hkD : LOk D := by rw [← hD]; exact drw_ok hok
      have hkN : LOk N := by rw [← hN]; exact drw_ok hok
      have hkB : LOk BB := by rw [← hBB]; unfold bst; exact ph_ok hok _
      have hsN : scr N a.l = sD := by rw [← hN, drw_on, scr_on, hD, hsD]
      have HBEST := hide (fun A m c W => bestB_is BB MO hok (by omega) hau hBB hMO A m c W)
      have HSB := hide (fun A m c W => scoreB_is MO hkB hau hMO A m c W)
      have HSD := hide (fun A m c W => scoreB_is sD hkD hau hsD A m c W)
      have HSN := hide (fun A m c W => scoreB_is sD hkN hau hsN A m c W)
      have HLE : Hid (sD ≤ MO) := by show _ ≤ _; rw [← hsD, ← hMO, ← hD, ← hBB]; exact drw_max f l a.l
      have HBL : Hid (BB.length = m) := by show _ = _; rw [← hBB]; unfold bst; rw [ph_len]; exact hll
      have HBG : Hid (∀ (i : Nat) (s : Src), BB[i]? = some s → ∃ (t : Src) (q : Int), l[i]? = some t ∧ s = t.at q) := fun i s h => by rw [← hBB] at h; exact bst_get h
      have HST : Hid (∀ d : Nat, d < 8 → ∀ A m c W, Reads W W.heap.size 4 A m (srcs l) → Vr W → m ≤ 1000000 → Calls Tryz.prog 38 #[.slice A m c, .int .i64 (d : Int)] W fun e w' => OutS W (l.map (str d)) 0 e w') := fun d hd => steerB_is hok hd
      have HPR : Hid (∀ d : Nat, d < 8 → ∀ A m c W, Reads W W.heap.size 4 A m (srcs (l.map (str d))) → Vr W → m ≤ 1000000 → Calls Tryz.prog 47 #[.slice A m c, .int .i64 (d : Int)] W fun e w' => e = .returned (.tuple #[.agg #[.int .i64 gs, .int .i64 0], .int .i64 0]) ∧ Below W.heap.size W w') := fun d hd => presB_is gs hok hgs hd
      have HLV : Hid (∀ d : Nat, d < 8 → ∀ A m c W, Reads W W.heap.size 4 A m (srcs l) → Vr W → m ≤ 1000000 → Calls Tryz.prog 48 #[.slice A m c, .int .i64 (d : Int)] W fun e w' => ∃ v, e = .returned (.tuple #[.int .i64 v, .int .i64 0]) ∧ v ≤ gs * gs ∧ Below W.heap.size W w') := fun d hd => levB_is gs hok hgs hd
      have HSS : Hid (∀ d : Nat, ∃ v, v ≤ MO ∧ ∀ A m c W, Reads W W.heap.size 4 A m (srcs (l.map (str d))) → Vr W → m ≤ 1000000 → Calls Tryz.prog 39 #[.slice A m c, .agg #[.int .i64 a.a0, .int .i64 a.a1, .int .i64 a.a2, .int .i64 a.a3, .int .i64 a.a4, .int .i64 a.a5, .int .i64 a.a6, .int .i64 a.a7]] W fun e w' => e = .returned (.tuple #[.int .i64 v, .int .i64 0]) ∧ Below W.heap.size W w') := fun d =>
        ⟨scr (l.map (str d)) a.l, by rw [← hMO, ← hBB]; exact str_max d a.l, scoreB_is _ ⟨by rw [List.length_map]; exact hok.len, fun t ht => by obtain ⟨u, hu, rfl⟩ := List.mem_map.1 ht; exact str_ok (hok.all u hu) d⟩ hau rfl⟩
      have HGS : Hid (gsum l = gs ∧ 0 ≤ gs ∧ gs ≤ 400) := by
        show _ ∧ _
        have := gsum_in hok.all
        rw [hgs] at this
        exact ⟨hgs, by omega, by omega⟩
      have hlD : D.length = l.length := by rw [← hD]; exact drw_len f l
      have hlN : N.length = l.length := by rw [← hN]; exact drw_len _ l
      have HDA : Hid (∀ (i : Nat) (s : Src), l[i]? = some s → D[i]? = some (s.at ((f i % 4 : Nat) : Int))) := fun i s h => by rw [← hD]; exact drw_at h
      have HNA : Hid (∀ (i : Nat) (s : Src), l[i]? = some s → N[i]? = some (s.at (((f i + 1) % 4 : Nat) : Int))) := fun i s h => by rw [← hN]; exact drw_at h
      have HLD := hide hlD
      have HLN := hide hlN
      clear hok hau hf8 hf hBB hMO hD hN hsD hgs hll hkD hkN hkB hsN hlD hlN HH kB2 h0 h1 h2 h3
      go_wp2_with fail
      refine (ownR_any A m c l _ hR2 (by omega)).mono ?_
      rintro e w3 ⟨A3, c3, rfl, rowD, hb3⟩
      go_wp2_with fail
      refine (ownR_any A m c l _ (carry hR2 hb3) (by omega)).mono ?_
      rintro e w4 ⟨A4, c4, rfl, rowO, hb4⟩
      have HLT : Hid (0 < m → ∀ g, A3 = some ⟨g, 0, none⟩ → g < w3.heap.size) := fun h g hg => by
        obtain ⟨g', sp, e, _, hk⟩ := rowD.blk h
        rw [hg] at e
        obtain rfl : g = g' := by simpa using e
        exact hk.lt
      have rowD4 := rowD.below hb4
      have hb24 := below_next hb3 hb4
      clear rowD hb3 hb4
      go_wp2_with fail
      go_loopw [7, 56] (fun s i wr => ∃ k : Nat, k ≤ m ∧ i = .int .i64 k ∧ s = .int .i64 (gsum (l.take k)) ∧ Row wr A3 m w2.heap.size (mix D l k) ∧ Row wr A4 m w3.heap.size (mix N l k) ∧ Below w2.heap.size w2 wr) (fun _ i _ => m - (intOf i).toNat)
      case atStart => exact ⟨0, by omega, rfl, rfl, by rw [mix_zero]; exact rowD4, by rw [mix_zero]; exact rowO, hb24⟩
      case round =>
        rename World => wr
        obtain ⟨k, hk, rfl, rfl, rD, rO, hbr⟩ := hrel
        clear rowD4 rowO hb24
        by_cases hlt : k < m
        · obtain ⟨ad, s, rfl, _, hx, hc⟩ := src_hit (carry hR2 hbr) hlt (Nat.le_refl _)
          obtain ⟨gD, sp, rfl, hBg, kD⟩ := rD.blk (by omega)
          obtain ⟨gO, sp', rfl, hBo, kO⟩ := rO.blk (by omega)
          have hne : gD ≠ gO := by have := HLT.out (by omega) gD rfl; omega
          have hmD : (mix D l k)[k]? = some s := by rw [mix_at HLD.out, if_neg (by omega)]; exact hx
          have hmN : (mix N l k)[k]? = some s := by rw [mix_at HLN.out, if_neg (by omega)]; exact hx
          have hsok := HO.out.all s (List.mem_of_getElem? hx)
          have hin := gsum_in (l := l.take k) (fun t ht => HO.out.all t (List.mem_of_mem_take ht))
          have hst := gsum_take hx
          have hDk := HDA.out k s hx
          have hNk := HNA.out k s hx
          have hf8 := HF8.out k
          obtain ⟨bk, hbk⟩ : ∃ b, f k = b := ⟨_, rfl⟩
          rw [hbk] at hDk hNk hf8
          have hcb : ∀ W, Below w2.heap.size w2 W → W.cell? ⟨w.heap.size + 1, k, none⟩ = some (.int .u8 ((bk : Nat) : Int)) := fun W hb => by rw [← hbk]; exact HCELL.out k W (by omega) hb
          have hl16 : (l.take k).length ≤ 16 := by have := HO.out.len; simp; omega
          obtain ⟨S0, hS0⟩ : ∃ v, gsum (l.take k) = v := ⟨_, rfl⟩
          rw [hS0] at hin hst ⊢
          have g1 := hsok.g1
          have g2 := hsok.g2
          rw [show ((bk % 4 : Nat) : Int) = (bk : Int) % 4 by omega] at hDk
          rw [show (((bk + 1) % 4 : Nat) : Int) = ((bk : Int) + 1) % 4 by omega] at hNk
          obtain ⟨d0, d1, d2, d3⟩ := hc wr (Below.refl _ _)
          clear hc
          go_upto_region 8 with (fail)
          obtain ⟨wA, eA, hbA, hzA, kL⟩ := box1 wr #[.int .i64 s.x, .int .i64 s.y, .int .i64 s.g, .int .i64 s.p] 78
          rw [← eA]; clear eA
          have cL := kL.cell
          clear d0 d1 d2 d3
          go_upto_region 9 with (fail)
          clear cL kL
          have kDA := carryK kD hbA
          have kOA := carryK kO hbA
          have hbrA := below_next hbr hbA
          have cb := hcb wA hbrA
          have fD := kDA.frozen (k * 4 + 3)
          have hitD := (blk_hitS kDA hmD).2.2.2
          go_upto_region 10 with (fail)
          have kX := blk_srcS (s' := s.at ((bk : Int) % 4)) (j := 3) (v := .int .i64 ((bk : Int) % 4)) kDA hmD (by omega) rfl
          rw [mix_step HLD.out hDk] at kX
          have hbX := below_set hbrA hBg (i := k * 4 + 3) (.int .i64 ((bk : Int) % 4))
          have kOX := kOA.far (p := ⟨gD, k * 4 + 3, none⟩) (by show gO ≠ gD; omega) (.int .i64 ((bk : Int) % 4))
          clear fD cb kDA kOA hitD
          generalize World.setCell _ _ _ = wX at kX hbX kOX ⊢
          have cb := hcb wX hbX
          have fO := kOX.frozen (k * 4 + 3)
          have hitO := (blk_hitS kOX hmN).2.2.2
          go_upto_region 11 with (fail)
          have kY := blk_srcS (s' := s.at (((bk : Int) + 1) % 4)) (j := 3) (v := .int .i64 (((bk : Int) + 1) % 4)) kOX hmN (by omega) rfl
          rw [mix_step HLN.out hNk] at kY
          have hbY := below_set hbX (show w2.heap.size ≤ gO by have := HLT.out (by omega) gD rfl; omega) (i := k * 4 + 3) (.int .i64 (((bk : Int) + 1) % 4))
          have kXY := kX.far (p := ⟨gO, k * 4 + 3, none⟩) (by show gD ≠ gO; omega) (.int .i64 (((bk : Int) + 1) % 4))
          clear fO cb kX kOX hitO
          generalize World.setCell _ _ _ = wY at kY hbY kXY ⊢
          go_wp2_with fail
          go_roundw
          case rel => exact ⟨k + 1, by omega, by go_num, by rw [hst]; rfl, ⟨by rw [mix_len HLD.out]; exact HL.out, fun _ => ⟨gD, sp, rfl, hBg, kXY⟩⟩, ⟨by rw [mix_len HLN.out]; exact HL.out, fun _ => ⟨gO, sp', rfl, hBo, kY⟩⟩, hbY⟩
          case measure => simp [intOf]; omega
        · have hkk : m = k := by omega
          subst hkk
          rw [mix_all HLD.out (by rw [HL.out]; omega)] at rD
          rw [mix_all HLN.out (by rw [HL.out]; omega)] at rO
          rw [List.take_of_length_le (by rw [HL.out]; omega), HGS.out.1]
          have hRr := carry hR2 hbr
          have kAr := carryK kA2 hbr
          have hVr := hV2.carry hbr
          have hb0r := below_next hb02 hbr
          clear hR2 kA2 hV2 hT2 hb02 hbr HLT HCELL HF8 HDA HNA HLD HLN hlt hk
          go_upto_region 12 with (fail)
          go_cut [12, 13, 14] from 90 to 96 (fun sa sb sc wx => ∃ (Ax : Option Addr) (nx cx : Nat), sa = .slice Ax nx cx ∧ sb = .int .i64 MO ∧ sc = .int .i64 0 ∧ Reads wx wx.heap.size 4 Ax nx (srcs BB) ∧ Below wr.heap.size wr wx)
          case first =>
            have cA := fun i W (h : Below wr.heap.size wr W) => (carryK kAr h).cell i
            go_region_held3 (fun W => Below wr.heap.size wr W) (first | exact (Below.refl _ _).drew | (with_reducible assumption) | exact below_new ‹Below wr.heap.size wr _› (Nat.le_refl _) _ | (refine below_set (below_set (below_set (below_set (by assumption) (by omega) _) (by omega) _) (by omega) _) (by omega) _)) (first | (go_at_call 20; refine (own_any A m c l _ (carry hRr ‹Below wr.heap.size wr _›) (by omega)).mono ?_; rintro e W1 ⟨A1, c1, rfl, hR1, hbW⟩; have hS := below_step ‹Below wr.heap.size wr _› hbW (Below.size ‹Below wr.heap.size wr _›)) | (go_at_call 40; refine (HBEST.out A1 m c1 _ hR1 (hVr.carry ‹Below wr.heap.size wr _›) (by omega)).mono ?_; rintro e W2 ⟨Ay, ny, cy, rfl, hRy, hbY⟩; have hS2 := below_step ‹Below wr.heap.size wr _› hbY (Below.size ‹Below wr.heap.size wr _›)))
            all_goals
              (try go_wp2_with fail)
              go_meet
              exact ⟨Ay, ny, cy, rfl, rfl, rfl, hRy, by with_reducible assumption⟩
          case rest =>
          obtain ⟨A12, n12, c12, rfl, rfl, rfl, hR12, hb12⟩ := hcut
          rename World => w12
          obtain rfl : n12 = m := by have h1 := srcs_reads_len hR12; have := HBL.out; omega
          have kA12 := carryK kAr hb12
          have hV12 := hVr.carry hb12
          go_upto_region 13 with (fail)
          go_cut [15, 16] from 98 to 104 (fun sa sb wx => sa = .int .i64 MO ∧ sb = .int .i64 0 ∧ Below w12.heap.size w12 wx)
          case first =>
            have cA := fun i W (h : Below w12.heap.size w12 W) => (carryK kA12 h).cell i
            go_region_held3 (fun W => Below w12.heap.size w12 W) (first | exact (Below.refl _ _).drew | (with_reducible assumption) | exact below_new ‹Below w12.heap.size w12 _› (Nat.le_refl _) _ | (refine below_set (below_set (below_set (below_set (by assumption) (by omega) _) (by omega) _) (by omega) _) (by omega) _)) (first | (apply step_copiedD (s := .tmp 98) (x := .tmp 99) (A := A12) (n := n12) (c := c12) (l := BB); (case hP => rfl); (case hgd => rfl); (case ho => rfl); (case hs => rfl); (case hx => rfl); (case hR => exact carry hR12 (by first | exact Below.refl _ _ | exact (Below.refl _ _).drew | (with_reducible assumption))); (case hn => omega); intro A1 c1 W1 hR1 hbW; have hS : Below w12.heap.size w12 W1 := hbW) | (go_at_call 39; refine (HSB.out A1 n12 c1 _ hR1 (hV12.carry ‹Below w12.heap.size w12 _›) (by omega)).mono ?_; rintro e W2 ⟨rfl, hbY⟩; have hS2 := below_step ‹Below w12.heap.size w12 _› hbY (Below.size ‹Below w12.heap.size w12 _›)))
            all_goals
              (try go_wp2_with fail)
              go_meet
              exact ⟨rfl, rfl, by with_reducible assumption⟩
          case rest =>
          obtain ⟨rfl, rfl, hb13⟩ := hcut
          rename World => w13
          have hbr13 := below_next hb12 hb13
          have cA := (carryK kAr hbr13).cell
          go_wp2_with fail
          refine (HSD.out A3 n12 c3 _ (rD.below hbr13).reads (hVr.carry hbr13) (by omega)).mono ?_
          rintro e w14 ⟨rfl, hb14⟩
          have hbr14 := below_next hbr13 hb14
          clear cA
          have cA := (carryK kAr hbr14).cell
          go_wp2_with fail
          refine (HSN.out A4 n12 c4 _ (rO.below hbr14).reads (hVr.carry hbr14) (by omega)).mono ?_
          rintro e w15 ⟨rfl, hb15⟩
          have hbr15 := below_next hbr14 hb15
          have hR12q := carry hR12 (below_next hb13 (below_next hb14 hb15))
          have hRq := carry hRr hbr15
          have kAq := carryK kAr hbr15
          have hVq := hVr.carry hbr15
          have hb0q := below_next hb0r hbr15
          have g1 : decide (MO < sD) = false := by have := HLE.out; simp; omega
          clear cA hb12 hb13 hb14 hb15 hbr13 hbr14 hbr15 hR12 hRr kAr hVr hb0r kA12 hV12 rD rO HSB HSD HSN HBEST HLE
          go_wp2_with fail
          clear g1
          go_loopw [155] (fun i wt => ∃ k : Nat, k ≤ n12 ∧ i = .int .i64 k ∧ Below w15.heap.size w15 wt) (fun i _ => n12 - (intOf i).toNat)
          case atStart => exact ⟨0, by omega, rfl, Below.refl _ _⟩
          case round =>
            rename World => wt
            obtain ⟨k, hk, rfl, hbt⟩ := hrel
            by_cases hlt : k < n12
            · obtain ⟨ad, s, rfl, _, hx, hc⟩ := src_hit (carry hR12q hbt) hlt (Nat.le_refl _)
              obtain ⟨t, q, ht, rfl⟩ := HBG.out k s hx
              obtain ⟨ad', t', rfl, _, hx', hc'⟩ := src_hit (carry hRq hbt) hlt (Nat.le_refl _)
              obtain rfl : t = t' := by rw [ht] at hx'; simpa using hx'
              obtain ⟨d0, d1, d2, d3⟩ := hc wt (Below.refl _ _)
              simp only [Src.at] at d0 d1 d2 d3
              go_upto_region 21 with (fail)
              obtain ⟨wA, eA, hbA, hzA, kL⟩ := box1 wt #[.int .i64 t.x, .int .i64 t.y, .int .i64 t.g, .int .i64 q] 60
              rw [← eA]; clear eA
              have fL := kL.frozen
              have cL := kL.cell
              obtain ⟨e0, e1, e2, e3⟩ := hc' wA hbA
              clear d0 d1 d2 d3
              go_upto_region 22 with (fail)
              have kS : Blk (wA.setCell ⟨wt.heap.size, 3, none⟩ (.int .i64 t.p)) wt.heap.size 60 #[.int .i64 t.x, .int .i64 t.y, .int .i64 t.g, .int .i64 t.p] := by simpa using kL.set_ 3 (.int .i64 t.p)
              have hbB := below_set hbA (Nat.le_refl wt.heap.size) (i := 3) (.int .i64 t.p)
              clear fL cL kL e0 e1 e2 e3
              generalize World.setCell _ _ _ = wB at kS hbB ⊢
              have rS := over_blk kS kS.lt
              have r0 := fun x => (hc' _ (hbB.trans ((over_below wB.heap.size wB x).mono hbB.size))).1
              have r1 := fun x => (hc' _ (hbB.trans ((over_below wB.heap.size wB x).mono hbB.size))).2.1
              have r2 := fun x => (hc' _ (hbB.trans ((over_below wB.heap.size wB x).mono hbB.size))).2.2.1
              have r3 := fun x => (hc' _ (hbB.trans ((over_below wB.heap.size wB x).mono hbB.size))).2.2.2
              have qn := reflS_ne t
              clear hc hc' hx hx' ht
              refine wp_region_over wB.heap.size (by kernel_rfl) (by kernel_rfl) ?_; (repeat (first | go_big_quiet_step (fail) | quiet_step (fail))); refine wpQuiet_nil ?_; rintro W ⟨x, rfl⟩
              have hbY := over_below wB.heap.size wB x
              generalize over wB.heap.size wB x = Y at hbY ⊢
              clear rS r0 r1 r2 r3 qn
              go_wp2_with fail
              go_roundw
              case rel => exact ⟨k + 1, by omega, by go_num, below_next (below_next hbt hbB) hbY⟩
              case measure => simp [intOf]; omega
            · have hRt := carry hRq hbt
              have kAt := carryK kAq hbt
              have hVt := hVq.carry hbt
              have hb0t := below_next hb0q hbt
              clear hRq kAq hVq hb0q hbt hR12q HBG
              as_aux_lemma =>
                go_wp2_with fail
                go_loopw [173] (fun i wu => ∃ k : Nat, k ≤ 8 ∧ i = .int .i64 k ∧ Below wt.heap.size wt wu) (fun i _ => 8 - (intOf i).toNat)
                case atStart => exact ⟨0, by omega, rfl, Below.refl _ _⟩
                case round =>
                  rename World => wu
                  obtain ⟨k, hk, rfl, hbu⟩ := hrel
                  by_cases hlt : k < 8
                  · have hki : (k : Int) < 8 := by omega
                    have HSTk := hide (HST.out k hlt)
                    have HPRk := hide (HPR.out k hlt)
                    have HLVk := hide (HLV.out k hlt)
                    obtain ⟨SV, hSV, hsc⟩ := HSS.out k
                    have HSCk := hide hsc
                    have HSV := hide hSV
                    have hRu := carry hRt hbu
                    have hVu := hVt.carry hbu
                    clear hsc hSV
                    go_wp2_with fail
                    refine (own_any A n12 c l _ hRu (by omega)).mono ?_
                    rintro e u1 ⟨A1, c1, rfl, hR1, hb1⟩
                    go_wp2_with fail
                    refine (HSTk.out A1 n12 c1 _ hR1 (hVu.carry hb1) (by omega)).mono ?_
                    rintro e u2 ⟨A2, n2, c2, rfl, hR2, hb2⟩
                    have L2 : n2 ≤ 16 := by have h1 := srcs_reads_len hR2; rw [List.length_map] at h1; have := HL.out; omega
                    go_wp2_with (at_builtin; refine wpList_copied u2 rfl (.tmp 184) (.tmp 185) 26 (by rfl) 60 _ 4 32 Tryz.underlying26 info_src rfl (by decide) (by decide) (by rfl) A2 n2 c2 (srcs (l.map (str k))) (by rfl) hR2 (srcs_one _) (by omega) ?_; intro A3' c3' u3 hR3 hb3)
                    refine (HPRk.out A3' n2 c3' _ hR3 (hVu.carry (by repeat (first | with_reducible assumption | exact Below.refl _ _ | refine below_next (by with_reducible assumption) ?_))) (by omega)).mono ?_
                    rintro e u4 ⟨rfl, hb4⟩
                    go_upto_region 30 with (fail)
                    obtain ⟨u5, e5, hb5, hz5, kP⟩ := box1 u4 #[.int .i64 gs, .int .i64 0] 54
                    rw [← e5]; clear e5
                    go_wp2_with fail
                    refine (own_any A n12 c l _ (carry hRu (by repeat (first | with_reducible assumption | exact Below.refl _ _ | refine below_next (by with_reducible assumption) ?_))) (by omega)).mono ?_
                    rintro e u6 ⟨A6, c6, rfl, hR6, hb6⟩
                    go_wp2_with fail
                    refine (HLVk.out A6 n12 c6 _ hR6 (hVu.carry (by repeat (first | with_reducible assumption | exact Below.refl _ _ | refine below_next (by with_reducible assumption) ?_))) (by omega)).mono ?_
                    rintro e u7 ⟨lv, rfl, hlv, hb7⟩
                    have hR2u := carry hR2 (w' := u7) (by repeat (first | with_reducible assumption | exact Below.refl _ _ | refine below_next (by with_reducible assumption) ?_))
                    have kPu := carryK kP (w' := u7) (by repeat (first | with_reducible assumption | exact Below.refl _ _ | refine below_next (by with_reducible assumption) ?_))
                    have hbuu : Below wu.heap.size wu u7 := (by repeat (first | with_reducible assumption | exact Below.refl _ _ | refine below_next (by with_reducible assumption) ?_))
                    have kAu := carryK (carryK kAt hbu) hbuu
                    have hV7 := hVu.carry hbuu
                    have hbt7 := below_next hbu hbuu
                    have HLVV := hide hlv
                    clear hlv hb1 hb2 hb3 hb4 hb5 hb6 hb7 hR1 hR2 hR3 hR6 kP hbuu hVu hRu hz5
                    go_upto_region 31 with (fail)
                    go_cut [30, 31] from 199 to 205 (fun sa sb wx => sa = .int .i64 SV ∧ sb = .int .i64 0 ∧ Below u7.heap.size u7 wx)
                    case first =>
                      have cA := fun i W (h : Below u7.heap.size u7 W) => (carryK kAu h).cell i
                      go_region_held3 (fun W => Below u7.heap.size u7 W) (first | exact (Below.refl _ _).drew | (with_reducible assumption) | exact below_new ‹Below u7.heap.size u7 _› (Nat.le_refl _) _ | (refine below_set (below_set (below_set (below_set (by assumption) (by omega) _) (by omega) _) (by omega) _) (by omega) _)) (first | (apply step_copiedD (s := .tmp 199) (x := .tmp 200) (A := A2) (n := n2) (c := c2) (l := (l.map (str k))); (case hP => rfl); (case hgd => rfl); (case ho => rfl); (case hs => rfl); (case hx => rfl); (case hR => exact carry hR2u (by first | exact Below.refl _ _ | exact (Below.refl _ _).drew | (with_reducible assumption))); (case hn => omega); intro A1 c1 W1 hR1 hbW; have hS : Below u7.heap.size u7 W1 := hbW) | (go_at_call 39; refine (HSCk.out A1 n2 c1 _ hR1 (hV7.carry ‹Below u7.heap.size u7 _›) (by omega)).mono ?_; rintro e W2 ⟨rfl, hbY⟩; have hS2 := below_step ‹Below u7.heap.size u7 _› hbY (Below.size ‹Below u7.heap.size u7 _›)))
                      all_goals
                        (try go_wp2_with fail)
                        go_meet
                        exact ⟨rfl, rfl, by with_reducible assumption⟩
                    case rest =>
                    obtain ⟨rfl, rfl, hb8⟩ := hcut
                    rename World => u8
                    have cP := (carryK kPu hb8).cell
                    have hbt8 := below_next hbt7 hb8
                    have hgg := HGS.out.2
                    have hgg2 : 0 ≤ gs * gs ∧ gs * gs ≤ 160000 := by
                      have h1 : gs * gs ≤ 400 * 400 := Int.mul_le_mul hgg.2 hgg.2 hgg.1 (by omega)
                      have h2 := Int.mul_nonneg hgg.1 hgg.1
                      omega
                    have tg : wrap64 (gs * gs) = gs * gs := by unfold wrap64; omega
                    have g1 : decide (gs * gs < lv) = false := by have := HLVV.out; simp; omega
                    have g2 : decide (MO < SV) = false := by have := HSV.out; simp; omega
                    have qn : ∀ w, (binOp .neq 54 (.agg #[.int .i64 gs, .int .i64 0]) (.agg #[.int .i64 gs, .int .i64 0])).run Tryz.prog w = .ok (.bool false) w := reflG_ne ⟨gs, 0⟩
                    clear hb8 hbt7 kPu kAu hV7 hR2u
                    go_wp2_with fail
                    go_roundw
                    case rel => exact ⟨k + 1, by omega, by go_num, hbt8⟩
                    case measure => simp [intOf]; omega
                  · go_wp2_with fail
                    go_ret
                    exact ⟨rfl, below_next hb0t hbu⟩
end Go.Proofs.YtcihiglpahhboaaGreatDoor
