/- Polynomials of the program: the walk. -/
import Derived.Test.YtnndaipnfniciaaGreatDoorNPols
namespace Go.Proofs.YtnndaipnfniciaaGreatDoor
open Go.RowKit Go.Shelf
set_option maxRecDepth 100000
set_option maxHeartbeats 4000000 in
theorem Polynomials_ok (A : Option Addr) (n c : Nat) (l : List El) (w : World) (hC : Con w) (h0 : ladErr l = 0) (h : Reads w w.heap.size 3 A n (els l)) (hn : n ≤ 1000000000000) :
    Calls Tryz.prog 24 #[.slice A n c] w fun e w' => ∃ s0 s1 s2 s3 sd, e = .returned (.tuple #[.agg #[s0, s1, s2, s3], sd, .int .i64 0]) ∧ (∃ ok, PMv w' ok s0 s1 s2 s3 (pch .id l)) ∧ SL w' sd (pdv [1] l) ∧ Below w.heap.size w w' := by
  have hok := lad_ok h0
  have HL := hide (els_reads_len h)
  have HOK := hide hok
  go_enter Tryz.func24, Tryz.ntmps24
  go_upto_region 2 with (fail)
  obtain ⟨w1, e1, hb1, hz1, k0, k1⟩ := box2 w #[.slice none 0 0, .slice none 0 0, .slice none 0 0, .slice none 0 0] #[.slice none 0 0, .slice none 0 0, .slice none 0 0, .slice none 0 0] 44 44
  rw [← e1]; clear e1
  go_wp2_with fail
  refine (checkLadder_any A n c l _ (Go.Proofs.YtnndaipnfniciaaGreatDoor.carry h hb1) hn).mono ?_
  rintro e w2 ⟨rfl, hb2⟩
  rw [h0]
  go_upto_region 6 with (fail)
  obtain ⟨w3, e3, hb3, hz3, q0, q1, q2, q3⟩ := box4 w2 #[.int .i64 1] #[.int .i64 1] #[.int .i64 1] #[.slice (some ⟨w2.heap.size, 0, none⟩) 1 1, .slice none 0 0, .slice none 0 0, .slice (some ⟨w2.heap.size + 1, 0, none⟩) 1 1] 3 3 3 134
  rw [← e3]; clear e3
  obtain ⟨g7, e7'⟩ : ∃ g, w2.heap.size + 1 + 1 + 1 = g := ⟨_, rfl⟩
  have q3 : Blk w3 g7 134 #[.slice (some ⟨w2.heap.size, 0, none⟩) 1 1, .slice none 0 0, .slice none 0 0, .slice (some ⟨w2.heap.size + 1, 0, none⟩) 1 1] := e7' ▸ q3
  have hg1 : w2.heap.size + 3 ≤ g7 := by omega
  have hg2 : g7 ≤ w2.heap.size + 3 := by omega
  rw [e7']; clear e7'
  have hbw3 := below_next (below_next hb1 hb2) hb3
  have kO := carryK (carryK k1 hb2) hb3
  have kR := carryK (carryK k0 hb2) hb3
  have n1 : OKM g7 w2.heap.size w2.heap.size := ⟨by omega, by omega⟩
  have n2 : OKM g7 w2.heap.size (w2.heap.size + 1) := ⟨by omega, by omega⟩
  have n3 : OKM g7 w2.heap.size (w2.heap.size + 2) := ⟨by omega, by omega⟩
  have hv3 : PMv w3 (OKM g7 w2.heap.size) (.slice (some ⟨w2.heap.size, 0, none⟩) 1 1) (.slice none 0 0) (.slice none 0 0) (.slice (some ⟨w2.heap.size + 1, 0, none⟩) 1 1) .id := ⟨SLn.of_blk (l := [1]) q0 n1, SLn.nil _ _, SLn.nil _ _, SLn.of_blk (l := [1]) q1 n2⟩
  have hd3 : SLn w3 (OKM g7 w2.heap.size) (.slice (some ⟨w2.heap.size + 2, 0, none⟩) 1 1) [1] := SLn.of_blk (l := [1]) q2 n3
  have hzw : w.heap.size + 2 ≤ w2.heap.size := by have := hb2.size; omega
  clear n1 n2 n3 q0 q1 q2 k0 k1 hb1 hb2 hb3 hz1 hz3 h0 hok
  go_wp2_with fail
  go_loopw [8, 34] (fun d v wq => ∃ k : Nat, k ≤ n ∧ v = .int .i64 k ∧ ∃ s0 s1 s2 s3, Blk wq g7 134 #[s0, s1, s2, s3] ∧ PMv wq (OKM g7 w2.heap.size) s0 s1 s2 s3 (pch .id (l.take k)) ∧ SLn wq (OKM g7 w2.heap.size) d (pdv [1] (l.take k)) ∧ Blk wq (w.heap.size + 1) 44 #[.slice none 0 0, .slice none 0 0, .slice none 0 0, .slice none 0 0] ∧ Blk wq w.heap.size 44 #[.slice none 0 0, .slice none 0 0, .slice none 0 0, .slice none 0 0] ∧ Below w.heap.size w wq) (fun _ v _ => n - (intOf v).toNat)
  case atStart => exact ⟨0, by omega, rfl, _, _, _, _, q3, hv3, hd3, kO, kR, hbw3⟩
  case round =>
    rename World => wo
    obtain ⟨k, hk, rfl, s0, s1, s2, s3, kM, hv, hd, kO', kR', hb⟩ := hrel
    clear q3 hv3 hd3 kO kR hbw3
    by_cases hlt : k < n
    · obtain ⟨ad, x, rfl, hadb, hxk, hcx⟩ := els_hit (h.below hb) hlt hb.size
      obtain ⟨d0, d1, d2⟩ := hcx wo (Below.refl _ _)
      have hxo := HOK.out.all x (List.mem_of_getElem? hxk)
      have HX := hide hxk
      clear hxk hcx
      go_upto_region 9 with (fail)
      obtain ⟨w4, e4, hb4, hz4, kX⟩ := box1 wo #[.string x.kind, .int .i64 x.a, .int .i64 x.b] 104
      rw [← e4]; clear e4 d0 d1 d2
      have cX := kX.cell
      go_wp2_with fail
      obtain ⟨w5, e5, hb5, hz5, kV⟩ := box1 w4 #[.int .i64 x.a, .int .i64 x.b] 3
      rw [← e5]; clear e5 cX
      refine (trimmed_any (some ⟨w4.heap.size, 0, none⟩) 2 2 _ [x.a, x.b] _ (blkR (xs := [x.a, x.b]) kV rfl) (by omega) (by omega)).mono ?_
      rintro e W' ⟨rfl, rfl⟩
      have hsv : SLn w5 (OKM g7 w2.heap.size) (.slice (some ⟨w4.heap.size, 0, none⟩) (trim [x.a, x.b]).length 2) x.pv := by
        have hkl := kM.lt
        have hkz := hb4.size
        refine ⟨_, 2, rfl, ?_, fun ad e _ => by cases e; exact ⟨by simp only; omega, by simp only; omega⟩⟩
        have := reads_take (k := (trim [x.a, x.b]).length) (blkR (xs := [x.a, x.b]) kV rfl) (trim_len [x.a, x.b])
        rwa [trim_isT] at this
      go_upto_region 10 with (fail)
      go_cut [12] from 44 to 47 (fun s12 wx => ∃ g, s12 = .pointer (some ⟨g, 0, none⟩) ∧ Blk wx g 138 #[.string (kDual x.kind), .bool (kDiv x.kind), kFn x.kind] ∧ Below w5.heap.size w5 wx)
      case first =>
        have c0 : ∀ i W, Below w5.heap.size w5 W → W.cell? ⟨wo.heap.size, i, none⟩ = (#[.string x.kind, .int .i64 x.a, .int .i64 x.b] : Array Value)[i]? := fun i W h => (Go.Proofs.YtnndaipnfniciaaGreatDoor.carryK (Go.Proofs.YtnndaipnfniciaaGreatDoor.carryK kX hb5) h).cell i
        have hA1 := alloc_cel
        have hf1 := fun a w m => run_store Tryz.prog w a (kFn x.kind) m (kFn_one _)
        have hf2 := kFn_one x.kind
        have hA2 := alloc_fro
        go_region_held3 (fun W => Below w5.heap.size w5 W) (first | exact (Below.refl _ _).drew | (with_reducible assumption) | exact below_new ‹Below w5.heap.size w5 _› (Nat.le_refl _) _ | (refine below_set (below_set (below_set (by assumption) (by omega) _) (by omega) _) (by omega) _)) (first | (go_at_call 96; refine (kinds_g _).mono ?_; rintro e W' ⟨gK, rfl, hKM, hgK, hbW⟩; have hS := below_step ‹Below w5.heap.size w5 _› hbW (Below.size ‹Below w5.heap.size w5 _›); have hF := below_fro hbW; have hC := below_cel hbW; have hL := below_lt hbW; have hT := below_le hbW; have hK := below_blk hbW; have hz := Below.size hS; have hz1' := Below.size hbW; (try simp only [World.size_alloc, World.size_drew] at hz1'); (try have hq3 := Nat.lt_of_lt_of_le hq3 hz1'); (try have hq3 := Nat.lt_of_lt_of_le hq3 (Nat.le_of_succ_le hz1')); (try have hq3 := Nat.lt_of_lt_of_le hq1 hz1'); (try have hq3 := Nat.lt_of_lt_of_le hq1 (Nat.le_of_succ_le hz1')); (try have hq7 := Nat.lt_of_succ_lt hq3); (try have hq8 := Nat.le_of_lt hq7); (try have hq4 := Nat.le_of_lt hq3); (try have hq1 := Nat.lt_of_succ_le hz1'); (try have hq2 := Nat.lt_of_succ_lt hq1); (try have hq5 := Nat.le_of_lt hq1); (try have hq6 := Nat.le_of_lt hq2); have hL1 := (kmap_get hKM x.kind).2; have hL2 := fun o => (kmap_get (hKM.alloc o) x.kind).2; clear hKM hgK))
        all_goals (first
          | (with_reducible refine fin1 (v := w5) (t := 138) (by with_reducible assumption) (fun X hX kX => ?_))
          | (with_reducible refine fin3 (B := w5.heap.size) (v := w5) (c0 := .string { data := #[] }) (c1 := .bool false) (c2 := .nilFunc) 138 (by with_reducible assumption) (by omega) (by (repeat (first | exact Blk.newAt (by simp) | refine Blk.alloc ?_ _ | refine Blk.drew ?_ | refine (by with_reducible assumption : ∀ g t cs, Blk _ g t cs → Blk _ g t cs) _ _ _ ?_))) (fun X hX kX => ?_)))
        all_goals (
          clear hL1 hL2
          go_wp2_with fail
          go_meet
          exact ⟨_, rfl, kX, hX⟩)
      case rest =>
        obtain ⟨gk, rfl, kG, hb6⟩ := hcut
        rename World => w6
        have hbo6 : Below wo.heap.size wo w6 := below_next (below_next hb4 hb5) hb6
        have hbw6 := below_next hb hbo6
        have kM6 := Go.Proofs.YtnndaipnfniciaaGreatDoor.carryK kM hbo6
        have hv6 := hv.carry hbo6
        have hd6 := hd.carry hbo6
        have hs6 := hsv.carry hb6
        have kO6 := Go.Proofs.YtnndaipnfniciaaGreatDoor.carryK kO' hbo6
        have kR6 := Go.Proofs.YtnndaipnfniciaaGreatDoor.carryK kR' hbo6
        clear kM hv hd hsv kO' kR' kV kX hb4 hb5 hb6 hb
        obtain ⟨ff, hfe, hcf, hfc⟩ := fn_two hxo.kn
        rw [hfe] at kG
        clear hfe
        go_upto_region 12 with (fail)
        obtain ⟨w7, e7, hb7, hz7, kE⟩ := box1 w6 #[.slice none 0 0, .slice none 0 0, .slice none 0 0, .slice none 0 0] 134
        rw [← e7]; clear e7
        have kG7 := Go.Proofs.YtnndaipnfniciaaGreatDoor.carryK kG hb7
        have hC7 := hC.carry (below_next hbw6 hb7)
        have cG := kG7.cell
        go_wp2_with fail
        refine (hfc _ hC7).mono ?_
        rintro e w8 ⟨rfl, hb8⟩
        have hcodes := mat_codes hxo.kn
        have hpm := pm_ent hxo.kn
        generalize x.mat ⟨2, 0⟩ = Z at hcodes hpm ⊢
        have HPM := hide hpm
        have z0 := hcodes Z.a.re (by simp)
        have z1 := hcodes Z.b.re (by simp)
        have z2 := hcodes Z.c.re (by simp)
        have z3 := hcodes Z.d.re (by simp)
        have kE8 := Go.Proofs.YtnndaipnfniciaaGreatDoor.carryK kE hb8
        have hb78 := below_next hb7 hb8
        have hlt8 := kE8.lt
        have hs8 : SLn w8 (NE w6.heap.size) _ _ := (hs6.sl.off (fun b hb => Nat.ne_of_lt hb)).carry hb78
        have kG8 := Go.Proofs.YtnndaipnfniciaaGreatDoor.carryK kG7 hb8
        clear cG kE kG7 hb7 hb8 hcodes hpm hC7
        go_wp2_with fail
        go_loopw [52] (fun v wq => ∃ k : Nat, k ≤ 4 ∧ v = .int .i64 k ∧ ∃ e0 e1 e2 e3, Blk wq w6.heap.size 134 #[e0, e1, e2, e3] ∧ PMv wq (NE w6.heap.size) e0 e1 e2 e3 ⟨if 0 < k then entL Z.a.re x.pv else [], if 1 < k then entL Z.b.re x.pv else [], if 2 < k then entL Z.c.re x.pv else [], if 3 < k then entL Z.d.re x.pv else []⟩ ∧ SLn wq (NE w6.heap.size) (.slice (some ⟨w4.heap.size, 0, none⟩) (trim [x.a, x.b]).length 2) x.pv ∧ Below w6.heap.size w6 wq) (fun v _ => 4 - (intOf v).toNat)
        case atStart => exact ⟨0, by omega, rfl, _, _, _, _, kE8, ⟨SLn.nil _ _, SLn.nil _ _, SLn.nil _ _, SLn.nil _ _⟩, hs8, hb78⟩
        case round =>
          rename World => wq
          obtain ⟨k', hk', rfl, f0, f1, f2, f3, kF, hvF, hsF, hbF⟩ := hrel
          clear kE8 hs8 hb78 hlt8
          have hc : k' = 0 ∨ k' = 1 ∨ k' = 2 ∨ k' = 3 ∨ k' = 4 := by omega
          rcases hc with rfl | rfl | rfl | rfl | rfl
          · skip
            have i0 : ∀ W : World, (Instr.index 73 (.agg #[.int .i64 Z.a.re, .int .i64 Z.a.im, .int .i64 Z.b.re, .int .i64 Z.b.im, .int .i64 Z.c.re, .int .i64 Z.c.im, .int .i64 Z.d.re, .int .i64 Z.d.im]) (.int .i64 0)).run Tryz.prog W = .ok (.agg #[.int .i64 Z.a.re, .int .i64 Z.a.im]) W := fun _ => by kernel_rfl
            go_upto_region 15 with (fail)
            obtain ⟨w9, e9, hb9, hz9, kB⟩ := box1 wq #[.int .i64 Z.a.re, .int .i64 Z.a.im] 23
            rw [← e9]; clear e9 i0
            have cB := kB.cell
            have kF9 := Go.Proofs.YtnndaipnfniciaaGreatDoor.carryK kF hb9
            have cF := kF9.cell
            have fF := kF9.frozen
            have lF := kF9.lt
            have hA1 := alloc_cel
            have hA2 := alloc_fro
            have hv9 := hvF.carry hb9
            have hs9 := hsF.carry hb9
            have hbF9 := below_next hbF hb9
            clear kF hvF hsF hbF hb9
            rcases z0 with hz | hz | hz
            · go_wp2_with fail
              go_roundw
              case rel => exact ⟨0 + 1, by omega, rfl, _, _, _, _, kF9, ⟨by simpa [entL, hz] using hv9.a, by simpa [entL, hz] using hv9.b, by simpa [entL, hz] using hv9.c, by simpa [entL, hz] using hv9.d⟩, hs9, hbF9⟩
              case measure => simp [intOf]
            · have hbA : ∀ W : World, Below W.heap.size W (W.alloc (.cells #[.int .i64 1] 3)) := fun W => (Below.refl _ _).alloc (Nat.le_refl _) _
              have hN : SLn ((w9.setCell ⟨w6.heap.size, 0, none⟩ (.slice (some ⟨w9.heap.size, 0, none⟩) 1 1)).alloc (.cells #[.int .i64 1] 3)) (NE w6.heap.size) (.slice (some ⟨w9.heap.size, 0, none⟩) 1 1) [1] := SLn.of_blk (l := [1]) (Blk.newAt (by simp)) (Nat.ne_of_gt lF)
              have hng : ¬ NE w6.heap.size w6.heap.size := fun q => q rfl
              have hv' := (hv9.set (i := 0) (u := .slice (some ⟨w9.heap.size, 0, none⟩) 1 1) hng).carry (hbA _)
              have hsA := (hs9.set (i := 0) (u := .slice (some ⟨w9.heap.size, 0, none⟩) 1 1) hng).carry (hbA _)
              have kA := (kF9.set_ 0 (.slice (some ⟨w9.heap.size, 0, none⟩) 1 1)).alloc (.cells #[.int .i64 1] 3)
              have hbB := below_new (below_set hbF9 (Nat.le_refl w6.heap.size) (i := 0) (.slice (some ⟨w9.heap.size, 0, none⟩) 1 1)) (Nat.le_refl _) (.cells #[.int .i64 1] 3)
              clear hv9 hs9 kF9 hbF9
              go_wp2_with fail
              go_roundw
              case rel => exact ⟨0 + 1, by omega, rfl, _, _, _, _, by simpa using kA, ⟨by simpa [entL, hz] using hN, by simpa [entL, hz] using hv'.b, by simpa [entL, hz] using hv'.c, by simpa [entL, hz] using hv'.d⟩, hsA, hbB⟩
              case measure => simp [intOf]
            · have hng : ¬ NE w6.heap.size w6.heap.size := fun q => q rfl
              have hN := hs9.set (i := 0) (u := .slice (some ⟨w4.heap.size, 0, none⟩) (trim [x.a, x.b]).length 2) hng
              have hv' := hv9.set (i := 0) (u := .slice (some ⟨w4.heap.size, 0, none⟩) (trim [x.a, x.b]).length 2) hng
              have kA := kF9.set_ 0 (.slice (some ⟨w4.heap.size, 0, none⟩) (trim [x.a, x.b]).length 2)
              have hbB := below_set hbF9 (Nat.le_refl w6.heap.size) (i := 0) (.slice (some ⟨w4.heap.size, 0, none⟩) (trim [x.a, x.b]).length 2)
              clear hv9 hs9 kF9 hbF9
              go_wp2_with fail
              go_roundw
              case rel => exact ⟨0 + 1, by omega, rfl, _, _, _, _, by simpa using kA, ⟨by simpa [entL, hz] using hN, by simpa [entL, hz] using hv'.b, by simpa [entL, hz] using hv'.c, by simpa [entL, hz] using hv'.d⟩, hN, hbB⟩
              case measure => simp [intOf]
          · skip
            have i0 : ∀ W : World, (Instr.index 73 (.agg #[.int .i64 Z.a.re, .int .i64 Z.a.im, .int .i64 Z.b.re, .int .i64 Z.b.im, .int .i64 Z.c.re, .int .i64 Z.c.im, .int .i64 Z.d.re, .int .i64 Z.d.im]) (.int .i64 1)).run Tryz.prog W = .ok (.agg #[.int .i64 Z.b.re, .int .i64 Z.b.im]) W := fun _ => by kernel_rfl
            go_upto_region 15 with (fail)
            obtain ⟨w9, e9, hb9, hz9, kB⟩ := box1 wq #[.int .i64 Z.b.re, .int .i64 Z.b.im] 23
            rw [← e9]; clear e9 i0
            have cB := kB.cell
            have kF9 := Go.Proofs.YtnndaipnfniciaaGreatDoor.carryK kF hb9
            have cF := kF9.cell
            have fF := kF9.frozen
            have lF := kF9.lt
            have hA1 := alloc_cel
            have hA2 := alloc_fro
            have hv9 := hvF.carry hb9
            have hs9 := hsF.carry hb9
            have hbF9 := below_next hbF hb9
            clear kF hvF hsF hbF hb9
            rcases z1 with hz | hz | hz
            · go_wp2_with fail
              go_roundw
              case rel => exact ⟨1 + 1, by omega, rfl, _, _, _, _, kF9, ⟨by simpa [entL, hz] using hv9.a, by simpa [entL, hz] using hv9.b, by simpa [entL, hz] using hv9.c, by simpa [entL, hz] using hv9.d⟩, hs9, hbF9⟩
              case measure => simp [intOf]
            · have hbA : ∀ W : World, Below W.heap.size W (W.alloc (.cells #[.int .i64 1] 3)) := fun W => (Below.refl _ _).alloc (Nat.le_refl _) _
              have hN : SLn ((w9.setCell ⟨w6.heap.size, 1, none⟩ (.slice (some ⟨w9.heap.size, 0, none⟩) 1 1)).alloc (.cells #[.int .i64 1] 3)) (NE w6.heap.size) (.slice (some ⟨w9.heap.size, 0, none⟩) 1 1) [1] := SLn.of_blk (l := [1]) (Blk.newAt (by simp)) (Nat.ne_of_gt lF)
              have hng : ¬ NE w6.heap.size w6.heap.size := fun q => q rfl
              have hv' := (hv9.set (i := 1) (u := .slice (some ⟨w9.heap.size, 0, none⟩) 1 1) hng).carry (hbA _)
              have hsA := (hs9.set (i := 1) (u := .slice (some ⟨w9.heap.size, 0, none⟩) 1 1) hng).carry (hbA _)
              have kA := (kF9.set_ 1 (.slice (some ⟨w9.heap.size, 0, none⟩) 1 1)).alloc (.cells #[.int .i64 1] 3)
              have hbB := below_new (below_set hbF9 (Nat.le_refl w6.heap.size) (i := 1) (.slice (some ⟨w9.heap.size, 0, none⟩) 1 1)) (Nat.le_refl _) (.cells #[.int .i64 1] 3)
              clear hv9 hs9 kF9 hbF9
              go_wp2_with fail
              go_roundw
              case rel => exact ⟨1 + 1, by omega, rfl, _, _, _, _, by simpa using kA, ⟨by simpa [entL, hz] using hv'.a, by simpa [entL, hz] using hN, by simpa [entL, hz] using hv'.c, by simpa [entL, hz] using hv'.d⟩, hsA, hbB⟩
              case measure => simp [intOf]
            · have hng : ¬ NE w6.heap.size w6.heap.size := fun q => q rfl
              have hN := hs9.set (i := 1) (u := .slice (some ⟨w4.heap.size, 0, none⟩) (trim [x.a, x.b]).length 2) hng
              have hv' := hv9.set (i := 1) (u := .slice (some ⟨w4.heap.size, 0, none⟩) (trim [x.a, x.b]).length 2) hng
              have kA := kF9.set_ 1 (.slice (some ⟨w4.heap.size, 0, none⟩) (trim [x.a, x.b]).length 2)
              have hbB := below_set hbF9 (Nat.le_refl w6.heap.size) (i := 1) (.slice (some ⟨w4.heap.size, 0, none⟩) (trim [x.a, x.b]).length 2)
              clear hv9 hs9 kF9 hbF9
              go_wp2_with fail
              go_roundw
              case rel => exact ⟨1 + 1, by omega, rfl, _, _, _, _, by simpa using kA, ⟨by simpa [entL, hz] using hv'.a, by simpa [entL, hz] using hN, by simpa [entL, hz] using hv'.c, by simpa [entL, hz] using hv'.d⟩, hN, hbB⟩
              case measure => simp [intOf]
          · skip
            have i0 : ∀ W : World, (Instr.index 73 (.agg #[.int .i64 Z.a.re, .int .i64 Z.a.im, .int .i64 Z.b.re, .int .i64 Z.b.im, .int .i64 Z.c.re, .int .i64 Z.c.im, .int .i64 Z.d.re, .int .i64 Z.d.im]) (.int .i64 2)).run Tryz.prog W = .ok (.agg #[.int .i64 Z.c.re, .int .i64 Z.c.im]) W := fun _ => by kernel_rfl
            go_upto_region 15 with (fail)
            obtain ⟨w9, e9, hb9, hz9, kB⟩ := box1 wq #[.int .i64 Z.c.re, .int .i64 Z.c.im] 23
            rw [← e9]; clear e9 i0
            have cB := kB.cell
            have kF9 := Go.Proofs.YtnndaipnfniciaaGreatDoor.carryK kF hb9
            have cF := kF9.cell
            have fF := kF9.frozen
            have lF := kF9.lt
            have hA1 := alloc_cel
            have hA2 := alloc_fro
            have hv9 := hvF.carry hb9
            have hs9 := hsF.carry hb9
            have hbF9 := below_next hbF hb9
            clear kF hvF hsF hbF hb9
            rcases z2 with hz | hz | hz
            · go_wp2_with fail
              go_roundw
              case rel => exact ⟨2 + 1, by omega, rfl, _, _, _, _, kF9, ⟨by simpa [entL, hz] using hv9.a, by simpa [entL, hz] using hv9.b, by simpa [entL, hz] using hv9.c, by simpa [entL, hz] using hv9.d⟩, hs9, hbF9⟩
              case measure => simp [intOf]
            · have hbA : ∀ W : World, Below W.heap.size W (W.alloc (.cells #[.int .i64 1] 3)) := fun W => (Below.refl _ _).alloc (Nat.le_refl _) _
              have hN : SLn ((w9.setCell ⟨w6.heap.size, 2, none⟩ (.slice (some ⟨w9.heap.size, 0, none⟩) 1 1)).alloc (.cells #[.int .i64 1] 3)) (NE w6.heap.size) (.slice (some ⟨w9.heap.size, 0, none⟩) 1 1) [1] := SLn.of_blk (l := [1]) (Blk.newAt (by simp)) (Nat.ne_of_gt lF)
              have hng : ¬ NE w6.heap.size w6.heap.size := fun q => q rfl
              have hv' := (hv9.set (i := 2) (u := .slice (some ⟨w9.heap.size, 0, none⟩) 1 1) hng).carry (hbA _)
              have hsA := (hs9.set (i := 2) (u := .slice (some ⟨w9.heap.size, 0, none⟩) 1 1) hng).carry (hbA _)
              have kA := (kF9.set_ 2 (.slice (some ⟨w9.heap.size, 0, none⟩) 1 1)).alloc (.cells #[.int .i64 1] 3)
              have hbB := below_new (below_set hbF9 (Nat.le_refl w6.heap.size) (i := 2) (.slice (some ⟨w9.heap.size, 0, none⟩) 1 1)) (Nat.le_refl _) (.cells #[.int .i64 1] 3)
              clear hv9 hs9 kF9 hbF9
              go_wp2_with fail
              go_roundw
              case rel => exact ⟨2 + 1, by omega, rfl, _, _, _, _, by simpa using kA, ⟨by simpa [entL, hz] using hv'.a, by simpa [entL, hz] using hv'.b, by simpa [entL, hz] using hN, by simpa [entL, hz] using hv'.d⟩, hsA, hbB⟩
              case measure => simp [intOf]
            · have hng : ¬ NE w6.heap.size w6.heap.size := fun q => q rfl
              have hN := hs9.set (i := 2) (u := .slice (some ⟨w4.heap.size, 0, none⟩) (trim [x.a, x.b]).length 2) hng
              have hv' := hv9.set (i := 2) (u := .slice (some ⟨w4.heap.size, 0, none⟩) (trim [x.a, x.b]).length 2) hng
              have kA := kF9.set_ 2 (.slice (some ⟨w4.heap.size, 0, none⟩) (trim [x.a, x.b]).length 2)
              have hbB := below_set hbF9 (Nat.le_refl w6.heap.size) (i := 2) (.slice (some ⟨w4.heap.size, 0, none⟩) (trim [x.a, x.b]).length 2)
              clear hv9 hs9 kF9 hbF9
              go_wp2_with fail
              go_roundw
              case rel => exact ⟨2 + 1, by omega, rfl, _, _, _, _, by simpa using kA, ⟨by simpa [entL, hz] using hv'.a, by simpa [entL, hz] using hv'.b, by simpa [entL, hz] using hN, by simpa [entL, hz] using hv'.d⟩, hN, hbB⟩
              case measure => simp [intOf]
          · skip
            have i0 : ∀ W : World, (Instr.index 73 (.agg #[.int .i64 Z.a.re, .int .i64 Z.a.im, .int .i64 Z.b.re, .int .i64 Z.b.im, .int .i64 Z.c.re, .int .i64 Z.c.im, .int .i64 Z.d.re, .int .i64 Z.d.im]) (.int .i64 3)).run Tryz.prog W = .ok (.agg #[.int .i64 Z.d.re, .int .i64 Z.d.im]) W := fun _ => by kernel_rfl
            go_upto_region 15 with (fail)
            obtain ⟨w9, e9, hb9, hz9, kB⟩ := box1 wq #[.int .i64 Z.d.re, .int .i64 Z.d.im] 23
            rw [← e9]; clear e9 i0
            have cB := kB.cell
            have kF9 := Go.Proofs.YtnndaipnfniciaaGreatDoor.carryK kF hb9
            have cF := kF9.cell
            have fF := kF9.frozen
            have lF := kF9.lt
            have hA1 := alloc_cel
            have hA2 := alloc_fro
            have hv9 := hvF.carry hb9
            have hs9 := hsF.carry hb9
            have hbF9 := below_next hbF hb9
            clear kF hvF hsF hbF hb9
            rcases z3 with hz | hz | hz
            · go_wp2_with fail
              go_roundw
              case rel => exact ⟨3 + 1, by omega, rfl, _, _, _, _, kF9, ⟨by simpa [entL, hz] using hv9.a, by simpa [entL, hz] using hv9.b, by simpa [entL, hz] using hv9.c, by simpa [entL, hz] using hv9.d⟩, hs9, hbF9⟩
              case measure => simp [intOf]
            · have hbA : ∀ W : World, Below W.heap.size W (W.alloc (.cells #[.int .i64 1] 3)) := fun W => (Below.refl _ _).alloc (Nat.le_refl _) _
              have hN : SLn ((w9.setCell ⟨w6.heap.size, 3, none⟩ (.slice (some ⟨w9.heap.size, 0, none⟩) 1 1)).alloc (.cells #[.int .i64 1] 3)) (NE w6.heap.size) (.slice (some ⟨w9.heap.size, 0, none⟩) 1 1) [1] := SLn.of_blk (l := [1]) (Blk.newAt (by simp)) (Nat.ne_of_gt lF)
              have hng : ¬ NE w6.heap.size w6.heap.size := fun q => q rfl
              have hv' := (hv9.set (i := 3) (u := .slice (some ⟨w9.heap.size, 0, none⟩) 1 1) hng).carry (hbA _)
              have hsA := (hs9.set (i := 3) (u := .slice (some ⟨w9.heap.size, 0, none⟩) 1 1) hng).carry (hbA _)
              have kA := (kF9.set_ 3 (.slice (some ⟨w9.heap.size, 0, none⟩) 1 1)).alloc (.cells #[.int .i64 1] 3)
              have hbB := below_new (below_set hbF9 (Nat.le_refl w6.heap.size) (i := 3) (.slice (some ⟨w9.heap.size, 0, none⟩) 1 1)) (Nat.le_refl _) (.cells #[.int .i64 1] 3)
              clear hv9 hs9 kF9 hbF9
              go_wp2_with fail
              go_roundw
              case rel => exact ⟨3 + 1, by omega, rfl, _, _, _, _, by simpa using kA, ⟨by simpa [entL, hz] using hv'.a, by simpa [entL, hz] using hv'.b, by simpa [entL, hz] using hv'.c, by simpa [entL, hz] using hN⟩, hsA, hbB⟩
              case measure => simp [intOf]
            · have hng : ¬ NE w6.heap.size w6.heap.size := fun q => q rfl
              have hN := hs9.set (i := 3) (u := .slice (some ⟨w4.heap.size, 0, none⟩) (trim [x.a, x.b]).length 2) hng
              have hv' := hv9.set (i := 3) (u := .slice (some ⟨w4.heap.size, 0, none⟩) (trim [x.a, x.b]).length 2) hng
              have kA := kF9.set_ 3 (.slice (some ⟨w4.heap.size, 0, none⟩) (trim [x.a, x.b]).length 2)
              have hbB := below_set hbF9 (Nat.le_refl w6.heap.size) (i := 3) (.slice (some ⟨w4.heap.size, 0, none⟩) (trim [x.a, x.b]).length 2)
              clear hv9 hs9 kF9 hbF9
              go_wp2_with fail
              go_roundw
              case rel => exact ⟨3 + 1, by omega, rfl, _, _, _, _, by simpa using kA, ⟨by simpa [entL, hz] using hv'.a, by simpa [entL, hz] using hv'.b, by simpa [entL, hz] using hv'.c, by simpa [entL, hz] using hN⟩, hN, hbB⟩
              case measure => simp [intOf]
          · have hvP : PMv wq (NE w6.heap.size) f0 f1 f2 f3 x.pm := by rw [HPM.out]; exact hvF
            clear hvF
            have hb9 := below_next hbw6 hbF
            have kMq := Go.Proofs.YtnndaipnfniciaaGreatDoor.carryK kM6 hbF
            have hvq := hv6.carry hbF
            have hdq := hd6.carry hbF
            have hsq := hs6.carry hbF
            have kOq := Go.Proofs.YtnndaipnfniciaaGreatDoor.carryK kO6 hbF
            have kRq := Go.Proofs.YtnndaipnfniciaaGreatDoor.carryK kR6 hbF
            have kGq := Go.Proofs.YtnndaipnfniciaaGreatDoor.carryK kG hbF
            have hps := pch_succ HX.out
            have hmB := lad_pm HOK.out k
            have heB := pm_bd hxo
            clear kM6 hv6 hd6 hs6 kO6 kR6 kG hbF hsF kG8 HPM z0 z1 z2 z3
            generalize pch .id (l.take k) = m at hvq hps hmB
            have HPS := hide hps
            have HEB := hide heB
            have HMB := hide hmB
            clear hps heB hmB
            go_upto_region 22 with (fail)
            obtain ⟨w10, e10, hb10, hz10, kN⟩ := box1 wq #[.slice none 0 0, .slice none 0 0, .slice none 0 0, .slice none 0 0] 134
            rw [← e10]; clear e10
            go_wp2_with fail
            go_loopw [69] (fun v wz => ∃ k' : Nat, k' ≤ 4 ∧ v = .int .i64 k' ∧ ∃ t0 t1 t2 t3, Blk wz wq.heap.size 134 #[t0, t1, t2, t3] ∧ PMv wz (GT wq.heap.size) t0 t1 t2 t3 ⟨if 0 < k' then (m.mul x.pm).a else [], if 1 < k' then (m.mul x.pm).b else [], if 2 < k' then (m.mul x.pm).c else [], if 3 < k' then (m.mul x.pm).d else []⟩ ∧ Below wq.heap.size wq wz) (fun v _ => 4 - (intOf v).toNat)
            case atStart => exact ⟨0, by omega, rfl, _, _, _, _, kN, ⟨SLn.nil _ _, SLn.nil _ _, SLn.nil _ _, SLn.nil _ _⟩, hb10⟩
            case round =>
              rename World => wz
              obtain ⟨k', hk', rfl, t0, t1, t2, t3, kT, hvT, hbT⟩ := hrel
              clear kN hb10 hz10
              have hc : k' = 0 ∨ k' = 1 ∨ k' = 2 ∨ k' = 3 ∨ k' = 4 := by omega
              rcases hc with rfl | rfl | rfl | rfl | rfl
              · skip
                go_upto_region 26 with (fail)
                have kMz := Go.Proofs.YtnndaipnfniciaaGreatDoor.carryK kMq hbT
                have kFz := Go.Proofs.YtnndaipnfniciaaGreatDoor.carryK kF hbT
                refine wp_region_chain [true, true, true, true, true, true, true, false, true, true, true, true, true, true, true, true, false, false, false] wq.heap.size (af := ?af0n) hbT.size (by kernel_rfl) (by kernel_rfl) (by kernel_rfl) ?q1n0 ?q2n0
                case q1n0 =>
                  intro W0 hW0
                  have kM0 := kMz.below hW0 kMq.lt
                  have kF0 := kFz.below hW0 kF.lt
                  have cM := over_blk kM0 kM0.lt
                  have cF := over_blk kF0 kF0.lt
                  simp only [selT]
                  (repeat (first | go_big_quiet_step (fail) | quiet_step (fail)))
                  refine wpQuiet_nil ?_
                  rfl
                intro W1 hW1
                simp only [selF]
                refine chainC_cons ?_
                have hm1 := (hvq.carry hbT).carry hW1
                have he1 := (hvP.carry hbT).carry hW1
                have kT1 := Go.Proofs.YtnndaipnfniciaaGreatDoor.carryK kT hW1
                have hv1 := hvT.carry hW1
                have hq1 : Below wq.heap.size wz W1 := hW1.mono hbT.size
                have hz1 : wq.heap.size ≤ W1.heap.size := Nat.le_trans hbT.size hW1.size
                clear kT hvT hW1 kMz kFz
                go_wp2_with fail
                refine (padd_sl _ _ _ [] m.a x.pm.a _ (SL.nil _) hm1.a.sl he1.a.sl (by simp) (Nat.le_trans HMB.out.la (by omega)) (Nat.le_trans HEB.out.la (by omega)) (ent_ok (by have := HMB.out.r1; have := HMB.out.r2; omega) (by have := HEB.out.r1; have := HEB.out.r2; omega))).mono ?_
                rintro e W2 ⟨r1, rfl, hr1, hb2⟩
                have hr1 := (hr1 (fun _ => True) (fun _ _ => trivial)).sl
                have hq2 := below_step hq1 hb2 hz1
                go_wp2_with fail
                refine Link.go rfl hq2 (fun W3 hb3 => ?_)
                have hb23 := below_next hb2 hb3
                have hm3 := hm1.carry hb23
                have he3 := he1.carry hb23
                have kT3 := Go.Proofs.YtnndaipnfniciaaGreatDoor.carryK kT1 hb23
                have hv3 := hv1.carry hb23
                have hr3 := hr1.carry hb3
                have hz3 : wq.heap.size ≤ W3.heap.size := Nat.le_trans hz1 hb23.size
                have hq3 := below_step hq1 hb23 hz1
                clear hm1 he1 kT1 hv1 hr1 hq1 hq2 hb2 hb3 hb23
                refine chainC_cons ?_
                go_wp2_with fail
                refine (padd_sl _ _ _ (padd [] m.a x.pm.a) m.b x.pm.c _ hr3 hm3.b.sl he3.c.sl (ent_len HMB.out.la HEB.out.la) (Nat.le_trans HMB.out.lb (by omega)) (Nat.le_trans HEB.out.lc (by omega)) (ent_ok2 (by have := HMB.out.r1; have := HMB.out.r2; omega) (by have := HEB.out.r1; have := HEB.out.r2; omega) (by have := HMB.out.r1; have := HMB.out.r2; omega) (by have := HEB.out.r1; have := HEB.out.r2; omega))).mono ?_
                rintro e W4 ⟨r2, rfl, hr4, hb4⟩
                have hr4 := hr4 (GT wq.heap.size) (fun b hb => Nat.lt_of_lt_of_le kT3.lt hb)
                go_wp2_with fail
                refine Link.go rfl (below_step hq3 hb4 hz3) (fun W5 hb5 => ?_)
                refine chainC_cons ?_
                go_wp2_with fail
                refine Link.go rfl (below_step (below_step hq3 hb4 hz3) hb5 (Nat.le_trans hz3 hb4.size)) (fun W6 hb6 => ?_)
                have hb36 := below_next (below_next hb4 hb5) hb6
                have kT6 := Go.Proofs.YtnndaipnfniciaaGreatDoor.carryK kT3 hb36
                have hv6 := hv3.carry hb36
                have hr6 := hr4.carry (below_next hb5 hb6)
                have hq6 := below_step hq3 hb36 hz3
                have cT := kT6.cell
                have fT := kT6.frozen
                have hone : r2.oneCell' = true := by obtain ⟨_, _, e, _⟩ := hr6; rw [e]; rfl
                have hst := fun a w m => run_store Tryz.prog w a r2 m hone
                refine chainC_cons ?_
                clear kT3 hv3 hr4 hb4 hb5 hb6 hm3 he3 hr3 hq3 hb36
                go_wp2_with fail
                refine Link.go rfl (below_set hq6 (Nat.le_refl _) _) (fun W7 hb7 => ?_)
                have kX := Go.Proofs.YtnndaipnfniciaaGreatDoor.carryK (kT6.set_ 0 r2) hb7
                have hng : ¬ GT wq.heap.size wq.heap.size := Nat.lt_irrefl _
                have hv' := (hv6.set (i := 0) (u := r2) hng).carry hb7
                have hN := (hr6.set (i := 0) (u := r2) hng).carry hb7
                have hbX := below_step (below_set (i := 0) (below_step hbT hq6 (Nat.le_refl _)) (Nat.le_refl wq.heap.size) r2) hb7 (by have := kT6.lt; simp; omega)
                refine chainC_nil ?_
                clear kT6 hv6 hr6 hq6 cT fT hb7 hbT hone hst
                go_wp2_with fail
                refine ⟨?rr0, ?mm0⟩
                case rr0 =>
                  (repeat (apply Exists.intro))
                  refine ⟨?_, rfl⟩
                  exact ⟨0 + 1, by omega, rfl, _, _, _, _, by simpa using kX, ⟨by simpa [PM.mul] using hN, by simpa [PM.mul] using hv'.b, by simpa [PM.mul] using hv'.c, by simpa [PM.mul] using hv'.d⟩, hbX⟩
                case mm0 => simp [intOf]
              · skip
                go_upto_region 26 with (fail)
                have kMz := Go.Proofs.YtnndaipnfniciaaGreatDoor.carryK kMq hbT
                have kFz := Go.Proofs.YtnndaipnfniciaaGreatDoor.carryK kF hbT
                refine wp_region_chain [true, true, true, true, true, true, true, false, true, true, true, true, true, true, true, true, false, false, false] wq.heap.size (af := ?af1n) hbT.size (by kernel_rfl) (by kernel_rfl) (by kernel_rfl) ?q1n1 ?q2n1
                case q1n1 =>
                  intro W0 hW0
                  have kM0 := kMz.below hW0 kMq.lt
                  have kF0 := kFz.below hW0 kF.lt
                  have cM := over_blk kM0 kM0.lt
                  have cF := over_blk kF0 kF0.lt
                  simp only [selT]
                  (repeat (first | go_big_quiet_step (fail) | quiet_step (fail)))
                  refine wpQuiet_nil ?_
                  rfl
                intro W1 hW1
                simp only [selF]
                refine chainC_cons ?_
                have hm1 := (hvq.carry hbT).carry hW1
                have he1 := (hvP.carry hbT).carry hW1
                have kT1 := Go.Proofs.YtnndaipnfniciaaGreatDoor.carryK kT hW1
                have hv1 := hvT.carry hW1
                have hq1 : Below wq.heap.size wz W1 := hW1.mono hbT.size
                have hz1 : wq.heap.size ≤ W1.heap.size := Nat.le_trans hbT.size hW1.size
                clear kT hvT hW1 kMz kFz
                go_wp2_with fail
                refine (padd_sl _ _ _ [] m.a x.pm.b _ (SL.nil _) hm1.a.sl he1.b.sl (by simp) (Nat.le_trans HMB.out.la (by omega)) (Nat.le_trans HEB.out.lb (by omega)) (ent_ok (by have := HMB.out.r1; have := HMB.out.r2; omega) (by have := HEB.out.r1; have := HEB.out.r2; omega))).mono ?_
                rintro e W2 ⟨r1, rfl, hr1, hb2⟩
                have hr1 := (hr1 (fun _ => True) (fun _ _ => trivial)).sl
                have hq2 := below_step hq1 hb2 hz1
                go_wp2_with fail
                refine Link.go rfl hq2 (fun W3 hb3 => ?_)
                have hb23 := below_next hb2 hb3
                have hm3 := hm1.carry hb23
                have he3 := he1.carry hb23
                have kT3 := Go.Proofs.YtnndaipnfniciaaGreatDoor.carryK kT1 hb23
                have hv3 := hv1.carry hb23
                have hr3 := hr1.carry hb3
                have hz3 : wq.heap.size ≤ W3.heap.size := Nat.le_trans hz1 hb23.size
                have hq3 := below_step hq1 hb23 hz1
                clear hm1 he1 kT1 hv1 hr1 hq1 hq2 hb2 hb3 hb23
                refine chainC_cons ?_
                go_wp2_with fail
                refine (padd_sl _ _ _ (padd [] m.a x.pm.b) m.b x.pm.d _ hr3 hm3.b.sl he3.d.sl (ent_len HMB.out.la HEB.out.lb) (Nat.le_trans HMB.out.lb (by omega)) (Nat.le_trans HEB.out.ld (by omega)) (ent_ok2 (by have := HMB.out.r1; have := HMB.out.r2; omega) (by have := HEB.out.r1; have := HEB.out.r2; omega) (by have := HMB.out.r1; have := HMB.out.r2; omega) (by have := HEB.out.r1; have := HEB.out.r2; omega))).mono ?_
                rintro e W4 ⟨r2, rfl, hr4, hb4⟩
                have hr4 := hr4 (GT wq.heap.size) (fun b hb => Nat.lt_of_lt_of_le kT3.lt hb)
                go_wp2_with fail
                refine Link.go rfl (below_step hq3 hb4 hz3) (fun W5 hb5 => ?_)
                refine chainC_cons ?_
                go_wp2_with fail
                refine Link.go rfl (below_step (below_step hq3 hb4 hz3) hb5 (Nat.le_trans hz3 hb4.size)) (fun W6 hb6 => ?_)
                have hb36 := below_next (below_next hb4 hb5) hb6
                have kT6 := Go.Proofs.YtnndaipnfniciaaGreatDoor.carryK kT3 hb36
                have hv6 := hv3.carry hb36
                have hr6 := hr4.carry (below_next hb5 hb6)
                have hq6 := below_step hq3 hb36 hz3
                have cT := kT6.cell
                have fT := kT6.frozen
                have hone : r2.oneCell' = true := by obtain ⟨_, _, e, _⟩ := hr6; rw [e]; rfl
                have hst := fun a w m => run_store Tryz.prog w a r2 m hone
                refine chainC_cons ?_
                clear kT3 hv3 hr4 hb4 hb5 hb6 hm3 he3 hr3 hq3 hb36
                go_wp2_with fail
                refine Link.go rfl (below_set hq6 (Nat.le_refl _) _) (fun W7 hb7 => ?_)
                have kX := Go.Proofs.YtnndaipnfniciaaGreatDoor.carryK (kT6.set_ 1 r2) hb7
                have hng : ¬ GT wq.heap.size wq.heap.size := Nat.lt_irrefl _
                have hv' := (hv6.set (i := 1) (u := r2) hng).carry hb7
                have hN := (hr6.set (i := 1) (u := r2) hng).carry hb7
                have hbX := below_step (below_set (i := 1) (below_step hbT hq6 (Nat.le_refl _)) (Nat.le_refl wq.heap.size) r2) hb7 (by have := kT6.lt; simp; omega)
                refine chainC_nil ?_
                clear kT6 hv6 hr6 hq6 cT fT hb7 hbT hone hst
                go_wp2_with fail
                refine ⟨?rr1, ?mm1⟩
                case rr1 =>
                  (repeat (apply Exists.intro))
                  refine ⟨?_, rfl⟩
                  exact ⟨1 + 1, by omega, rfl, _, _, _, _, by simpa using kX, ⟨by simpa [PM.mul] using hv'.a, by simpa [PM.mul] using hN, by simpa [PM.mul] using hv'.c, by simpa [PM.mul] using hv'.d⟩, hbX⟩
                case mm1 => simp [intOf]
              · skip
                go_upto_region 26 with (fail)
                have kMz := Go.Proofs.YtnndaipnfniciaaGreatDoor.carryK kMq hbT
                have kFz := Go.Proofs.YtnndaipnfniciaaGreatDoor.carryK kF hbT
                refine wp_region_chain [true, true, true, true, true, true, true, false, true, true, true, true, true, true, true, true, false, false, false] wq.heap.size (af := ?af2n) hbT.size (by kernel_rfl) (by kernel_rfl) (by kernel_rfl) ?q1n2 ?q2n2
                case q1n2 =>
                  intro W0 hW0
                  have kM0 := kMz.below hW0 kMq.lt
                  have kF0 := kFz.below hW0 kF.lt
                  have cM := over_blk kM0 kM0.lt
                  have cF := over_blk kF0 kF0.lt
                  simp only [selT]
                  (repeat (first | go_big_quiet_step (fail) | quiet_step (fail)))
                  refine wpQuiet_nil ?_
                  rfl
                intro W1 hW1
                simp only [selF]
                refine chainC_cons ?_
                have hm1 := (hvq.carry hbT).carry hW1
                have he1 := (hvP.carry hbT).carry hW1
                have kT1 := Go.Proofs.YtnndaipnfniciaaGreatDoor.carryK kT hW1
                have hv1 := hvT.carry hW1
                have hq1 : Below wq.heap.size wz W1 := hW1.mono hbT.size
                have hz1 : wq.heap.size ≤ W1.heap.size := Nat.le_trans hbT.size hW1.size
                clear kT hvT hW1 kMz kFz
                go_wp2_with fail
                refine (padd_sl _ _ _ [] m.c x.pm.a _ (SL.nil _) hm1.c.sl he1.a.sl (by simp) (Nat.le_trans HMB.out.lc (by omega)) (Nat.le_trans HEB.out.la (by omega)) (ent_ok (by have := HMB.out.r1; have := HMB.out.r2; omega) (by have := HEB.out.r1; have := HEB.out.r2; omega))).mono ?_
                rintro e W2 ⟨r1, rfl, hr1, hb2⟩
                have hr1 := (hr1 (fun _ => True) (fun _ _ => trivial)).sl
                have hq2 := below_step hq1 hb2 hz1
                go_wp2_with fail
                refine Link.go rfl hq2 (fun W3 hb3 => ?_)
                have hb23 := below_next hb2 hb3
                have hm3 := hm1.carry hb23
                have he3 := he1.carry hb23
                have kT3 := Go.Proofs.YtnndaipnfniciaaGreatDoor.carryK kT1 hb23
                have hv3 := hv1.carry hb23
                have hr3 := hr1.carry hb3
                have hz3 : wq.heap.size ≤ W3.heap.size := Nat.le_trans hz1 hb23.size
                have hq3 := below_step hq1 hb23 hz1
                clear hm1 he1 kT1 hv1 hr1 hq1 hq2 hb2 hb3 hb23
                refine chainC_cons ?_
                go_wp2_with fail
                refine (padd_sl _ _ _ (padd [] m.c x.pm.a) m.d x.pm.c _ hr3 hm3.d.sl he3.c.sl (ent_len HMB.out.lc HEB.out.la) (Nat.le_trans HMB.out.ld (by omega)) (Nat.le_trans HEB.out.lc (by omega)) (ent_ok2 (by have := HMB.out.r1; have := HMB.out.r2; omega) (by have := HEB.out.r1; have := HEB.out.r2; omega) (by have := HMB.out.r1; have := HMB.out.r2; omega) (by have := HEB.out.r1; have := HEB.out.r2; omega))).mono ?_
                rintro e W4 ⟨r2, rfl, hr4, hb4⟩
                have hr4 := hr4 (GT wq.heap.size) (fun b hb => Nat.lt_of_lt_of_le kT3.lt hb)
                go_wp2_with fail
                refine Link.go rfl (below_step hq3 hb4 hz3) (fun W5 hb5 => ?_)
                refine chainC_cons ?_
                go_wp2_with fail
                refine Link.go rfl (below_step (below_step hq3 hb4 hz3) hb5 (Nat.le_trans hz3 hb4.size)) (fun W6 hb6 => ?_)
                have hb36 := below_next (below_next hb4 hb5) hb6
                have kT6 := Go.Proofs.YtnndaipnfniciaaGreatDoor.carryK kT3 hb36
                have hv6 := hv3.carry hb36
                have hr6 := hr4.carry (below_next hb5 hb6)
                have hq6 := below_step hq3 hb36 hz3
                have cT := kT6.cell
                have fT := kT6.frozen
                have hone : r2.oneCell' = true := by obtain ⟨_, _, e, _⟩ := hr6; rw [e]; rfl
                have hst := fun a w m => run_store Tryz.prog w a r2 m hone
                refine chainC_cons ?_
                clear kT3 hv3 hr4 hb4 hb5 hb6 hm3 he3 hr3 hq3 hb36
                go_wp2_with fail
                refine Link.go rfl (below_set hq6 (Nat.le_refl _) _) (fun W7 hb7 => ?_)
                have kX := Go.Proofs.YtnndaipnfniciaaGreatDoor.carryK (kT6.set_ 2 r2) hb7
                have hng : ¬ GT wq.heap.size wq.heap.size := Nat.lt_irrefl _
                have hv' := (hv6.set (i := 2) (u := r2) hng).carry hb7
                have hN := (hr6.set (i := 2) (u := r2) hng).carry hb7
                have hbX := below_step (below_set (i := 2) (below_step hbT hq6 (Nat.le_refl _)) (Nat.le_refl wq.heap.size) r2) hb7 (by have := kT6.lt; simp; omega)
                refine chainC_nil ?_
                clear kT6 hv6 hr6 hq6 cT fT hb7 hbT hone hst
                go_wp2_with fail
                refine ⟨?rr2, ?mm2⟩
                case rr2 =>
                  (repeat (apply Exists.intro))
                  refine ⟨?_, rfl⟩
                  exact ⟨2 + 1, by omega, rfl, _, _, _, _, by simpa using kX, ⟨by simpa [PM.mul] using hv'.a, by simpa [PM.mul] using hv'.b, by simpa [PM.mul] using hN, by simpa [PM.mul] using hv'.d⟩, hbX⟩
                case mm2 => simp [intOf]
              · skip
                go_upto_region 26 with (fail)
                have kMz := Go.Proofs.YtnndaipnfniciaaGreatDoor.carryK kMq hbT
                have kFz := Go.Proofs.YtnndaipnfniciaaGreatDoor.carryK kF hbT
                refine wp_region_chain [true, true, true, true, true, true, true, false, true, true, true, true, true, true, true, true, false, false, false] wq.heap.size (af := ?af3n) hbT.size (by kernel_rfl) (by kernel_rfl) (by kernel_rfl) ?q1n3 ?q2n3
                case q1n3 =>
                  intro W0 hW0
                  have kM0 := kMz.below hW0 kMq.lt
                  have kF0 := kFz.below hW0 kF.lt
                  have cM := over_blk kM0 kM0.lt
                  have cF := over_blk kF0 kF0.lt
                  simp only [selT]
                  (repeat (first | go_big_quiet_step (fail) | quiet_step (fail)))
                  refine wpQuiet_nil ?_
                  rfl
                intro W1 hW1
                simp only [selF]
                refine chainC_cons ?_
                have hm1 := (hvq.carry hbT).carry hW1
                have he1 := (hvP.carry hbT).carry hW1
                have kT1 := Go.Proofs.YtnndaipnfniciaaGreatDoor.carryK kT hW1
                have hv1 := hvT.carry hW1
                have hq1 : Below wq.heap.size wz W1 := hW1.mono hbT.size
                have hz1 : wq.heap.size ≤ W1.heap.size := Nat.le_trans hbT.size hW1.size
                clear kT hvT hW1 kMz kFz
                go_wp2_with fail
                refine (padd_sl _ _ _ [] m.c x.pm.b _ (SL.nil _) hm1.c.sl he1.b.sl (by simp) (Nat.le_trans HMB.out.lc (by omega)) (Nat.le_trans HEB.out.lb (by omega)) (ent_ok (by have := HMB.out.r1; have := HMB.out.r2; omega) (by have := HEB.out.r1; have := HEB.out.r2; omega))).mono ?_
                rintro e W2 ⟨r1, rfl, hr1, hb2⟩
                have hr1 := (hr1 (fun _ => True) (fun _ _ => trivial)).sl
                have hq2 := below_step hq1 hb2 hz1
                go_wp2_with fail
                refine Link.go rfl hq2 (fun W3 hb3 => ?_)
                have hb23 := below_next hb2 hb3
                have hm3 := hm1.carry hb23
                have he3 := he1.carry hb23
                have kT3 := Go.Proofs.YtnndaipnfniciaaGreatDoor.carryK kT1 hb23
                have hv3 := hv1.carry hb23
                have hr3 := hr1.carry hb3
                have hz3 : wq.heap.size ≤ W3.heap.size := Nat.le_trans hz1 hb23.size
                have hq3 := below_step hq1 hb23 hz1
                clear hm1 he1 kT1 hv1 hr1 hq1 hq2 hb2 hb3 hb23
                refine chainC_cons ?_
                go_wp2_with fail
                refine (padd_sl _ _ _ (padd [] m.c x.pm.b) m.d x.pm.d _ hr3 hm3.d.sl he3.d.sl (ent_len HMB.out.lc HEB.out.lb) (Nat.le_trans HMB.out.ld (by omega)) (Nat.le_trans HEB.out.ld (by omega)) (ent_ok2 (by have := HMB.out.r1; have := HMB.out.r2; omega) (by have := HEB.out.r1; have := HEB.out.r2; omega) (by have := HMB.out.r1; have := HMB.out.r2; omega) (by have := HEB.out.r1; have := HEB.out.r2; omega))).mono ?_
                rintro e W4 ⟨r2, rfl, hr4, hb4⟩
                have hr4 := hr4 (GT wq.heap.size) (fun b hb => Nat.lt_of_lt_of_le kT3.lt hb)
                go_wp2_with fail
                refine Link.go rfl (below_step hq3 hb4 hz3) (fun W5 hb5 => ?_)
                refine chainC_cons ?_
                go_wp2_with fail
                refine Link.go rfl (below_step (below_step hq3 hb4 hz3) hb5 (Nat.le_trans hz3 hb4.size)) (fun W6 hb6 => ?_)
                have hb36 := below_next (below_next hb4 hb5) hb6
                have kT6 := Go.Proofs.YtnndaipnfniciaaGreatDoor.carryK kT3 hb36
                have hv6 := hv3.carry hb36
                have hr6 := hr4.carry (below_next hb5 hb6)
                have hq6 := below_step hq3 hb36 hz3
                have cT := kT6.cell
                have fT := kT6.frozen
                have hone : r2.oneCell' = true := by obtain ⟨_, _, e, _⟩ := hr6; rw [e]; rfl
                have hst := fun a w m => run_store Tryz.prog w a r2 m hone
                refine chainC_cons ?_
                clear kT3 hv3 hr4 hb4 hb5 hb6 hm3 he3 hr3 hq3 hb36
                go_wp2_with fail
                refine Link.go rfl (below_set hq6 (Nat.le_refl _) _) (fun W7 hb7 => ?_)
                have kX := Go.Proofs.YtnndaipnfniciaaGreatDoor.carryK (kT6.set_ 3 r2) hb7
                have hng : ¬ GT wq.heap.size wq.heap.size := Nat.lt_irrefl _
                have hv' := (hv6.set (i := 3) (u := r2) hng).carry hb7
                have hN := (hr6.set (i := 3) (u := r2) hng).carry hb7
                have hbX := below_step (below_set (i := 3) (below_step hbT hq6 (Nat.le_refl _)) (Nat.le_refl wq.heap.size) r2) hb7 (by have := kT6.lt; simp; omega)
                refine chainC_nil ?_
                clear kT6 hv6 hr6 hq6 cT fT hb7 hbT hone hst
                go_wp2_with fail
                refine ⟨?rr3, ?mm3⟩
                case rr3 =>
                  (repeat (apply Exists.intro))
                  refine ⟨?_, rfl⟩
                  exact ⟨3 + 1, by omega, rfl, _, _, _, _, by simpa using kX, ⟨by simpa [PM.mul] using hv'.a, by simpa [PM.mul] using hv'.b, by simpa [PM.mul] using hv'.c, by simpa [PM.mul] using hN⟩, hbX⟩
                case mm3 => simp [intOf]
              · have hvR : PMv wz (GT wq.heap.size) t0 t1 t2 t3 (m.mul x.pm) := by simpa using hvT
                have kM' := Go.Proofs.YtnndaipnfniciaaGreatDoor.carryK kMq hbT
                have kG' := Go.Proofs.YtnndaipnfniciaaGreatDoor.carryK kGq hbT
                have kO' := Go.Proofs.YtnndaipnfniciaaGreatDoor.carryK kOq hbT
                have kR' := Go.Proofs.YtnndaipnfniciaaGreatDoor.carryK kRq hbT
                have hd' := hdq.carry hbT
                have hs' := hsq.carry hbT
                have hbz := below_next hb9 hbT
                have hlM := kMq.lt
                clear hvT kMq kGq kOq kRq hdq hsq hvq hvP kF hb9
                obtain ⟨B0, m0, e0, rfl⟩ := hvR.a.shape
                obtain ⟨B1, m1, e1, rfl⟩ := hvR.b.shape
                obtain ⟨B2, m2, e2, rfl⟩ := hvR.c.shape
                obtain ⟨B3, m3, e3, rfl⟩ := hvR.d.shape
                have cT := kT.cell
                have cM := kM'.cell
                have fM := kM'.frozen
                go_upto_region 29 with (fail)
                obtain ⟨wn, en⟩ : ∃ wn, wn = ((((wz.setCell ⟨g7, 0, none⟩ (.slice B0 m0 e0)).setCell ⟨g7, 1, none⟩ (.slice B1 m1 e1)).setCell ⟨g7, 2, none⟩ (.slice B2 m2 e2)).setCell ⟨g7, 3, none⟩ (.slice B3 m3 e3)) := ⟨_, rfl⟩
                rw [← en]
                have hgn : ¬ OKM g7 w2.heap.size g7 := fun q => q.1 rfl
                have kN : Blk wn g7 134 #[.slice B0 m0 e0, .slice B1 m1 e1, .slice B2 m2 e2, .slice B3 m3 e3] := by rw [en]; exact blk4 kM'
                have hvN : PMv wn (OKM g7 w2.heap.size) (.slice B0 m0 e0) (.slice B1 m1 e1) (.slice B2 m2 e2) (.slice B3 m3 e3) (m.mul x.pm) := by
                  rw [en]
                  exact (hvR.imp fun b hb => ⟨by unfold GT at hb; omega, by unfold GT at hb; omega⟩).set4 hgn
                have hdN : SLn wn (OKM g7 w2.heap.size) u8 (pdv [1] (l.take k)) := by rw [en]; exact hd'.set4 hgn
                have hsN : SLn wn (OKM g7 w2.heap.size) (.slice (some ⟨w4.heap.size, 0, none⟩) (trim [x.a, x.b]).length 2) x.pv := by rw [en]; exact hs'.set4 hgn
                have kGN : Blk wn gk 138 #[.string (kDual x.kind), .bool (kDiv x.kind), .func (.func ff) #[] #[]] := by rw [en]; exact far4 kG' (Blk.ne_ kG' kM' (by decide))
                have kON : Blk wn (w.heap.size + 1) 44 #[.slice none 0 0, .slice none 0 0, .slice none 0 0, .slice none 0 0] := by rw [en]; exact far4 kO' (by omega)
                have kRN : Blk wn w.heap.size 44 #[.slice none 0 0, .slice none 0 0, .slice none 0 0, .slice none 0 0] := by rw [en]; exact far4 kR' (by omega)
                have hbN : Below w.heap.size w wn := by rw [en]; exact below4 hbz (by omega)
                have hdb := lad_pd HOK.out k
                have hpb := pv_bd hxo
                have hps := pdv_succ HX.out
                clear en cT cM fM hvR kM' kG' kO' kR' hd' hs' hbz kT hbT
                cases hdv : kDiv x.kind
                · have hsame : pdv [1] (l.take (k + 1)) = pdv [1] (l.take k) := by rw [hps, if_neg (by rw [show x.divides = kDiv x.kind from rfl, hdv]; simp)]
                  have HSAME := hide hsame
                  clear hsame hps hdb hpb
                  rw [hdv] at kGN
                  have cG := kGN.cell
                  go_wp2_with fail
                  go_roundw
                  case rel => exact ⟨k + 1, by omega, by go_num, _, _, _, _, kN, by rw [HPS.out]; exact hvN, by rw [HSAME.out]; exact hdN, kON, kRN, hbN⟩
                  case measure => simp [intOf]; omega
                · have hsame : pdv [1] (l.take (k + 1)) = padd [] (pdv [1] (l.take k)) x.pv := by rw [hps, if_pos (by rw [show x.divides = kDiv x.kind from rfl, hdv])]
                  have HSAME := hide hsame
                  have HDB := hide hdb
                  have HPB := hide hpb
                  clear hsame hps hdb hpb
                  rw [hdv] at kGN
                  have cG := kGN.cell
                  go_wp2_with fail
                  refine (padd_sl _ _ _ [] (pdv [1] (l.take k)) x.pv _ (SL.nil _) hdN.sl hsN.sl (by simp) (Nat.le_trans HDB.out.1 (by omega)) (Nat.le_trans HPB.out.1 (by omega)) (ent_ok HDB.out.2 (Nat.le_trans HPB.out.2 (by omega)))).mono ?_
                  rintro e wp ⟨sd, rfl, hsd, hbp⟩
                  have hlN := kN.lt
                  have hsd := hsd (OKM g7 w2.heap.size) (fun b hb => ⟨by omega, by omega⟩)
                  have kN' := Go.Proofs.YtnndaipnfniciaaGreatDoor.carryK kN hbp
                  have hvN' := hvN.carry hbp
                  have kON' := Go.Proofs.YtnndaipnfniciaaGreatDoor.carryK kON hbp
                  have kRN' := Go.Proofs.YtnndaipnfniciaaGreatDoor.carryK kRN hbp
                  have hbN' := below_next hbN hbp
                  clear kN hvN kON kRN hbN cG kGN hdN hsN hbp hlN
                  go_wp2_with fail
                  go_roundw
                  case rel => exact ⟨k + 1, by omega, by go_num, _, _, _, _, kN', by rw [HPS.out]; exact hvN', by rw [HSAME.out]; exact hsd, kON', kRN', hbN'⟩
                  case measure => simp [intOf]; omega
    · obtain rfl : k = n := by omega
      have htk : l.take k = l := List.take_of_length_le (by rw [HL.out]; exact Nat.le_refl _)
      rw [htk] at hv hd
      clear htk
      obtain ⟨B0, m0, e0, rfl⟩ := hv.a.shape
      obtain ⟨B1, m1, e1, rfl⟩ := hv.b.shape
      obtain ⟨B2, m2, e2, rfl⟩ := hv.c.shape
      obtain ⟨B3, m3, e3, rfl⟩ := hv.d.shape
      have cM := kM.cell
      go_upto_region 33 with (fail)
      go_loopw [104] (fun v wz => ∃ k' : Nat, k' ≤ 4 ∧ v = .int .i64 k' ∧ Blk wz (w.heap.size + 1) 44 #[if 0 < k' then .slice B0 m0 e0 else .slice none 0 0, if 1 < k' then .slice B1 m1 e1 else .slice none 0 0, if 2 < k' then .slice B2 m2 e2 else .slice none 0 0, if 3 < k' then .slice B3 m3 e3 else .slice none 0 0] ∧ Blk wz w.heap.size 44 #[.slice none 0 0, .slice none 0 0, .slice none 0 0, .slice none 0 0] ∧ PMv wz (OKM g7 w2.heap.size) (.slice B0 m0 e0) (.slice B1 m1 e1) (.slice B2 m2 e2) (.slice B3 m3 e3) (pch .id l) ∧ SLn wz (OKM g7 w2.heap.size) u8 (pdv [1] l) ∧ Below w.heap.size w wz) (fun v _ => 4 - (intOf v).toNat)
      case atStart => exact ⟨0, by omega, rfl, by simpa using kO', kR', hv, hd, hb⟩
      case round =>
        rename World => wz
        obtain ⟨k', hk', rfl, kO, kR, hv', hd', hbz⟩ := hrel
        clear kM hv hd kO' kR' cM hb
        have hgn : ¬ OKM g7 w2.heap.size (w.heap.size + 1) := fun q => by have := q.2; omega
        have hgn0 : ¬ OKM g7 w2.heap.size w.heap.size := fun q => by have := q.2; omega
        have hc : k' = 0 ∨ k' = 1 ∨ k' = 2 ∨ k' = 3 ∨ k' = 4 := by omega
        rcases hc with rfl | rfl | rfl | rfl | rfl
        · skip
          have i0 : ∀ W : World, (Instr.index 134 (.agg #[.slice B0 m0 e0, .slice B1 m1 e1, .slice B2 m2 e2, .slice B3 m3 e3]) (.int .i64 0)).run Tryz.prog W = .ok (.slice B0 m0 e0) W := fun _ => by kernel_rfl
          have cO := kO.cell
          have fO := kO.frozen
          have kA := kO.set_ 0 (.slice B0 m0 e0)
          have kR2 := kR.far (p := ⟨w.heap.size + 1, 0, none⟩) (by simp only; omega) (.slice B0 m0 e0)
          have hv2 := hv'.set (i := 0) (u := .slice B0 m0 e0) hgn
          have hd2 := hd'.set (i := 0) (u := .slice B0 m0 e0) hgn
          have hb2 := below_set hbz (Nat.le_succ w.heap.size) (i := 0) (.slice B0 m0 e0)
          clear kO kR hv' hd' hbz
          go_wp2_with fail
          go_roundw
          case rel => exact ⟨0 + 1, by omega, rfl, by simpa using kA, kR2, hv2, hd2, hb2⟩
          case measure => simp [intOf]
        · skip
          have i0 : ∀ W : World, (Instr.index 134 (.agg #[.slice B0 m0 e0, .slice B1 m1 e1, .slice B2 m2 e2, .slice B3 m3 e3]) (.int .i64 1)).run Tryz.prog W = .ok (.slice B1 m1 e1) W := fun _ => by kernel_rfl
          have cO := kO.cell
          have fO := kO.frozen
          have kA := kO.set_ 1 (.slice B1 m1 e1)
          have kR2 := kR.far (p := ⟨w.heap.size + 1, 1, none⟩) (by simp only; omega) (.slice B1 m1 e1)
          have hv2 := hv'.set (i := 1) (u := .slice B1 m1 e1) hgn
          have hd2 := hd'.set (i := 1) (u := .slice B1 m1 e1) hgn
          have hb2 := below_set hbz (Nat.le_succ w.heap.size) (i := 1) (.slice B1 m1 e1)
          clear kO kR hv' hd' hbz
          go_wp2_with fail
          go_roundw
          case rel => exact ⟨1 + 1, by omega, rfl, by simpa using kA, kR2, hv2, hd2, hb2⟩
          case measure => simp [intOf]
        · skip
          have i0 : ∀ W : World, (Instr.index 134 (.agg #[.slice B0 m0 e0, .slice B1 m1 e1, .slice B2 m2 e2, .slice B3 m3 e3]) (.int .i64 2)).run Tryz.prog W = .ok (.slice B2 m2 e2) W := fun _ => by kernel_rfl
          have cO := kO.cell
          have fO := kO.frozen
          have kA := kO.set_ 2 (.slice B2 m2 e2)
          have kR2 := kR.far (p := ⟨w.heap.size + 1, 2, none⟩) (by simp only; omega) (.slice B2 m2 e2)
          have hv2 := hv'.set (i := 2) (u := .slice B2 m2 e2) hgn
          have hd2 := hd'.set (i := 2) (u := .slice B2 m2 e2) hgn
          have hb2 := below_set hbz (Nat.le_succ w.heap.size) (i := 2) (.slice B2 m2 e2)
          clear kO kR hv' hd' hbz
          go_wp2_with fail
          go_roundw
          case rel => exact ⟨2 + 1, by omega, rfl, by simpa using kA, kR2, hv2, hd2, hb2⟩
          case measure => simp [intOf]
        · skip
          have i0 : ∀ W : World, (Instr.index 134 (.agg #[.slice B0 m0 e0, .slice B1 m1 e1, .slice B2 m2 e2, .slice B3 m3 e3]) (.int .i64 3)).run Tryz.prog W = .ok (.slice B3 m3 e3) W := fun _ => by kernel_rfl
          have cO := kO.cell
          have fO := kO.frozen
          have kA := kO.set_ 3 (.slice B3 m3 e3)
          have kR2 := kR.far (p := ⟨w.heap.size + 1, 3, none⟩) (by simp only; omega) (.slice B3 m3 e3)
          have hv2 := hv'.set (i := 3) (u := .slice B3 m3 e3) hgn
          have hd2 := hd'.set (i := 3) (u := .slice B3 m3 e3) hgn
          have hb2 := below_set hbz (Nat.le_succ w.heap.size) (i := 3) (.slice B3 m3 e3)
          clear kO kR hv' hd' hbz
          go_wp2_with fail
          go_roundw
          case rel => exact ⟨3 + 1, by omega, rfl, by simpa using kA, kR2, hv2, hd2, hb2⟩
          case measure => simp [intOf]
        · have kO1 : Blk wz (w.heap.size + 1) 44 #[.slice B0 m0 e0, .slice B1 m1 e1, .slice B2 m2 e2, .slice B3 m3 e3] := by simpa using kO
          have cO := kO1.cell
          have cR := kR.cell
          have fR := kR.frozen
          clear kO
          go_wp2_with fail
          obtain ⟨wn, en⟩ : ∃ wn, wn = ((((wz.setCell ⟨w.heap.size, 0, none⟩ (.slice B0 m0 e0)).setCell ⟨w.heap.size, 1, none⟩ (.slice B1 m1 e1)).setCell ⟨w.heap.size, 2, none⟩ (.slice B2 m2 e2)).setCell ⟨w.heap.size, 3, none⟩ (.slice B3 m3 e3)) := ⟨_, rfl⟩
          rw [← en]
          have kN : Blk wn w.heap.size 44 #[.slice B0 m0 e0, .slice B1 m1 e1, .slice B2 m2 e2, .slice B3 m3 e3] := by rw [en]; exact blk4 kR
          have hvN : PMv wn (OKM g7 w2.heap.size) (.slice B0 m0 e0) (.slice B1 m1 e1) (.slice B2 m2 e2) (.slice B3 m3 e3) (pch .id l) := by rw [en]; exact hv'.set4 hgn0
          have hdN : SLn wn (OKM g7 w2.heap.size) u8 (pdv [1] l) := by rw [en]; exact hd'.set4 hgn0
          have hbN : Below w.heap.size w wn := by rw [en]; exact below4 hbz (Nat.le_refl _)
          have cX := kN.cell
          clear en cO cR fR
          refine bodyPost_ret (v := .tuple #[.agg #[.slice B0 m0 e0, .slice B1 m1 e1, .slice B2 m2 e2, .slice B3 m3 e3], u8, .int .i64 0]) (by simp [results, Tryz.results24, go_sem, cX]) rfl ?_
          exact ⟨_, _, _, _, _, rfl, ⟨_, hvN⟩, hdN.sl, hbN⟩
end Go.Proofs.YtnndaipnfniciaaGreatDoor
