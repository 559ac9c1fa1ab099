/- Normal, Symmetries of the reference. -/
import Derived.Test.YtcihiglpahhboaaGreatDoorARNor
import Derived.Test.YtcihiglpahhboaaGreatDoorARPrs
namespace Go.Proofs.YtcihiglpahhboaaGreatDoor
open Go.RowKit Go.Shelf
set_option maxRecDepth 100000
theorem wAt_get {l : List Src} {u : Int} {i : Nat} {a : Wt} (h : (wAt l u)[i]? = some a) (hl : LOk l) : a = ⟨u, a.y, sumAt l u a.y⟩ ∧ a.y ≤ 100 := by
  obtain ⟨h1, ⟨s, hs, _, h3⟩, h4⟩ := wAt_mem.1 (List.mem_of_getElem? h)
  have := (hl.all s hs).y2
  exact ⟨Wt.ext' h1 rfl h4, by omega⟩
theorem asS_snoc (L : List Wt) (a : Wt) : srcs ((L ++ [a]).map asS) = srcs (L.map asS) ++ srcCells (asS a) := by rw [List.map_append, srcs_app]; simp [srcs]
theorem hits_take {l : List Src} {k : Nat} {s : Src} (h : l[k]? = some s) (u : Int) : hits (l.take (k + 1)) u = hits (l.take k) u + if s.x = u then 1 else 0 := by rw [src_take h, hits_snoc]
theorem sumAt_take {l : List Src} {k : Nat} {s : Src} (h : l[k]? = some s) (u v : Int) : sumAt (l.take (k + 1)) u v = addAt u v (sumAt (l.take k) u v) s := by rw [src_take h, sumAt_snoc]
/-- How many of the weights at u are found behind the first k sources. -/
def fnd (l : List Src) (u : Int) (k : Nat) : Nat := min (hits (l.take k) u) (wAt l u).length
theorem fnd_le (l : List Src) (u : Int) (k : Nat) : fnd l u k ≤ (wAt l u).length := Nat.min_le_right _ _
theorem fnd_all {l : List Src} {u : Int} {k : Nat} (h : l.length ≤ k) : fnd l u k = (wAt l u).length := by
  unfold fnd
  rw [List.take_of_length_le h]
  have := wAt_len l u
  omega
theorem fnd_zero (l : List Src) (u : Int) : fnd l u 0 = 0 := by unfold fnd; simp [hits]
theorem fnd_skip {l : List Src} {k : Nat} {s : Src} {u : Int} (h : l[k]? = some s) (hu : ¬ s.x = u) : fnd l u (k + 1) = fnd l u k := by unfold fnd; rw [hits_take h, if_neg hu]; rfl
theorem fnd_step {l : List Src} {k : Nat} {s : Src} {u : Int} (h : l[k]? = some s) (hu : s.x = u) (hm : fnd l u k < (wAt l u).length) : fnd l u (k + 1) = fnd l u k + 1 := by
  unfold fnd at hm ⊢
  rw [hits_take h, if_pos hu]
  omega
/-- What is done when the first k sources are seen at u. -/
def dnW (l : List Src) (u : Int) (k : Nat) : List Wt := wLt l u ++ (wAt l u).take (fnd l u k)
theorem dnW_zero (l : List Src) (u : Int) : dnW l u 0 = wLt l u := by unfold dnW; rw [fnd_zero, List.take_zero, List.append_nil]
theorem dnW_end {l : List Src} {u : Int} {k : Nat} (h : fnd l u k = (wAt l u).length) : dnW l u k = wLt l (u + 1) := by
  unfold dnW
  rw [h, List.take_length, wLt_next]
theorem dnW_skip {l : List Src} {k : Nat} {s : Src} {u : Int} (h : l[k]? = some s) (hu : ¬ s.x = u) : dnW l u (k + 1) = dnW l u k := by unfold dnW; rw [fnd_skip h hu]
theorem dnW_step {l : List Src} {k : Nat} {s : Src} {u : Int} {a : Wt} (h : l[k]? = some s) (hu : s.x = u) (ha : (wAt l u)[fnd l u k]? = some a) : dnW l u (k + 1) = dnW l u k ++ [a] := by
  unfold dnW
  rw [fnd_step h hu (List.getElem?_eq_some_iff.1 ha).1, List.take_add_one, ha, List.append_assoc]; rfl
theorem dnW_len {l : List Src} {u : Int} {k : Nat} : (dnW l u k).length ≤ l.length := by
  have h1 : (dnW l u k).length ≤ (wLt l (u + 1)).length := by
    unfold dnW
    rw [wLt_next, List.length_append, List.length_append, List.length_take]
    omega
  have h2 : (wLt l (u + 1)).length ≤ (allW l).length := List.length_filter_le _ _
  have := allW_len l
  omega
/-- The weights that are kept among the first k. -/
def kpW (l : List Src) (k : Nat) : List Wt := ((allW l).take k).filter fun w => decide (w.z ≠ .zero)
theorem kpW_all (l : List Src) {k : Nat} (h : (allW l).length ≤ k) : kpW l k = nrm l := by unfold kpW nrm; rw [List.take_of_length_le h]
theorem kpW_step {l : List Src} {k : Nat} {a : Wt} (h : (allW l)[k]? = some a) : kpW l (k + 1) = kpW l k ++ if a.z = .zero then [] else [a] := by
  unfold kpW
  rw [List.take_add_one, h, List.filter_append]
  by_cases hz : a.z = .zero <;> simp [hz]
theorem kpW_len (l : List Src) (k : Nat) : (kpW l k).length ≤ l.length := by
  unfold kpW
  have h1 := List.length_filter_le (fun w : Wt => decide (w.z ≠ .zero)) ((allW l).take k)
  have h2 := allW_len l
  rw [List.length_take] at h1
  omega
set_option maxHeartbeats 8000000 in
theorem rNormal_any (A : Option Addr) (m c : Nat) (l : List Src) (w : World) (hok : LOk l) (hR : Reads w w.heap.size 4 A m (srcs l)) :
    Calls Tryz.prog 29 #[.slice A m c] w fun e w' => ∃ v, e = .returned v ∧ w'.ownsRow w.heap.size 143 4 v (nrm l).length (srcs ((nrm l).map asS)) ∧ Below w.heap.size w w' := by
  have HL := hide (srcs_reads_len hR)
  have hm16 : m ≤ 16 := by rw [← HL.out]; exact hok.len
  have HO := hide hok
  have HW0 := hide (wLt_none hok)
  clear hok
  go_enter Tryz.func29, Tryz.ntmps29
  go_wp2_with fail
  go_loopw [3, 4] (fun o i wr => ∃ u : Int, -100 ≤ u ∧ u ≤ 101 ∧ i = .int .i64 u ∧ wr.ownsRow w.heap.size 143 4 o (wLt l u).length (srcs ((wLt l u).map asS)) ∧ Below w.heap.size w wr) (fun _ i _ => (101 - intOf i).toNat)
  case atStart => exact ⟨-100, by omega, by omega, rfl, by rw [HW0.out]; exact World.ownsRow_nil _ _ _ _, Below.refl _ _⟩
  case round =>
    rename World => wo
    obtain ⟨u, hu1, hu2, rfl, ho, hb⟩ := hrel
    by_cases hlt : u ≤ 100
    · go_wp2_with fail
      go_loopw [3, 5] (fun o i wr => ∃ k : Nat, k ≤ m ∧ i = .int .i64 k ∧ wr.ownsRow w.heap.size 143 4 o (dnW l u k).length (srcs ((dnW l u k).map asS)) ∧ Below w.heap.size w wr) (fun _ i _ => m - (intOf i).toNat)
      case atStart => exact ⟨0, by omega, rfl, by rw [dnW_zero]; exact ho, hb⟩
      case round =>
        rename World => wq
        clear ho hb
        obtain ⟨k, hk, rfl, ho, hb⟩ := hrel
        by_cases hkm : k < m
        · obtain ⟨ad, s, rfl, _, hx, hc⟩ := src_hit (carry hR hb) hkm (Nat.le_refl _)
          obtain ⟨d0, _, _, _⟩ := hc wq (Below.refl _ _)
          by_cases hxu : s.x = u
          · have t1 : (s.x != u) = false := by rw [hxu]; simp
            have hdl := dnW_len (l := l) (u := u) (k := k)
            obtain ⟨Ao, co, rfl, hro⟩ := own_slice ho
            have HX := hide hx
            have HXU := hide hxu
            clear hx hxu
            go_wp2_with fail
            clear d0 t1
            refine (rLow_any (some ad) m c l u Ao _ co (dnW l u k) _ (by omega) (by have := HL.out; omega) (carry hR hb) hro).mono ?_
            rintro e w2 ⟨rfl, hb2⟩
            have ho2 := row_below ho hb2
            have hbw2 := below_next hb hb2
            clear ho hro hb hb2 hc
            go_upto_region 10 with (fail)
            by_cases hmm : fnd l u k < (wAt l u).length
            · have hlow : lwst l u (dnW l u k) = ((wAt l u)[fnd l u k]).y := lwst_next HO.out hmm
              obtain ⟨a, ha⟩ : ∃ a, (wAt l u)[fnd l u k]? = some a := ⟨_, List.getElem?_eq_getElem hmm⟩
              have ea : (wAt l u)[fnd l u k] = a := (List.getElem?_eq_some_iff.1 ha).2
              obtain ⟨haa, hay⟩ := wAt_get ha HO.out
              obtain ⟨v, hv⟩ : ∃ v, a.y = v := ⟨_, rfl⟩
              rw [ea, hv] at hlow
              rw [hv] at haa hay
              have HST := hide (dnW_step HX.out HXU.out ha)
              rw [haa] at HST
              rw [hlow]
              clear hmm hlow ha ea haa hv
              obtain ⟨w3, e3, hb3, hz3, kW⟩ := box1 w2 #[.int .i64 u, .int .i64 v, .int .i64 0, .int .i64 0] 143
              rw [← e3]; clear e3
              have ho3 := row_below ho2 hb3
              have hbw3 := below_next hbw2 hb3
              have hnr : (Value.slice Ao (dnW l u k).length co).ownBlock ≠ some w2.heap.size := fun e => Nat.lt_irrefl _ (ho2.lt _ e).2
              have hw2 : w.heap.size ≤ w2.heap.size := hbw2.size
              have cW := kW.cell
              have hnv : ¬ (100 : Int) < v := by omega
              clear ho2 hbw2 hb3
              go_wp2_with fail
              clear cW
              go_loopw [7] (fun i wr => ∃ j : Nat, j ≤ m ∧ i = .int .i64 j ∧ Blk wr w2.heap.size 143 #[.int .i64 u, .int .i64 v, .int .i64 (sumAt (l.take j) u v).re, .int .i64 (sumAt (l.take j) u v).im] ∧ wr.ownsRow w.heap.size 143 4 (.slice Ao (dnW l u k).length co) (dnW l u k).length (srcs ((dnW l u k).map asS)) ∧ Below w.heap.size w wr) (fun i _ => m - (intOf i).toNat)
              case atStart => exact ⟨0, by omega, rfl, kW, ho3, hbw3⟩
              case round =>
                rename World => wr
                clear kW ho3 hbw3
                obtain ⟨j, hj, rfl, kW, ho, hb⟩ := hrel
                by_cases hjm : j < m
                · obtain ⟨ad2, t, ead, _, ht, hct⟩ := src_hit (carry hR hb) hjm (Nat.le_refl _)
                  cases ead
                  have hs := HO.out.all t (List.mem_of_getElem? ht)
                  have hsn := sumAt_take ht u v
                  have hnm := sumAt_nrm (l := l.take (j + 1)) (fun y hy => HO.out.all y (List.mem_of_mem_take hy)) u v
                  have hlen : (l.take (j + 1)).length ≤ 16 := by rw [List.length_take]; omega
                  obtain ⟨C, hC⟩ : ∃ C, sumAt (l.take j) u v = C := ⟨_, rfl⟩
                  obtain ⟨C', hC'⟩ : ∃ C', sumAt (l.take (j + 1)) u v = C' := ⟨_, rfl⟩
                  rw [hC, hC'] at hsn
                  rw [hC'] at hnm
                  rw [hC] at kW
                  have HC' := hide hC'
                  have q0 : ∀ x, (over wr.heap.size wr x).cell? (ad.add (j * 4)) = some (.int .i64 t.x) := fun x => (hct _ (over_below _ _ _)).1
                  have q1 : ∀ x, (over wr.heap.size wr x).cell? ⟨(ad.add (j * 4)).block, (ad.add (j * 4)).off + 1, none⟩ = some (.int .i64 t.y) := fun x => (hct _ (over_below _ _ _)).2.1
                  have cW := over_blk kW kW.lt
                  by_cases hat : t.x = u ∧ t.y = v
                  · have g1 : (t.x == u) = true := by simpa using hat.1
                    have g2 : (t.y == v) = true := by simpa using hat.2
                    have hadd : C' = C.add (own1 t) := by rw [hsn]; unfold addAt; rw [if_pos hat]
                    have hturn : Hid (∀ W, Calls Tryz.prog 72 #[.agg #[.int .i64 t.g, .int .i64 0], .int .i64 t.p] W fun e W' => e = .returned (.agg #[.int .i64 (own1 t).re, .int .i64 (own1 t).im]) ∧ Below W.heap.size W W') := fun W =>
                      qTurn_any ⟨t.g, 0⟩ t.p W (by unfold G.nrm; have := hs.g1; have := hs.g2; simp only; omega)
                    have hplus : Hid (∀ W, Calls Tryz.prog 73 #[.agg #[.int .i64 C.re, .int .i64 C.im], .agg #[.int .i64 (own1 t).re, .int .i64 (own1 t).im]] W fun e W' => e = .returned (.agg #[.int .i64 C'.re, .int .i64 C'.im]) ∧ Below W.heap.size W W') := fun W => by
                      have := rPlus_any C (own1 t) W
                      rw [← hadd, G.w_in (by omega)] at this
                      exact this
                    clear hat hadd hsn hnm hlen hC hC' ht hs
                    go_upto_region 14 with (fail)
                    refine wp_region_over wr.heap.size (by kernel_rfl) (by kernel_rfl) ?_; (repeat (first | go_big_quiet_step (fail) | quiet_step (fail))); refine wpQuiet_nil ?_; rintro W ⟨x, rfl⟩
                    have hbY := over_below wr.heap.size wr x
                    generalize over wr.heap.size wr x = Y at hbY ⊢
                    clear q0 q1 cW g1 g2
                    have kY := carryK kW hbY
                    have hoY := row_below ho hbY
                    have hbwY := below_next hb hbY
                    have q2 : ∀ x, (over Y.heap.size Y x).cell? ⟨(ad.add (j * 4)).block, (ad.add (j * 4)).off + 2, none⟩ = some (.int .i64 t.g) := fun x => (hct _ (below_next hbY (over_below _ _ _))).2.2.1
                    have q3 : ∀ x, (over Y.heap.size Y x).cell? ⟨(ad.add (j * 4)).block, (ad.add (j * 4)).off + 3, none⟩ = some (.int .i64 t.p) := fun x => (hct _ (below_next hbY (over_below _ _ _))).2.2.2
                    have cW := over_blk kY kY.lt
                    clear hct kW ho hb hbY
                    go_upto_region 15 with (fail)
                    refine wp_region_part 16 Y.heap.size (by kernel_rfl) (by kernel_rfl) ?_; simp only [List.take_succ_cons, List.take_zero, List.drop_succ_cons, List.drop_zero]; (repeat (first | go_big_quiet_step (first | (go_at_call 72; exact over_call (Nat.le_refl _) (hturn.out _)) | (go_at_call 73; exact over_call (Nat.le_refl _) (hplus.out _))) | quiet_step (first | (go_at_call 72; exact over_call (Nat.le_refl _) (hturn.out _)) | (go_at_call 73; exact over_call (Nat.le_refl _) (hplus.out _))))); refine wpQuiet_nil ?_; rintro W ⟨x, rfl⟩
                    have hbZ := over_below Y.heap.size Y x
                    generalize over Y.heap.size Y x = Z at hbZ ⊢
                    clear q2 q3 cW
                    have kZ := carryK kY hbZ
                    have hoZ := row_below hoY hbZ
                    have hbwZ := below_next hbwY hbZ
                    clear kY hoY hbwY hbZ
                    have cZ := kZ.cell
                    have fZ := kZ.frozen
                    have kX := (kZ.set_ 2 (.int .i64 C'.re)).set_ 3 (.int .i64 C'.im)
                    have hoX := ownsRow_setCell_other (a := ⟨w2.heap.size, 3, none⟩) (ownsRow_setCell_other (a := ⟨w2.heap.size, 2, none⟩) hoZ hnr (.int .i64 C'.re)) hnr (.int .i64 C'.im)
                    have hbX := below_set (below_set hbwZ hw2 (i := 2) (.int .i64 C'.re)) hw2 (i := 3) (.int .i64 C'.im)
                    have KX := hide kX
                    have OX := hide hoX
                    have BX := hide hbX
                    clear kX hoX hbX kZ hoZ hbwZ
                    go_wp2_with fail
                    go_roundw
                    case rel => exact ⟨j + 1, by omega, by go_num, by rw [HC'.out]; exact KX.out, OX.out, BX.out⟩
                    case measure => simp [intOf]; omega
                  · have hadd : C' = C := by rw [hsn]; unfold addAt; rw [if_neg hat]
                    have HAD := hide hadd
                    have gg : (t.x == u) = false ∨ ((t.x == u) = true ∧ (t.y == v) = false) := by
                      by_cases h1 : t.x = u
                      · exact .inr ⟨by simpa using h1, by simpa using fun h2 => hat ⟨h1, h2⟩⟩
                      · exact .inl (by simpa using h1)
                    clear hat hadd hsn hnm hlen hC hC' ht hs hct
                    rcases gg with g1 | ⟨g1, g2⟩
                    all_goals
                      go_upto_region 14 with (fail)
                      refine wp_region_over wr.heap.size (by kernel_rfl) (by kernel_rfl) ?_; (repeat (first | go_big_quiet_step (fail) | quiet_step (fail))); refine wpQuiet_nil ?_; rintro W ⟨x, rfl⟩
                      have hbY := over_below wr.heap.size wr x
                      generalize over wr.heap.size wr x = Y at hbY ⊢
                      clear q0 q1 cW g1
                      have KY := hide (carryK kW hbY)
                      have OY := hide (row_below ho hbY)
                      have BY := hide (below_next hb hbY)
                      clear kW ho hb hbY
                      go_wp2_with fail
                      go_roundw
                      case rel => exact ⟨j + 1, by omega, by go_num, by rw [HC'.out, HAD.out]; exact KY.out, OY.out, BY.out⟩
                      case measure => simp [intOf]; omega
                · obtain rfl : j = m := by omega
                  rw [List.take_of_length_le (by rw [HL.out]; omega)] at kW
                  have cW := kW.cell
                  have A1 : (dnW l u k).length + 1 ≤ maxLen := by have := HL.out; unfold maxLen; omega
                  have A2 : ((dnW l u k).length + 1) * 32 ≤ 140737488355328 := by have := HL.out; omega
                  obtain ⟨dl, hdl2⟩ : ∃ n, (dnW l u k).length = n := ⟨_, rfl⟩
                  rw [hdl2] at ho A1 A2 ⊢
                  have HDL := hide hdl2
                  clear hdl2 hdl
                  go_wp2_with (at_builtin; refine wpList_push _ rfl (.tmp 76) (.tmp 78) _ rfl w.heap.size 143 _ 4 32 Tryz.underlying45 info_wtR rfl (by decide) _ dl _ rfl (ho.alloc _) wr.heap.size (srcCells (asS ⟨u, v, sumAt l u v⟩)) rfl rfl (src_new1 wr (asS ⟨u, v, sumAt l u v⟩) _) (one_src _) A1 A2 (le_alloc hb.size _) ?_; intro v1 w6 ho6 hb6)
                  go_roundw
                  case rel => exact ⟨k + 1, by omega, by go_num, by rw [HST.out, asS_snoc, List.length_append, HDL.out]; exact ho6, (hb.alloc hb.size _).trans hb6⟩
                  case measure => simp [intOf]; omega
            · have hmm : fnd l u k = (wAt l u).length := by have := fnd_le l u k; omega
              have hlow : lwst l u (dnW l u k) = 101 := lwst_end hmm
              have HDN := hide (dnW_end hmm)
              rw [hlow]
              clear hmm hlow
              obtain ⟨w3, e3, hb3, hz3, kW⟩ := box1 w2 #[.int .i64 u, .int .i64 101, .int .i64 0, .int .i64 0] 143
              rw [← e3]; clear e3
              have HOW := hide (row_below ho2 hb3)
              have HBW := hide (below_next hbw2 hb3)
              have cW := kW.cell
              clear ho2 hbw2 hb3 hdl
              go_wp2_with fail
              go_roundw
              case rel => exact ⟨u + 1, by omega, by omega, by go_num, by rw [← HDN.out]; exact HOW.out, HBW.out⟩
              case measure => simp [intOf]; omega
          · have t1 : (s.x != u) = true := by simpa using hxu
            have HSK := hide (dnW_skip hx hxu)
            clear hx hxu hc
            go_wp2_with fail
            go_roundw
            case rel => exact ⟨k + 1, by omega, by go_num, by rw [HSK.out]; exact ho, hb⟩
            case measure => simp [intOf]; omega
        · obtain rfl : k = m := by omega
          have HDN := hide (dnW_end (l := l) (u := u) (fnd_all (by rw [HL.out]; omega) : fnd l u k = _))
          have HOW := hide ho
          have HBW := hide hb
          clear ho hb
          go_wp2_with fail
          go_roundw
          case rel => exact ⟨u + 1, by omega, by omega, by go_num, by rw [← HDN.out]; exact HOW.out, HBW.out⟩
          case measure => simp [intOf]; omega
    · obtain rfl : u = 101 := by omega
      have hall := wLt_all HO.out
      rw [hall] at ho
      have hal := allW_len l
      rw [HL.out] at hal
      obtain ⟨Ao, co, rfl, hro⟩ := own_slice ho
      obtain ⟨N, hN⟩ : ∃ N, (allW l).length = N := ⟨_, rfl⟩
      rw [hN] at hro hal ⊢
      have HN := hide hN
      clear hall ho hN
      go_wp2_with fail
      go_loopw [8, 9] (fun o i wr => ∃ k : Nat, k ≤ N ∧ i = .int .i64 k ∧ wr.ownsRow wo.heap.size 143 4 o (kpW l k).length (srcs ((kpW l k).map asS)) ∧ Below wo.heap.size wo wr) (fun _ i _ => N - (intOf i).toNat)
      case atStart => exact ⟨0, by omega, rfl, World.ownsRow_nil _ _ _ _, Below.refl _ _⟩
      case round =>
        rename World => wq
        obtain ⟨k, hk, rfl, ho, hb1⟩ := hrel
        by_cases hkn : k < N
        · obtain ⟨ad, t, rfl, _, ht, hc⟩ := src_hit (carry hro hb1) hkn (Nat.le_refl _)
          obtain ⟨a, ha, rfl⟩ : ∃ a, (allW l)[k]? = some a ∧ t = asS a := by
            rw [List.getElem?_map] at ht
            cases h : (allW l)[k]? with
            | none => rw [h] at ht; cases ht
            | some a => rw [h] at ht; exact ⟨a, rfl, (Option.some.inj ht).symm⟩
          have hst := kpW_step ha
          have hkl := kpW_len l k
          obtain ⟨f0, f1, f2, f3⟩ := hc wq (Below.refl _ _)
          have d0 : wq.cell? (ad.add (k * 4)) = some (.int .i64 a.x) := f0
          have d1 : wq.cell? ⟨(ad.add (k * 4)).block, (ad.add (k * 4)).off + 1, none⟩ = some (.int .i64 a.y) := f1
          have d2 : wq.cell? ⟨(ad.add (k * 4)).block, (ad.add (k * 4)).off + 2, none⟩ = some (.int .i64 a.z.re) := f2
          have d3 : wq.cell? ⟨(ad.add (k * 4)).block, (ad.add (k * 4)).off + 3, none⟩ = some (.int .i64 a.z.im) := f3
          have qz := neqG a.z .zero
          have A1 : (kpW l k).length + 1 ≤ maxLen := by have := HL.out; unfold maxLen; omega
          have A2 : ((kpW l k).length + 1) * 32 ≤ 140737488355328 := by have := HL.out; omega
          obtain ⟨kl, hkl2⟩ : ∃ n, (kpW l k).length = n := ⟨_, rfl⟩
          rw [hkl2] at ho A1 A2
          have HKL := hide hkl2
          clear ht hc ha hkl hkl2 f0 f1 f2 f3
          by_cases hz : a.z = .zero
          · rw [if_pos hz, List.append_nil] at hst
            rw [decide_eq_true hz] at qz
            have qz' : ∀ W, (binOp .neq 54 (.agg #[.int .i64 a.z.re, .int .i64 a.z.im]) (.agg #[.int .i64 0, .int .i64 0])).run Tryz.prog W = .ok (.bool false) W := qz
            have HST := hide hst
            clear hz hst qz
            go_wp2_with fail
            go_roundw
            case rel => exact ⟨k + 1, by omega, by go_num, by rw [HST.out, HKL.out]; exact ho, hb1⟩
            case measure => simp [intOf]; omega
          · rw [if_neg hz] at hst
            rw [decide_eq_false hz] at qz
            have qz' : ∀ W, (binOp .neq 54 (.agg #[.int .i64 a.z.re, .int .i64 a.z.im]) (.agg #[.int .i64 0, .int .i64 0])).run Tryz.prog W = .ok (.bool true) W := qz
            have HST := hide hst
            clear hz hst qz
            go_wp2_with (at_builtin; refine wpList_push _ rfl (.tmp 93) (.tmp 98) _ rfl wo.heap.size 143 _ 4 32 Tryz.underlying45 info_wtR rfl (by decide) _ kl _ rfl (ho.alloc _) wq.heap.size (srcCells (asS a)) rfl rfl (src_new1 wq (asS a) _) (one_src _) A1 A2 (le_alloc hb1.size _) ?_; intro v1 w6 ho6 hb6)
            go_roundw
            case rel => exact ⟨k + 1, by omega, by go_num, by rw [HST.out, asS_snoc, List.length_append, HKL.out]; exact ho6, (hb1.alloc hb1.size _).trans hb6⟩
            case measure => simp [intOf]; omega
        · obtain rfl : k = N := by omega
          rw [kpW_all l (by rw [HN.out]; omega)] at ho
          go_wp2_with fail
          go_ret
          exact ⟨_, rfl, ho.weaken hb.size, below_next hb hb1⟩
end Go.Proofs.YtcihiglpahhboaaGreatDoor
