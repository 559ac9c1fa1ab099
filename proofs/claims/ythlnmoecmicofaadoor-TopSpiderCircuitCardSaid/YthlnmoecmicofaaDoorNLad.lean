/- Ladders in memory; the checks of ladders of the program. -/
import Derived.Test.YthlnmoecmicofaaDoorNChain
import Derived.Test.YthlnmoecmicofaaDoorSplit
import Derived.Deep.DeepCutAuto
namespace Go.Proofs.YthlnmoecmicofaaDoor
open Go.RowKit Go.Shelf
set_option maxRecDepth 100000

def elCells (x : El) : List Value := [.string x.kind, .int .i64 x.a, .int .i64 x.b]
def els (l : List El) : List Value := l.flatMap elCells
theorem els_len (l : List El) : (els l).length = l.length * 3 := by
  induction l with
  | nil => rfl
  | cons s l ih => simp only [els, List.flatMap_cons, List.length_append, List.length_cons] at *; rw [ih]; simp [elCells]; omega
theorem els_snoc (l : List El) (s : El) : els (l ++ [s]) = els l ++ elCells s := by simp [els]
theorem els_at {l : List El} {k j : Nat} {s : El} (h : l[k]? = some s) (hj : j < 3) : (els l)[k * 3 + j]? = (elCells s)[j]? := by
  induction l generalizing k with
  | nil => simp at h
  | cons a l ih =>
    show (elCells a ++ els l)[k * 3 + j]? = _
    cases k with
    | zero =>
      simp at h
      subst h
      rw [List.getElem?_append_left (by simp [elCells]; omega)]
      congr 1; omega
    | succ k =>
      rw [List.getElem?_append_right (by simp [elCells]; omega)]
      rw [← ih (k := k) (by simpa using h)]
      congr 1
      simp [elCells]; omega
theorem one_el (s : El) : ∀ u ∈ elCells s, u.oneCell' = true := by intro u hu; simp [elCells] at hu; rcases hu with rfl | rfl | rfl <;> rfl
theorem els_reads_len {w : World} {B n : Nat} {A : Option Addr} {l : List El} (h : Reads w B 3 A n (els l)) : l.length = n := by
  have := h.1
  rw [els_len] at this
  omega
theorem add_off (a : Addr) (j : Nat) (hj : 1 ≤ j) : (⟨a.block, a.off + j, none⟩ : Addr) = a.add j := by unfold Addr.add; rw [if_neg (by omega)]
/-- An element of a ladder in memory. -/
theorem els_hit {w : World} {B n k : Nat} {A : Option Addr} {l : List El} (h : Reads w B 3 A n (els l)) (hk : k < n) (hB : B ≤ w.heap.size) :
    ∃ ad s, A = some ad ∧ ad.block < B ∧ l[k]? = some s ∧ ∀ W, Below w.heap.size w W → W.cell? (ad.add (k * 3)) = some (.string s.kind) ∧ W.cell? ⟨(ad.add (k * 3)).block, (ad.add (k * 3)).off + 1, none⟩ = some (.int .i64 s.a) ∧ W.cell? ⟨(ad.add (k * 3)).block, (ad.add (k * 3)).off + 2, none⟩ = some (.int .i64 s.b) := by
  obtain ⟨ad, h1, h2, h3⟩ := h.2 (by omega)
  have hl := els_reads_len h
  have hs : l[k]? = some (l[k]'(by omega)) := List.getElem?_eq_getElem (by omega)
  refine ⟨ad, _, h1, h2, hs, fun W hW => ?_⟩
  have go : ∀ j v, j < 3 → (elCells (l[k]'(by omega)))[j]? = some v → W.cell? (ad.add (k * 3 + j)) = some v := fun j v hj hv => (hW.cell (p := ad.add (k * 3 + j)) (by rw [block_of_add]; omega)).trans (h3 _ _ ((els_at hs hj).trans hv))
  have go' : ∀ j v, j < 3 → 1 ≤ j → (elCells (l[k]'(by omega)))[j]? = some v → W.cell? ⟨(ad.add (k * 3)).block, (ad.add (k * 3)).off + j, none⟩ = some v := fun j v hj h1 hv => by rw [add_off _ _ h1, add_of_add]; exact go j v hj hv
  exact ⟨go 0 _ (by omega) rfl, go' 1 _ (by omega) (by omega) rfl, go' 2 _ (by omega) (by omega) rfl⟩
theorem KMap.alloc {w : World} {g : Nat} (h : KMap w g) (o : Obj) : KMap (w.alloc o) g := (Below.heap_alloc w o g (Array.getElem?_eq_some_iff.1 h).1).trans h
theorem kinds_g (w : World) :
    Calls Tryd.prog 51 #[] w fun e w' => ∃ g, e = .returned (.map (some g)) ∧ KMap w' g ∧ w.heap.size ≤ g ∧ Below w.heap.size w w' :=
  (kinds_any w).mono fun _ _ h => ⟨_, h.1, h.2.1, Nat.le_refl _, h.2.2⟩
theorem kFn_cells (k : ByteArray) : (kFn k).cells = #[kFn k] := by unfold kFn; repeat' split <;> try rfl
theorem kFn_one (k : ByteArray) : (kFn k).oneCell' = true := by unfold kFn; repeat' split <;> try rfl
theorem fin3 {Q : World → Prop} {B : Nat} {v W : World} {g : Nat} {c0 c1 c2 u0 u1 u2 : Value} (t : TypeId) (hB : Below B v W) (hg : B ≤ g) (hk : Blk W g t #[c0, c1, c2]) (h : ∀ X, Below B v X → Blk X g t #[u0, u1, u2] → Q X) :
    Q (((W.setCell ⟨g, 0, none⟩ u0).setCell ⟨g, 1, none⟩ u1).setCell ⟨g, 2, none⟩ u2) :=
  h _ (below_set (below_set (below_set hB hg _) hg _) hg _) (by simpa using ((hk.set_ 0 u0).set_ 1 u1).set_ 2 u2)
theorem el_err_eq (x : El) : fnz [if (!kKnown x.kind) = true then 13 else 0, rng x.a 0 8, rng x.b 0 8, if (kDiv x.kind && (x.a == 0) && (x.b == 0)) = true then 6 else 0] = x.err := by
  have h1 : (if (!kKnown x.kind) = true then (13 : Int) else 0) = if x.known then 0 else 13 := by
    show (if (!x.known) = true then (13 : Int) else 0) = _
    cases x.known <;> rfl
  rw [h1]; rfl

set_option maxHeartbeats 2000000 in
theorem checkLadder_any (A : Option Addr) (n c : Nat) (l : List El) (w : World) (h : Reads w w.heap.size 3 A n (els l)) (hn : n ≤ 1000000000000) :
    Calls Tryd.prog 45 #[.slice A n c] w fun r w' => r = .returned (.int .i64 (ladErr l)) ∧ Below w.heap.size w w' := by
  have HL := hide (els_reads_len h)
  go_enter Tryd.func45, Tryd.ntmps45
  by_cases h5 : 5 < n
  · have g5 : (5 : Int) < (n : Int) := by omega
    go_wp2_with fail
    go_ret
    exact ⟨by simp; unfold ladErr; rw [if_pos (by rw [HL.out]; omega)], Below.refl _ _⟩
  · have g5 : ¬ (5 : Int) < (n : Int) := by omega
    go_wp2_with fail
    go_loopw [13] (fun i wr => ∃ k : Nat, k ≤ n ∧ i = .int .i64 k ∧ (∀ x ∈ l.take k, x.err = 0) ∧ Below w.heap.size w wr) (fun i _ => n - (intOf i).toNat)
    case atStart => exact ⟨0, by omega, rfl, by simp, Below.refl _ _⟩
    case round =>
      obtain ⟨k, hk, rfl, hz, hb⟩ := hrel
      have HZ := hide hz; clear hz
      by_cases hlt : k < n
      · obtain ⟨ad, x, rfl, hadb, hxk, hcx⟩ := els_hit (h.below hb) hlt hb.size
        obtain ⟨q0, q1, q2⟩ := hcx wr (Below.refl _ _)
        have HX := hide hxk
        clear hxk hcx
        go_upto_region 6 with (fail)
        obtain ⟨w1, e1, hb1, hz1, k1⟩ := box1 wr #[.string x.kind, .int .i64 x.a, .int .i64 x.b] 62
        rw [← e1]; clear e1 q0 q1 q2
        have hbw1 := below_next hb hb1
        go_cut [5, 6] from 17 to 23 (fun s5 s6 wx => ∃ g, s5 = .pointer (some ⟨g, 0, none⟩) ∧ s6 = .bool (kKnown x.kind) ∧ Blk wx g 101 #[.string (kDual x.kind), .bool (kDiv x.kind), kFn x.kind] ∧ Below w1.heap.size w1 wx)
        case first =>
          have c0 : ∀ i W, Below w1.heap.size w1 W → W.cell? ⟨wr.heap.size, i, none⟩ = (#[.string x.kind, .int .i64 x.a, .int .i64 x.b] : Array Value)[i]? := fun i W h => (carryK k1 h).cell i
          have hA1 := alloc_cel
          have hf1 := fun a w m => run_store Tryd.prog w a (kFn x.kind) m (kFn_one _)
          have hf2 := kFn_one x.kind
          have hA2 := alloc_fro
          go_region_held3 (fun W => Below w1.heap.size w1 W) (first | exact (Below.refl _ _).drew | (with_reducible assumption) | exact below_new ‹Below w1.heap.size w1 _› (Nat.le_refl _) _ | (refine below_set (below_set (below_set (by assumption) (by omega) _) (by omega) _) (by omega) _)) (first | (go_at_call 51; refine (kinds_g _).mono ?_; rintro e W' ⟨gK, rfl, hKM, hgK, hbW⟩; have hS := below_step ‹Below w1.heap.size w1 _› hbW (Below.size ‹Below w1.heap.size w1 _›); have hF := below_fro hbW; have hC := below_cel hbW; have hL := below_lt hbW; have hT := below_le hbW; have hK := below_blk hbW; have hz := Below.size hS; have hz1' := Below.size hbW; (try simp only [World.size_alloc, World.size_drew] at hz1'); (try have hq3 := Nat.lt_of_lt_of_le hq3 hz1'); (try have hq3 := Nat.lt_of_lt_of_le hq3 (Nat.le_of_succ_le hz1')); (try have hq3 := Nat.lt_of_lt_of_le hq1 hz1'); (try have hq3 := Nat.lt_of_lt_of_le hq1 (Nat.le_of_succ_le hz1')); (try have hq7 := Nat.lt_of_succ_lt hq3); (try have hq8 := Nat.le_of_lt hq7); (try have hq4 := Nat.le_of_lt hq3); (try have hq1 := Nat.lt_of_succ_le hz1'); (try have hq2 := Nat.lt_of_succ_lt hq1); (try have hq5 := Nat.le_of_lt hq1); (try have hq6 := Nat.le_of_lt hq2); have hL1 := (kmap_get hKM x.kind).1; have hL2 := fun o => (kmap_get (hKM.alloc o) x.kind).1; clear hKM hgK))
          all_goals (first
            | (with_reducible refine fin1 (v := w1) (t := 101) (by with_reducible assumption) (fun X hX kX => ?_))
            | (with_reducible refine fin3 (B := w1.heap.size) (v := w1) (c0 := .string { data := #[] }) (c1 := .bool false) (c2 := .nilFunc) 101 (by with_reducible assumption) (by omega) (by (repeat (first | exact Blk.newAt (by simp) | refine Blk.alloc ?_ _ | refine Blk.drew ?_ | refine (by with_reducible assumption : ∀ g t cs, Blk _ g t cs → Blk _ g t cs) _ _ _ ?_))) (fun X hX kX => ?_)))
          all_goals (
            clear hL1 hL2
            go_wp2_with fail
            go_meet
            exact ⟨_, rfl, rfl, kX, hX⟩)
        case rest =>
          obtain ⟨g, rfl, rfl, kG, hv⟩ := hcut
          rename World => w2
          have k2 := carryK k1 hv
          have hbw2 := below_next hbw1 hv
          clear k1 hb1 hz1 hv hbw1
          go_upto_region 7 with (fail)
          go_cut [6, 7] from 24 to 47 (fun _ s7 wx => s7 = .int .i64 x.err ∧ Below w2.heap.size w2 wx)
          case first =>
            have c0 := over_blk k2 k2.lt
            have c1 := over_blk kG kG.lt
            have he := el_err_eq x
            cases hd : kDiv x.kind
            · rw [hd] at c1 he
              have HE := hide he
              clear he
              refine wp_region_part 22 w2.heap.size (by kernel_rfl) (by kernel_rfl) ?_; simp only [List.take_succ_cons, List.take_zero, List.drop_succ_cons, List.drop_zero]; (repeat (first | go_big_quiet_step (first | (go_at_call 67; exact over_same (when_any _ _ _)) | (go_at_call 76; exact over_same (within_any _ _ _ _))) | quiet_step (first | (go_at_call 67; exact over_same (when_any _ _ _)) | (go_at_call 76; exact over_same (within_any _ _ _ _))))); refine wpQuiet_nil ?_; rintro W ⟨x, rfl⟩
              go_wp2_with ((go_at_call 44; (first | (with_reducible (refine (first_any _ _ _ _ _ _ (reads4 _ _ _ _ _ _) (by omega)).mono ?_)) | (with_reducible (refine (first_any _ _ _ _ _ _ (Reads.drew (reads4 _ _ _ _ _ _)) (by omega)).mono ?_))); rintro e W' ⟨rfl, rfl⟩))
              all_goals (go_meet; exact ⟨by rw [← HE.out]; simp [*], (by repeat (first | exact over_below _ _ _ | exact Below.refl _ _ | refine Below.drew ?_ | refine below_drewN ?_ _ | refine below_set ?_ (by omega) _ | refine below_new ?_ (by omega) _))⟩)
            · rw [hd] at c1 he
              by_cases ha : x.a = 0
              · have ta : (x.a == 0) = true := by simpa using ha
                rw [ta] at he
                by_cases hb : x.b = 0
                · have tb : (x.b == 0) = true := by simpa using hb
                  rw [tb] at he
                  clear ha hb
                  have HE := hide he
                  clear he
                  refine wp_region_part 22 w2.heap.size (by kernel_rfl) (by kernel_rfl) ?_; simp only [List.take_succ_cons, List.take_zero, List.drop_succ_cons, List.drop_zero]; (repeat (first | go_big_quiet_step (first | (go_at_call 67; exact over_same (when_any _ _ _)) | (go_at_call 76; exact over_same (within_any _ _ _ _))) | quiet_step (first | (go_at_call 67; exact over_same (when_any _ _ _)) | (go_at_call 76; exact over_same (within_any _ _ _ _))))); refine wpQuiet_nil ?_; rintro W ⟨x, rfl⟩
                  go_wp2_with ((go_at_call 44; (first | (with_reducible (refine (first_any _ _ _ _ _ _ (reads4 _ _ _ _ _ _) (by omega)).mono ?_)) | (with_reducible (refine (first_any _ _ _ _ _ _ (Reads.drew (reads4 _ _ _ _ _ _)) (by omega)).mono ?_))); rintro e W' ⟨rfl, rfl⟩))
                  all_goals (go_meet; exact ⟨by rw [← HE.out]; simp [*], (by repeat (first | exact over_below _ _ _ | exact Below.refl _ _ | refine Below.drew ?_ | refine below_drewN ?_ _ | refine below_set ?_ (by omega) _ | refine below_new ?_ (by omega) _))⟩)
                · have tb : (x.b == 0) = false := by simpa using hb
                  rw [tb] at he
                  clear ha hb
                  have HE := hide he
                  clear he
                  refine wp_region_part 22 w2.heap.size (by kernel_rfl) (by kernel_rfl) ?_; simp only [List.take_succ_cons, List.take_zero, List.drop_succ_cons, List.drop_zero]; (repeat (first | go_big_quiet_step (first | (go_at_call 67; exact over_same (when_any _ _ _)) | (go_at_call 76; exact over_same (within_any _ _ _ _))) | quiet_step (first | (go_at_call 67; exact over_same (when_any _ _ _)) | (go_at_call 76; exact over_same (within_any _ _ _ _))))); refine wpQuiet_nil ?_; rintro W ⟨x, rfl⟩
                  go_wp2_with ((go_at_call 44; (first | (with_reducible (refine (first_any _ _ _ _ _ _ (reads4 _ _ _ _ _ _) (by omega)).mono ?_)) | (with_reducible (refine (first_any _ _ _ _ _ _ (Reads.drew (reads4 _ _ _ _ _ _)) (by omega)).mono ?_))); rintro e W' ⟨rfl, rfl⟩))
                  all_goals (go_meet; exact ⟨by rw [← HE.out]; simp [*], (by repeat (first | exact over_below _ _ _ | exact Below.refl _ _ | refine Below.drew ?_ | refine below_drewN ?_ _ | refine below_set ?_ (by omega) _ | refine below_new ?_ (by omega) _))⟩)
              · have ta : (x.a == 0) = false := by simpa using ha
                rw [ta] at he
                clear ha
                have HE := hide he
                clear he
                refine wp_region_part 22 w2.heap.size (by kernel_rfl) (by kernel_rfl) ?_; simp only [List.take_succ_cons, List.take_zero, List.drop_succ_cons, List.drop_zero]; (repeat (first | go_big_quiet_step (first | (go_at_call 67; exact over_same (when_any _ _ _)) | (go_at_call 76; exact over_same (within_any _ _ _ _))) | quiet_step (first | (go_at_call 67; exact over_same (when_any _ _ _)) | (go_at_call 76; exact over_same (within_any _ _ _ _))))); refine wpQuiet_nil ?_; rintro W ⟨x, rfl⟩
                go_wp2_with ((go_at_call 44; (first | (with_reducible (refine (first_any _ _ _ _ _ _ (reads4 _ _ _ _ _ _) (by omega)).mono ?_)) | (with_reducible (refine (first_any _ _ _ _ _ _ (Reads.drew (reads4 _ _ _ _ _ _)) (by omega)).mono ?_))); rintro e W' ⟨rfl, rfl⟩))
                all_goals (go_meet; exact ⟨by rw [← HE.out]; simp [*], (by repeat (first | exact over_below _ _ _ | exact Below.refl _ _ | refine Below.drew ?_ | refine below_drewN ?_ _ | refine below_set ?_ (by omega) _ | refine below_new ?_ (by omega) _))⟩)
          case rest =>
            obtain ⟨rfl, hv3⟩ := hcut
            rename World => w3
            have hbw3 := below_next hbw2 hv3
            by_cases h0 : x.err = 0
            · have t0 : (x.err != 0) = false := by simpa using h0
              have H0 := hide h0; clear h0
              go_wp2_with fail
              go_roundw
              case rel =>
                refine ⟨k + 1, by omega, by go_num, fun y hy => ?_, hbw3⟩
                rw [List.take_add_one, HX.out] at hy
                simp at hy
                rcases hy with hy | rfl
                · exact HZ.out y hy
                · exact H0.out
              case measure => simp [intOf]; omega
            · have t0 : (x.err != 0) = true := by simpa using h0
              have hz0 : ladErr l = x.err := by
                unfold ladErr
                rw [if_neg (by rw [HL.out]; omega)]
                refine fnz_hit (k := k) (by rw [List.getElem?_map, HX.out]; rfl) (fun e he => ?_) t0
                rw [← List.map_take] at he
                obtain ⟨y, hy, rfl⟩ := List.mem_map.1 he
                exact HZ.out y hy
              clear h0
              go_wp2_with fail
              go_ret
              exact ⟨by rw [hz0]; rfl, hbw3⟩
      · have hz0 : ladErr l = 0 := by
          unfold ladErr
          rw [if_neg (by rw [HL.out]; omega), fnz_zero]
          intro e he
          obtain ⟨x, hx, rfl⟩ := List.mem_map.1 he
          have := HZ.out
          rw [List.take_of_length_le (by rw [HL.out]; omega)] at this
          exact this x hx
        have HZ0 := hide hz0; clear hz0
        go_wp2_with fail
        go_ret
        exact ⟨by rw [HZ0.out]; rfl, hb⟩
end Go.Proofs.YthlnmoecmicofaaDoor
