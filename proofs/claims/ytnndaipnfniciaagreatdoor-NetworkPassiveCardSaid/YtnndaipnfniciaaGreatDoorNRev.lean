/- Reversed ladders: slices.Reverse, Reverse. -/
import Derived.Test.YtnndaipnfniciaaGreatDoorNJoin
import Derived.Deep.OwnRows
import Derived.Laws.CopyOwn
import Derived.BigRegion
namespace Go.Proofs.YtnndaipnfniciaaGreatDoor
open Go.RowKit Go.Shelf
set_option maxRecDepth 100000
/-- The first k places at each end turned. -/
def revP (l : List El) (k : Nat) : List El := l.mapIdx fun j x => if j < k ∨ l.length ≤ j + k then (l[l.length - 1 - j]?).getD x else x
theorem revP_len (l : List El) (k : Nat) : (revP l k).length = l.length := by simp [revP]
theorem revP_at {l : List El} {k j : Nat} {x : El} (hj : l[j]? = some x) : (revP l k)[j]? = some (if j < k ∨ l.length ≤ j + k then (l[l.length - 1 - j]?).getD x else x) := by
  unfold revP; rw [List.getElem?_mapIdx, hj]; rfl
theorem revP_zero (l : List El) : revP l 0 = l := by
  refine List.ext_getElem? fun j => ?_
  cases h : l[j]? with
  | none => rw [List.getElem?_eq_none (by rw [revP_len]; exact List.getElem?_eq_none_iff.1 h)]
  | some x =>
    have := (List.getElem?_eq_some_iff.1 h).1
    rw [revP_at h, if_neg (by omega)]
theorem revP_end {l : List El} {k : Nat} (h : l.length ≤ 2 * k + 1) : revP l k = l.reverse := by
  refine List.ext_getElem? fun j => ?_
  cases hx : l[j]? with
  | none =>
    have := List.getElem?_eq_none_iff.1 hx
    rw [List.getElem?_eq_none (by rw [revP_len]; exact this), List.getElem?_eq_none (by simpa using this)]
  | some x =>
    have hj := (List.getElem?_eq_some_iff.1 hx).1
    rw [revP_at hx, List.getElem?_reverse hj]
    have h2 : l.length - 1 - j < l.length := by omega
    split
    · rw [List.getElem?_eq_getElem h2]; rfl
    · have : l.length - 1 - j = j := by omega
      rw [this, hx]
theorem revP_succ {l : List El} {k : Nat} {x y : El} (h : 2 * k + 1 < l.length) (hx : l[k]? = some x) (hy : l[l.length - 1 - k]? = some y) : ((revP l k).set k y).set (l.length - 1 - k) x = revP l (k + 1) := by
  refine List.ext_getElem? fun j => ?_
  cases hz : l[j]? with
  | none =>
    have := List.getElem?_eq_none_iff.1 hz
    rw [List.getElem?_eq_none (by simp [revP_len]; exact this), List.getElem?_eq_none (by rw [revP_len]; exact this)]
  | some z =>
    have hj := (List.getElem?_eq_some_iff.1 hz).1
    rw [revP_at hz, List.getElem?_set, List.getElem?_set]
    by_cases h1 : l.length - 1 - k = j
    · subst h1
      rw [if_pos rfl, if_pos (by simp [revP_len]; omega), if_pos (by omega), show l.length - 1 - (l.length - 1 - k) = k by omega, hx]; rfl
    · rw [if_neg h1]
      by_cases h2 : k = j
      · subst h2
        rw [if_pos rfl, if_pos (by rw [revP_len]; exact hj), if_pos (by omega), hy]; rfl
      · rw [if_neg h2, revP_at hz]
        by_cases h3 : j < k ∨ l.length ≤ j + k
        · rw [if_pos h3, if_pos (by omega)]
        · rw [if_neg h3, if_neg (by omega)]
theorem els_set {l : List El} {k : Nat} {x : El} (hk : k < l.length) : (((els l).toArray.setIfInBounds (k * 3) (.string x.kind)).setIfInBounds (k * 3 + 1) (.int .i64 x.a)).setIfInBounds (k * 3 + 2) (.int .i64 x.b) = (els (l.set k x)).toArray := by
  apply Array.ext_getElem?
  intro j
  simp only [Array.getElem?_setIfInBounds, Array.size_setIfInBounds, List.getElem?_toArray, List.size_toArray, els_len]
  have hs : (l.set k x).length = l.length := List.length_set
  rcases Nat.lt_or_ge j (l.length * 3) with hj | hj
  · have e : j = j / 3 * 3 + j % 3 := by omega
    have hq : j / 3 < l.length := by omega
    have hr := els_at (l := l.set k x) (k := j / 3) (j := j % 3) (s := (l.set k x)[j / 3]'(by rw [hs]; exact hq)) (List.getElem?_eq_getElem _) (by omega)
    have hl := els_at (l := l) (k := j / 3) (j := j % 3) (s := l[j / 3]'hq) (List.getElem?_eq_getElem _) (by omega)
    rw [← e] at hr hl
    rw [hr, hl]
    rw [List.getElem_set]
    by_cases hk2 : k = j / 3
    · rw [if_pos hk2]
      have : j % 3 = 0 ∨ j % 3 = 1 ∨ j % 3 = 2 := by omega
      rcases this with h | h | h <;> rw [h]
      · rw [if_neg (by omega), if_neg (by omega), if_pos (by omega), if_pos (by omega)]; rfl
      · rw [if_neg (by omega), if_pos (by omega), if_pos (by omega)]; rfl
      · rw [if_pos (by omega), if_pos (by omega)]; rfl
    · rw [if_neg hk2, if_neg (by omega), if_neg (by omega), if_neg (by omega)]
  · rw [if_neg (by omega), if_neg (by omega), if_neg (by omega), List.getElem?_eq_none (by rw [els_len]; exact hj), List.getElem?_eq_none (by rw [els_len, hs]; exact hj)]
/-- copy(dst, src): the whole of src over a block of its own. -/
theorem run_copy_full {P : Program} (w : World) (dT sT ty elem : TypeId) (size g n dCap c : Nat) (A : Option Addr) (xs : List Value) (cur : Array Value) (t : TypeId) (B : Nat)
    (hu : P.underlying dT = some (.slice elem)) (hs : (P.info? elem).map (·.size) = some size) (hk : Blk w g t cur) (hc : cur.size = n * size) (hr : Reads w B size A n xs) (h1 : ∀ v ∈ xs, v.oneCell' = true) :
    (Builtin.copy_ #[dT, sT] ty #[.slice (some ⟨g, 0, none⟩) n dCap, .slice A n c]).run P w = .ok (goInt n) (w.setRow g xs.toArray) := by
  have hst := run_storeCells_at P g 0 t xs 0 cur w hk (by rw [hr.1, hc]; omega) h1
  have hd : cur.toList.drop xs.length = [] := List.drop_eq_nil_of_le (by rw [Array.length_toList, hr.1, hc]; omega)
  simp [hd] at hst
  cases hq : P.info? elem with
  | none => simp [hq] at hs
  | some i =>
    have hi : i.size = size := by simpa [hq] using hs
    rcases Nat.eq_zero_or_pos n with rfl | hn
    · have hx : xs = [] := List.eq_nil_of_length_eq_zero (by simpa using hr.1)
      subst hx
      have hl : ∀ (x : Addr), (loadCells x 0).run P w = .ok #[] w := fun x => by simpa using run_loadCells_list (P := P) w x [] (by simp)
      cases A <;> simp [Builtin.copy_, run_underlying hu, Builtin.lenOf, Builtin.firstCells, sizeOf, typeInfo, hq, hl, hst]
    · obtain ⟨ad, rfl, _, hsrc⟩ := hr.2 hn
      have hl := run_loadCells_list (P := P) w ad xs hsrc
      rw [hr.1] at hl
      simp [Builtin.copy_, run_underlying hu, Builtin.lenOf, Builtin.firstCells, sizeOf, typeInfo, hq, hi, hl, hst]
theorem wpList_copy_full {P : Program} {w : World} {ops : Array Oper} {rest : List Oper} {o : Oper} {a : Act} {Q : Exit → Act → World → Prop} (hgd : o.guard = none) (d s : Operand) (dT sT : TypeId)
    (ho : o.op = .call { callee := .builtin .copy, args := #[d, s], argTypes := #[dT, sT] }) (elem : TypeId) (size : Nat) (hu : P.underlying dT = some (.slice elem)) (hs : (P.info? elem).map (·.size) = some size)
    (g n dCap c : Nat) (A : Option Addr) (xs : List Value) (cur : Array Value) (t : TypeId) (B : Nat) (hd : a.eval d = .slice (some ⟨g, 0, none⟩) n dCap) (hsr : a.eval s = .slice A n c)
    (hk : Blk w g t cur) (hc : cur.size = n * size) (hr : Reads w B size A n xs) (h1 : ∀ v ∈ xs, v.oneCell' = true) (C : Nat) (w0 : World) (hb : Below C w0 w) (hC : C ≤ g)
    (h : ∀ w', Blk w' g t xs.toArray → Below C w0 w' → wpList P ops Q rest (a.put o.dst (goInt n)) w') : wpList P ops Q (o :: rest) a w := by
  refine wpList_plain hgd fun K hK => ?_
  have hrun := run_copy_full (P := P) w dT sT o.type elem size g n dCap c A xs cur t B hu hs hk hc hr h1
  unfold Oper.wp
  simp [execOp, ho, resolve, invoke, builtin, hd, hsr, hrun, Result.andThen]
  exact hK _ _ (h _ (setRow_heap w g cur _ t _ hk) (below_setRow hb hC _))
theorem one_els (l : List El) : ∀ u ∈ els l, u.oneCell' = true := by
  intro u hu
  simp only [els, List.mem_flatMap] at hu
  obtain ⟨x, _, hx⟩ := hu
  exact one_el x u hx
set_option maxHeartbeats 2000000 in
theorem sReverse_any (g : Nat) (l : List El) (n c : Nat) (w : World) (hk : Blk w g 104 (els l).toArray) (hl : l.length = n) (hn : n ≤ 100000) :
    Calls Tryz.prog 128 #[.slice (some ⟨g, 0, none⟩) n c] w fun e w' => e = .returned (.tuple #[]) ∧ Blk w' g 104 (els l.reverse).toArray ∧ Below g w w' := by
  have HL := hide hl
  clear hl
  go_enter Tryz.func128, Tryz.ntmps128
  go_wp2
  go_loopw [2, 3] (fun a b wq => ∃ k : Nat, a = .int .i64 k ∧ b = .int .i64 ((n : Int) - 1 - k) ∧ 2 * k ≤ n + 1 ∧ Blk wq g 104 (els (revP l k)).toArray ∧ Below g w wq) (fun a _ _ => n - (intOf a).toNat)
  case atStart => exact ⟨0, rfl, by simp, by omega, by rw [revP_zero]; exact hk, Below.refl _ _⟩
  case round =>
    rename World => wq
    obtain ⟨k, rfl, rfl, hkn, kB, hb⟩ := hrel
    clear hk
    by_cases hlt : 2 * k + 1 < n
    · obtain ⟨x, hx⟩ : ∃ x, l[k]? = some x := ⟨_, List.getElem?_eq_getElem (by rw [HL.out]; omega)⟩
      obtain ⟨y, hy⟩ : ∃ y, l[n - 1 - k]? = some y := ⟨_, List.getElem?_eq_getElem (by rw [HL.out]; omega)⟩
      have g1 : (k : Int) < (n : Int) - 1 - k := by omega
      have hj : (n : Int) - 1 - k = ((n - 1 - k : Nat) : Int) := by omega
      have hlen := revP_len l k
      have rx := revP_at (k := k) hx
      have ry := revP_at (k := k) hy
      rw [if_neg (by rw [HL.out]; omega)] at rx ry
      have cell : ∀ (i : Nat) (z : El) (c : Nat) (v : Value), (revP l k)[i]? = some z → c < 3 → (elCells z)[c]? = some v → wq.cell? ⟨g, i * 3 + c, none⟩ = some v := fun i z c v hz hc hv => by
        rw [kB.cell, List.getElem?_toArray, els_at hz hc]; exact hv
      have p0 : wq.cell? ⟨g, k * 3, none⟩ = some (.string x.kind) := cell k x 0 _ rx (by omega) rfl
      have p1 : wq.cell? ⟨g, k * 3 + 1, none⟩ = some (.int .i64 x.a) := cell k x 1 _ rx (by omega) rfl
      have p2 : wq.cell? ⟨g, k * 3 + 2, none⟩ = some (.int .i64 x.b) := cell k x 2 _ rx (by omega) rfl
      have q0 : wq.cell? ⟨g, (n - 1 - k) * 3, none⟩ = some (.string y.kind) := cell (n - 1 - k) y 0 _ ry (by omega) rfl
      have q1 : wq.cell? ⟨g, (n - 1 - k) * 3 + 1, none⟩ = some (.int .i64 y.a) := cell (n - 1 - k) y 1 _ ry (by omega) rfl
      have q2 : wq.cell? ⟨g, (n - 1 - k) * 3 + 2, none⟩ = some (.int .i64 y.b) := cell (n - 1 - k) y 2 _ ry (by omega) rfl
      have b1 : n - 1 - k < n := by omega
      have b2 : k < n := by omega
      have fB := kB.frozen
      clear cell
      go_upto_region 3 with (fail)
      go_region
      have kN := ((((((kB.set_ (k * 3) (.string y.kind)).set_ (k * 3 + 1) (.int .i64 y.a)).set_ (k * 3 + 2) (.int .i64 y.b)).set_ ((n - 1 - k) * 3) (.string x.kind)).set_ ((n - 1 - k) * 3 + 1) (.int .i64 x.a)).set_ ((n - 1 - k) * 3 + 2) (.int .i64 x.b)).drew
      have hN := (below_set (below_set (below_set (below_set (below_set (below_set hb (Nat.le_refl g) (i := k * 3) (.string y.kind)) (Nat.le_refl g) (i := k * 3 + 1) (.int .i64 y.a)) (Nat.le_refl g) (i := k * 3 + 2) (.int .i64 y.b)) (Nat.le_refl g) (i := (n - 1 - k) * 3) (.string x.kind)) (Nat.le_refl g) (i := (n - 1 - k) * 3 + 1) (.int .i64 x.a)) (Nat.le_refl g) (i := (n - 1 - k) * 3 + 2) (.int .i64 x.b)).drew
      rw [els_set (by rw [hlen, HL.out]; omega), els_set (by rw [List.length_set, hlen, HL.out]; omega)] at kN
      have e1 : ((revP l k).set k y).set (n - 1 - k) x = revP l (k + 1) := by
        have := revP_succ (l := l) (k := k) (x := x) (y := y) (by rw [HL.out]; exact hlt) hx (by rw [HL.out]; exact hy)
        rwa [HL.out] at this
      rw [e1] at kN
      clear p0 p1 p2 q0 q1 q2 fB kB e1 hb hx hy rx ry
      go_wp2_with fail
      go_roundw
      case rel => exact ⟨k + 1, by go_num, by simp; omega, by omega, kN, hN⟩
      case measure => simp [intOf]; omega
    · have g1 : ¬ (k : Int) < (n : Int) - 1 - k := by omega
      go_wp2
      go_end0
      exact ⟨rfl, by rw [← revP_end (k := k) (by rw [HL.out]; omega)]; exact kB, hb⟩
set_option maxHeartbeats 2000000 in
theorem Reverse_ok (A : Option Addr) (n c : Nat) (l : List El) (w : World) (h : Reads w w.heap.size 3 A n (els l)) (h0 : ladErr l = 0) :
    Calls Tryz.prog 64 #[.slice A n c] w fun e w' => ∃ A' c', e = .returned (.tuple #[.slice A' n c', .int .i64 0]) ∧ Reads w' w'.heap.size 3 A' n (els l.reverse) ∧ Below w.heap.size w w' := by
  have hl5 : n ≤ 5 := by rw [← els_reads_len h]; exact (lad_ok h0).len
  have HL := hide (els_reads_len h)
  have H0 := hide h0
  clear h0
  obtain ⟨i, hi, hz, hsize, hby⟩ := info_parts info_el
  have hmk : ∀ w, (Instr.makeSlice 47 (.int .i64 (n : Int)) (.int .i64 (n : Int))).run Tryz.prog w = .ok (.slice (some ⟨w.heap.size, 0, none⟩) n n) (w.alloc (.cells (madeCells #[.string { data := #[] }, .int .i64 0, .int .i64 0] (n * 3)) 104)) := fun w => by
    have := run_make (P := Tryz.prog) w 47 104 i _ Tryz.underlying47 hi hz .i64 .i64 n n (by omega) (by omega) (by rw [hby]; omega) (by omega)
    simpa [hsize, Value.cells] using this
  go_enter Tryz.func64, Tryz.ntmps64
  go_wp2_with fail
  refine (checkLadder_any A n c l _ h (by omega)).mono ?_
  rintro e w1 ⟨rfl, hb1⟩
  rw [H0.out]
  have h1 := carry h hb1
  go_upto_region 5 with (fail)
  obtain ⟨w2, e2, hb2, hz2, k2⟩ := box1 w1 (madeCells #[.string { data := #[] }, .int .i64 0, .int .i64 0] (n * 3)) 104
  rw [← e2]
  clear e2 hmk
  have h2 := h1.below hb2
  have hb12 := below_next hb1 hb2
  have hg1 := hb1.size
  go_wp2_with (refine wpList_copy_full rfl (.tmp 14) (.tmp 15) 47 47 rfl 104 3 Tryz.underlying47 (by kernel_rfl) w1.heap.size n n c A (els l) _ _ _ (by rfl) (by rfl) k2 (size_madeCells _ _) h2 (one_els l) w1.heap.size w2 (Below.refl _ _) (Nat.le_refl _) ?_; intro w3 k3 hb3)
  have hb13 := Below.trans hb12 (hb3.mono hg1)
  refine (sReverse_any w1.heap.size l n n w3 k3 HL.out (by omega)).mono ?_
  rintro e w4 ⟨rfl, k4, hb4⟩
  have hb14 := Below.trans hb13 (hb4.mono hg1)
  have hlt := k4.lt
  go_wp2_with fail
  refine bodyPost_ret (v := .tuple #[.slice (some ⟨w1.heap.size, 0, none⟩) n n, .int .i64 0]) (by simp [results, Tryz.results64, go_sem]) rfl ?_
  refine ⟨_, _, rfl, ?_, hb14⟩
  refine ⟨by rw [els_len, List.length_reverse, HL.out], fun _ => ⟨_, rfl, hlt, fun j u hu => ?_⟩⟩
  have : (⟨w1.heap.size, 0, none⟩ : Addr).add j = ⟨w1.heap.size, j, none⟩ := by unfold Addr.add; split <;> simp_all
  rw [this, k4.cell, List.getElem?_toArray]
  exact hu
end Go.Proofs.YtnndaipnfniciaaGreatDoor
