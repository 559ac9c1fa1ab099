/- Small contracts of the law ArrayBeams: a row of its own, drawn phases, Score, Best, Steer, Pressure, Level by the names of what they return. -/
import Derived.Test.YtcihiglpahhboaaGreatDoorAAwk
import Derived.Test.YtcihiglpahhboaaGreatDoorALawP
import Derived.Test.YtcihiglpahhboaaGreatDoorABksP
import Derived.Test.YtcihiglpahhboaaGreatDoorBaseB
import Derived.Test.YtcihiglpahhboaaGreatDoorAScx
import Derived.Test.YtcihiglpahhboaaGreatDoorASte
import Derived.Test.YtcihiglpahhboaaGreatDoorARAud
import Derived.Test.YtcihiglpahhboaaGreatDoorALawPro
import Derived.Deep.DeepCutAuto
namespace Go.Proofs.YtcihiglpahhboaaGreatDoor
open Go.RowKit Go.Shelf
set_option maxRecDepth 100000
set_option maxHeartbeats 1000000 in
/-- A copy of one's own, in a block of its own. -/
theorem ownR_any (A : Option Addr) (n c : Nat) (l : List Src) (w : World) (h : Reads w w.heap.size 4 A n (srcs l)) (hn : n ≤ 1000000000000) :
    Calls Tryz.prog 20 #[.slice A n c] w fun r w' => ∃ A' c', r = .returned (.slice A' n c') ∧ Row w' A' n w.heap.size l ∧ Below w.heap.size w w' := by
  have HL := hide (srcs_reads_len h)
  go_enter Tryz.func20, Tryz.ntmps20
  go_wp2
  go_loopw [3, 8] (fun v i wr => ∃ k : Nat, k ≤ n ∧ i = .int .i64 k ∧ wr.ownsRow w.heap.size 60 4 v k (srcs (l.take k)) ∧ Below w.heap.size w wr) (fun _ i _ => n - (intOf i).toNat)
  case atStart => exact ⟨0, by omega, rfl, by simp [srcs, World.ownsRow_nil], Below.refl _ _⟩
  case round =>
    rename World => wo
    obtain ⟨k, hk, rfl, ho, hb⟩ := hrel
    by_cases hlt : k < n
    · have hr := h.below hb
      obtain ⟨ad, s, rfl, _, hx, hc⟩ := src_hit hr hlt hb.size
      have HX := hide hx; clear hx
      have hsz := hb.size
      have A1 : k + 1 ≤ maxLen := by unfold maxLen; omega
      have A2 : (k + 1) * 32 ≤ 140737488355328 := by omega
      obtain ⟨d0, d1, d2, d3⟩ := hc wo (Below.refl _ _)
      clear h hr hc
      go_wp2_with (at_builtin; refine wpList_push _ rfl (.tmp 12) (.tmp 14) _ rfl w.heap.size 60 _ 4 32 Tryz.underlying26 info_src rfl (by decide) _ k _ rfl ((ho.alloc _).alloc _) (wo.heap.size + 1) (srcCells s) rfl rfl (src_new2 _ _ _ _) (one_src _) A1 A2 (le_alloc (le_alloc hsz _) _) ?_; intro v1 w1 ho1 hb1)
      exact ⟨⟨k + 1, by omega, by go_num, by rw [srcs_take_succ HX.out]; exact ho1, ((hb.alloc hsz _).alloc (le_alloc hsz _) _).trans hb1⟩, by simp [intOf]; omega⟩
    · go_wp2
      go_ret
      obtain rfl : k = n := by omega
      rw [List.take_of_length_le (by rw [HL.out]; omega)] at ho
      obtain ⟨A', c', rfl, hR⟩ := Row.of_own ho HL.out
      exact ⟨_, _, rfl, hR, hb⟩
/-! ### Drawn phases -/
/-- The sources with other phases. -/
def drw (f : Nat → Nat) (l : List Src) : List Src := l.mapIdx fun i s => s.at ((f i % 4 : Nat) : Int)
theorem drw_len (f : Nat → Nat) (l : List Src) : (drw f l).length = l.length := by simp [drw]
theorem drw_at {f : Nat → Nat} {l : List Src} {i : Nat} {s : Src} (h : l[i]? = some s) : (drw f l)[i]? = some (s.at ((f i % 4 : Nat) : Int)) := by simp [drw, h]
theorem drw_get {f : Nat → Nat} {l : List Src} {i : Nat} {s : Src} (h : (drw f l)[i]? = some s) : ∃ t, l[i]? = some t ∧ s = t.at ((f i % 4 : Nat) : Int) := by
  unfold drw at h
  rw [List.getElem?_mapIdx] at h
  cases hq : l[i]? with
  | none => rw [hq] at h; cases h
  | some t => rw [hq] at h; exact ⟨t, rfl, by simpa using h.symm⟩
theorem drw_on (f : Nat → Nat) (l : List Src) : drw (fun i => f i + 1) l = (drw f l).map on1 := by
  apply List.ext_getElem?
  intro i
  rw [List.getElem?_map]
  cases hq : l[i]? with
  | none =>
    have h1 : (drw f l)[i]? = none := by rw [List.getElem?_eq_none_iff, drw_len]; exact List.getElem?_eq_none_iff.1 hq
    have h2 : (drw (fun i => f i + 1) l)[i]? = none := by rw [List.getElem?_eq_none_iff, drw_len]; exact List.getElem?_eq_none_iff.1 hq
    rw [h1, h2]; rfl
  | some s =>
    rw [drw_at hq, drw_at hq]
    simp only [Option.map_some, on1, Src.at, Option.some.injEq, Src.mk.injEq, true_and]
    omega
theorem drw_ok {f : Nat → Nat} {l : List Src} (h : LOk l) : LOk (drw f l) := by
  refine ⟨by rw [drw_len]; exact h.len, fun s hs => ?_⟩
  obtain ⟨i, hi, hx⟩ := List.getElem_of_mem hs
  obtain ⟨t, ht, rfl⟩ := drw_get (List.getElem?_eq_some_iff.2 ⟨hi, hx⟩)
  have hk := h.all t (List.mem_of_getElem? ht)
  exact ⟨hk.x1, hk.x2, hk.y1, hk.y2, hk.g1, hk.g2, by simp only [Src.at]; omega, by simp only [Src.at]; omega⟩
theorem drw_max (f : Nat → Nat) (l : List Src) (a : List Int) : scr (drw f l) a ≤ scr (bst l a) a :=
  bst_max a (drw_len f l) fun i s h => by
    obtain ⟨t, ht, rfl⟩ := drw_get h
    exact ⟨by simp only [Src.at]; omega, by simp only [Src.at]; omega, t, ht, rfl⟩
theorem str_max {l : List Src} (d : Nat) (a : List Int) : scr (l.map (str d)) a ≤ scr (bst l a) a :=
  bst_max a (by simp) fun i s h => by
    rw [List.getElem?_map] at h
    cases hq : l[i]? with
    | none => rw [hq] at h; cases h
    | some t =>
      rw [hq] at h
      obtain rfl : str d t = s := by simpa using h
      have h2 := snd_str t d
      exact ⟨by simp only [str]; split <;> omega, by simp only [str]; split <;> omega, t, rfl, rfl⟩
theorem bst_get {l : List Src} {a : List Int} {i : Nat} {s : Src} (h : (bst l a)[i]? = some s) : ∃ t q, l[i]? = some t ∧ s = t.at q := by
  have hi := (List.getElem?_eq_some_iff.1 h).1
  unfold bst at h hi
  rw [ph_len] at hi
  have := ph_at (n := bstN l a (4 ^ l.length - 1)) (List.getElem?_eq_getElem hi)
  rw [h] at this
  exact ⟨_, _, List.getElem?_eq_getElem hi, by simpa using this⟩
theorem gsum_take {l : List Src} {k : Nat} {s : Src} (h : l[k]? = some s) : gsum (l.take (k + 1)) = gsum (l.take k) + ab s.g := by
  rw [src_take h]
  simp [gsum]
theorem gsum_in {l : List Src} (h : ∀ s ∈ l, s.Ok) : 0 ≤ gsum l ∧ gsum l ≤ 100 * l.length := by
  induction l with
  | nil => exact ⟨by decide, by decide⟩
  | cons s l ih =>
    have h1 := ih fun t ht => h t (by simp [ht])
    have h2 := (h s (by simp)).g1
    have h3 := (h s (by simp)).g2
    have e : gsum (s :: l) = ab s.g + gsum l := by simp [gsum]
    rw [e]
    unfold ab
    simp only [List.length_cons]
    omega
/-! ### Contracts by the names of what they return -/
theorem scoreB_is {s : List Src} {a : Au} (v : Int) (h : LOk s) (ha : auE a = 0) (hv : scr s a.l = v) (A : Option Addr) (m c : Nat) (W : World) (hR : Reads W W.heap.size 4 A m (srcs s)) (hV : Vr W) (hm : m ≤ 1000000) :
    Calls Tryz.prog 39 #[.slice A m c, .agg #[.int .i64 a.a0, .int .i64 a.a1, .int .i64 a.a2, .int .i64 a.a3, .int .i64 a.a4, .int .i64 a.a5, .int .i64 a.a6, .int .i64 a.a7]] W fun e w' => e = .returned (.tuple #[.int .i64 v, .int .i64 0]) ∧ Below W.heap.size W w' := by
  have h0 : scE s a = 0 := by unfold scE; rw [ok_lst h, ha]; rfl
  have := Score_any A m c s a W hR hV hm
  unfold scV at this
  rw [if_pos h0, h0, hv] at this
  exact this
theorem bestB_is {s : List Src} {a : Au} (B : List Src) (v : Int) (h : LOk s) (h6 : s.length ≤ 6) (ha : auE a = 0) (hB : bst s a.l = B) (hv : scr B a.l = v) (A : Option Addr) (m c : Nat) (W : World) (hR : Reads W W.heap.size 4 A m (srcs s)) (hV : Vr W) (hm : m ≤ 1000000) :
    Calls Tryz.prog 40 #[.slice A m c, .agg #[.int .i64 a.a0, .int .i64 a.a1, .int .i64 a.a2, .int .i64 a.a3, .int .i64 a.a4, .int .i64 a.a5, .int .i64 a.a6, .int .i64 a.a7]] W fun e w' => ∃ A' n' c', e = .returned (.tuple #[.slice A' n' c', .int .i64 v, .int .i64 0]) ∧ Reads w' w'.heap.size 4 A' n' (srcs B) ∧ Below W.heap.size W w' := by
  have h0 : beE s a = 0 := by unfold beE; rw [ok_lst h, ha, if_neg (by omega)]; rfl
  have := Best_any A m c s a W hR hV hm
  unfold beO at this
  rw [if_pos h0, h0, hB, hv] at this
  exact this
theorem prEB {s : List Src} (h : LOk s) {d : Nat} (hd : d < 8) : prE s (d : Int) = 0 := by
  unfold prE
  rw [ok_lst h, show rng (d : Int) 0 7 = 0 from rng_zero.2 ⟨by omega, by omega⟩]
  rfl
theorem steerB_is {s : List Src} (h : LOk s) {d : Nat} (hd : d < 8) (A : Option Addr) (m c : Nat) (W : World) (hR : Reads W W.heap.size 4 A m (srcs s)) (hV : Vr W) (hm : m ≤ 1000000) :
    Calls Tryz.prog 38 #[.slice A m c, .int .i64 (d : Int)] W fun e w' => OutS W (s.map (str d)) 0 e w' := by
  have := Steer_any A m c s (d : Int) W hR hV hm
  unfold stO at this
  rw [if_pos (prEB h hd), prEB h hd, Int.toNat_natCast] at this
  exact this
theorem presB_is {s : List Src} (g : Int) (h : LOk s) (hg : gsum s = g) {d : Nat} (hd : d < 8) (A : Option Addr) (m c : Nat) (W : World) (hR : Reads W W.heap.size 4 A m (srcs (s.map (str d)))) (hV : Vr W) (hm : m ≤ 1000000) :
    Calls Tryz.prog 47 #[.slice A m c, .int .i64 (d : Int)] W fun e w' => e = .returned (.tuple #[.agg #[.int .i64 g, .int .i64 0], .int .i64 0]) ∧ Below W.heap.size W w' := by
  have hk : LOk (s.map (str d)) := ⟨by rw [List.length_map]; exact h.len, fun t ht => by obtain ⟨u, hu, rfl⟩ := List.mem_map.1 ht; exact str_ok (h.all u hu) d⟩
  have := Pressure_any A m c (s.map (str d)) (d : Int) W hR hV hm
  rw [prV_ok (prEB hk hd), prEB hk hd, prs_str, hg] at this
  exact this
theorem levB_is {s : List Src} (g : Int) (h : LOk s) (hg : gsum s = g) {d : Nat} (hd : d < 8) (A : Option Addr) (m c : Nat) (W : World) (hR : Reads W W.heap.size 4 A m (srcs s)) (hV : Vr W) (hm : m ≤ 1000000) :
    Calls Tryz.prog 48 #[.slice A m c, .int .i64 (d : Int)] W fun e w' => ∃ v, e = .returned (.tuple #[.int .i64 v, .int .i64 0]) ∧ v ≤ g * g ∧ Below W.heap.size W w' := by
  have := Level_any A m c s (d : Int) W hR hV hm
  rw [prV_ok (prEB h hd), prEB h hd] at this
  exact this.mono fun e w' hh => ⟨_, hh.1, by rw [← hg]; exact sq_le_gsum s d, hh.2⟩
end Go.Proofs.YtcihiglpahhboaaGreatDoor
