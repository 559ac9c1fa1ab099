/- The reference's Split, Number, Signed. -/
import Derived.Test.YtpcmflfinlkeiaaGreatDoorSInt
namespace Go.Proofs.YtpcmflfinlkeiaaGreatDoor
open Go.RowKit Go.Shelf
set_option maxRecDepth 100000
theorem bsizeL (s : ByteArray) : s.size = s.data.toList.length := by simp
/-- A byte of a string. -/
theorem str_at {s : ByteArray} {i : Nat} {x : UInt8} (h : s.data.toList[i]? = some x) (W : World) : (Instr.index 9 (.string s) (.int .i64 (i : Int))).run Tryz.prog W = .ok (.int .u8 (x.toNat : Int)) W := by
  have hi : i < s.size := by
    have := (List.getElem?_eq_some_iff.1 h).1
    rw [bsizeL]; exact this
  rw [run_index_string _ _ _ _ _ Tryz.underlying9, dif_pos ⟨by omega, by omega⟩]
  have e : s[(i : Int).toNat]'(by omega) = x := by
    have := (List.getElem?_eq_some_iff.1 h).2
    rw [← this]
    simp
    rfl
  rw [e]
theorem ext_data (s : ByteArray) (a b : Nat) : (s.extract a b).data.toList = (s.data.toList.take b).drop a := by
  rw [Lib.extract_data, List.drop_take]
theorem one_strV (s : ByteArray) : ∀ u ∈ [Value.string s], u.oneCell' = true := one_str s
set_option maxHeartbeats 2000000 in
theorem qSplit_any (s : ByteArray) (c : UInt8) (w : World) (hs : s.size ≤ 1000000) :
    Calls Tryz.prog 53 #[.string s, .int .u8 (c.toNat : Int)] w fun e w' => ∃ (A : Option Addr) (cp : Nat) (ps : List ByteArray), ps.map (·.data.toList) = spl c s.data.toList ∧ e = .returned (.slice A ps.length cp) ∧ Reads w' w'.heap.size 1 A ps.length (ps.map Value.string) ∧ Below w.heap.size w w' := by
  go_enter Tryz.func53, Tryz.ntmps53
  go_wp2_with fail
  go_loopw [5, 6, 7] (fun o f v wr => ∃ (k F : Nat) (done : List ByteArray), k ≤ s.size ∧ F ≤ k ∧ v = .int .i64 k ∧ f = .int .i64 F ∧ done.length ≤ k ∧ spl c (s.data.toList.take k) = done.map (·.data.toList) ++ [(s.data.toList.take k).drop F] ∧ wr.ownsRow w.heap.size 9 1 o done.length (done.map Value.string) ∧ Below w.heap.size w wr) (fun _ _ v _ => s.size - (intOf v).toNat)
  case atStart => exact ⟨0, 0, [], by omega, by omega, rfl, rfl, by simp, by simp [spl], by simp [World.ownsRow_nil], Below.refl _ _⟩
  case round =>
    rename World => wo
    obtain ⟨k, F, done, hk, hF, rfl, rfl, hdl, hsp, ho, hbo⟩ := hrel
    have hsz := hbo.size
    have A1 : done.length + 1 ≤ maxLen := by unfold maxLen; omega
    have A2 : (done.length + 1) * 16 ≤ 140737488355328 := by omega
    by_cases hlt : k < s.size
    · obtain ⟨x, hx⟩ : ∃ x, s.data.toList[k]? = some x := ⟨_, List.getElem?_eq_getElem (by rw [← bsizeL]; exact hlt)⟩
      have ri := fun W => str_at hx W
      have htk : s.data.toList.take (k + 1) = s.data.toList.take k ++ [x] := by rw [List.take_add_one, hx]; rfl
      have hst := spl_snoc c x _ _ _ hsp
      rw [← htk] at hst
      have hln : (s.data.toList.take k).length = k := by rw [List.length_take, ← bsizeL]; omega
      by_cases hxc : x = c
      · rw [if_pos hxc] at hst
        have t18 : (((x.toNat : Nat) : Int) == (c.toNat : Int)) = true := by rw [hxc]; simp
        have hnew : spl c (s.data.toList.take (k + 1)) = (done ++ [s.extract F k]).map (·.data.toList) ++ [(s.data.toList.take (k + 1)).drop (k + 1)] := by
          rw [hst, List.map_append, List.map_cons, List.map_nil, ext_data, List.drop_of_length_le (i := k + 1) (by rw [List.length_take]; omega)]
        have HN := hide hnew
        clear hx hxc htk hst hsp hln hnew
        go_wp2_with (at_builtin; refine wpList_push _ rfl (.tmp 19) (.tmp 24) _ rfl w.heap.size 9 _ 1 16 Tryz.underlying94 info_str rfl (by decide) _ done.length _ rfl (ho.alloc _) wo.heap.size [.string (s.extract F k)] rfl rfl (cell_new1 _ _ _) (one_str _) A1 A2 (le_alloc hsz _) ?_; intro v1 w6 ho6 hb6)
        have hbw6 := (hbo.alloc hsz _).trans hb6
        go_wp2_with fail
        go_roundw
        case rel => exact ⟨k + 1, k + 1, done ++ [s.extract F k], by omega, by omega, by go_num, by go_num, by simp; omega, HN.out, by rw [List.map_append, List.length_append]; exact ho6, hbw6⟩
        case measure => simp [intOf]; omega
      · rw [if_neg hxc] at hst
        have t18 : (((x.toNat : Nat) : Int) == (c.toNat : Int)) = false := by
          simp only [beq_eq_false_iff_ne, ne_eq, Int.natCast_inj]
          exact fun q => hxc (UInt8.toNat_inj.1 q)
        have hnew : spl c (s.data.toList.take (k + 1)) = done.map (·.data.toList) ++ [(s.data.toList.take (k + 1)).drop F] := by
          rw [hst, htk, List.drop_append_of_le_length (by rw [hln]; exact hF)]
        have HN := hide hnew
        clear hx hxc htk hst hsp hln hnew
        go_wp2_with fail
        go_roundw
        case rel => exact ⟨k + 1, F, done, by omega, by omega, by go_num, rfl, by omega, HN.out, ho, hbo⟩
        case measure => simp [intOf]; omega
    · obtain rfl : k = s.size := by omega
      have hnew : (done ++ [s.extract F s.size]).map (·.data.toList) = spl c s.data.toList := by
        rw [List.take_of_length_le (by rw [← bsizeL]; exact Nat.le_refl _)] at hsp
        rw [hsp, List.map_append, List.map_cons, List.map_nil, ext_data, List.take_of_length_le (by rw [← bsizeL]; exact Nat.le_refl _)]
      have HN := hide hnew
      clear hsp hnew
      go_wp2_with (at_builtin; refine wpList_push _ rfl (.tmp 28) (.tmp 32) _ rfl w.heap.size 9 _ 1 16 Tryz.underlying94 info_str rfl (by decide) _ done.length _ rfl (ho.alloc _) wo.heap.size [.string (s.extract F s.size)] rfl rfl (cell_new1 _ _ _) (one_str _) A1 A2 (le_alloc hsz _) ?_; intro v1 w6 ho6 hb6)
      have hbw6 := (hbo.alloc hsz _).trans hb6
      go_wp2_with fail
      go_ret
      have ho7 : w6.ownsRow w.heap.size 9 1 v1 (done ++ [s.extract F s.size]).length ((done ++ [s.extract F s.size]).map Value.string) := by rw [List.map_append, List.length_append]; exact ho6
      obtain ⟨A', c', rfl, hr⟩ := own_slice ho7
      exact ⟨A', c', _, HN.out, rfl, hr, hbw6⟩
theorem decFrom_none : ∀ (l : List UInt8) (a k : Nat) (x : UInt8), l[k]? = some x → Lib.digitVal x = none → Lib.decFrom a l = none := by
  intro l
  induction l with
  | nil => intro a k x h; simp at h
  | cons y l ih =>
    intro a k x h hx
    unfold Lib.decFrom
    cases k with
    | zero => simp at h; subst h; rw [hx]
    | succ k =>
      cases Lib.digitVal y with
      | none => rfl
      | some d => exact ih _ k x (by simpa using h) hx
/-- What a number returns. -/
def NmPost (s : ByteArray) (w : World) (e : Ending) (w' : World) : Prop := e = .returned (.tuple #[.int .i64 (((num s.data.toList).getD 0 : Nat) : Int), .bool (num s.data.toList).isSome]) ∧ w' = w
set_option maxHeartbeats 2000000 in
theorem qNumber_any (s : ByteArray) (w : World) (hs : s.size ≤ 1000000) : Calls Tryz.prog 84 #[.string s] w (NmPost s w) := by
  have hsz := bsizeL s
  by_cases h0 : s.size = 0
  · have hl0 : s.data.toList.length = 0 := by omega
    have hn : num s.data.toList = none := by unfold num; rw [if_pos (.inl hl0)]
    have HN := hide hn
    have t0 : ((s.size : Int) == 0) = true := by rw [h0]; rfl
    clear h0 hn hsz hl0
    go_enter Tryz.func84, Tryz.ntmps84
    go_wp2_with fail
    go_ret2
    exact ⟨by rw [HN.out]; rfl, rfl⟩
  · have t0 : ((s.size : Int) == 0) = false := beq_eq_false_iff_ne.2 (by omega)
    by_cases h9 : 9 < s.size
    · have hl9 : 9 < s.data.toList.length := by omega
      have hn : num s.data.toList = none := by unfold num; rw [if_pos (.inr (.inl hl9))]
      have HN := hide hn
      have t9 : decide ((9 : Int) < (s.size : Int)) = true := decide_eq_true (by omega)
      clear h0 h9 hn hsz hl9
      go_enter Tryz.func84, Tryz.ntmps84
      go_wp2_with fail
      go_ret2
      exact ⟨by rw [HN.out]; rfl, rfl⟩
    · have t9 : decide ((9 : Int) < (s.size : Int)) = false := decide_eq_false (by omega)
      obtain ⟨y, hy⟩ : ∃ y, s.data.toList[0]? = some y := ⟨_, List.getElem?_eq_getElem (by omega)⟩
      have hh : s.data.toList.head? = some y := by rw [List.head?_eq_getElem?]; exact hy
      have ri0 : ∀ W, (Instr.index 9 (.string s) (.int .i64 0)).run Tryz.prog W = .ok (.int .u8 (y.toNat : Int)) W := fun W => str_at hy W
      by_cases h1 : 1 < s.size ∧ y = 48
      · have hl1 : 1 < s.data.toList.length := by have := h1.1; omega
        have hn : num s.data.toList = none := by unfold num; rw [if_pos (.inr (.inr ⟨hl1, by rw [hh, h1.2]⟩))]
        have HN := hide hn
        have t1 : decide ((1 : Int) < (s.size : Int)) = true := decide_eq_true (by omega)
        have t2 : (((y.toNat : Nat) : Int) == 48) = true := by rw [h1.2]; rfl
        clear h0 h9 hn hsz h1 hh hy hl1
        go_enter Tryz.func84, Tryz.ntmps84
        go_wp2_with fail
        go_ret2
        exact ⟨by rw [HN.out]; rfl, rfl⟩
      · have hnum : num s.data.toList = Lib.decFrom 0 s.data.toList := by
          unfold num
          rw [if_neg]
          rintro (q | q | ⟨q1, q2⟩)
          · omega
          · omega
          · rw [hh] at q2
            exact h1 ⟨by omega, Option.some.inj q2⟩
        have HNUM := hide hnum
        have h91 : s.size ≤ 9 := by omega
        have hyc : decide ((1 : Int) < (s.size : Int)) = false ∨ (decide ((1 : Int) < (s.size : Int)) = true ∧ (((y.toNat : Nat) : Int) == 48) = false) := by
          by_cases q : 1 < s.size
          · refine .inr ⟨decide_eq_true (by omega), ?_⟩
            simp only [beq_eq_false_iff_ne, ne_eq]
            intro e
            apply h1
            refine ⟨q, UInt8.toNat_inj.1 ?_⟩
            have : (48 : UInt8).toNat = 48 := rfl
            omega
          · exact .inl (decide_eq_false (by omega))
        have HSZ := hide hsz
        clear h0 h9 hsz h1 hh hy hnum
        rcases hyc with t1 | ⟨t1, t2⟩
        all_goals
          go_enter Tryz.func84, Tryz.ntmps84
          go_wp2_with fail
          clear ri0
          go_loopw [4, 5] (fun u v wr => ∃ k m : Nat, k ≤ s.size ∧ v = .int .i64 k ∧ u = .int .i64 m ∧ Hid (Lib.decFrom 0 (s.data.toList.take k) = some m) ∧ wr = w) (fun _ v _ => s.size - (intOf v).toNat)
          case atStart => exact ⟨0, 0, by omega, rfl, rfl, rfl, rfl⟩
          case round =>
            obtain ⟨k, m, hk, rfl, rfl, HM, rfl⟩ := hrel
            by_cases hlt : k < s.size
            · obtain ⟨x, hx⟩ : ∃ x, s.data.toList[k]? = some x := ⟨_, List.getElem?_eq_getElem (by rw [← HSZ.out]; exact hlt)⟩
              have ri := fun W => str_at hx W
              cases hd : Lib.digitVal x with
              | none =>
                have hn : num s.data.toList = none := by rw [HNUM.out]; exact decFrom_none _ _ k x hx hd
                have HN := hide hn
                have hc : decide (((x.toNat : Nat) : Int) < 48) = true ∨ (decide (((x.toNat : Nat) : Int) < 48) = false ∧ decide ((57 : Int) < ((x.toNat : Nat) : Int)) = true) := by
                  unfold Lib.digitVal at hd
                  split at hd
                  · cases hd
                  · rename_i q
                    by_cases q2 : x.toNat < 48
                    · exact .inl (decide_eq_true (by omega))
                    · exact .inr ⟨decide_eq_false (by omega), decide_eq_true (by omega)⟩
                clear hx hd hn
                rcases hc with t3 | ⟨t3, t4⟩
                all_goals
                  go_wp2_with fail
                  go_ret2
                  exact ⟨by rw [HN.out]; rfl, rfl⟩
              | some d =>
                obtain ⟨d1, d2, _⟩ := dig_of hd
                have hm := Lib.decFrom_take s.data.toList k 0 m x d HM.out hx hd
                have hb := (decFrom_lt _ 0 _ hm).1
                have hb0 := (decFrom_lt _ 0 _ HM.out).1
                have hp : 10 ^ (s.data.toList.take (k + 1)).length ≤ 10 ^ 9 := Nat.pow_le_pow_right (by decide) (by rw [List.length_take]; omega)
                have hp0 : 10 ^ (s.data.toList.take k).length ≤ 10 ^ 9 := Nat.pow_le_pow_right (by decide) (by rw [List.length_take]; omega)
                have hmb : m * 10 + d < 10 ^ 9 := by omega
                have hmb0 : m < 10 ^ 9 := by omega
                have HMM := hide hm
                have t3 : decide (((x.toNat : Nat) : Int) < 48) = false := decide_eq_false (by omega)
                have t4 : decide ((57 : Int) < ((x.toNat : Nat) : Int)) = false := decide_eq_false (by omega)
                have hxd : ((x.toNat : Nat) : Int) = 48 + (d : Int) := by omega
                have HXD := hide hxd
                clear hx hd hm hb hb0 hp hp0 d2 hxd
                go_wp2_with fail
                go_roundw
                case rel => exact ⟨k + 1, m * 10 + d, by omega, by go_num, by (congr 1; have := HXD.out; omega), HMM, trivial⟩
                case measure => simp [intOf]; omega
            · obtain rfl : k = s.size := by omega
              have hn : num s.data.toList = some m := by
                rw [HNUM.out, ← HM.out, List.take_of_length_le (by rw [← HSZ.out]; exact Nat.le_refl _)]
              have HN := hide hn
              clear hn
              go_wp2_with fail
              go_ret2
              exact ⟨by rw [HN.out]; rfl, rfl⟩
/-- What Signed returns. -/
def SgPost (s : ByteArray) (w : World) (e : Ending) (w' : World) : Prop := ∃ v, e = .returned (.tuple #[.int .i64 v, .bool (snum s.data.toList).isSome]) ∧ (∀ x, snum s.data.toList = some x → v = x) ∧ Below w.heap.size w w'
set_option maxHeartbeats 2000000 in
theorem qSigned_any (s : ByteArray) (w : World) (hs : s.size ≤ 1000000) : Calls Tryz.prog 54 #[.string s] w (SgPost s w) := by
  have hsz := bsizeL s
  by_cases h0 : s.size = 0
  · have hl : s.data.toList = [] := List.eq_nil_of_length_eq_zero (by omega)
    have hn : snum s.data.toList = none := by rw [hl]; rfl
    have hq : num s.data.toList = none := by rw [hl]; rfl
    have HN := hide hn
    have HQ := hide hq
    have t0 : decide (0 < s.size) = false := decide_eq_false (by omega)
    have t0' : ¬ 0 < s.size := by omega
    clear h0 hn hsz hl hq
    go_enter Tryz.func54, Tryz.ntmps54
    go_wp2_with fail
    refine (qNumber_any s _ hs).mono ?_
    rintro e W1 ⟨rfl, rfl⟩
    rw [HQ.out]
    go_wp2_with fail
    go_ret2
    exact ⟨0, (by rw [HN.out]; rfl), fun x hx => (by rw [HN.out] at hx; cases hx), (by repeat (first | exact Below.refl _ _ | exact Below.refl _ _ | refine Below.drew ?_ | refine below_drewN ?_ _ | refine below_set ?_ (by omega) _ | refine below_new ?_ (by omega) _))⟩
  · have t0 : decide (0 < s.size) = true := decide_eq_true (by omega)
    have t0' : 0 < s.size := by omega
    obtain ⟨y, hy⟩ : ∃ y, s.data.toList[0]? = some y := ⟨_, List.getElem?_eq_getElem (by omega)⟩
    have ri0 : ∀ W, (Instr.index 9 (.string s) (.int .i64 0)).run Tryz.prog W = .ok (.int .u8 (y.toNat : Int)) W := fun W => str_at hy W
    by_cases h1 : y = 45
    · have t1 : (((y.toNat : Nat) : Int) == 45) = true := by rw [h1]; rfl
      have hl : s.data.toList = 45 :: s.data.toList.tail := by
        cases hq : s.data.toList with
        | nil => rw [hq] at hy; cases hy
        | cons a r => rw [hq] at hy; simp at hy; rw [hy, h1]; rfl
      have he : (s.extract 1 s.size).data.toList = s.data.toList.tail := by
        rw [ext_data, hsz, List.take_of_length_le (Nat.le_refl _), List.drop_one]
      have hes : (s.extract 1 s.size).size ≤ 1000000 := by rw [bsizeL, he, List.length_tail]; omega
      have g1 : (1 : Int) ≤ (s.size : Int) := by omega
      have hsm := snum_minus s.data.toList.tail
      rw [← hl, ← he] at hsm
      have HS := hide hsm
      have HE := hide hes
      clear hl he hes hsm hy hsz h0
      go_enter Tryz.func54, Tryz.ntmps54
      go_wp2_with fail
      refine (qNumber_any (s.extract 1 s.size) _ HE.out).mono ?_
      rintro e W1 ⟨rfl, rfl⟩
      cases hq : num (s.extract 1 s.size).data.toList with
      | none =>
        have hn : snum s.data.toList = none := by rw [HS.out, hq]
        have HN := hide hn
        clear hn hq
        go_wp2_with fail
        go_ret2
        exact ⟨0, (by rw [HN.out]; rfl), fun x hx => (by rw [HN.out] at hx; cases hx), (by repeat (first | exact Below.refl _ _ | exact Below.refl _ _ | refine Below.drew ?_ | refine below_drewN ?_ _ | refine below_set ?_ (by omega) _ | refine below_new ?_ (by omega) _))⟩
      | some m =>
        have hm := num_lt hq
        cases m with
        | zero =>
          have hn : snum s.data.toList = none := by rw [HS.out, hq]
          have HN := hide hn
          clear hn hq
          go_wp2_with fail
          go_ret2
          exact ⟨0, (by rw [HN.out]; rfl), fun x hx => (by rw [HN.out] at hx; cases hx), (by repeat (first | exact Below.refl _ _ | exact Below.refl _ _ | refine Below.drew ?_ | refine below_drewN ?_ _ | refine below_set ?_ (by omega) _ | refine below_new ?_ (by omega) _))⟩
        | succ m =>
          have hn : snum s.data.toList = some (-((m + 1 : Nat) : Int)) := by rw [HS.out, hq]
          have HN := hide hn
          obtain ⟨M, hM⟩ : ∃ M : Nat, M = m + 1 := ⟨_, rfl⟩
          have hM0 : 0 < M := by omega
          have t2 : decide (0 < M) = true := decide_eq_true hM0
          have hM9 : M < 1000000000 := by omega
          simp only [Option.isSome_some, Option.getD_some]
          rw [← hM] at HN ⊢
          clear hn hq hm hM
          go_wp2_with fail
          go_ret2
          exact ⟨-(M : Int), (by rw [HN.out]; rfl), fun x hx => (by rw [HN.out] at hx; injection hx), (by repeat (first | exact Below.refl _ _ | exact Below.refl _ _ | refine Below.drew ?_ | refine below_drewN ?_ _ | refine below_set ?_ (by omega) _ | refine below_new ?_ (by omega) _))⟩
    · have t1 : (((y.toNat : Nat) : Int) == 45) = false := by
        simp only [beq_eq_false_iff_ne, ne_eq]
        intro e
        apply h1
        refine UInt8.toNat_inj.1 ?_
        have : (45 : UInt8).toNat = 45 := rfl
        omega
      have hp : snum s.data.toList = (num s.data.toList).map Int.ofNat := snum_plain (by rw [List.head?_eq_getElem?, hy]; intro e; exact h1 (Option.some.inj e))
      have HP := hide hp
      clear h1 hp hy hsz h0
      go_enter Tryz.func54, Tryz.ntmps54
      go_wp2_with fail
      refine (qNumber_any s _ hs).mono ?_
      rintro e W1 ⟨rfl, rfl⟩
      cases hq : num s.data.toList with
      | none =>
        have hn : snum s.data.toList = none := by rw [HP.out, hq]; rfl
        have HN := hide hn
        clear hn hq
        go_wp2_with fail
        go_ret2
        exact ⟨0, (by rw [HN.out]; rfl), fun x hx => (by rw [HN.out] at hx; cases hx), (by repeat (first | exact Below.refl _ _ | exact Below.refl _ _ | refine Below.drew ?_ | refine below_drewN ?_ _ | refine below_set ?_ (by omega) _ | refine below_new ?_ (by omega) _))⟩
      | some m =>
        have hn : snum s.data.toList = some (m : Int) := by rw [HP.out, hq]; rfl
        have HN := hide hn
        clear hn hq
        go_wp2_with fail
        go_ret2
        exact ⟨(m : Int), (by rw [HN.out]; rfl), fun x hx => (by rw [HN.out] at hx; injection hx), (by repeat (first | exact Below.refl _ _ | exact Below.refl _ _ | refine Below.drew ?_ | refine below_drewN ?_ _ | refine below_set ?_ (by omega) _ | refine below_new ?_ (by omega) _))⟩
end Go.Proofs.YtpcmflfinlkeiaaGreatDoor
