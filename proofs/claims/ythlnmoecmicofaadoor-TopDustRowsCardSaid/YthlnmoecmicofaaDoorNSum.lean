/- Copies append([]T{}, x...); the sum of two convolutions. -/
import Derived.Test.YthlnmoecmicofaaDoorNRev
import Derived.Test.YthlnmoecmicofaaDoorNTee
namespace Go.Proofs.YthlnmoecmicofaaDoor
open Go.RowKit Go.Shelf
set_option maxRecDepth 100000
theorem wpList_copied {P : Program} {ops : Array Oper} {rest : List Oper} {o : Oper} {a : Act} {Q : Exit → Act → World → Prop} (w : World) (hgd : o.guard = none) (s x : Operand) (t : TypeId)
    (ho : o.op = .call { callee := .builtin .append, args := #[s, x], argTypes := #[t, t] })
    (e : TypeId) (z : Value) (size bytes : Nat) (ht : P.underlying t = some (.slice e)) (hinfo : (P.info? e).map (fun i => (i.zero, i.size, i.bytes)) = some (some z, size, bytes))
    (hzs : z.cells.size = size) (hsz : 0 < size) (hby2 : bytes ≤ 100)
    (hs : a.eval s = .slice (some ⟨w.heap.size, 0, none⟩) 0 0) (A : Option Addr) (n c : Nat) (xs : List Value) (hx : a.eval x = .slice A n c) (hR : Reads w w.heap.size size A n xs) (h1 : ∀ u ∈ xs, u.oneCell' = true) (hn : n ≤ 100000)
    (h : ∀ A' c' w', Reads w' w'.heap.size size A' n xs → Below w.heap.size w w' → wpList P ops Q rest (a.put o.dst (.slice A' n c')) w') : wpList P ops Q (o :: rest) a (w.alloc (.cells #[] e)) := by
  obtain ⟨i, hi, hz, hsize, hby⟩ := info_parts hinfo
  have hown : (w.alloc (.cells #[] e)).ownsRow w.heap.size e size (.slice (some ⟨w.heap.size, 0, none⟩) 0 0) 0 [] :=
    ⟨by simp, .inr ⟨w.heap.size, 0, #[], rfl, Nat.le_refl _, Blk.new w e #[], Nat.le_refl _, by unfold maxLen; omega, by simp, by simp⟩⟩
  have hb : (0 + n) * bytes ≤ 140737488355328 := by
    have := Nat.mul_le_mul hn hby2
    rw [Nat.zero_add]; omega
  refine wpList_append_any _ hgd s x t ho w.heap.size e i z size bytes ht hi hz hsize hby hzs hsz _ 0 [] hs hown w.heap.size A n c xs hx (hR.alloc (Nat.le_refl _) _) h1 (by unfold maxLen; omega) hb (by simp) ?_
  intro v1 w1 ho1 hg1 _
  rw [Nat.zero_add, List.nil_append] at ho1
  obtain ⟨A', c', rfl, hr⟩ := own_slice ho1
  exact h A' c' w1 hr (((Below.refl w.heap.size w).alloc (Nat.le_refl _) _).grown hg1 (by simp) fun k hk => (hown.lt k hk).1)
theorem wr_half (o x : Int) : wrap64 (wr o + x) = wr (o + x) := by rw [wr_is]; simp only [wr_def]; omega
theorem Convolve_x (A1 : Option Addr) (la c1 : Nat) (a : List Int) (A2 : Option Addr) (lb c2 : Nat) (b : List Int) (w : World) (hR1 : Reads w w.heap.size 1 A1 la (ints a)) (hR2 : Reads w w.heap.size 1 A2 lb (ints b)) (hk : CvOk a b) (X : List Int) (n : Nat) (hX : X = cvl a b) (hn : n = cvLen a b) :
    Calls Tryd.prog 38 #[.slice A1 la c1, .slice A2 lb c2] w fun e w' => ∃ A c, e = .returned (.tuple #[.slice A n c, .int .i64 0]) ∧ Reads w' w'.heap.size 1 A n (ints X) ∧ Below w.heap.size w w' := by
  subst hX; subst hn
  exact Convolve_ok A1 la c1 a A2 lb c2 b w hR1 hR2 hk
/-- The sum of two lists, as the law takes it. -/
def sumR (X Y : List Int) : List Int := addRow (addRow (List.replicate (max X.length Y.length) 0) 0 1 X) 0 1 Y
set_option maxHeartbeats 4000000 in
theorem dustSum_any (A1 : Option Addr) (n1' c1 : Nat) (a : List Int) (A2 : Option Addr) (n2 c2 : Nat) (b : List Int) (A3 : Option Addr) (n3 c3 : Nat) (c : List Int) (A4 : Option Addr) (n4 c4 : Nat) (d : List Int) (w : World)
    (h1 : Reads w w.heap.size 1 A1 n1' (ints a)) (h2 : Reads w w.heap.size 1 A2 n2 (ints b)) (h3 : Reads w w.heap.size 1 A3 n3 (ints c)) (h4 : Reads w w.heap.size 1 A4 n4 (ints d)) (k1 : CvOk a b) (k2 : CvOk c d) (hs : n1 (cvl a b) + n1 (cvl c d) ≤ 9223372036854775807) :
    Calls Tryd.prog 37 #[.slice A1 n1' c1, .slice A2 n2 c2, .slice A3 n3 c3, .slice A4 n4 c4] w fun e w' => ∃ A k, e = .returned (.tuple #[.slice A (trim (sumR (cvl a b) (cvl c d))).length k, .bool true]) ∧ Reads w' w'.heap.size 1 A (trim (sumR (cvl a b) (cvl c d))).length (ints (trim (sumR (cvl a b) (cvl c d)))) ∧ Below w.heap.size w w' := by
  have K1 := hide k1
  have K2 := hide k2
  have la : n1' ≤ 100000 := by have := reads_len h1; have := seq_len k1.ea; omega
  have lb : n2 ≤ 100000 := by have := reads_len h2; have := seq_len k1.eb; omega
  have lc : n3 ≤ 100000 := by have := reads_len h3; have := seq_len k2.ea; omega
  have ld : n4 ≤ 100000 := by have := reads_len h4; have := seq_len k2.eb; omega
  obtain ⟨X, hX⟩ : ∃ X, X = cvl a b := ⟨_, rfl⟩
  obtain ⟨Y, hY⟩ : ∃ X, X = cvl c d := ⟨_, rfl⟩
  obtain ⟨lx, hlx⟩ : ∃ X, X = cvLen a b := ⟨_, rfl⟩
  obtain ⟨ly, hly⟩ : ∃ X, X = cvLen c d := ⟨_, rfl⟩
  have lx4 : lx ≤ 4096 := by rw [hlx]; exact k1.ln
  have ly4 : ly ≤ 4096 := by rw [hly]; exact k2.ln
  have LX : Hid (X.length = lx) := by rw [hX, hlx]; exact cvl_len a b
  have LY : Hid (Y.length = ly) := by rw [hY, hly]; exact cvl_len c d
  have EX := hide hX
  have EY := hide hY
  have ELX := hide hlx
  have ELY := hide hly
  rw [← hX, ← hY] at hs ⊢
  obtain ⟨M, hM⟩ : ∃ M, M = max lx ly := ⟨_, rfl⟩
  have hmx := max2 lx ly
  rw [← hM] at hmx
  have hM1 : lx ≤ M := by omega
  have hM2 : ly ≤ M := by omega
  have hM3 : M ≤ 4096 := by omega
  have hmk := run_make_row' (P := Tryd.prog) 55 3 (.int .i64 0) 8 Tryd.underlying55 info_int rfl .i64 .i64 M (by omega) (by omega)
  have HM := hide hM
  clear k1 k2 hX hY hlx hly hM
  go_enter Tryd.func37, Tryd.ntmps37
  go_upto_region 1 with (fail)
  go_wp2_with (at_builtin; first
    | (refine wpList_copied w rfl (.tmp 20) (.tmp 21) 55 (by rfl) 3 (.int .i64 0) 1 8 Tryd.underlying55 info_int rfl (by decide) (by decide) (by rfl) A1 n1' c1 (ints a) (by rfl) h1 (ints_one _) la ?_; intro A5 c5 w5 r5 hb5)
    | (refine wpList_copied w5 rfl (.tmp 23) (.tmp 24) 55 (by rfl) 3 (.int .i64 0) 1 8 Tryd.underlying55 info_int rfl (by decide) (by decide) (by rfl) A2 n2 c2 (ints b) (by rfl) (carry h2 hb5) (ints_one _) lb ?_; intro A6 c6 w6 r6 hb6))
  refine (Convolve_x A5 n1' c5 a A6 n2 c6 b w6 (carry r5 hb6) r6 K1.out X lx EX.out ELX.out).mono ?_
  rintro e w7 ⟨A7, c7, rfl, r7, hb7⟩
  have g3 : Reads w7 w7.heap.size 1 A3 n3 (ints c) := carry h3 (by repeat (first | with_reducible assumption | exact Below.refl _ _ | refine below_next (by with_reducible assumption) ?_))
  go_upto_region 2 with (fail)
  go_wp2_with (at_builtin; first
    | (refine wpList_copied w7 rfl (.tmp 30) (.tmp 31) 55 (by rfl) 3 (.int .i64 0) 1 8 Tryd.underlying55 info_int rfl (by decide) (by decide) (by rfl) A3 n3 c3 (ints c) (by rfl) g3 (ints_one _) lc ?_; intro A8 c8 w8 r8 hb8)
    | (refine wpList_copied w8 rfl (.tmp 33) (.tmp 34) 55 (by rfl) 3 (.int .i64 0) 1 8 Tryd.underlying55 info_int rfl (by decide) (by decide) (by rfl) A4 n4 c4 (ints d) (by rfl) (carry h4 (by repeat (first | with_reducible assumption | exact Below.refl _ _ | refine below_next (by with_reducible assumption) ?_))) (ints_one _) ld ?_; intro A9 c9 w9 r9 hb9))
  refine (Convolve_x A8 n3 c8 c A9 n4 c9 d w9 (carry r8 hb9) r9 K2.out Y ly EY.out ELY.out).mono ?_
  rintro e w10 ⟨A10, c10, rfl, r10, hb10⟩
  have hbw : Below w.heap.size w w10 := (by repeat (first | with_reducible assumption | exact Below.refl _ _ | refine below_next (by with_reducible assumption) ?_))
  have q7 : Reads w10 w10.heap.size 1 A7 lx (ints X) := carry r7 (by repeat (first | with_reducible assumption | exact Below.refl _ _ | refine below_next (by with_reducible assumption) ?_))
  clear h1 h2 h3 h4 g3 r5 r6 r7 r8 r9 hb5 hb6 hb7 hb8 hb9 hb10 K1 K2 EX EY ELX ELY la lb lc ld
  go_upto_region 6 with (fail)
  obtain ⟨w11, e11, hb11, hz11, k0⟩ := box1 w10 (madeCells #[.int .i64 0] M) 3
  rw [← e11]; clear e11 hmk hmx
  rw [made_eq] at k0
  obtain ⟨Z, hZ⟩ : ∃ Z : List Int, Z = List.replicate M 0 := ⟨_, rfl⟩
  have LZ : Hid (Z.length = M) := by rw [hZ]; exact List.length_replicate
  have n1Z : n1 Z = 0 := by rw [hZ]; exact n1_zeros M
  have HNZ := hide n1Z
  have HZ := hide hZ
  rw [← hZ, ← wints_in (l := Z) (by rw [n1Z]; omega)] at k0
  clear n1Z hZ
  go_wp2_with fail
  go_loopw [53] (fun v wq => ∃ i : Nat, i ≤ lx ∧ v = .int .i64 i ∧ Blk wq w10.heap.size 3 (wints (addPart Z 0 1 X i)).toArray ∧ Below w10.heap.size w10 wq) (fun v _ => lx - (intOf v).toNat)
  case atStart => exact ⟨0, by omega, rfl, by rw [addPart_zero]; exact k0, hb11⟩
  case round =>
    rename World => wq
    obtain ⟨i, hi, rfl, kq, hbq⟩ := hrel
    clear k0 hb11
    by_cases hlt : i < lx
    · obtain ⟨ad1, x, e1, hB1, hx, hcx⟩ := reads_at (carry q7 (by repeat (first | with_reducible assumption | exact Below.refl _ _ | refine below_next (by with_reducible assumption) ?_))) hlt
      subst e1
      have hin : 0 + i < Z.length := by rw [LZ.out]; omega
      have hcell : wq.cell? ⟨w10.heap.size, i, none⟩ = some (.int .i64 (wr (co Z i))) := by
        have := co_addPart_at (x := 1) (b := X) hin
        rw [Nat.zero_add] at this
        rw [kq.cell, List.getElem?_toArray, wints_at (by rw [addPart_len]; omega), this]
      have hfro := kq.frozen i
      have HX := hide hx; clear hx
      have hqlt := kq.lt
      have hiM : i < M := by omega
      go_wp2
      go_roundw
      case rel =>
        refine ⟨i + 1, by omega, by go_num, ?_, below_set hbq (Nat.le_refl _) _⟩
        have e : wrap64 (wr (co Z i) + x) = wr (co Z i + co X i) := by rw [co_get HX.out]; exact wr_half _ _
        rw [e]
        have := kq.set_ i (.int .i64 (wr (co Z i + co X i)))
        have ws := wints_set (x := 1) (b := X) hin
        rw [Nat.zero_add, Int.one_mul] at ws
        rwa [ws] at this
      case measure => simp [intOf]; omega
    · obtain rfl : i = lx := by omega
      have k1 : Blk wq w10.heap.size 3 (wints (addRow Z 0 1 X)).toArray := by
        rw [← addPart_all, LX.out]
        exact kq
      clear kq
      obtain ⟨V, hV⟩ : ∃ V : List Int, V = addRow Z 0 1 X := ⟨_, rfl⟩
      have LV : Hid (V.length = M) := by rw [hV]; exact (addRow_len _ _ _ _).trans LZ.out
      have HV := hide hV
      rw [← hV] at k1
      clear hV
      rename Below w10.heap.size w10 wq => hbq0
      go_wp2_with fail
      go_loopw [68] (fun v wq => ∃ i : Nat, i ≤ ly ∧ v = .int .i64 i ∧ Blk wq w10.heap.size 3 (wints (addPart V 0 1 Y i)).toArray ∧ Below w10.heap.size w10 wq) (fun v _ => ly - (intOf v).toNat)
      case atStart => exact ⟨0, by omega, rfl, by rw [addPart_zero]; exact k1, hbq0⟩
      case round =>
        rename World => wq
        obtain ⟨i, hi, rfl, kq, hbq⟩ := hrel
        clear k1 hbq0
        by_cases hlt : i < ly
        · obtain ⟨ad1, x, e1, hB1, hx, hcx⟩ := reads_at (carry r10 (by repeat (first | with_reducible assumption | exact Below.refl _ _ | refine below_next (by with_reducible assumption) ?_))) hlt
          subst e1
          have hin : 0 + i < V.length := by rw [LV.out]; omega
          have hcell : wq.cell? ⟨w10.heap.size, i, none⟩ = some (.int .i64 (wr (co V i))) := by
            have := co_addPart_at (x := 1) (b := Y) hin
            rw [Nat.zero_add] at this
            rw [kq.cell, List.getElem?_toArray, wints_at (by rw [addPart_len]; omega), this]
          have hfro := kq.frozen i
          have HX := hide hx; clear hx
          have hqlt := kq.lt
          have hiM : i < M := by omega
          go_wp2
          go_roundw
          case rel =>
            refine ⟨i + 1, by omega, by go_num, ?_, below_set hbq (Nat.le_refl _) _⟩
            have e : wrap64 (wr (co V i) + x) = wr (co V i + co Y i) := by rw [co_get HX.out]; exact wr_half _ _
            rw [e]
            have := kq.set_ i (.int .i64 (wr (co V i + co Y i)))
            have ws := wints_set (x := 1) (b := Y) hin
            rw [Nat.zero_add, Int.one_mul] at ws
            rwa [ws] at this
          case measure => simp [intOf]; omega
        · obtain rfl : i = ly := by omega
          have k2 : Blk wq w10.heap.size 3 (wints (addRow V 0 1 Y)).toArray := by
            rw [← addPart_all, LY.out]
            exact kq
          clear kq
          obtain ⟨U, hU⟩ : ∃ U : List Int, U = addRow V 0 1 Y := ⟨_, rfl⟩
          have LU : Hid (U.length = M) := by rw [hU]; exact (addRow_len _ _ _ _).trans LV.out
          have EU : Hid (U = sumR X Y) := by rw [hU, HV.out, HZ.out, HM.out, ← LX.out, ← LY.out]; rfl
          have hn : n1 U ≤ 9223372036854775807 := by
            have := n1_addRow 1 V 0 Y
            have h2 := n1_addRow 1 Z 0 X
            rw [HNZ.out] at h2
            rw [← HV.out] at h2
            rw [hU]
            simp at this h2
            omega
          rw [← hU, wints_in hn] at k2
          clear hU hn
          have hrd := blkR (n := M) k2 LU.out.symm
          clear k2 r10 q7
          go_wp2_with fail
          go_loop [14] (fun v => ∃ k : Nat, k ≤ M ∧ v = .slice (some ⟨w10.heap.size, 0, none⟩) k M ∧ Hid (∀ j, k ≤ j → co U j = 0)) (fun v => lenV v)
          case atStart => exact ⟨M, Nat.le_refl _, rfl, fun j hj => co_far (by rw [LU.out]; exact hj)⟩
          case round =>
            obtain ⟨k, hk, rfl, hz⟩ := hrel
            rcases Nat.eq_zero_or_pos k with h0 | h0
            · subst h0
              go_wp2
              have ht : trim U = U.take 0 := trim_is_take (Nat.zero_le _) hz.out (.inl rfl)
              have ht0 : trim U = [] := by rw [ht]; rfl
              refine bodyPost_ret (v := .tuple #[.slice (some ⟨w10.heap.size, 0, none⟩) 0 M, .bool true]) (by simp [results, Tryd.results37, go_sem]) rfl ?_
              rw [← EU.out, ht0]
              exact ⟨_, ⟨_, rfl⟩, ⟨by simp [ints], fun h => absurd h (by simp)⟩, hbw.trans (hbq.mono hbw.size)⟩
            · obtain ⟨ad, x, e1, _, hx, hcx⟩ := reads_at hrd (show k - 1 < M by omega)
              have e2 : ad = ⟨w10.heap.size, 0, none⟩ := (Option.some.inj e1).symm
              subst e2
              have HX := hide hx; clear hx e1
              have ea : (⟨w10.heap.size, 0, none⟩ : Addr).add (k - 1) = ⟨w10.heap.size, k - 1, none⟩ := by unfold Addr.add; split <;> simp_all
              rw [ea] at hcx
              clear ea
              have hk1 : ((k : Int) - 1) = ((k - 1 : Nat) : Int) := by omega
              have hg : (0 : Int) < (k : Int) := by omega
              have hkc : k - 1 ≤ M := by omega
              by_cases hx0 : x = 0
              · subst hx0
                go_wp2
                go_round
                case rel =>
                  refine ⟨k - 1, by omega, by simp, fun j hj => ?_⟩
                  by_cases e : j = k - 1
                  · rw [e]; exact co_get HX.out
                  · exact hz.out j (by omega)
                case measure => simp [lenV]; omega
              · have hx1 : (x == 0) = false := by simpa using hx0
                have HX0 := hide hx0
                clear hx0
                go_wp2
                have ht : trim U = U.take k := trim_is_take (by rw [LU.out]; exact hk) hz.out (.inr (by rw [co_get HX.out]; exact HX0.out))
                have hlk : (trim U).length = k := by rw [ht, List.length_take, LU.out, Nat.min_eq_left hk]
                refine bodyPost_ret (v := .tuple #[.slice (some ⟨w10.heap.size, 0, none⟩) k M, .bool true]) (by simp [results, Tryd.results37, go_sem]) rfl ?_
                rw [← EU.out, hlk, ht]
                exact ⟨_, ⟨_, rfl⟩, reads_take hrd hk, hbw.trans (hbq.mono hbw.size)⟩
end Go.Proofs.YthlnmoecmicofaaDoor
