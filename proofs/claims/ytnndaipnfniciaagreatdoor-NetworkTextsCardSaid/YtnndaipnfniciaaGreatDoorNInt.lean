/- The program's integer: a text of digits alone. -/
import Derived.Test.YtnndaipnfniciaaGreatDoorNPrint
import Derived.Test.YtnndaipnfniciaaGreatDoorNStrP
import Derived.Lib.SmallJoins
namespace Go.Proofs.YtnndaipnfniciaaGreatDoor
open Go.RowKit Go.Shelf
set_option maxRecDepth 100000
/-- The variables of the library that the parser meets lie where they were laid. -/
structure TxV (w : World) : Prop where
  ten : Tens w
  lr : 8 < w.heap.size
  er : ∃ t p, w.cell? ⟨8, 0, none⟩ = some (.iface t p)
  ls : 7 < w.heap.size
  es : ∃ t p, w.cell? ⟨7, 0, none⟩ = some (.iface t p)
  lm : 3 < w.heap.size
  mx : ∃ m, w.cell? ⟨3, 0, none⟩ = some (.int .i64 m)
theorem TxV.carry {w w' : World} (h : TxV w) (hb : Below w.heap.size w w') : TxV w' := by
  obtain ⟨t, lr, ⟨a, b, er⟩, ls, ⟨c, d, es⟩, lm, ⟨m, mx⟩⟩ := h
  exact ⟨t.carry hb, Nat.lt_of_lt_of_le lr hb.size, ⟨a, b, (hb.cell (p := ⟨8, 0, none⟩) lr).trans er⟩, Nat.lt_of_lt_of_le ls hb.size, ⟨c, d, (hb.cell (p := ⟨7, 0, none⟩) ls).trans es⟩, Nat.lt_of_lt_of_le lm hb.size, ⟨m, (hb.cell (p := ⟨3, 0, none⟩) lm).trans mx⟩⟩
theorem itoaB_eq (v : Int) (s : ByteArray) : itoaB v = s ↔ Lib.itoa v = s.data.toList := by
  unfold itoaB
  constructor
  · intro h; rw [← h]
  · intro h; rw [h]
theorem reads_newV (w : World) (xs : List Value) (t : TypeId) : Reads (w.alloc (.cells xs.toArray t)) (w.alloc (.cells xs.toArray t)).heap.size 1 (some ⟨w.heap.size, 0, none⟩) xs.length xs := by
  refine ⟨by simp, fun _ => ⟨_, rfl, by simp, fun j v h => ?_⟩⟩
  have := cells_new w xs t j v h
  cases j with
  | zero => simpa [Addr.add] using this
  | succ j => simpa [Addr.add] using this
theorem split_any (s : ByteArray) (c : UInt8) (w : World) (hT : TxV w) (hs : s.size ≤ 1000000) :
    Calls Tryz.prog 135 #[.string s, .string ⟨#[c]⟩] w fun e w' => ∃ ps : List ByteArray, ps.map (·.data.toList) = spl c s.data.toList ∧ e = .returned (.slice (some ⟨w.heap.size, 0, none⟩) ps.length ps.length) ∧ Reads w' w'.heap.size 1 (some ⟨w.heap.size, 0, none⟩) ps.length (ps.map Value.string) ∧ Below w.heap.size w w' := by
  obtain ⟨m, hm⟩ := hT.mx
  refine (Tryz.strings_Split s ⟨#[c]⟩ m w (by omega) hm (Nat.le_refl 1)).mono ?_
  rintro e w' ⟨rfl, rfl⟩
  have hsp : (Lib.splitB ⟨#[c]⟩ 0 (Lib.countB s ⟨#[c]⟩) s).map (·.data.toList) = spl c s.data.toList := by
    rw [Lib.splitB_data]
    exact splitK_spl c s.data.toList
  have hlen : (Lib.splitB ⟨#[c]⟩ 0 (Lib.countB s ⟨#[c]⟩) s).length = Lib.countB s ⟨#[c]⟩ + 1 := by
    have key : ∀ (k : Nat) (s : ByteArray), Lib.countB s ⟨#[c]⟩ = k → (Lib.splitB ⟨#[c]⟩ 0 k s).length = k + 1 := by
      intro k
      induction k with
      | zero => intro s _; rfl
      | succ k ih =>
        intro s hk
        rcases Int.lt_or_le (Lib.indexB s ⟨#[c]⟩) 0 with q | q
        · have hg := Lib.index_ge s.data.toList (ByteArray.data ⟨#[c]⟩).toList
          have : Lib.indexB s ⟨#[c]⟩ = -1 := by
            have : -1 ≤ Lib.indexB s ⟨#[c]⟩ := hg
            omega
          rw [Lib.countB_miss _ _ this] at hk; omega
        · obtain ⟨i, hi⟩ : ∃ i : Nat, Lib.indexB s ⟨#[c]⟩ = i := ⟨(Lib.indexB s ⟨#[c]⟩).toNat, by omega⟩
          have hc := Lib.countB_hit s ⟨#[c]⟩ i (Nat.le_refl 1) hi
          rw [Lib.splitB_hit _ _ _ _ i hi, List.length_cons, ih _ (by omega)]
    exact key _ s rfl
  refine ⟨_, hsp, by rw [hlen], ?_, (Below.refl _ _).alloc (Nat.le_refl _) _⟩
  have := reads_newV w ((Lib.splitB ⟨#[c]⟩ 0 (Lib.countB s ⟨#[c]⟩) s).map Value.string) 9
  rwa [List.length_map] at this
set_option maxHeartbeats 2000000 in
theorem integer_any (s : ByteArray) (w : World) (hT : TxV w) (hs : s.size ≤ 1000000) :
    Calls Tryz.prog 160 #[.string s] w fun e w' => (∃ n, e = .returned (.tuple #[.int .i64 n, .bool (num s.data.toList).isSome]) ∧ ∀ m, num s.data.toList = some m → n = (m : Int)) ∧ Below w.heap.size w w' := by
  cases hat : Lib.atoiAll s.data.toList with
  | ok v =>
    have HC : Hid (Calls Tryz.prog 168 #[.string s] w fun e w' => e = .returned (.tuple #[.int .i64 v, .nilIface]) ∧ Below w.heap.size w w') := by
      refine (Tryz.strconv_Atoi_ok s (by omega) v hat w).mono ?_
      rintro e w' ⟨rfl, rfl | ⟨t, rfl⟩⟩
      · exact ⟨rfl, Below.refl _ _⟩
      · exact ⟨rfl, Lib.bytesWorld_below _ _ _⟩
    have hvb := Lib.atoiAll_bounds hat
    have bad : ¬ (Lib.itoa v = s.data.toList ∧ 0 ≤ v ∧ s.size ≤ 9) → num s.data.toList = none := fun h => by
      cases hn : num s.data.toList with
      | none => rfl
      | some m =>
        exfalso
        apply h
        have h1 := atoi_num hn
        rw [hat] at h1
        obtain rfl : v = (m : Int) := by injection h1
        refine ⟨?_, by omega, (num_some hn).2.2⟩
        unfold Lib.itoa
        rw [if_neg (by omega), Int.toNat_natCast]
        exact num_digits hn
    by_cases hi : Lib.itoa v = s.data.toList
    · have t1 : ((itoaB v).toList == s.toList) = true := by rw [toList_beq]; exact decide_eq_true ((itoaB_eq v s).2 hi)
      by_cases h0 : 0 ≤ v
      · by_cases h9 : s.size ≤ 9
        · have hn := atoi_back hi h0 h9
          have HN := hide hn
          have g9 : (s.size : Int) ≤ 9 := by omega
          have HV := hide h0
          clear hat hi hn hs h9 bad
          go_enter Tryz.func160, Tryz.ntmps160
          go_wp2_with fail
          refine HC.out.mono ?_
          rintro e w1 ⟨rfl, hb1⟩
          go_wp2_with fail
          refine (itoa_any v _ (hT.ten.carry hb1) hvb.1 hvb.2).mono ?_
          rintro e w2 ⟨rfl, hb2⟩
          go_wp2_with fail
          go_ret2
          exact ⟨⟨v, by rw [HN.out]; rfl, fun m h => by rw [HN.out] at h; have := Option.some.inj h; have := HV.out; omega⟩, below_next hb1 hb2⟩
        · have HN := hide (bad fun q => h9 q.2.2)
          have g9 : decide ((s.size : Int) ≤ 9) = false := decide_eq_false (by omega)
          clear hat hi hs h9 bad
          go_enter Tryz.func160, Tryz.ntmps160
          go_wp2_with fail
          refine HC.out.mono ?_
          rintro e w1 ⟨rfl, hb1⟩
          go_wp2_with fail
          refine (itoa_any v _ (hT.ten.carry hb1) hvb.1 hvb.2).mono ?_
          rintro e w2 ⟨rfl, hb2⟩
          go_wp2_with fail
          go_ret2
          exact ⟨⟨v, by rw [HN.out]; rfl, fun m h => by rw [HN.out] at h; cases h⟩, below_next hb1 hb2⟩
      · have HN := hide (bad fun q => h0 q.2.1)
        clear hat hi hs bad
        go_enter Tryz.func160, Tryz.ntmps160
        go_wp2_with fail
        refine HC.out.mono ?_
        rintro e w1 ⟨rfl, hb1⟩
        go_wp2_with fail
        refine (itoa_any v _ (hT.ten.carry hb1) hvb.1 hvb.2).mono ?_
        rintro e w2 ⟨rfl, hb2⟩
        go_wp2_with fail
        go_ret2
        exact ⟨⟨v, by rw [HN.out]; rfl, fun m h => by rw [HN.out] at h; cases h⟩, below_next hb1 hb2⟩
    · have t1 : ((itoaB v).toList == s.toList) = false := by rw [toList_beq]; exact decide_eq_false fun q => hi ((itoaB_eq v s).1 q)
      have HN := hide (bad fun q => hi q.1)
      clear hat hi hs bad
      go_enter Tryz.func160, Tryz.ntmps160
      go_wp2_with fail
      refine HC.out.mono ?_
      rintro e w1 ⟨rfl, hb1⟩
      go_wp2_with fail
      refine (itoa_any v _ (hT.ten.carry hb1) hvb.1 hvb.2).mono ?_
      rintro e w2 ⟨rfl, hb2⟩
      go_wp2_with fail
      go_ret2
      exact ⟨⟨v, by rw [HN.out]; rfl, fun m h => by rw [HN.out] at h; cases h⟩, below_next hb1 hb2⟩
  | range =>
    have hn : num s.data.toList = none := by
      cases hn : num s.data.toList with
      | none => rfl
      | some m => rw [atoi_num hn] at hat; cases hat
    obtain ⟨te, pe, hev⟩ := hT.er
    have HC : Hid (Calls Tryz.prog 168 #[.string s] w fun e w' => (∃ N, e = .returned (.tuple #[.int .i64 (Lib.atoiSat s.data.toList), .iface 232 (.pointer (some ⟨N, 0, none⟩))])) ∧ Below w.heap.size w w') := by
      refine (Tryz.strconv_Atoi_range s (by omega) hat _ w hev (.inr ⟨te, pe, rfl⟩)).mono ?_
      rintro e w' ⟨N, rfl, _, _, hb⟩
      exact ⟨⟨N, rfl⟩, hb⟩
    have HN := hide hn
    clear hat hn hs hev
    go_enter Tryz.func160, Tryz.ntmps160
    go_wp2_with fail
    refine HC.out.mono ?_
    rintro e w1 ⟨⟨N, rfl⟩, hb1⟩
    go_wp2_with fail
    go_ret2
    exact ⟨⟨_, by rw [HN.out]; rfl, fun m h => by rw [HN.out] at h; cases h⟩, hb1⟩
  | _ =>
    have hn : num s.data.toList = none := by
      cases hn : num s.data.toList with
      | none => rfl
      | some m => rw [atoi_num hn] at hat; cases hat
    obtain ⟨te, pe, hev⟩ := hT.es
    have HC : Hid (Calls Tryz.prog 168 #[.string s] w fun e w' => (∃ N, e = .returned (.tuple #[.int .i64 0, .iface 232 (.pointer (some ⟨N, 0, none⟩))])) ∧ Below w.heap.size w w') := by
      refine (Tryz.strconv_Atoi_syntax s (by omega) hat _ w hev (.inr ⟨te, pe, rfl⟩)).mono ?_
      rintro e w' ⟨N, rfl, _, _, hb⟩
      exact ⟨⟨N, rfl⟩, hb⟩
    have HN := hide hn
    clear hat hn hs hev
    go_enter Tryz.func160, Tryz.ntmps160
    go_wp2_with fail
    refine HC.out.mono ?_
    rintro e w1 ⟨⟨N, rfl⟩, hb1⟩
    go_wp2_with fail
    go_ret2
    exact ⟨⟨0, by rw [HN.out]; rfl, fun m h => by rw [HN.out] at h; cases h⟩, hb1⟩
end Go.Proofs.YtnndaipnfniciaaGreatDoor
