/- The program's taker of integers; Cut and Split of the library. -/
import Derived.Test.YtcihiglpahhboaaGreatDoorAPrint
import Derived.Test.YtcihiglpahhboaaGreatDoorACutP
import Derived.Lib.SmallJoins
namespace Go.Proofs.YtcihiglpahhboaaGreatDoor
open Go.RowKit Go.Shelf
set_option maxRecDepth 100000
/-! ### All blocks but one stay -/
structure Apart (b : Nat) (w w' : World) : Prop where
  os : w'.os = w.os
  tape : w'.tape = w.tape
  output : w'.output = w.output
  size : w.heap.size ≤ w'.heap.size
  block : ∀ g, g < w.heap.size → g ≠ b → w'.heap[g]? = w.heap[g]?
theorem Apart.refl (b : Nat) (w : World) : Apart b w w := ⟨rfl, rfl, rfl, Nat.le_refl _, fun _ _ _ => rfl⟩
theorem Apart.below {b : Nat} {a w v : World} (h : Apart b a w) (hb : Below w.heap.size w v) : Apart b a v :=
  ⟨hb.os.trans h.os, hb.tape.trans h.tape, hb.output.trans h.output, Nat.le_trans h.size hb.size, fun g hg hne => (hb.block g (Nat.lt_of_lt_of_le hg h.size)).trans (h.block g hg hne)⟩
theorem Apart.set_ {b : Nat} {a w : World} (h : Apart b a w) (i : Nat) (u : Value) : Apart b a (w.setCell ⟨b, i, none⟩ u) := by
  have hb := (Below.refl b w).setCell (p := ⟨b, i, none⟩) (Nat.le_refl b) u
  refine ⟨hb.os.trans h.os, hb.tape.trans h.tape, hb.output.trans h.output, Nat.le_trans h.size hb.size, fun g hg hne => ?_⟩
  exact (Below.heap_setCell w ⟨b, i, none⟩ u g hne).trans (h.block g hg hne)
theorem Apart.drewN {b : Nat} {a w : World} (h : Apart b a w) (n : Nat) : Apart b a (w.drewN n) := ⟨h.os, h.tape, h.output, h.size, h.block⟩
theorem Apart.to {b B : Nat} {u a w : World} (h : Apart b a w) (hb : Below B u a) (h1 : B ≤ b) (h2 : B ≤ a.heap.size) : Below B u w :=
  ⟨h.os.trans hb.os, h.tape.trans hb.tape, h.output.trans hb.output, Nat.le_trans hb.size h.size, fun g hg => (h.block g (by omega) (by omega)).trans (hb.block g hg)⟩
theorem Apart.blk {b g : Nat} {w w' : World} {t : TypeId} {cs : Array Value} (h : Apart b w w') (hk : Blk w g t cs) (hne : g ≠ b) : Blk w' g t cs := (h.block g hk.lt hne).trans hk
theorem Apart.reads {b size n : Nat} {w w' : World} {A : Option Addr} {xs : List Value} (h : Apart b w w') (hb : b ≤ w.heap.size) (hr : Reads w b size A n xs) : Reads w' b size A n xs :=
  hr.keep fun p hp => World.cell?_of_block (h.block p.block (by omega) (by omega))
/-! ### The library's variables -/
structure TxV (w : World) : Prop where
  ten : Tens w
  lr : 5 < w.heap.size
  er : ∃ t p, w.cell? ⟨5, 0, none⟩ = some (.iface t p)
  ls : 4 < w.heap.size
  es : ∃ t p, w.cell? ⟨4, 0, none⟩ = some (.iface t p)
  lm : 2 < w.heap.size
  mx : ∃ m, w.cell? ⟨2, 0, none⟩ = some (.int .i64 m)
theorem TxV.carry {w w' : World} (h : TxV w) (hb : Below w.heap.size w w') : TxV w' := by
  obtain ⟨t, lr, ⟨a, b, er⟩, ls, ⟨c, d, es⟩, lm, ⟨m, mx⟩⟩ := h
  exact ⟨tens_below t hb t.1, Nat.lt_of_lt_of_le lr hb.size, ⟨a, b, (hb.cell (p := ⟨5, 0, none⟩) lr).trans er⟩, Nat.lt_of_lt_of_le ls hb.size, ⟨c, d, (hb.cell (p := ⟨4, 0, none⟩) ls).trans es⟩, Nat.lt_of_lt_of_le lm hb.size, ⟨m, (hb.cell (p := ⟨2, 0, none⟩) lm).trans mx⟩⟩
theorem toList_beqA (a b : ByteArray) : (a.toList == b.toList) = decide (a = b) := by
  rw [ByteArray.toList_eq, ByteArray.toList_eq]
  by_cases h : a = b
  · subst h; simp
  · have : ¬ a.data.toList = b.data.toList := fun e => h (by apply ByteArray.ext; exact Array.toList_inj.1 e)
    rw [decide_eq_false h]
    exact beq_eq_false_iff_ne.2 this
theorem itoaB_eq (v : Int) (s : ByteArray) : itoaB v = s ↔ Lib.itoa v = s.data.toList := by
  unfold itoaB
  constructor
  · intro h; rw [← h]
  · intro h; rw [h]
theorem reads_newV (w : World) (xs : List Value) (t : TypeId) : Reads (w.alloc (.cells xs.toArray t)) (w.alloc (.cells xs.toArray t)).heap.size 1 (some ⟨w.heap.size, 0, none⟩) xs.length xs := by
  refine ⟨by simp, fun _ => ⟨_, rfl, by simp, fun j v h => ?_⟩⟩
  have := cells_new w xs t j v h
  cases j with
  | zero => simpa [Addr.add] using this
  | succ j => simpa [Addr.add] using this
theorem bsize (s : ByteArray) : s.size = s.data.toList.length := by simp
theorem split_any (s : ByteArray) (c : UInt8) (w : World) (hT : TxV w) (hs : s.size ≤ 1000000) :
    Calls Tryz.prog 143 #[.string s, .string ⟨#[c]⟩] w fun e w' => ∃ ps : List ByteArray, ps.map (·.data.toList) = spl c s.data.toList ∧ e = .returned (.slice (some ⟨w.heap.size, 0, none⟩) ps.length ps.length) ∧ Reads w' w'.heap.size 1 (some ⟨w.heap.size, 0, none⟩) ps.length (strs ps) ∧ Below w.heap.size w w' := by
  obtain ⟨m, hm⟩ := hT.mx
  refine (Tryz.strings_Split s ⟨#[c]⟩ m w (by omega) hm (Nat.le_refl 1)).mono ?_
  rintro e w' ⟨rfl, rfl⟩
  have hsp : (Lib.splitB ⟨#[c]⟩ 0 (Lib.countB s ⟨#[c]⟩) s).map (·.data.toList) = spl c s.data.toList := by
    rw [Lib.splitB_data]
    exact splitK_spl c s.data.toList
  have hlen : (Lib.splitB ⟨#[c]⟩ 0 (Lib.countB s ⟨#[c]⟩) s).length = Lib.countB s ⟨#[c]⟩ + 1 := by
    have key : ∀ (k : Nat) (s : ByteArray), Lib.countB s ⟨#[c]⟩ = k → (Lib.splitB ⟨#[c]⟩ 0 k s).length = k + 1 := by
      intro k
      induction k with
      | zero => intro s _; rfl
      | succ k ih =>
        intro s hk
        rcases Int.lt_or_le (Lib.indexB s ⟨#[c]⟩) 0 with q | q
        · have hg := Lib.index_ge s.data.toList (ByteArray.data ⟨#[c]⟩).toList
          have : Lib.indexB s ⟨#[c]⟩ = -1 := by
            have : -1 ≤ Lib.indexB s ⟨#[c]⟩ := hg
            omega
          rw [Lib.countB_miss _ _ this] at hk; omega
        · obtain ⟨i, hi⟩ : ∃ i : Nat, Lib.indexB s ⟨#[c]⟩ = i := ⟨(Lib.indexB s ⟨#[c]⟩).toNat, by omega⟩
          have hc := Lib.countB_hit s ⟨#[c]⟩ i (Nat.le_refl 1) hi
          rw [Lib.splitB_hit _ _ _ _ i hi, List.length_cons, ih _ (by omega)]
    exact key _ s rfl
  refine ⟨_, hsp, by rw [hlen], ?_, (Below.refl _ _).alloc (Nat.le_refl _) _⟩
  have := reads_newV w ((Lib.splitB ⟨#[c]⟩ 0 (Lib.countB s ⟨#[c]⟩) s).map Value.string) 9
  rwa [List.length_map] at this
theorem cut_any (s : ByteArray) (c : UInt8) (w : World) (hT : TxV w) (hs : s.size ≤ 1000000) :
    Calls Tryz.prog 125 #[.string s, .string ⟨#[c]⟩] w fun e w' => ∃ (a r : ByteArray) (b : Bool), Cutd c s.data.toList a.data.toList r.data.toList b ∧ e = .returned (.tuple #[.string a, .string r, .bool b]) ∧ Below w.heap.size w w' := by
  obtain ⟨m, hm⟩ := hT.mx
  refine (Tryz.strings_Cut s ⟨#[c]⟩ m w (by omega) hm).mono ?_
  rintro e w' ⟨rfl, n, rfl⟩
  exact ⟨_, _, _, by simpa using cut_is c s.data.toList, rfl, below_drewN (Below.refl _ _) n⟩
theorem trim_any (s p : ByteArray) (w : World) : Calls Tryz.prog 157 #[.string s, .string p] w fun e w' => e = .returned (.string ⟨(Lib.trimPrefix s.data.toList p.data.toList).toArray⟩) ∧ w = w' :=
  (Tryz.strings_TrimPrefix s p w).mono fun _ _ ⟨h1, h2⟩ => ⟨h1, h2.symm⟩
/-! ### Atoi of a word -/
/-- What Atoi says of a word: what is read, whether it is an error. -/
structure Word (s : ByteArray) (v : Int) (e : Bool) : Prop where
  call : ∀ W, TxV W → Calls Tryz.prog 156 #[.string s] W fun r W' => (if e then ∃ N, r = .returned (.tuple #[.int .i64 v, .iface 250 (.pointer (some ⟨N, 0, none⟩))]) else r = .returned (.tuple #[.int .i64 v, .nilIface])) ∧ Below W.heap.size W W'
  good : e = false → (-9223372036854775808 ≤ v ∧ v ≤ 9223372036854775807) ∧ ((snum s.data.toList).isSome = (decide (itoaB v = s) && decide ((Lib.trimPrefix s.data.toList [45]).length ≤ 9)))
  bad : e = true → snum s.data.toList = none
  val : ∀ x, snum s.data.toList = some x → v = x
theorem word_of (s : ByteArray) (hs : s.size ≤ 1000000) : ∃ v e, Word s v e := by
  rcases hat : Lib.atoiAll s.data.toList with v | _ | _
  · have hvb := Lib.atoiAll_bounds hat
    have hval : ∀ x, snum s.data.toList = some x → v = x := fun x hx => by
      have h1 := atoi_snum hx
      rw [hat] at h1
      injection h1
    refine ⟨v, false, ⟨fun W _ => ?_, fun _ => ⟨hvb, ?_⟩, fun h => (by cases h), hval⟩⟩
    · refine (Tryz.strconv_Atoi_ok s (by omega) v hat W).mono ?_
      rintro e w' ⟨rfl, rfl | ⟨t, rfl⟩⟩
      · exact ⟨rfl, Below.refl _ _⟩
      · exact ⟨rfl, Lib.bytesWorld_below _ _ _⟩
    · cases hn : snum s.data.toList with
      | some x =>
        obtain rfl := hval x hn
        have h1 := snum_itoa hn
        have h2 := snum_trim hn
        rw [decide_eq_true ((itoaB_eq v s).2 h1), decide_eq_true h2]; rfl
      | none =>
        by_cases h1 : Lib.itoa v = s.data.toList
        · by_cases h2 : (Lib.trimPrefix s.data.toList [45]).length ≤ 9
          · have := atoi_sback h1 h2
            rw [hn] at this; cases this
          · rw [decide_eq_false h2]; simp
        · rw [decide_eq_false fun q => h1 ((itoaB_eq v s).1 q)]; rfl
  · have hn : snum s.data.toList = none := by
      cases hn : snum s.data.toList with
      | none => rfl
      | some m => rw [atoi_snum hn] at hat; cases hat
    refine ⟨0, true, ⟨fun W hW => ?_, fun h => (by cases h), fun _ => hn, fun x hx => (by rw [hn] at hx; cases hx)⟩⟩
    obtain ⟨te, pe, hev⟩ := hW.es
    refine (Tryz.strconv_Atoi_syntax s (by omega) hat _ W hev (.inr ⟨te, pe, rfl⟩)).mono ?_
    rintro e w' ⟨N, rfl, _, _, hb⟩
    exact ⟨⟨N, rfl⟩, hb⟩
  · have hn : snum s.data.toList = none := by
      cases hn : snum s.data.toList with
      | none => rfl
      | some m => rw [atoi_snum hn] at hat; cases hat
    refine ⟨Lib.atoiSat s.data.toList, true, ⟨fun W hW => ?_, fun h => (by cases h), fun _ => hn, fun x hx => (by rw [hn] at hx; cases hx)⟩⟩
    obtain ⟨te, pe, hev⟩ := hW.er
    refine (Tryz.strconv_Atoi_range s (by omega) hat _ W hev (.inr ⟨te, pe, rfl⟩)).mono ?_
    rintro e w' ⟨N, rfl, _, _, hb⟩
    exact ⟨⟨N, rfl⟩, hb⟩
end Go.Proofs.YtcihiglpahhboaaGreatDoor
