/- The program's integer, and its taker of integers from words. -/
import Derived.Test.YtpcmflfinlkeiaaGreatDoorSInt
import Derived.Test.YtpcmflfinlkeiaaGreatDoorBaseA
import Derived.Test.YtpcmflfinlkeiaaGreatDoorSplitD
namespace Go.Proofs.YtpcmflfinlkeiaaGreatDoor
open Go.RowKit Go.Shelf
set_option maxRecDepth 100000
def dat (s : ByteArray) : List UInt8 := s.data.toList
theorem trim_len (s p : ByteArray) (w : World) : Calls Tryz.prog 94 #[.string s, .string p] w fun e w' => ∃ Z : ByteArray, e = .returned (.string Z) ∧ Z.size = (Lib.trimPrefix s.data.toList p.data.toList).length ∧ w = w' :=
  (trim_any s p w).mono fun _ _ ⟨h1, h2⟩ => ⟨_, h1, by show (Lib.trimPrefix s.data.toList p.data.toList).toArray.size = _; simp, h2⟩
set_option maxHeartbeats 2000000 in
theorem integer_fix (s : ByteArray) (hs : s.size ≤ 1000000) : ∃ v : Int, (∀ x, snum s.data.toList = some x → v = x) ∧ ∀ w, TxV w →
    Calls Tryz.prog 80 #[.string s] w fun e w' => e = .returned (.tuple #[.int .i64 v, .bool (snum s.data.toList).isSome]) ∧ Below w.heap.size w w' := by
  obtain ⟨v, E, hw⟩ := word_of s hs
  obtain ⟨r, hr⟩ : ∃ r, (snum s.data.toList).isSome = r := ⟨_, rfl⟩
  have HW := hide hw
  refine ⟨v, hw.val, fun w hT => ?_⟩
  rw [hr]
  cases E with
  | true =>
    have hr0 : r = false := by rw [← hr, hw.bad rfl]; rfl
    subst hr0
    clear hw hr
    go_enter Tryz.func80, Tryz.ntmps80
    go_wp2_with fail
    refine (HW.out.call _ hT).mono ?_
    rintro e w1 ⟨he, hb1⟩
    simp only [if_true] at he
    obtain ⟨N, rfl⟩ := he
    go_wp2_with fail
    go_ret2
    exact ⟨rfl, hb1⟩
  | false =>
    obtain ⟨hvb, hg⟩ := hw.good rfl
    rw [hr] at hg
    by_cases h1 : itoaB v = s
    · have t1 : ((itoaB v).toList == s.toList) = true := by rw [toList_beqA]; exact decide_eq_true h1
      by_cases h2 : (Lib.trimPrefix s.data.toList [45]).length ≤ 9
      · have hr0 : r = true := by rw [hg, decide_eq_true h1, decide_eq_true h2]; rfl
        subst hr0
        have H2 := hide h2
        clear hw hr hg h1 h2
        go_enter Tryz.func80, Tryz.ntmps80
        go_wp2_with fail
        refine (HW.out.call _ hT).mono ?_
        rintro e w1 ⟨he, hb1⟩
        simp only [Bool.false_eq_true, if_false] at he
        subst he
        go_wp2_with fail
        refine (itoa_any v _ (hT.carry hb1).ten hvb.1 hvb.2).mono ?_
        rintro e w2 ⟨rfl, hb2⟩
        go_wp2_with fail
        refine (trim_len s ⟨#[45]⟩ _).mono ?_
        rintro e w3 ⟨Z, rfl, hZ, rfl⟩
        have t9 : decide ((Z.size : Int) ≤ 9) = true := decide_eq_true (by have h1 := H2.out; have h2 : Z.size = (Lib.trimPrefix s.data.toList [45]).length := hZ; omega)
        have t9' : (Z.size : Int) ≤ 9 := of_decide_eq_true t9
        clear hZ
        go_wp2_with fail
        go_ret2
        exact ⟨rfl, below_nx hb1 hb2⟩
      · have hr0 : r = false := by rw [hg, decide_eq_false h2]; simp
        subst hr0
        have H2 := hide h2
        clear hw hr hg h1 h2
        go_enter Tryz.func80, Tryz.ntmps80
        go_wp2_with fail
        refine (HW.out.call _ hT).mono ?_
        rintro e w1 ⟨he, hb1⟩
        simp only [Bool.false_eq_true, if_false] at he
        subst he
        go_wp2_with fail
        refine (itoa_any v _ (hT.carry hb1).ten hvb.1 hvb.2).mono ?_
        rintro e w2 ⟨rfl, hb2⟩
        go_wp2_with fail
        refine (trim_len s ⟨#[45]⟩ _).mono ?_
        rintro e w3 ⟨Z, rfl, hZ, rfl⟩
        have t9 : decide ((Z.size : Int) ≤ 9) = false := decide_eq_false (by have h1 := H2.out; have h2 : Z.size = (Lib.trimPrefix s.data.toList [45]).length := hZ; omega)
        have t9' : ¬ (Z.size : Int) ≤ 9 := of_decide_eq_false t9
        clear hZ
        go_wp2_with fail
        go_ret2
        exact ⟨rfl, below_nx hb1 hb2⟩
    · have t1 : ((itoaB v).toList == s.toList) = false := by rw [toList_beqA]; exact decide_eq_false h1
      have hr0 : r = false := by rw [hg, decide_eq_false h1]; rfl
      subst hr0
      clear hw hr hg h1
      go_enter Tryz.func80, Tryz.ntmps80
      go_wp2_with fail
      refine (HW.out.call _ hT).mono ?_
      rintro e w1 ⟨he, hb1⟩
      simp only [Bool.false_eq_true, if_false] at he
      subst he
      go_wp2_with fail
      refine (itoa_any v _ (hT.carry hb1).ten hvb.1 hvb.2).mono ?_
      rintro e w2 ⟨rfl, hb2⟩
      go_wp2_with fail
      go_ret2
      exact ⟨rfl, below_nx hb1 hb2⟩
/-- The function that reads a word. -/
def readF : Value := .func (.func 80) #[] #[]
/-- What a taking gives: a number, the words that are left, whether one was wrong. -/
def TkPost (b : Nat) (s : ByteArray) (r : List ByteArray) (q : Bool) (w : World) (e : Ending) (w' : World) : Prop :=
  ∃ v A', e = .returned (.int .i64 v) ∧ (∀ x, snum s.data.toList = some x → v = x) ∧ Apart b w w' ∧ Reads w' b 1 A' r.length (strs r) ∧
    Blk w' b 144 #[readF, .slice A' r.length r.length, .bool (q || !(snum s.data.toList).isSome)]
set_option maxHeartbeats 2000000 in
theorem taken_one (b _n : Nat) (ad : Addr) (q : Bool) (s : ByteArray) (w0 w : World) (hT : TxV w0) (hb0 : Below w0.heap.size w0 w)  (hk : Blk w b 144 #[readF, .slice (some ad) (1) (1), .bool q]) (hcell : w.cell? ad = some (.string s)) (hadb : ad.block < b) (hs : s.size ≤ 1000000) :
    Calls Tryz.prog 82 #[.pointer (some ⟨b, 0, none⟩)] w fun e w' => ∃ v, e = .returned (.int .i64 v) ∧ (∀ x, snum s.data.toList = some x → v = x) ∧ Apart b w w' ∧ Blk w' b 144 #[readF, .slice (some ad) 0 0, .bool (q || !(snum s.data.toList).isSome)] := by
  have z0 : ad.add 0 = ad := by unfold Addr.add; rfl
  obtain ⟨v, hv, hw⟩ := integer_fix s hs
  obtain ⟨r, hr⟩ : ∃ r, (snum s.data.toList).isSome = r := ⟨_, rfl⟩
  rw [hr] at hw ⊢
  have HW := hide hw
  have HV := hide hv
  have hbl : ad.block < w.heap.size := Nat.lt_trans hadb hk.lt
  have c0 := over_blk (B := w.heap.size) hk hk.lt
  have ca : ∀ x, (over w.heap.size w x).cell? ad = some (.string s) := fun x => ((over_below w.heap.size w x).cell (p := ad) hbl).trans hcell
  have hTx : ∀ x, TxV (over w.heap.size w x) := fun x => hT.carry (hb0.trans ((over_below w.heap.size w x).mono hb0.size))
  have HTX := hide hTx
  clear hv hw hr hcell hTx
  unfold readF at c0
  go_enter Tryz.func82, Tryz.ntmps82
  go_upto_region 1 with (fail)
  refine wp_region_over w.heap.size (by kernel_rfl) (by kernel_rfl) ?_; (repeat (first | go_big_quiet_step ((go_at_call 80; exact over_call (Nat.le_refl _) (HW.out _ (HTX.out _)))) | quiet_step ((go_at_call 80; exact over_call (Nat.le_refl _) (HW.out _ (HTX.out _)))))); refine wpQuiet_nil ?_; rintro W ⟨x, rfl⟩
  have hbY := over_below w.heap.size w x
  generalize over w.heap.size w x = Y at hbY ⊢
  have kY := carryB hk hbY
  have aY := (Apart.refl b w).below hbY
  have c1 := kY.cell
  have f1 := kY.frozen
  unfold readF at c1
  clear c0 ca hk hbY
  go_upto_region 3 with (fail)
  have kZ : Blk _ b 144 #[readF, .slice (some ad) 0 0, .bool q] := kY.set_ 1 (.slice (some ad) 0 0)
  have aZ := aY.set_ 1 (.slice (some ad) 0 0)
  generalize World.setCell Y _ _ = Z at kZ aZ ⊢
  have c2 := kZ.cell
  have f2 := kZ.frozen
  unfold readF at c2
  clear c1 f1 kY aY
  cases q <;> cases r
  all_goals
    go_wp2_with fail
    go_ret
    exact ⟨v, rfl, HV.out, aZ.set_ 2 _, by simpa using kZ.set_ 2 _⟩
set_option maxHeartbeats 2000000 in
theorem taken_more (b n : Nat) (ad : Addr) (q : Bool) (s : ByteArray) (w0 w : World) (hT : TxV w0) (hb0 : Below w0.heap.size w0 w) (hn : 1 < n) (hk : Blk w b 144 #[readF, .slice (some ad) (n) (n), .bool q]) (hcell : w.cell? ad = some (.string s)) (hadb : ad.block < b) (hs : s.size ≤ 1000000) :
    Calls Tryz.prog 82 #[.pointer (some ⟨b, 0, none⟩)] w fun e w' => ∃ v, e = .returned (.int .i64 v) ∧ (∀ x, snum s.data.toList = some x → v = x) ∧ Apart b w w' ∧ Blk w' b 144 #[readF, .slice (some ⟨ad.block, ad.off + 1, none⟩) (n - 1) (n - 1), .bool (q || !(snum s.data.toList).isSome)] := by
  have z0 : ad.add 0 = ad := by unfold Addr.add; rfl
  obtain ⟨v, hv, hw⟩ := integer_fix s hs
  obtain ⟨r, hr⟩ : ∃ r, (snum s.data.toList).isSome = r := ⟨_, rfl⟩
  rw [hr] at hw ⊢
  have HW := hide hw
  have HV := hide hv
  have hbl : ad.block < w.heap.size := Nat.lt_trans hadb hk.lt
  have c0 := over_blk (B := w.heap.size) hk hk.lt
  have ca : ∀ x, (over w.heap.size w x).cell? ad = some (.string s) := fun x => ((over_below w.heap.size w x).cell (p := ad) hbl).trans hcell
  have hTx : ∀ x, TxV (over w.heap.size w x) := fun x => hT.carry (hb0.trans ((over_below w.heap.size w x).mono hb0.size))
  have HTX := hide hTx
  clear hv hw hr hcell hTx
  unfold readF at c0
  go_enter Tryz.func82, Tryz.ntmps82
  go_upto_region 1 with (fail)
  refine wp_region_over w.heap.size (by kernel_rfl) (by kernel_rfl) ?_; (repeat (first | go_big_quiet_step ((go_at_call 80; exact over_call (Nat.le_refl _) (HW.out _ (HTX.out _)))) | quiet_step ((go_at_call 80; exact over_call (Nat.le_refl _) (HW.out _ (HTX.out _)))))); refine wpQuiet_nil ?_; rintro W ⟨x, rfl⟩
  have hbY := over_below w.heap.size w x
  generalize over w.heap.size w x = Y at hbY ⊢
  have kY := carryB hk hbY
  have aY := (Apart.refl b w).below hbY
  have c1 := kY.cell
  have f1 := kY.frozen
  unfold readF at c1
  clear c0 ca hk hbY
  go_upto_region 3 with (fail)
  have kZ : Blk _ b 144 #[readF, .slice (some ⟨ad.block, ad.off + 1, none⟩) (n - 1) (n - 1), .bool q] := kY.set_ 1 (.slice (some ⟨ad.block, ad.off + 1, none⟩) (n - 1) (n - 1))
  have aZ := aY.set_ 1 (.slice (some ⟨ad.block, ad.off + 1, none⟩) (n - 1) (n - 1))
  generalize World.setCell Y _ _ = Z at kZ aZ ⊢
  have c2 := kZ.cell
  have f2 := kZ.frozen
  unfold readF at c2
  clear c1 f1 kY aY
  cases q <;> cases r
  all_goals
    go_wp2_with fail
    go_ret
    exact ⟨v, rfl, HV.out, aZ.set_ 2 _, by simpa using kZ.set_ 2 _⟩
theorem taken_any (b : Nat) (A : Option Addr) (s : ByteArray) (r : List ByteArray) (q : Bool) (w0 w : World) (hT : TxV w0) (hb0 : Below w0.heap.size w0 w) (hk : Blk w b 144 #[readF, .slice A (s :: r).length (s :: r).length, .bool q]) (hR : Reads w b 1 A (s :: r).length (strs (s :: r))) (hs : s.size ≤ 1000000) :
    Calls Tryz.prog 82 #[.pointer (some ⟨b, 0, none⟩)] w (TkPost b s r q w) := by
  have hbw : b ≤ w.heap.size := Nat.le_of_lt hk.lt
  obtain ⟨ad, rfl, hadb, hcs⟩ := hR.2 (by simp)
  have z0 : ad.add 0 = ad := by unfold Addr.add; rfl
  have hcell : w.cell? ad = some (.string s) := by have := hcs 0 (.string s) rfl; rwa [z0] at this
  have hcut := hR.cut (k := 1) (cap := (s :: r).length) (by simp) (Nat.le_refl _)
  by_cases hr : r = []
  · subst hr
    refine (taken_one b 1 ad q s w0 w hT hb0 hk hcell hadb hs).mono ?_
    rintro e w' ⟨v, rfl, hv, ha, hk'⟩
    exact ⟨v, some ad, rfl, hv, ha, ha.reads hbw hcut, hk'⟩
  · have hl : 1 < (s :: r).length := by
      have : r.length ≠ 0 := fun e => hr (List.eq_nil_of_length_eq_zero e)
      simp; omega
    refine (taken_more b (s :: r).length ad q s w0 w hT hb0 hl hk hcell hadb hs).mono ?_
    rintro e w' ⟨v, rfl, hv, ha, hk'⟩
    rw [if_neg (by omega)] at hcut
    rw [add_off ad 1 (by decide)] at hk'
    exact ⟨v, some (ad.add 1), rfl, hv, ha, ha.reads hbw hcut, hk'⟩
end Go.Proofs.YtpcmflfinlkeiaaGreatDoor
