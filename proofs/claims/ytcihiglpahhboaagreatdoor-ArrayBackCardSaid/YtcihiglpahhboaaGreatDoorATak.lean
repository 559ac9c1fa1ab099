/- The program's taker of integers from words. -/
import Derived.Test.YtcihiglpahhboaaGreatDoorAInt
namespace Go.Proofs.YtcihiglpahhboaaGreatDoor
open Go.RowKit Go.Shelf
set_option maxRecDepth 100000
def dat (s : ByteArray) : List UInt8 := s.data.toList
theorem trim_len (s p : ByteArray) (w : World) : Calls Tryz.prog 157 #[.string s, .string p] w fun e w' => ∃ Z : ByteArray, e = .returned (.string Z) ∧ Z.size = (Lib.trimPrefix s.data.toList p.data.toList).length ∧ w = w' :=
  (trim_any s p w).mono fun _ _ ⟨h1, h2⟩ => ⟨_, h1, by show (Lib.trimPrefix s.data.toList p.data.toList).toArray.size = _; simp, h2⟩
/-- What a taking gives: a number, the words that are left, whether one was wrong. -/
def TkPost (b : Nat) (ws : List ByteArray) (q : Bool) (w : World) (e : Ending) (w' : World) : Prop :=
  ∃ v A', e = .returned (.int .i64 v) ∧ (∀ x, hd (ws.map dat) = some x → v = x) ∧ Apart b w w' ∧ Reads w' b 1 A' ws.tail.length (strs ws.tail) ∧
    Blk w' b 199 #[.slice A' ws.tail.length ws.tail.length, .bool (q || !(hd (ws.map dat)).isSome)]
set_option maxHeartbeats 2000000 in
theorem taken_one (b _n : Nat) (ad : Addr) (q : Bool) (s : ByteArray) (w0 w : World) (hT : TxV w0) (hb0 : Below w0.heap.size w0 w) (hB : w0.heap.size ≤ b)  (hk : Blk w b 199 #[.slice (some ad) (1) (1), .bool q]) (hcell : w.cell? ad = some (.string s)) (hs : s.size ≤ 1000000) :
    Calls Tryz.prog 144 #[.pointer (some ⟨b, 0, none⟩)] w fun e w' => ∃ v, e = .returned (.int .i64 v) ∧ (∀ x, snum s.data.toList = some x → v = x) ∧ Apart b w w' ∧ Blk w' b 199 #[.slice (some ad) 0 0, .bool (q || !(snum s.data.toList).isSome)] := by
  have z0 : ad.add 0 = ad := by unfold Addr.add; rfl
  obtain ⟨v, E, hw⟩ := word_of s hs
  obtain ⟨r, hr⟩ : ∃ r, (snum s.data.toList).isSome = r := ⟨_, rfl⟩
  have HW := hide hw
  have HV := hide hw.val
  rw [hr]
  cases E with
  | true =>
    have hr0 : r = false := by rw [← hr, hw.bad rfl]; rfl
    subst hr0
    clear hw hr
    have c0 := hk.cell
    have f0 := hk.frozen
    go_enter Tryz.func144, Tryz.ntmps144
    go_wp2_with fail
    have kA : Blk _ b 199 #[.slice (some ad) 0 0, .bool q] := hk.set_ 0 (.slice (some ad) 0 0)
    have aA := (Apart.refl b w).set_ 0 (.slice (some ad) 0 0)
    have bA := below_set (i := 0) hb0 hB (.slice (some ad) 0 0)
    have hTA := hT.carry bA
    generalize World.setCell w _ _ = wA at kA aA bA hTA ⊢
    clear c0 f0 hcell hk
    refine (HW.out.call _ hTA).mono ?_
    rintro e w1 ⟨he, hb1⟩
    simp only [if_true] at he
    obtain ⟨N, rfl⟩ := he
    have kT := carryK kA hb1
    have c1 := kT.cell
    have f1 := kT.frozen
    clear kA
    go_wp2_with fail
    go_ret
    exact ⟨v, rfl, HV.out, (aA.below hb1).set_ 1 _, by simpa using kT.set_ 1 (.bool true)⟩
  | false =>
    obtain ⟨hvb, hg⟩ := hw.good rfl
    rw [hr] at hg
    by_cases h1 : itoaB v = s
    · have t1 : ((itoaB v).toList == s.toList) = true := by rw [toList_beqA]; exact decide_eq_true h1
      by_cases h2 : (Lib.trimPrefix s.data.toList [45]).length ≤ 9
      · have hr0 : r = true := by rw [hg, decide_eq_true h1, decide_eq_true h2]; rfl
        subst hr0
        have H2 := hide h2
        clear hw hr hg h1 h2
        have c0 := hk.cell
        have f0 := hk.frozen
        go_enter Tryz.func144, Tryz.ntmps144
        go_wp2_with fail
        have kA : Blk _ b 199 #[.slice (some ad) 0 0, .bool q] := hk.set_ 0 (.slice (some ad) 0 0)
        have aA := (Apart.refl b w).set_ 0 (.slice (some ad) 0 0)
        have bA := below_set (i := 0) hb0 hB (.slice (some ad) 0 0)
        have hTA := hT.carry bA
        generalize World.setCell w _ _ = wA at kA aA bA hTA ⊢
        clear c0 f0 hcell hk
        refine (HW.out.call _ hTA).mono ?_
        rintro e w1 ⟨he, hb1⟩
        simp only [Bool.false_eq_true, if_false] at he
        subst he
        go_wp2_with fail
        refine (itoa_any v _ (hTA.carry hb1).ten hvb.1 hvb.2).mono ?_
        rintro e w2 ⟨rfl, hb2⟩
        go_wp2_with fail
        refine (trim_len s ⟨#[45]⟩ _).mono ?_
        rintro e w3 ⟨Z, rfl, hZ, rfl⟩
        have t9 : decide ((9 : Int) < (Z.size : Int)) = false := decide_eq_false (by have h1 := H2.out; have h2 : Z.size = (Lib.trimPrefix s.data.toList [45]).length := hZ; omega)
        clear hZ
        go_wp2_with fail
        go_ret
        exact ⟨v, rfl, HV.out, (aA.below hb1).below hb2, by simpa using carryK (carryK kA hb1) hb2⟩
      · have hr0 : r = false := by rw [hg, decide_eq_false h2]; simp
        subst hr0
        have H2 := hide h2
        clear hw hr hg h1 h2
        have c0 := hk.cell
        have f0 := hk.frozen
        go_enter Tryz.func144, Tryz.ntmps144
        go_wp2_with fail
        have kA : Blk _ b 199 #[.slice (some ad) 0 0, .bool q] := hk.set_ 0 (.slice (some ad) 0 0)
        have aA := (Apart.refl b w).set_ 0 (.slice (some ad) 0 0)
        have bA := below_set (i := 0) hb0 hB (.slice (some ad) 0 0)
        have hTA := hT.carry bA
        generalize World.setCell w _ _ = wA at kA aA bA hTA ⊢
        clear c0 f0 hcell hk
        refine (HW.out.call _ hTA).mono ?_
        rintro e w1 ⟨he, hb1⟩
        simp only [Bool.false_eq_true, if_false] at he
        subst he
        go_wp2_with fail
        refine (itoa_any v _ (hTA.carry hb1).ten hvb.1 hvb.2).mono ?_
        rintro e w2 ⟨rfl, hb2⟩
        go_wp2_with fail
        refine (trim_len s ⟨#[45]⟩ _).mono ?_
        rintro e w3 ⟨Z, rfl, hZ, rfl⟩
        have t9 : decide ((9 : Int) < (Z.size : Int)) = true := decide_eq_true (by have h1 := H2.out; have h2 : Z.size = (Lib.trimPrefix s.data.toList [45]).length := hZ; omega)
        clear hZ
        have kT := carryK kA (below_next hb1 hb2)
        have c1 := kT.cell
        have f1 := kT.frozen
        clear kA
        go_wp2_with fail
        go_ret
        exact ⟨v, rfl, HV.out, (aA.below (below_next hb1 hb2)).set_ 1 _, by simpa using kT.set_ 1 (.bool true)⟩
    · have t1 : ((itoaB v).toList == s.toList) = false := by rw [toList_beqA]; exact decide_eq_false h1
      have hr0 : r = false := by rw [hg, decide_eq_false h1]; rfl
      subst hr0
      clear hw hr hg h1
      have c0 := hk.cell
      have f0 := hk.frozen
      go_enter Tryz.func144, Tryz.ntmps144
      go_wp2_with fail
      have kA : Blk _ b 199 #[.slice (some ad) 0 0, .bool q] := hk.set_ 0 (.slice (some ad) 0 0)
      have aA := (Apart.refl b w).set_ 0 (.slice (some ad) 0 0)
      have bA := below_set (i := 0) hb0 hB (.slice (some ad) 0 0)
      have hTA := hT.carry bA
      generalize World.setCell w _ _ = wA at kA aA bA hTA ⊢
      clear c0 f0 hcell hk
      refine (HW.out.call _ hTA).mono ?_
      rintro e w1 ⟨he, hb1⟩
      simp only [Bool.false_eq_true, if_false] at he
      subst he
      go_wp2_with fail
      refine (itoa_any v _ (hTA.carry hb1).ten hvb.1 hvb.2).mono ?_
      rintro e w2 ⟨rfl, hb2⟩
      have kT := carryK kA (below_next hb1 hb2)
      have c1 := kT.cell
      have f1 := kT.frozen
      clear kA
      go_wp2_with fail
      go_ret
      exact ⟨v, rfl, HV.out, (aA.below (below_next hb1 hb2)).set_ 1 _, by simpa using kT.set_ 1 (.bool true)⟩
set_option maxHeartbeats 2000000 in
theorem taken_more (b n : Nat) (ad : Addr) (q : Bool) (s : ByteArray) (w0 w : World) (hT : TxV w0) (hb0 : Below w0.heap.size w0 w) (hB : w0.heap.size ≤ b) (hn : 1 < n) (hk : Blk w b 199 #[.slice (some ad) (n) (n), .bool q]) (hcell : w.cell? ad = some (.string s)) (hs : s.size ≤ 1000000) :
    Calls Tryz.prog 144 #[.pointer (some ⟨b, 0, none⟩)] w fun e w' => ∃ v, e = .returned (.int .i64 v) ∧ (∀ x, snum s.data.toList = some x → v = x) ∧ Apart b w w' ∧ Blk w' b 199 #[.slice (some ⟨ad.block, ad.off + 1, none⟩) (n - 1) (n - 1), .bool (q || !(snum s.data.toList).isSome)] := by
  have z0 : ad.add 0 = ad := by unfold Addr.add; rfl
  obtain ⟨v, E, hw⟩ := word_of s hs
  obtain ⟨r, hr⟩ : ∃ r, (snum s.data.toList).isSome = r := ⟨_, rfl⟩
  have HW := hide hw
  have HV := hide hw.val
  rw [hr]
  cases E with
  | true =>
    have hr0 : r = false := by rw [← hr, hw.bad rfl]; rfl
    subst hr0
    clear hw hr
    have c0 := hk.cell
    have f0 := hk.frozen
    go_enter Tryz.func144, Tryz.ntmps144
    go_wp2_with fail
    have kA : Blk _ b 199 #[.slice (some ⟨ad.block, ad.off + 1, none⟩) (n - 1) (n - 1), .bool q] := hk.set_ 0 (.slice (some ⟨ad.block, ad.off + 1, none⟩) (n - 1) (n - 1))
    have aA := (Apart.refl b w).set_ 0 (.slice (some ⟨ad.block, ad.off + 1, none⟩) (n - 1) (n - 1))
    have bA := below_set (i := 0) hb0 hB (.slice (some ⟨ad.block, ad.off + 1, none⟩) (n - 1) (n - 1))
    have hTA := hT.carry bA
    generalize World.setCell w _ _ = wA at kA aA bA hTA ⊢
    clear c0 f0 hcell hk
    refine (HW.out.call _ hTA).mono ?_
    rintro e w1 ⟨he, hb1⟩
    simp only [if_true] at he
    obtain ⟨N, rfl⟩ := he
    have kT := carryK kA hb1
    have c1 := kT.cell
    have f1 := kT.frozen
    clear kA
    go_wp2_with fail
    go_ret
    exact ⟨v, rfl, HV.out, (aA.below hb1).set_ 1 _, by simpa using kT.set_ 1 (.bool true)⟩
  | false =>
    obtain ⟨hvb, hg⟩ := hw.good rfl
    rw [hr] at hg
    by_cases h1 : itoaB v = s
    · have t1 : ((itoaB v).toList == s.toList) = true := by rw [toList_beqA]; exact decide_eq_true h1
      by_cases h2 : (Lib.trimPrefix s.data.toList [45]).length ≤ 9
      · have hr0 : r = true := by rw [hg, decide_eq_true h1, decide_eq_true h2]; rfl
        subst hr0
        have H2 := hide h2
        clear hw hr hg h1 h2
        have c0 := hk.cell
        have f0 := hk.frozen
        go_enter Tryz.func144, Tryz.ntmps144
        go_wp2_with fail
        have kA : Blk _ b 199 #[.slice (some ⟨ad.block, ad.off + 1, none⟩) (n - 1) (n - 1), .bool q] := hk.set_ 0 (.slice (some ⟨ad.block, ad.off + 1, none⟩) (n - 1) (n - 1))
        have aA := (Apart.refl b w).set_ 0 (.slice (some ⟨ad.block, ad.off + 1, none⟩) (n - 1) (n - 1))
        have bA := below_set (i := 0) hb0 hB (.slice (some ⟨ad.block, ad.off + 1, none⟩) (n - 1) (n - 1))
        have hTA := hT.carry bA
        generalize World.setCell w _ _ = wA at kA aA bA hTA ⊢
        clear c0 f0 hcell hk
        refine (HW.out.call _ hTA).mono ?_
        rintro e w1 ⟨he, hb1⟩
        simp only [Bool.false_eq_true, if_false] at he
        subst he
        go_wp2_with fail
        refine (itoa_any v _ (hTA.carry hb1).ten hvb.1 hvb.2).mono ?_
        rintro e w2 ⟨rfl, hb2⟩
        go_wp2_with fail
        refine (trim_len s ⟨#[45]⟩ _).mono ?_
        rintro e w3 ⟨Z, rfl, hZ, rfl⟩
        have t9 : decide ((9 : Int) < (Z.size : Int)) = false := decide_eq_false (by have h1 := H2.out; have h2 : Z.size = (Lib.trimPrefix s.data.toList [45]).length := hZ; omega)
        clear hZ
        go_wp2_with fail
        go_ret
        exact ⟨v, rfl, HV.out, (aA.below hb1).below hb2, by simpa using carryK (carryK kA hb1) hb2⟩
      · have hr0 : r = false := by rw [hg, decide_eq_false h2]; simp
        subst hr0
        have H2 := hide h2
        clear hw hr hg h1 h2
        have c0 := hk.cell
        have f0 := hk.frozen
        go_enter Tryz.func144, Tryz.ntmps144
        go_wp2_with fail
        have kA : Blk _ b 199 #[.slice (some ⟨ad.block, ad.off + 1, none⟩) (n - 1) (n - 1), .bool q] := hk.set_ 0 (.slice (some ⟨ad.block, ad.off + 1, none⟩) (n - 1) (n - 1))
        have aA := (Apart.refl b w).set_ 0 (.slice (some ⟨ad.block, ad.off + 1, none⟩) (n - 1) (n - 1))
        have bA := below_set (i := 0) hb0 hB (.slice (some ⟨ad.block, ad.off + 1, none⟩) (n - 1) (n - 1))
        have hTA := hT.carry bA
        generalize World.setCell w _ _ = wA at kA aA bA hTA ⊢
        clear c0 f0 hcell hk
        refine (HW.out.call _ hTA).mono ?_
        rintro e w1 ⟨he, hb1⟩
        simp only [Bool.false_eq_true, if_false] at he
        subst he
        go_wp2_with fail
        refine (itoa_any v _ (hTA.carry hb1).ten hvb.1 hvb.2).mono ?_
        rintro e w2 ⟨rfl, hb2⟩
        go_wp2_with fail
        refine (trim_len s ⟨#[45]⟩ _).mono ?_
        rintro e w3 ⟨Z, rfl, hZ, rfl⟩
        have t9 : decide ((9 : Int) < (Z.size : Int)) = true := decide_eq_true (by have h1 := H2.out; have h2 : Z.size = (Lib.trimPrefix s.data.toList [45]).length := hZ; omega)
        clear hZ
        have kT := carryK kA (below_next hb1 hb2)
        have c1 := kT.cell
        have f1 := kT.frozen
        clear kA
        go_wp2_with fail
        go_ret
        exact ⟨v, rfl, HV.out, (aA.below (below_next hb1 hb2)).set_ 1 _, by simpa using kT.set_ 1 (.bool true)⟩
    · have t1 : ((itoaB v).toList == s.toList) = false := by rw [toList_beqA]; exact decide_eq_false h1
      have hr0 : r = false := by rw [hg, decide_eq_false h1]; rfl
      subst hr0
      clear hw hr hg h1
      have c0 := hk.cell
      have f0 := hk.frozen
      go_enter Tryz.func144, Tryz.ntmps144
      go_wp2_with fail
      have kA : Blk _ b 199 #[.slice (some ⟨ad.block, ad.off + 1, none⟩) (n - 1) (n - 1), .bool q] := hk.set_ 0 (.slice (some ⟨ad.block, ad.off + 1, none⟩) (n - 1) (n - 1))
      have aA := (Apart.refl b w).set_ 0 (.slice (some ⟨ad.block, ad.off + 1, none⟩) (n - 1) (n - 1))
      have bA := below_set (i := 0) hb0 hB (.slice (some ⟨ad.block, ad.off + 1, none⟩) (n - 1) (n - 1))
      have hTA := hT.carry bA
      generalize World.setCell w _ _ = wA at kA aA bA hTA ⊢
      clear c0 f0 hcell hk
      refine (HW.out.call _ hTA).mono ?_
      rintro e w1 ⟨he, hb1⟩
      simp only [Bool.false_eq_true, if_false] at he
      subst he
      go_wp2_with fail
      refine (itoa_any v _ (hTA.carry hb1).ten hvb.1 hvb.2).mono ?_
      rintro e w2 ⟨rfl, hb2⟩
      have kT := carryK kA (below_next hb1 hb2)
      have c1 := kT.cell
      have f1 := kT.frozen
      clear kA
      go_wp2_with fail
      go_ret
      exact ⟨v, rfl, HV.out, (aA.below (below_next hb1 hb2)).set_ 1 _, by simpa using kT.set_ 1 (.bool true)⟩
theorem taken_none (b c : Nat) (A : Option Addr) (q : Bool) (w : World) (hk : Blk w b 199 #[.slice A 0 c, .bool q]) :
    Calls Tryz.prog 144 #[.pointer (some ⟨b, 0, none⟩)] w fun e w' => e = .returned (.int .i64 0) ∧ w' = w.setCell ⟨b, 1, none⟩ (.bool true) := by
  have c0 := hk.cell
  have f0 := hk.frozen
  go_enter Tryz.func144, Tryz.ntmps144
  go_wp2_with fail
  go_ret
  exact ⟨rfl, rfl⟩
theorem taken_any (b : Nat) (A : Option Addr) (ws : List ByteArray) (q : Bool) (w0 w : World) (hT : TxV w0) (hb0 : Below w0.heap.size w0 w) (hB : w0.heap.size ≤ b) (hk : Blk w b 199 #[.slice A ws.length ws.length, .bool q]) (hR : Reads w b 1 A ws.length (strs ws)) (hs : ∀ s ∈ ws, s.size ≤ 1000000) :
    Calls Tryz.prog 144 #[.pointer (some ⟨b, 0, none⟩)] w (TkPost b ws q w) := by
  have hbw : b ≤ w.heap.size := Nat.le_of_lt hk.lt
  cases ws with
  | nil =>
    refine (taken_none b 0 A q w hk).mono ?_
    rintro e w' ⟨rfl, rfl⟩
    have hk' : Blk (w.setCell ⟨b, 1, none⟩ (.bool true)) b 199 #[.slice A 0 0, .bool true] := hk.set_ 1 (.bool true)
    refine ⟨0, A, rfl, fun x hx => (by cases hx), (Apart.refl b w).set_ 1 _, ((Apart.refl b w).set_ 1 (.bool true)).reads hbw hR, ?_⟩
    have e : (q || !(hd (([] : List ByteArray).map dat)).isSome) = true := by simp [hd]
    rw [e]
    exact hk'
  | cons s r =>
    obtain ⟨ad, rfl, hadb, hcs⟩ := hR.2 (by simp)
    have z0 : ad.add 0 = ad := by unfold Addr.add; rfl
    have hcell : w.cell? ad = some (.string s) := by have := hcs 0 (.string s) rfl; rwa [z0] at this
    have hcut := hR.cut (k := 1) (cap := (s :: r).length) (by simp) (Nat.le_refl _)
    have hsz := hs s (by simp)
    by_cases hr : r = []
    · subst hr
      refine (taken_one b 1 ad q s w0 w hT hb0 hB hk hcell hsz).mono ?_
      rintro e w' ⟨v, rfl, hv, ha, hk'⟩
      exact ⟨v, some ad, rfl, hv, ha, ha.reads hbw hcut, hk'⟩
    · have hl : 1 < (s :: r).length := by
        have : r.length ≠ 0 := fun e => hr (List.eq_nil_of_length_eq_zero e)
        simp; omega
      refine (taken_more b (s :: r).length ad q s w0 w hT hb0 hB hl hk hcell hsz).mono ?_
      rintro e w' ⟨v, rfl, hv, ha, hk'⟩
      rw [if_neg (by omega)] at hcut
      rw [add_off ad 1 (by decide)] at hk'
      exact ⟨v, some (ad.add 1), rfl, hv, ha, ha.reads hbw hcut, hk'⟩
end Go.Proofs.YtcihiglpahhboaaGreatDoor
