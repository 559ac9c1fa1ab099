/- Plain mathematics: a printed ladder reads back; a ladder that was read prints back. -/
import Derived.Test.YtnndaipnfniciaaGreatDoorNRTxt
import Derived.Test.YtnndaipnfniciaaGreatDoorNParP
namespace Go.Proofs.YtnndaipnfniciaaGreatDoor
open Go
set_option maxRecDepth 100000
theorem join_spl (c : UInt8) : ∀ l : List UInt8, Lib.join (spl c l) [c] = l := by
  intro l
  induction l with
  | nil => simp [spl, Lib.join_one]
  | cons x l ih =>
    obtain ⟨h, t, e⟩ := spl_cons c l
    rw [e, Lib.join_cons] at ih
    by_cases hx : x = c
    · subst hx
      rw [spl_hit, e, Lib.join_cons]
      have : Lib.joinTail [x] (h :: t) = [x] ++ h ++ Lib.joinTail [x] t := by simp [Lib.joinTail]
      rw [this, List.nil_append, List.append_assoc, ih]; rfl
    · rw [spl_miss hx e, Lib.join_cons, List.cons_append, ih]
theorem spl_none {c : UInt8} : ∀ {a : List UInt8}, c ∉ a → spl c a = [a] := by
  intro a
  induction a with
  | nil => intro _; rfl
  | cons x a ih =>
    intro h
    rw [List.mem_cons, not_or] at h
    exact spl_miss (fun e => h.1 e.symm) (ih h.2)
theorem spl_part {c : UInt8} (l : List UInt8) : ∀ {a : List UInt8}, c ∉ a → spl c (a ++ c :: l) = a :: spl c l := by
  intro a
  induction a with
  | nil => intro _; exact spl_hit c l
  | cons x a ih =>
    intro h
    rw [List.mem_cons, not_or] at h
    rw [List.cons_append]
    exact spl_miss (fun e => h.1 e.symm) (ih h.2)
theorem spl_join {c : UInt8} : ∀ ws : List (List UInt8), ws ≠ [] → (∀ w ∈ ws, c ∉ w) → spl c (Lib.join ws [c]) = ws := by
  intro ws
  induction ws with
  | nil => intro h; exact absurd rfl h
  | cons w t ih =>
    intro _ hc
    cases t with
    | nil => rw [Lib.join_one]; exact spl_none (hc w (by simp))
    | cons v t =>
      have h1 := ih (by simp) fun x hx => hc x (List.mem_cons_of_mem _ hx)
      rw [Lib.join_cons]
      have : Lib.joinTail [c] (v :: t) = c :: Lib.join (v :: t) [c] := by rw [Lib.join_cons]; simp [Lib.joinTail]
      rw [this, spl_part _ (hc w (by simp)), h1]
theorem decFrom_dig : ∀ (l : List UInt8) (a m : Nat), Lib.decFrom a l = some m → ∀ x ∈ l, 48 ≤ x.toNat ∧ x.toNat ≤ 57 := by
  intro l
  induction l with
  | nil => intro a m _ x hx; simp at hx
  | cons y l ih =>
    intro a m h x hx
    unfold Lib.decFrom at h
    cases hy : Lib.digitVal y with
    | none => rw [hy] at h; cases h
    | some d =>
      rw [hy] at h
      rcases List.mem_cons.1 hx with rfl | hx
      · obtain ⟨h1, h2, _⟩ := dig_of hy
        omega
      · exact ih _ _ h x hx
theorem dec_no {m : Nat} {c : UInt8} (hc : c.toNat < 48 ∨ 57 < c.toNat) : c ∉ Lib.decDigits m := fun h => by
  have := decFrom_dig _ _ _ (dec_of m).1 c h
  omega
theorem kind_no {x : El} (h : x.Ok) : 58 ∉ x.kind.data.toList ∧ 32 ∉ x.kind.data.toList ∧ x.kind.data.toList ≠ [] ∧ 4 ≤ x.kind.data.toList.length := by
  rcases El.kinds h.kn with e | e | e | e <;> rw [e] <;> decide
/-- The text of a valid element, part by part. -/
theorem txt_parts {x : El} (h : x.Ok) : ∃ a b : Nat, x.a = a ∧ x.b = b ∧ a < 10 ∧ b < 10 ∧ x.txt.data.toList = x.kind.data.toList ++ 58 :: (Lib.decDigits a ++ 58 :: Lib.decDigits b) := by
  have h1 := h.al; have h2 := h.ah; have h3 := h.bl; have h4 := h.bh
  obtain ⟨a, ha⟩ := Int.eq_ofNat_of_zero_le (show 0 ≤ x.a by omega)
  obtain ⟨b, hb⟩ := Int.eq_ofNat_of_zero_le (show 0 ≤ x.b by omega)
  refine ⟨a, b, ha, hb, by omega, by omega, ?_⟩
  have ea := itoaB_nat a
  have eb := itoaB_nat b
  unfold El.txt
  rw [ha, hb]
  simp [ea, eb]
theorem pword_txt {x : El} (h : x.Ok) : pword x.txt.data.toList = some x := by
  obtain ⟨a, b, ha, hb, la, lb, e⟩ := txt_parts h
  obtain ⟨k1, _, k3, _⟩ := kind_no h
  have hs : spl 58 x.txt.data.toList = [x.kind.data.toList, Lib.decDigits a, Lib.decDigits b] := by
    rw [e, spl_part _ k1, spl_part _ (dec_no (.inr (by decide))), spl_none (dec_no (.inr (by decide)))]
  have l1 : ∀ {m : Nat}, m < 10 → num (Lib.decDigits m) = some m := fun hm => num_dec (by rw [Lib.decDigits_one hm]; simp)
  rw [pword_right hs k3 (l1 la) (l1 lb), ← ha, ← hb]
theorem txt_no {x : El} (h : x.Ok) : 32 ∉ x.txt.data.toList := by
  obtain ⟨a, b, _, _, _, _, e⟩ := txt_parts h
  have h2 := (kind_no h).2.1
  rw [e]
  simp only [List.mem_append, List.mem_cons, not_or]
  exact ⟨h2, by decide, dec_no (.inl (by decide)), by decide, dec_no (.inl (by decide))⟩
theorem pword_back {w : List UInt8} {x : El} (h : pword w = some x) : x.txt.data.toList = w := by
  have hj := join_spl 58 w
  unfold pword at h
  split at h
  · rename_i k a b hs
    split at h
    · cases h
    · split at h
      · rename_i p q hp hq
        cases h
        rw [hs] at hj
        rw [← hj]
        have ep := itoaB_nat p
        have eq := itoaB_nat q
        rw [num_digits hp] at ep
        rw [num_digits hq] at eq
        unfold El.txt
        simp [ep, eq, Lib.join_cons, Lib.joinTail]
      · cases h
  · cases h
theorem pws_back : ∀ {ws : List (List UInt8)} {l : List El}, pws ws = some l → (l.map El.txt).map (·.data.toList) = ws := by
  intro ws
  induction ws with
  | nil => intro l h; simp [pws] at h; subst h; rfl
  | cons w t ih =>
    intro l h
    unfold pws at h
    split at h
    · rename_i x l' hx hl
      cases h
      simp only [List.map_cons, List.cons.injEq]
      exact ⟨pword_back hx, ih hl⟩
    · cases h
/-- A ladder that was read is valid, and prints back. -/
theorem prs_back {s : List UInt8} (h : (prs s).2 = 0) : ladErr (prs s).1 = 0 ∧ (ladTxt (prs s).1).data.toList = s := by
  by_cases h1 : 4096 < s.length
  · rw [prs_long h1] at h; cases h
  · by_cases h2 : s = [119, 105, 114, 101]
    · rw [prs_wire h2]; subst h2; exact ⟨by decide, by decide⟩
    · cases h3 : pws (spl 32 s) with
      | none => rw [prs_bad h1 h2 h3] at h; cases h
      | some l =>
        have hp := prs_lad h1 h2 h3
        by_cases h0 : ladErr l = 0
        · rw [if_pos h0] at hp
          rw [hp]
          refine ⟨h0, ?_⟩
          have hne : ¬ l = [] := fun e => by
            have := pws_len h3
            rw [e] at this
            obtain ⟨a, t, e⟩ := spl_cons 32 s
            rw [e] at this
            simp at this
          rw [ladTxt_jt hne]
          show jt l = s
          unfold jt
          rw [pws_back h3, join_spl]
        · rw [if_neg h0] at hp
          rw [hp] at h
          exact absurd h h0
theorem jt_four {l : List El} (h : LadOk l) (hne : ¬ l = []) : 4 ≤ (jt l).length := by
  cases l with
  | nil => exact absurd rfl hne
  | cons x r =>
    have ho := h.all x (by simp)
    obtain ⟨a, b, _, _, _, _, e⟩ := txt_parts ho
    have := (kind_no ho).2.2.2
    unfold jt
    simp only [List.map_cons, Lib.join_cons, List.length_append]
    rw [e, List.length_append]
    omega
/-- A valid ladder's text reads back. -/
theorem prs_txt {l : List El} (h : ladErr l = 0) : prs (ladTxt l).data.toList = (l, 0) ∧ 4 ≤ (ladTxt l).size ∧ (ladTxt l).size ≤ 1000 := by
  have hok := lad_ok h
  by_cases hne : l = []
  · subst hne; exact ⟨prs_wire rfl, by decide, by decide⟩
  · rw [ladTxt_jt hne]
    have h1 := jt_len l hok.all
    have h2 := hok.len
    have hs : spl 32 (jt l) = (l.map El.txt).map (·.data.toList) := by
      unfold jt
      refine spl_join _ (by simpa using hne) fun w hw => ?_
      obtain ⟨y, hy, rfl⟩ := List.mem_map.1 hw
      obtain ⟨z, hz, rfl⟩ := List.mem_map.1 hy
      exact txt_no (hok.all z hz)
    have hp : pws (spl 32 (jt l)) = some l := by
      rw [hs]
      apply pws_all
      rw [List.map_map, List.map_map]
      exact List.map_congr_left fun x hx => pword_txt (hok.all x hx)
    have hw : ¬ jt l = [119, 105, 114, 101] := fun e => by
      rw [e] at hp
      have : pws (spl 32 [119, 105, 114, 101]) = none := by decide
      rw [this] at hp
      cases hp
    refine ⟨?_, ?_, ?_⟩
    · show prs (jt l) = _
      rw [prs_lad (by omega) hw hp, if_pos h]
    · rw [bsizeL]; exact jt_four hok hne
    · rw [bsizeL]; show (jt l).length ≤ 1000; omega
/-- The text less its last byte is no text of the ladder. -/
theorem prs_cut {l : List El} (h : ladErr l = 0) (hc : (prs ((ladTxt l).data.toList.take ((ladTxt l).size - 1))).2 = 0) : ¬ (prs ((ladTxt l).data.toList.take ((ladTxt l).size - 1))).1 = l := fun e => by
  obtain ⟨_, h4, _⟩ := prs_txt h
  have h2 := (prs_back hc).2
  rw [e] at h2
  have := congrArg List.length h2
  rw [List.length_take, ← bsizeL] at this
  omega
theorem dual_dual {x : El} (h : x.Ok) : x.dual.dual = x := by
  have n1 : ¬ kSeries = kBlock := by decide
  have n3 : ¬ kShunt = kBlock := by decide
  have n4 : ¬ kShunt = kSeries := by decide
  have n5 : ¬ kTrap = kBlock := by decide
  have n6 : ¬ kTrap = kSeries := by decide
  have n7 : ¬ kTrap = kShunt := by decide
  obtain ⟨k, a, b⟩ := x
  rcases El.kinds h.kn with e | e | e | e <;> simp only at e <;> subst e <;> simp [El.dual, dualKind, n1, n3, n4, n5, n6, n7]
theorem map_dual_dual {l : List El} (h : LadOk l) : (l.map El.dual).map El.dual = l := by
  rw [List.map_map]
  conv => rhs; rw [← List.map_id l]
  exact List.map_congr_left fun x hx => dual_dual (h.all x hx)
theorem dual_okT {x : El} (h : x.Ok) : x.dual.Ok := by
  have n1 : ¬ kSeries = kBlock := by decide
  have n3 : ¬ kShunt = kBlock := by decide
  have n4 : ¬ kShunt = kTrap := by decide
  have n5 : ¬ kBlock = kSeries := by decide
  have n6 : ¬ kSeries = kTrap := by decide
  have n7 : ¬ kTrap = kBlock := by decide
  have n8 : ¬ kTrap = kSeries := by decide
  have n9 : ¬ kTrap = kShunt := by decide
  have n10 : ¬ kShunt = kSeries := by decide
  have hk : x.dual.known = true ∧ x.dual.divides = x.divides := by
    rcases El.kinds h.kn with e | e | e | e <;> simp [El.known, El.divides, El.dual, dualKind, e, n1, n3, n4, n5, n6, n7, n8, n9, n10]
  exact ⟨hk.1, h.al, h.ah, h.bl, h.bh, fun q => h.nz (by rw [← hk.2]; exact q)⟩
theorem lad_dualT {l : List El} (h : LadOk l) : LadOk (l.map El.dual) :=
  ⟨by rw [List.length_map]; exact h.len, fun x hx => by obtain ⟨y, hy, rfl⟩ := List.mem_map.1 hx; exact dual_okT (h.all y hy)⟩
theorem lad_revT {l : List El} (h : LadOk l) : LadOk l.reverse := ⟨by rw [List.length_reverse]; exact h.len, fun x hx => h.all x (List.mem_reverse.1 hx)⟩
end Go.Proofs.YtnndaipnfniciaaGreatDoor
