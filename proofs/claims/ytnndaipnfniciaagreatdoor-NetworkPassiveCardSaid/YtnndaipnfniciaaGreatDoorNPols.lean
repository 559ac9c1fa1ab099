/- Polynomials of the program: Polynomials. -/
import Derived.Test.YtnndaipnfniciaaGreatDoorNAdd
import Derived.Test.YtnndaipnfniciaaGreatDoorBaseS
import Derived.Test.YtnndaipnfniciaaGreatDoorBaseC
import Derived.Deep.DeepCutAuto
namespace Go.Proofs.YtnndaipnfniciaaGreatDoor
open Go.RowKit Go.Shelf
set_option maxRecDepth 100000

/-- A value that is a list of numbers in memory. -/
def SL (W : World) (s : Value) (l : List Int) : Prop := ∃ A c, s = .slice A l.length c ∧ Reads W W.heap.size 1 A l.length (ints l)
theorem SL.carry {W W' : World} {s : Value} {l : List Int} (h : SL W s l) (hb : Below W.heap.size W W') : SL W' s l := by
  obtain ⟨A, c, rfl, hr⟩ := h
  exact ⟨A, c, rfl, Go.Proofs.YtnndaipnfniciaaGreatDoor.carry hr hb⟩
theorem SL.nil (W : World) : SL W (.slice none 0 0) [] := ⟨none, 0, rfl, ⟨by simp [ints], fun h => absurd h (by simp)⟩⟩
theorem SL.of_blk {W : World} {g : Nat} {t : TypeId} {l : List Int} {c : Nat} (h : Blk W g t (ints l).toArray) : SL W (.slice (some ⟨g, 0, none⟩) l.length c) l := ⟨_, c, rfl, blkR h rfl⟩
/-- .. that lies in a block of some kind. -/
def SLn (W : World) (ok : Nat → Prop) (s : Value) (l : List Int) : Prop := ∃ A c, s = .slice A l.length c ∧ Reads W W.heap.size 1 A l.length (ints l) ∧ ∀ ad, A = some ad → 0 < l.length → ok ad.block
def NE (g : Nat) : Nat → Prop := fun b => b ≠ g
def GT (g : Nat) : Nat → Prop := fun b => g < b
def OKM (g lo : Nat) : Nat → Prop := fun b => b ≠ g ∧ lo ≤ b
section
variable {W W' : World} {ok ok' : Nat → Prop} {s : Value} {l : List Int} {g : Nat}
theorem SLn.sl (h : SLn W ok s l) : SL W s l := by
  obtain ⟨A, c, h1, h2, _⟩ := h
  exact ⟨A, c, h1, h2⟩
theorem SLn.carry (h : SLn W ok s l) (hb : Below W.heap.size W W') : SLn W' ok s l := by
  obtain ⟨A, c, h1, h2, h3⟩ := h
  exact ⟨A, c, h1, Go.Proofs.YtnndaipnfniciaaGreatDoor.carry h2 hb, h3⟩
theorem SLn.imp (h : SLn W ok s l) (hi : ∀ b, ok b → ok' b) : SLn W ok' s l := by
  obtain ⟨A, c, h1, h2, h3⟩ := h
  exact ⟨A, c, h1, h2, fun ad e hp => hi _ (h3 ad e hp)⟩
theorem SLn.nil (W : World) (ok : Nat → Prop) : SLn W ok (.slice none 0 0) [] := ⟨none, 0, rfl, ⟨by simp [ints], fun h => absurd h (by simp)⟩, fun _ h => by cases h⟩
theorem SL.off (h : SL W s l) (hg : ∀ b, b < W.heap.size → ok b) : SLn W ok s l := by
  obtain ⟨A, c, h1, h2⟩ := h
  refine ⟨A, c, h1, h2, fun ad e hp => ?_⟩
  obtain ⟨ad', e', hlt, _⟩ := h2.2 hp
  rw [e] at e'
  cases e'
  exact hg _ hlt
theorem SLn.of_blk {t : TypeId} {c : Nat} (h : Blk W g t (ints l).toArray) (hg : ok g) : SLn W ok (.slice (some ⟨g, 0, none⟩) l.length c) l := ⟨_, c, rfl, blkR h rfl, fun ad e _ => by cases e; exact hg⟩
theorem SLn.set {i : Nat} {u : Value} (h : SLn W ok s l) (hg : ¬ ok g) : SLn (W.setCell ⟨g, i, none⟩ u) ok s l := by
  obtain ⟨A, c, h1, h2, h3⟩ := h
  refine ⟨A, c, h1, ⟨h2.1, fun hp => ?_⟩, h3⟩
  obtain ⟨ad, e, hlt, hc⟩ := h2.2 hp
  refine ⟨ad, e, by simpa using hlt, fun j v hj => ?_⟩
  have hne : ad.block ≠ g := fun q => hg (q ▸ h3 ad e hp)
  have hh := Below.heap_setCell W ⟨g, i, none⟩ u (ad.add j).block (by rw [block_of_add]; exact hne)
  have := hc j v hj
  unfold World.cell? at this ⊢
  rw [hh]
  exact this
theorem SLn.set4 {u0 u1 u2 u3 : Value} (h : SLn W ok s l) (hg : ¬ ok g) : SLn ((((W.setCell ⟨g, 0, none⟩ u0).setCell ⟨g, 1, none⟩ u1).setCell ⟨g, 2, none⟩ u2).setCell ⟨g, 3, none⟩ u3) ok s l := (((h.set hg).set hg).set hg).set hg
theorem SLn.shape (h : SLn W ok s l) : ∃ A n c, s = .slice A n c := by
  obtain ⟨A, c, h1, _⟩ := h
  exact ⟨A, _, c, h1⟩
structure PMv (W : World) (ok : Nat → Prop) (s0 s1 s2 s3 : Value) (m : PM) : Prop where
  a : SLn W ok s0 m.a
  b : SLn W ok s1 m.b
  c : SLn W ok s2 m.c
  d : SLn W ok s3 m.d
variable {s0 s1 s2 s3 : Value} {m : PM}
theorem PMv.carry (h : PMv W ok s0 s1 s2 s3 m) (hb : Below W.heap.size W W') : PMv W' ok s0 s1 s2 s3 m := ⟨h.a.carry hb, h.b.carry hb, h.c.carry hb, h.d.carry hb⟩
theorem PMv.imp (h : PMv W ok s0 s1 s2 s3 m) (hi : ∀ b, ok b → ok' b) : PMv W ok' s0 s1 s2 s3 m := ⟨h.a.imp hi, h.b.imp hi, h.c.imp hi, h.d.imp hi⟩
theorem PMv.set {i : Nat} {u : Value} (h : PMv W ok s0 s1 s2 s3 m) (hg : ¬ ok g) : PMv (W.setCell ⟨g, i, none⟩ u) ok s0 s1 s2 s3 m := ⟨h.a.set hg, h.b.set hg, h.c.set hg, h.d.set hg⟩
theorem PMv.set4 {u0 u1 u2 u3 : Value} (h : PMv W ok s0 s1 s2 s3 m) (hg : ¬ ok g) : PMv ((((W.setCell ⟨g, 0, none⟩ u0).setCell ⟨g, 1, none⟩ u1).setCell ⟨g, 2, none⟩ u2).setCell ⟨g, 3, none⟩ u3) ok s0 s1 s2 s3 m := (((h.set hg).set hg).set hg).set hg
end
/-! ### Sizes -/
theorem padd_len (p a b : List Int) : (padd p a b).length ≤ max p.length (a.length + b.length) := by
  have h := trim_len (addRows (p ++ List.replicate (max p.length (a.length + b.length) - p.length) 0) a b a.length)
  rw [addRows_len, List.length_append, List.length_replicate] at h
  unfold padd
  omega
structure PM.Bd (m : PM) (k N : Nat) : Prop where
  la : m.a.length ≤ k
  lb : m.b.length ≤ k
  lc : m.c.length ≤ k
  ld : m.d.length ≤ k
  r1 : n1 m.a + n1 m.b ≤ N
  r2 : n1 m.c + n1 m.d ≤ N
theorem row_bd {p q a b c d : List Int} {N M : Nat} (h : n1 p + n1 q ≤ N) (h1 : n1 a + n1 b ≤ M) (h2 : n1 c + n1 d ≤ M) : n1 (padd (padd [] p a) q c) + n1 (padd (padd [] p b) q d) ≤ N * M := by
  have e1 := n1_padd (padd [] p a) q c
  have e2 := n1_padd (padd [] p b) q d
  have e3 := n1_padd [] p a
  have e4 := n1_padd [] p b
  have m1 : n1 p * n1 a + n1 p * n1 b ≤ n1 p * M := by rw [← Nat.mul_add]; exact Nat.mul_le_mul_left _ h1
  have m2 : n1 q * n1 c + n1 q * n1 d ≤ n1 q * M := by rw [← Nat.mul_add]; exact Nat.mul_le_mul_left _ h2
  have m3 : n1 p * M + n1 q * M ≤ N * M := by rw [← Nat.add_mul]; exact Nat.mul_le_mul_right _ h
  rw [n1_nil] at e3 e4
  omega
theorem len_bd {p q a c : List Int} {k : Nat} (hp : p.length ≤ k) (hq : q.length ≤ k) (ha : a.length ≤ 2) (hc : c.length ≤ 2) : (padd (padd [] p a) q c).length ≤ k + 2 := by
  have e1 := padd_len (padd [] p a) q c
  have e2 := padd_len [] p a
  simp only [List.length_nil] at e2
  omega
theorem pv_bd {x : El} (h : x.Ok) : x.pv.length ≤ 2 ∧ n1 x.pv ≤ 16 := by
  have e1 := trim_len [x.a, x.b]
  have e2 := n1_trim [x.a, x.b]
  have := h.al; have := h.ah; have := h.bl; have := h.bh
  have e3 : n1 [x.a, x.b] = x.a.natAbs + x.b.natAbs := by simp [n1]
  exact ⟨e1, by unfold El.pv; omega⟩
theorem pm_bd {x : El} (h : x.Ok) : x.pm.Bd 2 17 := by
  obtain ⟨h1, h2⟩ := pv_bd h
  have e1 : n1 [1] = 1 := rfl
  have e0 : n1 [] = 0 := rfl
  have l1 : ([1] : List Int).length = 1 := rfl
  have l0 : ([] : List Int).length = 0 := rfl
  unfold El.pm
  repeat' split
  all_goals (constructor <;> simp only [e1, e0, l1, l0] <;> omega)
theorem mul_bd2 {m : PM} {x : El} {k N : Nat} (hm : m.Bd k N) (hx : x.Ok) : (m.mul x.pm).Bd (k + 2) (N * 17) := by
  have h := pm_bd hx
  exact ⟨len_bd hm.la hm.lb h.la h.lc, len_bd hm.la hm.lb h.lb h.ld, len_bd hm.lc hm.ld h.la h.lc, len_bd hm.lc hm.ld h.lb h.ld, row_bd hm.r1 h.r1 h.r2, row_bd hm.r2 h.r1 h.r2⟩
theorem pch_bd : ∀ (l : List El) (m : PM) (k N : Nat), (∀ x ∈ l, x.Ok) → m.Bd k N → (pch m l).Bd (k + 2 * l.length) (N * 17 ^ l.length) := by
  intro l
  induction l with
  | nil => intro m k N _ h; simpa [pch] using h
  | cons x l ih =>
    intro m k N hl h
    have := ih (m.mul x.pm) (k + 2) (N * 17) (fun y hy => hl y (by simp [hy])) (mul_bd2 h (hl x (by simp)))
    rw [List.length_cons, Nat.pow_succ, Nat.mul_comm (17 ^ l.length) 17, ← Nat.mul_assoc, show k + 2 * (l.length + 1) = k + 2 + 2 * l.length by omega]
    exact this
theorem pow17 {k : Nat} (h : k ≤ 5) : 1 * 17 ^ k ≤ 1419857 := by
  have : k = 0 ∨ k = 1 ∨ k = 2 ∨ k = 3 ∨ k = 4 ∨ k = 5 := by omega
  rcases this with rfl | rfl | rfl | rfl | rfl | rfl <;> decide
theorem PM.Bd.more {m : PM} {k N k' N' : Nat} (h : m.Bd k N) (h1 : k ≤ k') (h2 : N ≤ N') : m.Bd k' N' := ⟨Nat.le_trans h.la h1, Nat.le_trans h.lb h1, Nat.le_trans h.lc h1, Nat.le_trans h.ld h1, Nat.le_trans h.r1 h2, Nat.le_trans h.r2 h2⟩
theorem lad_pm {l : List El} (h : LadOk l) (k : Nat) : (pch .id (l.take k)).Bd 11 1419857 := by
  have h1 := pch_bd (l.take k) .id 1 1 (fun x hx => h.all x (List.mem_of_mem_take hx)) ⟨by decide, by decide, by decide, by decide, by decide, by decide⟩
  have hl : (l.take k).length ≤ 5 := by rw [List.length_take]; have := h.len; omega
  exact h1.more (by omega) (pow17 hl)
theorem pdv_bd : ∀ (l : List El) (d : List Int) (k N : Nat), (∀ x ∈ l, x.Ok) → d.length ≤ k → n1 d ≤ N → (pdv d l).length ≤ k + 2 * l.length ∧ n1 (pdv d l) ≤ N * 17 ^ l.length := by
  intro l
  induction l with
  | nil => intro d k N _ h1 h2; simpa [pdv] using ⟨h1, h2⟩
  | cons x l ih =>
    intro d k N hl h1 h2
    obtain ⟨v1, v2⟩ := pv_bd (hl x (by simp))
    have hm : (if x.divides then padd [] d x.pv else d).length ≤ k + 2 ∧ n1 (if x.divides then padd [] d x.pv else d) ≤ N * 17 := by
      split
      · have e1 := padd_len [] d x.pv
        have e2 := n1_padd [] d x.pv
        have e3 : n1 d * n1 x.pv ≤ N * 17 := Nat.mul_le_mul h2 (by omega)
        rw [n1_nil] at e2
        simp only [List.length_nil] at e1
        exact ⟨by omega, by omega⟩
      · exact ⟨by omega, by omega⟩
    have := ih (if x.divides then padd [] d x.pv else d) (k + 2) (N * 17) (fun y hy => hl y (by simp [hy])) hm.1 hm.2
    rw [List.length_cons, Nat.pow_succ, Nat.mul_comm (17 ^ l.length) 17, ← Nat.mul_assoc, show k + 2 * (l.length + 1) = k + 2 + 2 * l.length by omega]
    exact this
theorem lad_pd {l : List El} (h : LadOk l) (k : Nat) : (pdv [1] (l.take k)).length ≤ 11 ∧ n1 (pdv [1] (l.take k)) ≤ 1419857 := by
  have h1 := pdv_bd (l.take k) [1] 1 1 (fun x hx => h.all x (List.mem_of_mem_take hx)) (by decide) (by decide)
  have hl : (l.take k).length ≤ 5 := by rw [List.length_take]; have := h.len; omega
  exact ⟨by omega, Nat.le_trans h1.2 (pow17 hl)⟩
theorem pch_succ {l : List El} {k : Nat} {x : El} (h : l[k]? = some x) : pch .id (l.take (k + 1)) = (pch .id (l.take k)).mul x.pm := by
  unfold pch
  rw [List.take_add_one, h, List.foldl_append]; rfl
theorem pdv_succ {l : List El} {k : Nat} {x : El} (h : l[k]? = some x) : pdv [1] (l.take (k + 1)) = if x.divides then padd [] (pdv [1] (l.take k)) x.pv else pdv [1] (l.take k) := by
  unfold pdv
  rw [List.take_add_one, h, List.foldl_append]; rfl
/-! ### Entries: 0, 1 or the value -/
def entL (z : Int) (v : List Int) : List Int := if z = 1 then [1] else if z = 2 then v else []
theorem pm_ent {x : El} (h : x.known = true) : x.pm = ⟨entL (x.mat ⟨2, 0⟩).a.re x.pv, entL (x.mat ⟨2, 0⟩).b.re x.pv, entL (x.mat ⟨2, 0⟩).c.re x.pv, entL (x.mat ⟨2, 0⟩).d.re x.pv⟩ := by
  have n1 : ¬ kSeries = kBlock := by decide
  have n3 : ¬ kShunt = kBlock := by decide
  have n5 : ¬ kBlock = kSeries := by decide
  have n6 : ¬ kBlock = kShunt := by decide
  have n7 : ¬ kTrap = kSeries := by decide
  have n8 : ¬ kTrap = kShunt := by decide
  have n9 : ¬ kShunt = kSeries := by decide
  have n11 : ¬ kTrap = kBlock := by decide
  unfold El.pm El.mat entL
  rcases El.kinds h with h | h | h | h <;> rw [h] <;> simp [n5, n6, n7, n8, n9, n11, G.one, G.zero]
theorem mat_codes {x : El} (h : x.known = true) : ∀ z ∈ [(x.mat ⟨2, 0⟩).a.re, (x.mat ⟨2, 0⟩).b.re, (x.mat ⟨2, 0⟩).c.re, (x.mat ⟨2, 0⟩).d.re], z = 0 ∨ z = 1 ∨ z = 2 := by
  have n1 : ¬ kSeries = kBlock := by decide
  have n3 : ¬ kShunt = kBlock := by decide
  have n5 : ¬ kBlock = kSeries := by decide
  have n6 : ¬ kBlock = kShunt := by decide
  have n7 : ¬ kTrap = kSeries := by decide
  have n8 : ¬ kTrap = kShunt := by decide
  have n9 : ¬ kShunt = kSeries := by decide
  have n11 : ¬ kTrap = kBlock := by decide
  unfold El.mat
  rcases El.kinds h with h | h | h | h <;> rw [h] <;> simp [n5, n6, n7, n8, n9, n11, G.one, G.zero]
theorem fn_two {x : El} (h : x.known = true) : ∃ f, kFn x.kind = .func (.func f) #[] #[] ∧ (∀ a W, Sem.run Tryz.prog (callFunc f #[a]) W = .ok (.enter f #[a]) W) ∧ ∀ w, Con w → Calls Tryz.prog f #[.agg #[.int .i64 2, .int .i64 0]] w fun e w' => e = .returned (.agg #[.int .i64 (x.mat ⟨2, 0⟩).a.re, .int .i64 (x.mat ⟨2, 0⟩).a.im, .int .i64 (x.mat ⟨2, 0⟩).b.re, .int .i64 (x.mat ⟨2, 0⟩).b.im, .int .i64 (x.mat ⟨2, 0⟩).c.re, .int .i64 (x.mat ⟨2, 0⟩).c.im, .int .i64 (x.mat ⟨2, 0⟩).d.re, .int .i64 (x.mat ⟨2, 0⟩).d.im]) ∧ Below w.heap.size w w' := by
  have n1 : ¬ kSeries = kBlock := by decide
  have n3 : ¬ kShunt = kBlock := by decide
  have n5 : ¬ kBlock = kSeries := by decide
  have n6 : ¬ kBlock = kShunt := by decide
  have n7 : ¬ kTrap = kSeries := by decide
  have n8 : ¬ kTrap = kShunt := by decide
  have n9 : ¬ kShunt = kSeries := by decide
  have n11 : ¬ kTrap = kBlock := by decide
  unfold kFn El.mat
  rcases El.kinds h with h | h | h | h <;> rw [h] <;> simp only [n1, n3, n5, n6, n7, n8, n9, n11, if_true, if_false]
  · exact ⟨_, rfl, fun _ _ => by kernel_rfl, fun w hC => kFn1_any ⟨2, 0⟩ w hC⟩
  · exact ⟨_, rfl, fun _ _ => by kernel_rfl, fun w hC => kFn2_any ⟨2, 0⟩ w hC⟩
  · exact ⟨_, rfl, fun _ _ => by kernel_rfl, fun w hC => kFn3_any ⟨2, 0⟩ w hC⟩
  · exact ⟨_, rfl, fun _ _ => by kernel_rfl, fun w hC => kFn4_any ⟨2, 0⟩ w hC⟩
theorem padd_sl (s0 s1 s2 : Value) (p a b : List Int) (w : World) (h0 : SL w s0 p) (h1 : SL w s1 a) (h2 : SL w s2 b) (l0 : p.length ≤ 100000) (l1 : a.length ≤ 100000) (l2 : b.length ≤ 100000) (hs : n1 p + n1 a * n1 b ≤ 9223372036854775807) :
    Calls Tryz.prog 97 #[s0, s1, s2] w fun e w' => ∃ s, e = .returned s ∧ (∀ ok : Nat → Prop, (∀ b, w.heap.size ≤ b → ok b) → SLn w' ok s (padd p a b)) ∧ Below w.heap.size w w' := by
  obtain ⟨A0, c0, rfl, r0⟩ := h0
  obtain ⟨A1, c1, rfl, r1⟩ := h1
  obtain ⟨A2, c2, rfl, r2⟩ := h2
  refine (padd_any A0 _ c0 p A1 _ c1 a A2 _ c2 b w r0 r1 r2 l0 l1 l2 hs).mono fun e w' h => ?_
  obtain ⟨g, c, rfl, _, hg, hr, hb⟩ := h
  exact ⟨_, rfl, fun ok hok => ⟨_, c, rfl, hr, fun ad e _ => by cases e; exact hok _ hg⟩, hb⟩
theorem ent_ok {p a : List Int} (hp : n1 p ≤ 1419857) (ha : n1 a ≤ 17) : n1 [] + n1 p * n1 a ≤ 9223372036854775807 := by
  have := Nat.mul_le_mul hp ha
  rw [n1_nil]; omega
theorem ent_ok2 {p a q c : List Int} (hp : n1 p ≤ 1419857) (ha : n1 a ≤ 17) (hq : n1 q ≤ 1419857) (hc : n1 c ≤ 17) : n1 (padd [] p a) + n1 q * n1 c ≤ 9223372036854775807 := by
  have h1 := Nat.mul_le_mul hp ha
  have h2 := Nat.mul_le_mul hq hc
  have h3 := n1_padd [] p a
  rw [n1_nil] at h3; omega
theorem ent_len {p a : List Int} (hp : p.length ≤ 11) (ha : a.length ≤ 2) : (padd [] p a).length ≤ 100000 := by
  have := padd_len [] p a
  simp only [List.length_nil] at this
  omega
end Go.Proofs.YtnndaipnfniciaaGreatDoor
