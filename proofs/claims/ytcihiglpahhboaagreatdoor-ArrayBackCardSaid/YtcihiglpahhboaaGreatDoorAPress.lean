/- The path of a source; the iterator sounds. -/
import Derived.Test.YtcihiglpahhboaaGreatDoorBaseF
import Derived.Test.YtcihiglpahhboaaGreatDoorBaseS
import Derived.Sort.CutIn
namespace Go.Proofs.YtcihiglpahhboaaGreatDoor
open Go.RowKit Go.Shelf
set_option maxRecDepth 100000
attribute [local go_sem] Oper.semAt_some

theorem pth_wrap {s : Src} (h : s.Ok) (k : Nat) : wrap64 (wrap64 (s.x * stx k) + wrap64 (s.y * sty k)) = pth s k := by
  have a := mul_step (a := s.x) (stx_in k)
  have b := mul_step (a := s.y) (sty_in k)
  have := h.x1; have := h.x2; have := h.y1; have := h.y2
  unfold pth
  unfold wrap64
  omega
set_option maxHeartbeats 1000000 in
theorem path_any (s : Src) (k : Nat) (hk : k < 8) (hs : s.Ok) (w : World) (hV : Vr w) :
    Calls Tryz.prog 100 #[.agg #[.int .i64 s.x, .int .i64 s.y, .int .i64 s.g, .int .i64 s.p], .int .i64 (k : Int)] w fun e w' => e = .returned (.int .i64 (pth s k)) ∧ Below w.heap.size w w' := by
  have hw := pth_wrap hs k
  clear hs
  go_enter Tryz.func100, Tryz.ntmps100
  go_upto_region 1 with (fail)
  obtain ⟨w1, e1, hb1, hz1, k0⟩ := box1 w #[.int .i64 s.x, .int .i64 s.y, .int .i64 s.g, .int .i64 s.p] 60
  rw [← e1]; clear e1
  have hV1 := hV.carry hb1
  have c0 := over_blk k0 k0.lt
  have s0 : ∀ x, (over w1.heap.size w1 x).cell? ⟨0, k * 2, none⟩ = some (.int .i64 (stx k)) := fun x => ((hV1.carry (over_below _ _ _)).step hk).1
  have s1 : ∀ x, (over w1.heap.size w1 x).cell? ⟨0, k * 2 + 1, none⟩ = some (.int .i64 (sty k)) := fun x => ((hV1.carry (over_below _ _ _)).step hk).2
  refine wp_region_over w1.heap.size (by kernel_rfl) (by kernel_rfl) ?_; (repeat (first | go_big_quiet_step (fail) | quiet_step (fail))); refine wpQuiet_nil ?_; rintro W ⟨x, rfl⟩
  have hbY := over_below w1.heap.size w1 x
  generalize over w1.heap.size w1 x = Y at hbY ⊢
  go_wp2_with fail
  go_ret
  exact ⟨by rw [← hw]; rfl, below_next hb1 hbY⟩
theorem modulo_q (n : Int) (q : Nat) (hq : n % 4 = (q : Int)) (w : World) :
    Calls Tryz.prog 87 #[.int .i64 n] w fun e w' => e = .returned (.int .i64 (q : Int)) ∧ w = w' := by
  have := modulo_any n w
  rwa [hq] at this
theorem snd_q (s : Src) (d q : Nat) (hq : (s.p + pth s d) % 4 = (q : Int)) : snd s d = (⟨s.g, 0⟩ : G).mul (turnG q) := by
  unfold snd turnI
  rw [hq, G.mul_comm]; rfl
theorem snd_in {s : Src} (h : s.Ok) (d : Nat) : (snd s d).nrm ≤ 100 := by
  rw [snd_nrm]
  have := h.g1; have := h.g2
  omega
theorem times_snd (s : Src) (h : s.Ok) (d q : Nat) (hq : (s.p + pth s d) % 4 = (q : Int)) (w : World) :
    Calls Tryz.prog 130 #[.agg #[.int .i64 s.g, .int .i64 0], .agg #[.int .i64 (turnG q).re, .int .i64 (turnG q).im]] w fun e w' => e = .returned (.agg #[.int .i64 (snd s d).re, .int .i64 (snd s d).im]) ∧ Below w.heap.size w w' := by
  have := times_any ⟨s.g, 0⟩ (turnG q) w
  rw [← snd_q s d q hq, G.w_in (by have := snd_in h d; omega)] at this
  exact this
/-- The types of the cells that the iterator must find as they were. -/
def sndT : List TypeId := [3]
def encG (d : Nat) (s : Src) : Array Value := #[.agg #[.int .i64 (snd s d).re, .int .i64 (snd s d).im]]
def nextS (l pre : List Src) (x : Src) : Prop := ∃ k, pre = l.take k ∧ l[k]? = some x
section
variable {F : Fence} {N : Nat} {P : Program} {ops : Array Oper} {md : Region.Mode} {C : World → Prop} {n : Nat}
theorem wpAnyIn_of_N2 {Q : Act → Prop} {Q' : Exit → Act → World → Prop} {m : Nat} (hro : F.round = none) (hn : n ≤ ops.size) (hB : splitB2 md ops n = true)
    (hQ : ∀ a w listed, C w → listed.size = ops.size → (∀ i, i < n → listed.getD i false = true) → (∀ j, n ≤ j → listed.getD j false = false) → Q a → wpAnyIn F N P md ops Q' m listed a w) :
    ∀ (f : Nat) (listed : Array Bool) (a : Act) (w : World), listed.size = ops.size → (∀ j, n ≤ j → listed.getD j false = false) → Closed md ops listed → C w → wpAnyNIn F N P md ops C n Q f listed a → wpAnyIn F N P md ops Q' (f + m) listed a w := by
  simp only [splitB2, Bool.and_eq_true, List.all_eq_true, List.mem_range, decide_eq_true_eq, Bool.or_eq_true, List.contains_iff_mem] at hB
  obtain ⟨hd, hcov⟩ := hB
  intro f
  induction f with
  | zero =>
    intro listed a w hsz hlo hcl hw h
    have := hQ a w listed hw hsz (all_listed hsz hn hd h.1) hlo h.2
    rwa [Nat.zero_add]
  | succ f ih =>
    intro listed a w hsz hlo hcl hw h
    by_cases hr : readyN md ops n listed = []
    · exact wpAnyIn_far m listed a w (hQ a w listed hw hsz (all_listed hsz hn hd hr) hlo (h.1 hr)) (f + 1)
    · rw [show f + 1 + m = f + m + 1 by omega]
      refine ⟨fun h0 => absurd (by unfold readyN; rw [h0]; rfl) hr, fun i hi => ?_⟩
      by_cases hin : i < n
      · refine wpOpIn_of_qOpIn hro hw (fun a' w' hw' hK => ih _ a' w' (by simpa using hsz) (fun j hj => ?_) ?_ hw' hK) (h.2 i (mem_readyN.2 ⟨hi, hin⟩))
        · rw [getD_set_ne false (by omega)]; exact hlo j hj
        · intro x k hx hk
          have hx' : x = i ∨ listed.getD x false = true := by
            by_cases e : x = i
            · exact .inl e
            · rw [getD_set_ne false (fun q => e q.symm)] at hx; exact .inr hx
          have hkl : listed.getD k false = true := by
            rcases hx' with rfl | hx'
            · obtain ⟨o, e, ho, he, hb, rfl⟩ := aft_mem hk
              obtain ⟨_, o', ho', hall⟩ := mem_ready.1 hi
              rw [ho] at ho'; cases ho'
              exact hall e he hb
            · exact hcl x k hx' hk
          by_cases e : i = k
          · subst e
            have : i < listed.size := by omega
            simp [this]
          · rw [getD_set_ne false e]; exact hkl
      · exfalso
        obtain ⟨hun, o, ho, hall⟩ := mem_ready.1 hi
        have hi2 : i < ops.size := (Array.getElem?_eq_some_iff.1 ho).1
        have h1 : ∀ x ∈ aft md ops i, listed.getD x false = true := fun x hx => by
          obtain ⟨o', e, ho', he, hb, rfl⟩ := aft_mem hx
          rw [ho] at ho'; cases ho'
          exact hall e he hb
        have h2 := sweep_in hcl (List.range ops.size).reverse _ h1
        obtain ⟨i0, hi0⟩ := List.exists_mem_of_ne_nil _ hr
        obtain ⟨hr0, hl0⟩ := mem_readyN.1 hi0
        have h3 := (hcov i hi2).resolve_left hin i0 hl0
        have h4 := h2 i0 h3
        have h5 := (mem_ready.1 hr0).1
        have : i0 < listed.size := by omega
        simp [this] at h4 h5
        rw [h4] at h5; cases h5

theorem wpIn_region_split2 {Q : Exit → Act → World → Prop} {a : Act} {w : World} {l r : List Oper} (hro : F.round = none) (hs : Region.noSelect (l ++ r).toArray = true)
    (hx : lexN .any (l ++ r).toArray l.length l.length 0 (Array.replicate (l ++ r).toArray.size false) = true) (hB : splitB2 .any (l ++ r).toArray l.length = true) (hC : C w.drew)
    (h : wpQuietIn F N P (l ++ r).toArray C (fun a' => ∀ w', C w' → wpAnyIn F N P .any (l ++ r).toArray Q r.length ((List.replicate l.length true ++ List.replicate r.length false).toArray) a' w') l a) : wpAnyIn F N P .any (l ++ r).toArray Q (l ++ r).toArray.size (Array.replicate (l ++ r).toArray.size false) a w.drew := by
  have h1 := wpAnyNIn_lex (C := C) (md := .any) (n := l.length) hs l 0 (Array.replicate (l ++ r).toArray.size false) a (fun j o hj => by simpa using List.getElem?_append_left (List.getElem?_eq_some_iff.1 hj).1 ▸ hj) (by omega) hx h
  have h2 := wpAnyIn_of_N2 (F := F) (N := N) (Q' := Q) (m := r.length) hro (by simp) hB (fun a' w' listed hw' hsz hlo hhi hq => by
    have e : listed = (List.replicate l.length true ++ List.replicate r.length false).toArray := by
      apply Array.ext
      · simpa using hsz
      · intro i hi1 hi2
        have hi3 : i < l.length + r.length := by simpa using hi2
        by_cases hil : i < l.length
        · have := hlo i hil
          simp [hi1] at this
          rw [this, List.getElem_toArray, List.getElem_append_left (by simpa using hil), List.getElem_replicate]
        · have := hhi i (by omega)
          simp [hi1] at this
          rw [this, List.getElem_toArray, List.getElem_append_right (by simpa using hil), List.getElem_replicate]
    rw [e]
    exact hq w' hw') l.length (Array.replicate (l ++ r).toArray.size false) a w.drew (by simp) (fun j _ => by simp [Array.getElem?_replicate]; split <;> rfl) (fun i k hi _ => by
      exfalso
      simp [Array.getElem?_replicate] at hi
      split at hi <;> simp at hi) hC h1
  have e2 : l.length + r.length = (l ++ r).toArray.size := by simp
  rw [e2] at h2
  exact h2
end
/-- **THE REGION IN TWO PARTS**, in the iterator itself. -/
theorem wpIn_region_part0 {N : Nat} {P : Program} (n B : Nat) {id : Nat} {Q : Exit → Act → World → Prop} {a : Act} {w : World} {ops : List Oper} (hm : P.follows .mixedOrders = true) (hB : partB2 n ops = true)
    (h : wpQuietIn Fence.wide N P ops.toArray (fun w' => ∃ x, w' = over B w x) (fun a' => ∀ w', (∃ x, w' = over B w x) → wpListIn Fence.wide N P ops.toArray Q (ops.drop n) a' w') (ops.take n) a) : (Code.region id ops.toArray true).wpIn Fence.wide N P Q a w := by
  simp only [partB2, Bool.and_eq_true, decide_eq_true_eq] at hB
  obtain ⟨⟨⟨⟨hn, hs⟩, hx⟩, hsp⟩, ht⟩ := hB
  obtain ⟨l, r, rfl, hl⟩ : ∃ l r, ops = l ++ r ∧ l.length = n := ⟨ops.take n, ops.drop n, (List.take_append_drop n ops).symm, by rw [List.length_take]; omega⟩
  subst hl
  rw [List.take_left, List.drop_left] at h
  have e : (l ++ r).length - l.length = r.length := by simp
  rw [e] at ht
  refine wpIn_region_any hm (wpIn_region_split2 (F := Fence.wide) rfl hs (by simpa using hx) hsp (C := fun w' => ∃ x, w' = over B w x) ⟨w.drew, over_eq ((Below.refl _ _).drew)⟩ ?_)
  refine wpQuietIn_mono ?_ h
  intro a' h' w' hw'
  exact wpAnyIn_of_list r l.length _ a' w' (fun j o hj => by simpa using List.getElem?_append_right (l₁ := l) (l₂ := r) (i := l.length + j) (by omega) ▸ (by simpa using hj)) ht (h' w' hw')
structure Glo (n0 : Nat) : Prop where
  p : 1 < n0
  s : 0 < n0
theorem Vr.low {w w' : World} {B : Nat} (h : Vr w) (hg : Glo B) (hb : Below B w w') : Vr w' :=
  ⟨Nat.lt_of_lt_of_le h.plt hb.size, fun i hi => (hb.cell (p := ⟨_, i, none⟩) hg.p).trans (h.pow i hi), Nat.lt_of_lt_of_le h.slt hb.size, fun i hi => (hb.cell (p := ⟨_, i, none⟩) hg.s).trans (h.stp i hi)⟩
theorem Vr.glo {w : World} (h : Vr w) : Glo w.heap.size := ⟨h.plt, h.slt⟩
set_option maxHeartbeats 2000000 in
theorem sounds1_in (n : Nat) (hn : 1 ≤ n) (lp Bl Bd n0 n1 : Nat) (A : Option Addr) (m c : Nat) (l : List Src) (d : Nat) (hd : d < 8) (hok : ∀ x ∈ l, x.Ok) (hm : m ≤ 1000000000000)
    (J : List Src → World → Prop) (hJ : ∀ s A B, J s A → Hush sndT n1 A.heap.size A B → J s B)
    (hY : ∀ pre x W1, J pre W1 → nextS l pre x → YieldAt Fence.wide (n - 1) Tryz.prog lp (encG d x) W1 fun e W' => e = .returned (.bool true) ∧ J (pre ++ [x]) W' ∧ Kept sndT n0 n1 W1 W')
    (W : World) (kl : Blk W Bl 26 #[.slice A m c]) (kd : Blk W Bd 3 #[.int .i64 (d : Int)]) (hnd : n1 ≤ Bd) (hR : Reads W n0 4 A m (srcs l)) (hV : Vr W) (hG : Glo n0) (hn0 : n0 ≤ W.heap.size) (hn1 : n1 ≤ W.heap.size) (h0 : J [] W) :
    CallsIn Fence.wide n Tryz.prog 150 #[.func (.yield lp) #[] #[], .pointer (some ⟨Bl, 0, none⟩), .pointer (some ⟨Bd, 0, none⟩)] W fun e W' => (∃ v, e = .returned v) ∧ ∃ ys, ys = l ∧ J ys W' := by
  have HL := hide (srcs_reads_len hR)
  refine callsIn_of_wp Tryz.func150 rfl trivial ?_ rfl
  simp only [Tryz.ntmps150, List.size_toArray, List.length_cons, List.length_nil, Nat.reduceAdd, Nat.reduceSub, Array.replicate_succ, Array.replicate_zero, List.push_toArray, List.append_toArray, List.nil_append, List.cons_append]
  have cl := kl.cell
  gi_wp2
  gi_loopw [8] (fun i wr => ∃ k : Nat, k ≤ m ∧ i = .int .i64 k ∧ J (l.take k) wr ∧ Blk wr Bd 3 #[.int .i64 (d : Int)] ∧ Reads wr n0 4 A m (srcs l) ∧ Vr wr ∧ n0 ≤ wr.heap.size ∧ n1 ≤ wr.heap.size)
    (fun i _ => m - (intOf i).toNat)
  case atStart => exact ⟨0, by omega, rfl, h0, kd, hR, hV, hn0, hn1⟩
  case round =>
    rename World => wo
    clear h0 kd hR hV cl kl
    obtain ⟨k, hk, rfl, hj, kd, hR, hV, hz0, hz1⟩ := hrel
    by_cases hlt : k < m
    · obtain ⟨ad, s, rfl, hadb, hxk, hcx⟩ := src_hit hR hlt hz0
      obtain ⟨q0, q1, q2, q3⟩ := hcx wo (Below.refl _ _)
      have hx := hok s (List.mem_of_getElem? hxk)
      have HX := hide hxk
      obtain ⟨q, hq⟩ : ∃ q : Nat, (s.p + pth s d) % 4 = (q : Int) := ⟨((s.p + pth s d) % 4).toNat, by omega⟩
      have hq4 : q < 4 := by omega
      have hqi : (q : Int) < 4 := by omega
      have hwp : IntKind.i64.wrap (s.p + pth s d) = s.p + pth s d := by
        have := pth_in hx d; have := hx.p1; have := hx.p2
        exact IntWalk.i64_in _ (by omega)
      have HQ := hide hq
      have HOK := hide hx
      clear hxk hcx hx hq
      gi_upto_region 3 with (fail)
      obtain ⟨w1, e1, hb1, hz2, k1⟩ := box1 wo #[.int .i64 s.x, .int .i64 s.y, .int .i64 s.g, .int .i64 s.p] 60
      have hh1 : Hush sndT n1 wo.heap.size wo w1 := by rw [e1]; exact hush_alloc (Hush.refl _ _ _ _) _
      rw [← e1]; clear e1 q0 q1 q2 q3
      have j1 := hJ _ _ _ hj hh1
      have kd1 := kd.below hb1 kd.lt
      have hR1 := hR.below (hb1.mono hz0)
      have hV1 := hV.carry hb1
      have c1 := over_blk k1 k1.lt
      have cd := over_blk kd1 kd1.lt
      have p0 : ∀ x, (over w1.heap.size w1 x).cell? ⟨1, q * 2, none⟩ = some (.int .i64 (turnG q).re) := fun x => ((hV1.carry (over_below _ _ _)).two hq4).1
      have p1 : ∀ x, (over w1.heap.size w1 x).cell? ⟨1, q * 2 + 1, none⟩ = some (.int .i64 (turnG q).im) := fun x => ((hV1.carry (over_below _ _ _)).two hq4).2
      clear hj kd hR hh1 hV
      refine wpIn_region_part0 14 w1.heap.size (by kernel_rfl) (by kernel_rfl) ?_; simp only [List.take_succ_cons, List.take_zero, List.drop_succ_cons, List.drop_zero]; (repeat (refine wpQuietIn_step (by first | (go_simp; done) | (exact fun _ _ _ _ => trivial)) (fun K hK => ?_); go_simp; first | (refine hK _ ?_; clear hK K) | (apply Exists.intro; refine ⟨fun _ => ?_, hK _ ?_⟩; (first | (gi_at_call 100; exact callsIn_wide.2 (over_call (Nat.le_refl _) (path_any s d hd HOK.out _ (hV1.carry (over_below _ _ _))))) | (gi_at_call 87; exact callsIn_wide.2 (over_same (modulo_q _ q HQ.out _))) | (gi_at_call 130; exact callsIn_wide.2 (over_call (Nat.le_refl _) (times_snd s HOK.out d q HQ.out _)))); clear hK K))); refine wpQuietIn_nil ?_; rintro Wx ⟨x, rfl⟩
      have hbY := over_below w1.heap.size w1 x
      generalize over w1.heap.size w1 x = Y at hbY ⊢
      have jY := hJ _ _ _ j1 (hush_of_below (Hush.refl sndT n1 w1.heap.size w1) hbY)
      have kdY := kd1.below hbY kd1.lt
      have hRY := hR1.below (hbY.mono (by omega))
      have hVY := hV1.carry hbY
      have hsY := hbY.size
      clear c1 cd p0 p1 kd1 hR1 hV1 j1
      obtain ⟨fn, tmps, assign, body, hyl, hRd⟩ := hY _ s Y jY ⟨k, rfl, HX.out⟩
      unfold encG at hyl
      (try dsimp only at hyl)
      clear hY
      gi_wp2
      refine hRd.mono ?_
      rintro e W5 ⟨rfl, hJ5, hk5⟩
      have hs5 := hk5.others.size
      gi_wp2
      go_roundw
      case rel =>
        refine ⟨k + 1, by omega, by go_num, by rw [List.take_add_one, HX.out]; exact hJ5, hk5.blk kdY hnd rfl, hRY.below hk5.below, hVY.low hG hk5.below, by omega, by omega⟩
      case measure => simp [intOf]; omega
    · gi_wp2
      obtain rfl : k = m := by omega
      go_end0
      exact ⟨⟨_, rfl⟩, l, rfl, by rw [List.take_of_length_le (by rw [HL.out]; omega)] at hj; exact hj⟩
theorem sounds_in (n : Nat) (A : Option Addr) (m c : Nat) (d : Int) (w : World) :
    CallsIn Fence.wide n Tryz.prog 135 #[.slice A m c, .int .i64 d] w fun e w' => e = .returned (.func (.func 150) #[] #[.pointer (some ⟨w.heap.size, 0, none⟩), .pointer (some ⟨w.heap.size + 1, 0, none⟩)]) ∧
      Below w.heap.size w w' ∧ w.heap.size + 2 ≤ w'.heap.size ∧ Blk w' w.heap.size 26 #[.slice A m c] ∧ Blk w' (w.heap.size + 1) 3 #[.int .i64 d] := by
  obtain ⟨w3, e3, hb3, hz3, k0, k1⟩ := box2 w #[.slice A m c] #[.int .i64 d] 26 3
  refine callsIn_of_wp Tryz.func135 rfl trivial ?_ rfl
  simp only [Tryz.ntmps135, List.size_toArray, List.length_cons, List.length_nil, Nat.reduceAdd, Nat.reduceSub, Array.replicate_succ, Array.replicate_zero, List.push_toArray, List.append_toArray, List.nil_append, List.cons_append]
  gi_wp2
  go_ret
  rw [← e3]
  exact ⟨rfl, hb3, hz3, k0, k1⟩
theorem sounds_all (n : Nat) (hn : 1 ≤ n) (Bl Bd n0 n1 : Nat) (A : Option Addr) (m c : Nat) (l : List Src) (d : Nat) (hd : d < 8) (hok : ∀ x ∈ l, x.Ok) (hm : m ≤ 1000000000000)
    (w : World) (kl : Blk w Bl 26 #[.slice A m c]) (kd : Blk w Bd 3 #[.int .i64 (d : Int)]) (hnd : n1 ≤ Bd) (hR : Reads w n0 4 A m (srcs l)) (hV : Vr w) (hG : Glo n0) (hn0 : n0 ≤ w.heap.size) (hn1 : n1 ≤ w.heap.size) :
    SeqAll n Tryz.prog 150 #[.pointer (some ⟨Bl, 0, none⟩), .pointer (some ⟨Bd, 0, none⟩)] (encG d) sndT n0 n1 (fun ys => ys = l) (nextS l) w :=
  fun lp J W hW hJ hY h0 => sounds1_in n hn lp Bl Bd n0 n1 A m c l d hd hok hm J hJ hY W (kl.below hW kl.lt) (kd.below hW kd.lt) hnd (hR.below (hW.mono hn0)) (hV.carry hW) hG (by have := hW.size; omega) (by have := hW.size; omega) h0
end Go.Proofs.YtcihiglpahhboaaGreatDoor
