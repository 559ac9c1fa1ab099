/- Repeat, Mirror of the program. -/
import Derived.Test.YtcihiglpahhboaaGreatDoorBaseM
import Derived.Test.YtcihiglpahhboaaGreatDoorBaseS
namespace Go.Proofs.YtcihiglpahhboaaGreatDoor
open Go.RowKit
set_option maxRecDepth 100000
theorem rep_take {l b : List Src} {k : Nat} {s : Src} (h : l[k]? = some s) : rep (l.take (k + 1)) b = rep (l.take k) b ++ b.map (rep1 s) := by
  rw [src_take h]; simp [rep]
theorem map_take {b : List Src} {j : Nat} {o : Src} (h : b[j]? = some o) (g : Src → Src) : (b.take (j + 1)).map g = (b.take j).map g ++ [g o] := by
  rw [src_take h]; simp
/-- An append of one element that tells which block has grown. -/
theorem wpList_pushK {P : Program} {ops : Array Oper} {rest : List Oper} {o : Oper} {a : Act} {Q : Exit → Act → World → Prop} (w : World) (hgd : o.guard = none) (s x : Operand) (t : TypeId)
    (ho : o.op = .call { callee := .builtin .append, args := #[s, x], argTypes := #[t, t] })
    (base : Nat) (e : TypeId) (z : Value) (size bytes : Nat) (ht : P.underlying t = some (.slice e)) (hinfo : (P.info? e).map (fun i => (i.zero, i.size, i.bytes)) = some (some z, size, bytes))
    (hzs : z.cells.size = size) (hsz : 0 < size)
    (v : Value) (n : Nat) (xs : List Value) (hs : a.eval s = v) (hown : w.ownsRow base e size v n xs)
    (g : Nat) (news : List Value) (hx : a.eval x = .slice (some ⟨g, 0, none⟩) 1 1) (hn : news.length = size) (hc : ∀ j u, news[j]? = some u → w.cell? ⟨g, j, none⟩ = some u) (h1 : ∀ u ∈ news, u.oneCell' = true)
    (h63 : n + 1 ≤ maxLen) (hbytes : (n + 1) * bytes ≤ 140737488355328) (hbase : base ≤ w.heap.size)
    (h : ∀ v' w', w'.ownsRow base e size v' (n + 1) (xs ++ news) → Below base w w' → w.grownBy w' v.ownBlock → (v'.ownBlock = v.ownBlock ∨ v'.ownBlock = some w.heap.size) → wpList P ops Q rest (a.put o.dst v') w') : wpList P ops Q (o :: rest) a w := by
  obtain ⟨i, hi, hz, hsize, hby⟩ := info_parts hinfo
  refine wpList_append_any w hgd s x t ho base e i z size bytes ht hi hz hsize hby hzs hsz v n xs hs hown (g + 1) (some ⟨g, 0, none⟩) 1 1 news hx ⟨by omega, fun _ => ⟨_, rfl, by simp, fun j u hu => ?_⟩⟩ h1 h63 hbytes hbase
    fun v' w' h2 h3 h4 => h v' w' h2 ((Below.refl base w).grown h3 hbase fun k hk => (hown.lt k hk).1) h3 h4
  have : (⟨g, 0, none⟩ : Addr).add j = ⟨g, j, none⟩ := by unfold Addr.add; split <;> simp_all
  rw [this]
  exact hc j u hu
theorem row_drew {w : World} {B n size : Nat} {e : TypeId} {v : Value} {xs : List Value} (h : w.ownsRow B e size v n xs) : w.drew.ownsRow B e size v n xs := h
/-- An append of a source in a region that draws its order. -/
theorem step_src {P : Program} {ops : Array Oper} {o : Oper} {a : Act} {w : World} {K : Act → World → Prop} {Q : Exit → Act → World → Prop} {E : Prop} (hP : P = Tryz.prog) (hgd : o.guard = none) (s x : Operand) (t : TypeId)
    (ho : o.op = .call { callee := .builtin .append, args := #[s, x], argTypes := #[t, t] }) (e : TypeId) (z : Value) (hinfo : (P.info? e).map (fun i => (i.zero, i.size, i.bytes)) = some (some z, 4, 32)) (hz4 : z.cells.size = 4) (ht : P.underlying t = some (.slice e))
    (B : Nat) (v : Value) (n : Nat) (xs : List Src) (hs : a.eval s = v) (hown : w.ownsRow B e 4 v n (srcs xs))
    (g : Nat) (y : Src) (hx : a.eval x = .slice (some ⟨g, 0, none⟩) 1 1) (hk : Blk w g e #[.int .i64 y.x, .int .i64 y.y, .int .i64 y.g, .int .i64 y.p]) (h63 : n ≤ 1000000) (hB : B ≤ w.heap.size)
    (h : ∀ v' w', w'.ownsRow B e 4 v' (n + 1) (srcs (xs ++ [y])) → Below B w w' → w.grownBy w' v.ownBlock → (v'.ownBlock = v.ownBlock ∨ v'.ownBlock = some w.heap.size) → K (a.put o.dst v') w') :
    if Region.wanted o (yielded ops a.tmps) = true then Oper.wp P o a w K Q else E := by
  subst hP
  obtain ⟨i, hi, hz, hsize, hby⟩ := info_parts hinfo
  have hr : Reads w w.heap.size 4 (some ⟨g, 0, none⟩) 1 (srcCells y) := by
    refine ⟨rfl, fun _ => ⟨_, rfl, hk.lt, fun j u hu => ?_⟩⟩
    have : (⟨g, 0, none⟩ : Addr).add j = ⟨g, j, none⟩ := by unfold Addr.add; split <;> simp_all
    rw [this, hk.cell]
    simpa [srcCells] using hu
  refine step_append_any w hgd s x t ho B e i z 4 32 ht hi hz hsize hby hz4 (by decide) v n (srcs xs) hs hown w.heap.size (some ⟨g, 0, none⟩) 1 1 (srcCells y) hx hr (one_src _) (by unfold maxLen; omega) (by omega) hB ?_
  intro v' w' ho' hg hv'
  exact h v' w' (by rw [srcs_snoc]; exact ho') ((Below.refl B w).grown hg hB fun k hk => (hown.lt k hk).1) hg hv'
theorem iw {n m : Int} (h : wrap64 n = m) : IntKind.i64.wrap n = m := (wr_is n).symm.trans h
/-- What a round of Repeat keeps: two sources in boxes. -/
structure RepI (w : World) (g1 g2 : Nat) (s o : Src) (W : World) : Prop where
  bel : Below w.heap.size w W
  b1 : Blk W g1 60 #[.int .i64 s.x, .int .i64 s.y, .int .i64 s.g, .int .i64 s.p]
  b2 : Blk W g2 60 #[.int .i64 o.x, .int .i64 o.y, .int .i64 o.g, .int .i64 o.p]
theorem RepI.drew {w : World} {g1 g2 : Nat} {s o : Src} {W : World} (h : RepI w g1 g2 s o W) : RepI w g1 g2 s o W.drew := ⟨h.bel.drew, h.b1.drew, h.b2.drew⟩
theorem RepI.new {w : World} {g1 g2 : Nat} {s o : Src} {W : World} (h : RepI w g1 g2 s o W) (ob : Obj) : RepI w g1 g2 s o (W.alloc ob) := ⟨h.bel.alloc h.bel.size _, h.b1.alloc _, h.b2.alloc _⟩
/-- What Repeat returns. -/
def rpE (l b : List Src) : Int := fnz [lstErr l, lstErr b]
def rpO (l b : List Src) : List Src × Int := if rpE l b = 0 then (vld (rep l b), lstErr (rep l b)) else ([], rpE l b)
set_option maxHeartbeats 4000000 in
theorem Repeat_any (A : Option Addr) (m c : Nat) (l : List Src) (A' : Option Addr) (m' c' : Nat) (b : List Src) (w : World) (hR : Reads w w.heap.size 4 A m (srcs l)) (hR' : Reads w w.heap.size 4 A' m' (srcs b)) (hm : m ≤ 1000000) (hm' : m' ≤ 1000000) :
    Calls Tryz.prog 19 #[.slice A m c, .slice A' m' c'] w fun e w' => OutS w (rpO l b).1 (rpO l b).2 e w' := by
  have HL := hide (srcs_reads_len hR)
  have HL' := hide (srcs_reads_len hR')
  unfold rpO
  by_cases h0 : rpE l b = 0
  · rw [if_pos h0]
    have hh : lstErr l = 0 ∧ lstErr b = 0 := by
      unfold rpE at h0
      rw [fnz_zero] at h0
      exact ⟨h0 _ (by simp), h0 _ (by simp)⟩
    have hok := lst_ok hh.1
    have hok' := lst_ok hh.2
    have t0 : (fnz [lstErr l, lstErr b] != 0) = false := by rw [show fnz [lstErr l, lstErr b] = 0 from h0]; rfl
    have hl16 : m ≤ 16 := by rw [← HL.out]; exact hok.len
    have hl16' : m' ≤ 16 := by rw [← HL'.out]; exact hok'.len
    have HO := hide hok
    have HO' := hide hok'
    clear h0 hok hok' hh
    go_enter Tryz.func19, Tryz.ntmps19
    go_wp2_with fail
    refine (CheckSources_any A m c l _ hR (by omega)).mono ?_
    rintro e w1 ⟨rfl, hb1⟩
    go_wp2_with fail
    refine (CheckSources_any A' m' c' b _ (carry hR' hb1) (by omega)).mono ?_
    rintro e w2 ⟨rfl, hb2⟩
    go_wp2_with ((go_at_call 86; (first | (with_reducible (refine (first_any _ _ _ _ _ _ (reads2 _ _ _ _) (by omega)).mono ?_)) | (with_reducible (refine (first_any _ _ _ _ _ _ (Reads.drew (reads2 _ _ _ _)) (by omega)).mono ?_))); rintro e W' ⟨rfl, rfl⟩))
    obtain ⟨w3, e3⟩ : ∃ w3, w3 = w2.alloc (.cells #[.int .i64 (lstErr l), .int .i64 (lstErr b)] 27) := ⟨_, rfl⟩
    have hb3 : Below w2.heap.size w2 w3 := by rw [e3]; exact (Below.refl _ _).alloc (Nat.le_refl _) _
    rw [← e3]; clear e3
    have hb03 : Below w.heap.size w w3 := (by repeat (first | with_reducible assumption | exact Below.refl _ _ | refine below_next (by with_reducible assumption) ?_))
    clear hb1 hb2 hb3
    go_loopw [7, 23] (fun v i wr => ∃ k : Nat, k ≤ m ∧ i = .int .i64 k ∧ wr.ownsRow w.heap.size 60 4 v (k * m') (srcs (rep (l.take k) b)) ∧ Below w.heap.size w wr) (fun _ i _ => m - (intOf i).toNat)
    case atStart => exact ⟨0, by omega, rfl, by rw [Nat.zero_mul]; exact World.ownsRow_nil _ _ _ _, hb03⟩
    case round =>
      rename World => wo
      clear hb03
      obtain ⟨k, hk, rfl, ho, hb⟩ := hrel
      by_cases hlt : k < m
      · obtain ⟨ad, s, rfl, _, hx, hc⟩ := src_hit (carry hR hb) hlt (Nat.le_refl _)
        obtain ⟨d0, d1, d2, d3⟩ := hc wo (Below.refl _ _)
        have hs := HO.out.all s (List.mem_of_getElem? hx)
        have HX := hide hx
        have HS := hide hs
        clear hx hs hc
        go_upto_region 8 with (fail)
        obtain ⟨w4, e4, hb4, hz4, k4⟩ := box1 wo #[.int .i64 s.x, .int .i64 s.y, .int .i64 s.g, .int .i64 s.p] 60
        rw [← e4]; clear e4 d0 d1 d2 d3
        have ho4 := row_below ho hb4
        have hbw4 := below_next hb hb4
        have hne4 : _ ≠ some wo.heap.size := fun e => Nat.lt_irrefl _ (ho.lt _ e).2
        clear ho
        go_wp2_with fail
        go_loopw [7, 29] (fun v i wr => ∃ j : Nat, j ≤ m' ∧ i = .int .i64 j ∧ wr.ownsRow w.heap.size 60 4 v (k * m' + j) (srcs (rep (l.take k) b ++ (b.take j).map (rep1 s))) ∧ v.ownBlock ≠ some wo.heap.size ∧ Blk wr wo.heap.size 60 #[.int .i64 s.x, .int .i64 s.y, .int .i64 s.g, .int .i64 s.p] ∧ Below w.heap.size w wr) (fun _ i _ => m' - (intOf i).toNat)
        case atStart => exact ⟨0, by omega, rfl, by simpa using ho4, hne4, k4, hbw4⟩
        case round =>
          rename World => wq
          clear ho4 k4 hbw4 hne4
          obtain ⟨j, hj, rfl, hoq, hne, kq, hbq⟩ := hrel
          by_cases hlt2 : j < m'
          · obtain ⟨ad', o, rfl, _, hx', hc'⟩ := src_hit (carry hR' hbq) hlt2 (Nat.le_refl _)
            obtain ⟨d0, d1, d2, d3⟩ := hc' wq (Below.refl _ _)
            have ho' := HO'.out.all o (List.mem_of_getElem? hx')
            have HX' := hide hx'
            have v1 : wrap64 (s.x + o.x) = s.x + o.x := add_in (by have := HS.out.x1; have := HS.out.x2; omega) (by have := ho'.x1; have := ho'.x2; omega)
            have v2 : wrap64 (s.y + o.y) = s.y + o.y := add_in (by have := HS.out.y1; have := HS.out.y2; omega) (by have := ho'.y1; have := ho'.y2; omega)
            have v3 : wrap64 (s.g * o.g) = s.g * o.g := mul_in ⟨HS.out.g1, HS.out.g2⟩ ⟨ho'.g1, ho'.g2⟩
            have v4 : wrap64 (s.p + o.p) = s.p + o.p := add_in (by have := HS.out.p1; have := HS.out.p2; omega) (by have := ho'.p1; have := ho'.p2; omega)
            have hkm : k * m' ≤ 16 * 16 := Nat.mul_le_mul (by omega) hl16'
            have A1 : k * m' + j + 1 ≤ maxLen := by unfold maxLen; omega
            have A2 : (k * m' + j + 1) * 32 ≤ 140737488355328 := by omega
            clear hx' hc' ho'
            go_upto_region 11 with (fail)
            obtain ⟨w5, e5, hb5, hz5, k5⟩ := box1 wq #[.int .i64 o.x, .int .i64 o.y, .int .i64 o.g, .int .i64 o.p] 60
            rw [← e5]; clear e5 d0 d1 d2 d3
            have kq5 := carryK kq hb5
            have ho5 := row_below hoq hb5
            have hbw5 := below_next hbq hb5
            have hlo : wo.heap.size < w5.heap.size := kq5.lt
            have hlq : wq.heap.size < w5.heap.size := k5.lt
            have hneq : u7.ownBlock ≠ some wq.heap.size := fun e => Nat.lt_irrefl _ (hoq.lt _ e).2
            have hI : RepI w wo.heap.size wq.heap.size s o w5 := ⟨hbw5, kq5, k5⟩
            have c4 := fun i W (h : RepI w wo.heap.size wq.heap.size s o W) => h.b1.cell i
            have c5 := fun i W (h : RepI w wo.heap.size wq.heap.size s o W) => h.b2.cell i
            have hzw : w.heap.size ≤ w5.heap.size := hbw5.size
            have hoS : w5.ownsRow w.heap.size 60 4 u7 (k * m' + j) (srcs (rep (l.take k) b ++ (b.take j).map (rep1 s))) := ho5
            have ZZ : Hid (IntKind.i64.wrap (s.x + o.x) = s.x + o.x ∧ IntKind.i64.wrap (s.y + o.y) = s.y + o.y ∧ IntKind.i64.wrap (s.g * o.g) = s.g * o.g ∧ IntKind.i64.wrap (s.p + o.p) = s.p + o.p) := ⟨iw v1, iw v2, iw v3, iw v4⟩
            have HA1 := hide A1
            have hA3 : k * m' + j ≤ 1000000 := by omega
            clear hoq A1 A2 hkm
            go_region_held3 (RepI w wo.heap.size wq.heap.size s o) (first | exact hI.drew | (with_reducible assumption) | exact RepI.new ‹RepI w wo.heap.size wq.heap.size s o _› _) (first | (go_at_call 87; refine (modulo_any _ _).mono ?_; rintro e W' ⟨rfl, rfl⟩) | (refine step_src rfl rfl (.tmp 33) (.tmp 56) _ rfl 60 _ info_src rfl Tryz.underlying26 w.heap.size u7 (k * m' + j) (rep (l.take k) b ++ (b.take j).map (rep1 s)) (by rfl) (by repeat (first | (with_reducible exact hoS) | (with_reducible refine row_drew ?_) | (with_reducible refine World.ownsRow.alloc ?_ _))) w5.heap.size (rep1 s o) (by rfl) (by repeat (first | (with_reducible refine Blk.drew ?_) | (simp only [ZZ.out.1, ZZ.out.2.1, ZZ.out.2.2.1, ZZ.out.2.2.2]; exact Blk.newAt rfl))) hA3 (RepI.bel ‹RepI w wo.heap.size wq.heap.size s o _›).size ?_; intro vN wN hoN hbN hgN hvN; have hI9 := ‹RepI w wo.heap.size wq.heap.size s o _›; have hb1N := hI9.b1.grown hgN (fun e => hne e.symm); have hb2N := hI9.b2.grown hgN (fun e => hneq e.symm); have hIN : RepI w wo.heap.size wq.heap.size s o wN := ⟨hI9.bel.trans hbN, hb1N, hb2N⟩; have hneN : vN.ownBlock ≠ some wo.heap.size := hvN.elim (fun e => by rw [e]; exact hne) (fun e => by rw [e]; intro e2; have e3 := Option.some.inj e2; have e4 := hI9.b1.lt; omega)))
            all_goals
              clear c4 c5
              (try go_wp2_with fail)
              go_roundw
              case rel => exact ⟨j + 1, by omega, by go_num, by rw [map_take HX'.out, ← List.append_assoc]; exact hoN, hneN, hIN.b1, hIN.bel⟩
              case measure => simp [intOf]; omega
          · obtain rfl : j = m' := by omega
            go_wp2_with fail
            go_roundw
            case rel => exact ⟨k + 1, by omega, by go_num, by rw [Nat.succ_mul, rep_take HX.out]; rw [show b.take j = b from List.take_of_length_le (by rw [HL'.out]; omega)] at hoq; exact hoq, hbq⟩
            case measure => simp [intOf]; omega
      · obtain rfl : k = m := by omega
        rw [List.take_of_length_le (by rw [HL.out]; omega)] at ho
        obtain ⟨A7, c7, rfl, hR7⟩ := own_slice ho
        have hkm : k * m' ≤ 16 * 16 := Nat.mul_le_mul hl16 hl16'
        go_wp2_with fail
        refine (valid_any A7 (k * m') c7 _ _ hR7 (by omega)).mono ?_
        rintro e w5 ⟨A5, n5, c5, rfl, hR5, hb5⟩
        go_wp2_with fail
        go_ret2
        exact ⟨A5, n5, c5, rfl, hR5, below_next hb hb5⟩
  · rw [if_neg h0]
    have t0 : (fnz [lstErr l, lstErr b] != 0) = true := by simpa using (show ¬ fnz [lstErr l, lstErr b] = 0 from h0)
    clear h0
    go_enter Tryz.func19, Tryz.ntmps19
    go_wp2_with fail
    refine (CheckSources_any A m c l _ hR (by omega)).mono ?_
    rintro e w1 ⟨rfl, hb1⟩
    go_wp2_with fail
    refine (CheckSources_any A' m' c' b _ (carry hR' hb1) (by omega)).mono ?_
    rintro e w2 ⟨rfl, hb2⟩
    go_wp2_with ((go_at_call 86; (first | (with_reducible (refine (first_any _ _ _ _ _ _ (reads2 _ _ _ _) (by omega)).mono ?_)) | (with_reducible (refine (first_any _ _ _ _ _ _ (Reads.drew (reads2 _ _ _ _)) (by omega)).mono ?_))); rintro e W' ⟨rfl, rfl⟩))
    obtain ⟨w3, e3⟩ : ∃ w3, w3 = w2.alloc (.cells #[.int .i64 (lstErr l), .int .i64 (lstErr b)] 27) := ⟨_, rfl⟩
    have hb3 : Below w2.heap.size w2 w3 := by rw [e3]; exact (Below.refl _ _).alloc (Nat.le_refl _) _
    rw [← e3]; clear e3
    go_ret2
    exact OutS.none_ (by repeat (first | with_reducible assumption | exact Below.refl _ _ | refine below_next (by with_reducible assumption) ?_))
end Go.Proofs.YtcihiglpahhboaaGreatDoor
