/- Repeat, Binomial of the reference. -/
import Derived.Test.YtcihiglpahhboaaGreatDoorARep
namespace Go.Proofs.YtcihiglpahhboaaGreatDoor
open Go.RowKit
set_option maxRecDepth 100000
theorem tmod4_nn {n : Int} (h : 0 ≤ n) : n.tmod 4 = n % 4 := Int.tmod_eq_emod_of_nonneg h
set_option maxHeartbeats 4000000 in
theorem rRepeat_any (A : Option Addr) (m c : Nat) (l : List Src) (A' : Option Addr) (m' c' : Nat) (b : List Src) (w : World) (hok : LOk l) (hok' : LOk b) (hR : Reads w w.heap.size 4 A m (srcs l)) (hR' : Reads w w.heap.size 4 A' m' (srcs b)) :
    Calls Tryz.prog 24 #[.slice A m c, .slice A' m' c'] w fun e w' => OutS w (vld (rep l b)) (lstErr (rep l b)) e w' := by
  have HL := hide (srcs_reads_len hR)
  have HL' := hide (srcs_reads_len hR')
  have hl16 : m ≤ 16 := by rw [← HL.out]; exact hok.len
  have hl16' : m' ≤ 16 := by rw [← HL'.out]; exact hok'.len
  have HO := hide hok
  have HO' := hide hok'
  clear hok hok'
  go_enter Tryz.func24, Tryz.ntmps24
  go_wp2_with fail
  go_loopw [6, 7] (fun v i wr => ∃ k : Nat, k ≤ m ∧ i = .int .i64 k ∧ wr.ownsRow w.heap.size 78 4 v (k * m') (srcs (rep (l.take k) b)) ∧ Below w.heap.size w wr) (fun _ i _ => m - (intOf i).toNat)
  case atStart => exact ⟨0, by omega, rfl, by rw [Nat.zero_mul]; exact World.ownsRow_nil _ _ _ _, Below.refl _ _⟩
  case round =>
    rename World => wo
    obtain ⟨k, hk, rfl, ho, hb⟩ := hrel
    by_cases hlt : k < m
    · obtain ⟨ad, s, rfl, _, hx, hc⟩ := src_hit hR hlt (Nat.le_refl _)
      have hs := HO.out.all s (List.mem_of_getElem? hx)
      have HX := hide hx
      have HS := hide hs
      have HC := hide hc
      clear hx hs hc
      go_wp2_with fail
      go_loopw [6, 8] (fun v i wr => ∃ j : Nat, j ≤ m' ∧ i = .int .i64 j ∧ wr.ownsRow w.heap.size 78 4 v (k * m' + j) (srcs (rep (l.take k) b ++ (b.take j).map (rep1 s))) ∧ Below w.heap.size w wr) (fun _ i _ => m' - (intOf i).toNat)
      case atStart => exact ⟨0, by omega, rfl, by simpa using ho, hb⟩
      case round =>
        rename World => wq
        clear ho hb
        obtain ⟨j, hj, rfl, hoq, hbq⟩ := hrel
        by_cases hlt2 : j < m'
        · obtain ⟨ad', o, rfl, _, hx', hc'⟩ := src_hit hR' hlt2 (Nat.le_refl _)
          have ho' := HO'.out.all o (List.mem_of_getElem? hx')
          have HX' := hide hx'
          have HC' := hide hc'
          have v1 : wrap64 (s.x + o.x) = s.x + o.x := add_in (by have := HS.out.x1; have := HS.out.x2; omega) (by have := ho'.x1; have := ho'.x2; omega)
          have v2 : wrap64 (s.y + o.y) = s.y + o.y := add_in (by have := HS.out.y1; have := HS.out.y2; omega) (by have := ho'.y1; have := ho'.y2; omega)
          have v3 : wrap64 (s.g * o.g) = s.g * o.g := mul_in ⟨HS.out.g1, HS.out.g2⟩ ⟨ho'.g1, ho'.g2⟩
          have v4 : wrap64 (s.p + o.p) = s.p + o.p := add_in (by have := HS.out.p1; have := HS.out.p2; omega) (by have := ho'.p1; have := ho'.p2; omega)
          have v5 : (s.p + o.p).tmod 4 = (s.p + o.p) % 4 := tmod4_nn (by have := HS.out.p1; have := ho'.p1; omega)
          have hkm : k * m' ≤ 16 * 16 := Nat.mul_le_mul (by omega) hl16'
          have hA3 : k * m' + j ≤ 1000000 := by omega
          have c0 := fun W (h : Below w.heap.size w W) => (HC.out W h).1
          have c1 := fun W (h : Below w.heap.size w W) => (HC.out W h).2.1
          have c2 := fun W (h : Below w.heap.size w W) => (HC.out W h).2.2.1
          have c3 := fun W (h : Below w.heap.size w W) => (HC.out W h).2.2.2
          have e0 := fun W (h : Below w.heap.size w W) => (HC'.out W h).1
          have e1 := fun W (h : Below w.heap.size w W) => (HC'.out W h).2.1
          have e2 := fun W (h : Below w.heap.size w W) => (HC'.out W h).2.2.1
          have e3 := fun W (h : Below w.heap.size w W) => (HC'.out W h).2.2.2
          have ZZ : Hid (IntKind.i64.wrap (s.x + o.x) = s.x + o.x ∧ IntKind.i64.wrap (s.y + o.y) = s.y + o.y ∧ IntKind.i64.wrap (s.g * o.g) = s.g * o.g ∧ IntKind.i64.wrap (s.p + o.p) = s.p + o.p ∧ (s.p + o.p).tmod 4 = (s.p + o.p) % 4) := ⟨iw v1, iw v2, iw v3, iw v4, v5⟩
          have hoS : wq.ownsRow w.heap.size 78 4 u6 (k * m' + j) (srcs (rep (l.take k) b ++ (b.take j).map (rep1 s))) := hoq
          clear hoq hkm hx' hc' ho' v1 v2 v3 v4 v5
          go_upto_region 8 with (fail)
          go_region_held3 (fun W => Below w.heap.size w W) (first | exact hbq.drew | (with_reducible assumption) | exact below_new ‹Below w.heap.size w _› (Nat.le_refl _) _) (first | (refine step_src rfl rfl (.tmp 22) (.tmp 69) _ rfl 78 _ info_srcR rfl Tryz.underlying22 w.heap.size u6 (k * m' + j) (rep (l.take k) b ++ (b.take j).map (rep1 s)) (by rfl) (by repeat (first | (with_reducible exact hoS) | (with_reducible refine row_drew ?_) | (with_reducible refine World.ownsRow.alloc ?_ _))) wq.heap.size (rep1 s o) (by rfl) (by repeat (first | (with_reducible refine Blk.drew ?_) | (simp only [ZZ.out.1, ZZ.out.2.1, ZZ.out.2.2.1, ZZ.out.2.2.2.1, ZZ.out.2.2.2.2]; exact Blk.newAt rfl))) hA3 (Below.size ‹Below w.heap.size w _›) ?_; intro vN wN hoN hbN hgN hvN; have hIN := (Below.trans ‹Below w.heap.size w _› hbN)))
          all_goals
            clear c0 c1 c2 c3 e0 e1 e2 e3
            (try go_wp2_with fail)
            go_roundw
            case rel => exact ⟨j + 1, by omega, by go_num, by rw [map_take HX'.out, ← List.append_assoc]; exact hoN, hIN⟩
            case measure => simp [intOf]; omega
        · obtain rfl : j = m' := by omega
          go_wp2_with fail
          go_roundw
          case rel => exact ⟨k + 1, by omega, by go_num, by rw [Nat.succ_mul, rep_take HX.out]; rw [show b.take j = b from List.take_of_length_le (by rw [HL'.out]; omega)] at hoq; exact hoq, hbq⟩
          case measure => simp [intOf]; omega
    · obtain rfl : k = m := by omega
      rw [List.take_of_length_le (by rw [HL.out]; omega)] at ho
      obtain ⟨A7, c7, rfl, hR7⟩ := own_slice ho
      have hkm : k * m' ≤ 16 * 16 := Nat.mul_le_mul hl16 hl16'
      by_cases h0 : lstErr (rep l b) = 0
      · have H0 := hide h0
        go_wp2_with fail
        refine (rCheckSources_any A7 (k * m') c7 _ _ hR7 (by omega)).mono ?_
        rintro e w5 ⟨rfl, hb5⟩
        rw [h0]
        clear h0
        go_wp2_with fail
        go_ret2
        exact ⟨A7, _, c7, by rw [H0.out]; rfl, by rw [vld_ok H0.out]; exact carry hR7 hb5, below_next hb hb5⟩
      · have t0 : (lstErr (rep l b) != 0) = true := by simpa using h0
        have H0 := hide h0
        clear h0
        go_wp2_with fail
        refine (rCheckSources_any A7 (k * m') c7 _ _ hR7 (by omega)).mono ?_
        rintro e w5 ⟨rfl, hb5⟩
        go_wp2_with fail
        go_ret2
        rw [vld_bad H0.out]
        exact OutS.none_ (below_next hb hb5)
end Go.Proofs.YtcihiglpahhboaaGreatDoor
