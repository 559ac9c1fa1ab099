/- The reference's checks of ladders. -/
import Derived.Test.YthlnmoecmicofaaDoorNLad
namespace Go.Proofs.YthlnmoecmicofaaDoor
open Go.RowKit Go.Shelf
set_option maxRecDepth 100000

def strs (l : List ByteArray) : List Value := l.map Value.string
theorem strs_at {xs : List ByteArray} {k : Nat} {u : Value} (h : (strs xs)[k]? = some u) : ∃ x, xs[k]? = some x ∧ u = .string x := by
  simp only [strs, List.getElem?_map, Option.map_eq_some_iff] at h
  obtain ⟨x, h1, h2⟩ := h
  exact ⟨x, h1, h2.symm⟩
theorem toList_beq (a b : ByteArray) : (a.toList == b.toList) = decide (a = b) := by
  rw [Bool.eq_iff_iff]
  simp only [beq_iff_eq, decide_eq_true_eq, ByteArray.toList_eq]
  exact ⟨fun h => Go.WideShapes.bytes_inj h, fun h => by rw [h]⟩

set_option maxHeartbeats 1000000 in
theorem hasWord_any (A : Option Addr) (n c B : Nat) (ks : List ByteArray) (s : ByteArray) (w : World) (r : Bool) (hr : r = true ↔ s ∈ ks) (h : Reads w B 1 A n (strs ks)) (hn : n ≤ 1000000) :
    Calls Tryd.prog 71 #[.slice A n c, .string s] w fun e w' => e = .returned (.bool r) ∧ w = w' := by
  have hl : ks.length = n := by have := h.1; simpa [strs] using this
  have HL := hide hl; clear hl
  have HR := hide hr; clear hr
  go_enter Tryd.func71, Tryd.ntmps71
  go_wp2
  go_loop [5] (fun i => ∃ k : Nat, k ≤ n ∧ i = .int .i64 k ∧ ∀ y ∈ ks.take k, y ≠ s) (fun i => n - (intOf i).toNat)
  case atStart => exact ⟨0, by omega, rfl, by simp⟩
  case round =>
    obtain ⟨k, hk, rfl, hz⟩ := hrel
    have HZ := hide hz; clear hz
    by_cases hlt : k < n
    · obtain ⟨ad, u, rfl, _, hu, hc⟩ := h.at_ hlt
      obtain ⟨x, hx, rfl⟩ := strs_at hu
      have HX := hide hx; clear hx hu
      have hb := toList_beq x s
      by_cases hxs : x = s
      · have t1 : (x.toList == s.toList) = true := by rw [hb, hxs]; simp
        have HM : Hid (r = true) := HR.out.2 (hxs ▸ List.mem_of_getElem? HX.out)
        clear hb
        go_wp2
        go_ret
        exact ⟨by rw [HM.out]; rfl, rfl⟩
      · have t1 : (x.toList == s.toList) = false := by rw [hb]; simp [hxs]
        have HNE := hide hxs
        clear hb hxs
        go_wp2
        go_round
        case rel =>
          refine ⟨k + 1, by omega, by go_num, fun y hy => ?_⟩
          rw [List.take_add_one, HX.out] at hy
          simp at hy
          rcases hy with hy | rfl
          · exact HZ.out y hy
          · exact HNE.out
        case measure => simp [intOf]; omega
    · obtain rfl : k = n := by omega
      have HM : Hid (r = false) := Bool.eq_false_iff.2 fun hr => by
        have hs := HR.out.1 hr
        have := HZ.out
        rw [List.take_of_length_le (by rw [HL.out]; omega)] at this
        exact this s hs rfl
      go_wp2
      go_ret
      exact ⟨by rw [HM.out]; rfl, rfl⟩
theorem rKinds_any (w : World) :
    Calls Tryd.prog 72 #[] w fun e w' => ∃ g, e = .returned (.slice (some ⟨g, 0, none⟩) 4 4) ∧ Reads w' w'.heap.size 1 (some ⟨g, 0, none⟩) 4 (strs [kBlock, kSeries, kShunt, kTrap]) ∧ Below w.heap.size w w' := by
  go_enter Tryd.func72, Tryd.ntmps72
  go_wp2
  go_ret
  refine ⟨_, rfl, ⟨rfl, fun _ => ⟨_, rfl, by simp, fun j u hu => ?_⟩⟩, (by repeat (first | exact Below.refl _ _ | exact Below.refl _ _ | refine Below.drew ?_ | refine below_drewN ?_ _ | refine below_set ?_ (by omega) _ | refine below_new ?_ (by omega) _))⟩
  have : (⟨w.heap.size, 0, none⟩ : Addr).add j = ⟨w.heap.size, j, none⟩ := by unfold Addr.add; split <;> simp_all
  rw [this]
  exact cells_new _ _ _ j u hu
theorem known_iff (x : El) : x.known = true ↔ x.kind ∈ [kBlock, kSeries, kShunt, kTrap] := by simp [El.known]

theorem list_block (k : ByteArray) : (k.toList == [98, 108, 111, 99, 107]) = decide (k = kBlock) := by
  have h := toList_beq k kBlock
  rwa [show (kBlock).toList = [98, 108, 111, 99, 107] from by rw [ByteArray.toList_eq]; rfl] at h
theorem list_series (k : ByteArray) : (k.toList == [115, 101, 114, 105, 101, 115]) = decide (k = kSeries) := by
  have h := toList_beq k kSeries
  rwa [show (kSeries).toList = [115, 101, 114, 105, 101, 115] from by rw [ByteArray.toList_eq]; rfl] at h
theorem list_shunt (k : ByteArray) : (k.toList == [115, 104, 117, 110, 116]) = decide (k = kShunt) := by
  have h := toList_beq k kShunt
  rwa [show (kShunt).toList = [115, 104, 117, 110, 116] from by rw [ByteArray.toList_eq]; rfl] at h
theorem list_trap (k : ByteArray) : (k.toList == [116, 114, 97, 112]) = decide (k = kTrap) := by
  have h := toList_beq k kTrap
  rwa [show (kTrap).toList = [116, 114, 97, 112] from by rw [ByteArray.toList_eq]; rfl] at h
theorem divides_any (k : ByteArray) (w : World) :
    Calls Tryd.prog 22 #[.string k] w fun e w' => e = .returned (.bool (kDiv k)) ∧ w = w' := by
  have h1 := list_block k
  have h2 := list_trap k
  by_cases e1 : k = kBlock
  · have t1 : (k.toList == [98, 108, 111, 99, 107]) = true := by rw [h1]; exact decide_eq_true e1
    have HD : Hid (kDiv k = true) := decide_eq_true (.inl e1)
    clear h1 h2 e1
    go_enter Tryd.func22, Tryd.ntmps22
    go_wp2
    go_ret
    exact ⟨by rw [HD.out]; rfl, rfl⟩
  · have t1 : (k.toList == [98, 108, 111, 99, 107]) = false := by rw [h1]; exact decide_eq_false e1
    by_cases e2 : k = kTrap
    · have t2 : (k.toList == [116, 114, 97, 112]) = true := by rw [h2]; exact decide_eq_true e2
      have HD : Hid (kDiv k = true) := decide_eq_true (.inr e2)
      clear h1 h2 e1 e2
      go_enter Tryd.func22, Tryd.ntmps22
      go_wp2
      go_ret
      exact ⟨by rw [HD.out]; rfl, rfl⟩
    · have t2 : (k.toList == [116, 114, 97, 112]) = false := by rw [h2]; exact decide_eq_false e2
      have HD : Hid (kDiv k = false) := decide_eq_false (fun h => h.elim e1 e2)
      clear h1 h2 e1 e2
      go_enter Tryd.func22, Tryd.ntmps22
      go_wp2
      go_ret
      exact ⟨by rw [HD.out]; rfl, rfl⟩
theorem err_unknown {x : El} (h : x.known = false) : x.err = 13 := by unfold El.err; rw [h]; rfl
theorem err_known {x : El} (h : x.known = true) (h2 : fnz [rng x.a 0 8, rng x.b 0 8] ≠ 0) : x.err = fnz [rng x.a 0 8, rng x.b 0 8] := by
  unfold El.err
  rw [h]
  simp only [fnz] at h2 ⊢
  by_cases h3 : rng x.a 0 8 = 0
  · by_cases h4 : rng x.b 0 8 = 0
    · simp [h3, h4] at h2
    · simp [h3, h4]
  · simp [h3]
theorem err_known0 {x : El} (h : x.known = true) (h2 : fnz [rng x.a 0 8, rng x.b 0 8] = 0) : x.err = if (kDiv x.kind && (x.a == 0) && (x.b == 0)) = true then 6 else 0 := by
  unfold El.err
  rw [h]
  simp only [fnz] at h2 ⊢
  by_cases h3 : rng x.a 0 8 = 0
  · by_cases h4 : rng x.b 0 8 = 0
    · simp only [h3, h4, if_true]
      show (if (if (x.divides && (x.a == 0) && (x.b == 0)) = true then (6 : Int) else 0) = 0 then 0 else _) = (if (x.divides && (x.a == 0) && (x.b == 0)) = true then (6 : Int) else 0)
      split <;> simp_all
    · simp [h3, h4] at h2
  · simp [h3] at h2
set_option maxHeartbeats 2000000 in
theorem rCheckElement_any (x : El) (w : World) :
    Calls Tryd.prog 39 #[.agg #[.string x.kind, .int .i64 x.a, .int .i64 x.b]] w fun e w' => e = .returned (.int .i64 x.err) ∧ Below w.heap.size w w' := by
  go_enter Tryd.func39, Tryd.ntmps39
  go_upto_region 1 with (fail)
  obtain ⟨w1, e1, hb1, hz1, k0⟩ := box1 w #[.string x.kind, .int .i64 x.a, .int .i64 x.b] 53
  rw [← e1]; clear e1
  go_cut [8] from 4 to 8 (fun s8 wx => s8 = .bool (!x.known) ∧ Below w1.heap.size w1 wx)
  case first =>
    have c0 : ∀ i W, Below w1.heap.size w1 W → W.cell? ⟨w.heap.size, i, none⟩ = (#[.string x.kind, .int .i64 x.a, .int .i64 x.b] : Array Value)[i]? := fun i W h => (carryK k0 h).cell i
    go_region_held3 (fun W => Below w1.heap.size w1 W) (first | exact (Below.refl _ _).drew | (with_reducible assumption) | exact below_new ‹Below w1.heap.size w1 _› (Nat.le_refl _) _ | (refine below_set (below_set (below_set (below_set (by assumption) (by omega) _) (by omega) _) (by omega) _) (by omega) _)) (first | (go_at_call 72; refine (rKinds_any _).mono ?_; rintro e W' ⟨gK, rfl, hRK, hbW⟩; have hS := below_step ‹Below w1.heap.size w1 _› hbW (Below.size ‹Below w1.heap.size w1 _›)) | (go_at_call 71; refine (hasWord_any _ _ _ _ [kBlock, kSeries, kShunt, kTrap] x.kind _ x.known (known_iff x) hRK (by omega)).mono ?_; rintro e W2 ⟨rfl, rfl⟩))
    go_wp2_with fail
    go_meet
    exact ⟨rfl, ‹Below w1.heap.size w1 _›⟩
  case rest =>
    obtain ⟨rfl, hb2⟩ := hcut
    rename World => w2
    have k2 := carryK k0 hb2
    have hbw2 := below_next hb1 hb2
    cases hkn : x.known
    · have he := err_unknown hkn
      have HE := hide he
      clear he
      go_wp2_with fail
      go_ret
      exact ⟨by rw [HE.out]; rfl, hbw2⟩
    · have c0 := over_blk k2 k2.lt
      go_upto_region 3 with (fail)
      go_cut [3] from 9 to 16 (fun s3 wx => s3 = .int .i64 (fnz [rng x.a 0 8, rng x.b 0 8]) ∧ Below w2.heap.size w2 wx)
      case first =>
        refine wp_region_part 6 w2.heap.size (by kernel_rfl) (by kernel_rfl) ?_; simp only [List.take_succ_cons, List.take_zero, List.drop_succ_cons, List.drop_zero]; (repeat (first | go_big_quiet_step ((go_at_call 41; exact over_same (checkRange_any _ _ _ _))) | quiet_step ((go_at_call 41; exact over_same (checkRange_any _ _ _ _))))); refine wpQuiet_nil ?_; rintro W ⟨x, rfl⟩
        go_wp2_with ((go_at_call 40; (first | (with_reducible (refine (rFirst_any _ _ _ _ _ _ (reads2 _ _ _ _) (by omega)).mono ?_)) | (with_reducible (refine (rFirst_any _ _ _ _ _ _ (Reads.drew (reads2 _ _ _ _)) (by omega)).mono ?_))); rintro e W' ⟨rfl, rfl⟩))
        go_meet
        exact ⟨rfl, (by repeat (first | exact over_below _ _ _ | exact Below.refl _ _ | refine Below.drew ?_ | refine below_drewN ?_ _ | refine below_set ?_ (by omega) _ | refine below_new ?_ (by omega) _))⟩
      case rest =>
        obtain ⟨rfl, hb3⟩ := hcut
        rename World => w3
        have k3 := carryK k2 hb3
        have hbw3 := below_next hbw2 hb3
        clear c0
        by_cases h0 : fnz [rng x.a 0 8, rng x.b 0 8] = 0
        · have t0 : (fnz [rng x.a 0 8, rng x.b 0 8] != 0) = false := by rw [h0]; rfl
          have he := err_known0 hkn h0
          clear h0 hkn
          have c3 := k3.cell
          cases hd : kDiv x.kind
          · rw [hd] at he
            have HE := hide he
            clear he
            go_wp2_with (go_at_call 22; refine (divides_any _ _).mono ?_; rintro e W' ⟨rfl, rfl⟩)
            go_ret
            exact ⟨by rw [HE.out]; simp, hbw3⟩
          · rw [hd] at he
            by_cases ha : x.a = 0
            · have ta : (x.a == 0) = true := by simpa using ha
              rw [ta] at he
              by_cases hb : x.b = 0
              · have tb : (x.b == 0) = true := by simpa using hb
                rw [tb] at he
                have HE := hide he
                clear ha hb he
                go_wp2_with (go_at_call 22; refine (divides_any _ _).mono ?_; rintro e W' ⟨rfl, rfl⟩)
                go_ret
                exact ⟨by rw [HE.out]; simp, hbw3⟩
              · have tb : (x.b == 0) = false := by simpa using hb
                rw [tb] at he
                have HE := hide he
                clear ha hb he
                go_wp2_with (go_at_call 22; refine (divides_any _ _).mono ?_; rintro e W' ⟨rfl, rfl⟩)
                go_ret
                exact ⟨by rw [HE.out]; simp, hbw3⟩
            · have ta : (x.a == 0) = false := by simpa using ha
              rw [ta] at he
              have HE := hide he
              clear ha he
              go_wp2_with (go_at_call 22; refine (divides_any _ _).mono ?_; rintro e W' ⟨rfl, rfl⟩)
              go_ret
              exact ⟨by rw [HE.out]; simp, hbw3⟩
        · have t0 : (fnz [rng x.a 0 8, rng x.b 0 8] != 0) = true := by simpa using h0
          have he := err_known hkn h0
          have HE := hide he
          clear h0 hkn he
          go_wp2_with fail
          go_ret
          exact ⟨by rw [HE.out]; rfl, hbw3⟩

set_option maxHeartbeats 1000000 in
theorem rCheckLadder_any (A : Option Addr) (n c : Nat) (l : List El) (w : World) (h : Reads w w.heap.size 3 A n (els l)) (hn : n ≤ 1000000000000) :
    Calls Tryd.prog 8 #[.slice A n c] w fun r w' => r = .returned (.int .i64 (ladErr l)) ∧ Below w.heap.size w w' := by
  have HL := hide (els_reads_len h)
  go_enter Tryd.func8, Tryd.ntmps8
  by_cases h5 : 5 < n
  · have g5 : (5 : Int) < (n : Int) := by omega
    have hz0 : ladErr l = 5 := by unfold ladErr; rw [if_pos (by rw [HL.out]; omega)]
    have HZ0 := hide hz0; clear hz0
    go_wp2_with fail
    go_ret
    exact ⟨by rw [HZ0.out]; rfl, Below.refl _ _⟩
  · have g5 : ¬ (5 : Int) < (n : Int) := by omega
    go_wp2_with fail
    go_loopw [3] (fun i wr => ∃ k : Nat, k ≤ n ∧ i = .int .i64 k ∧ (∀ x ∈ l.take k, x.err = 0) ∧ Below w.heap.size w wr) (fun i _ => n - (intOf i).toNat)
    case atStart => exact ⟨0, by omega, rfl, by simp, Below.refl _ _⟩
    case round =>
      obtain ⟨k, hk, rfl, hz, hb⟩ := hrel
      have HZ := hide hz; clear hz
      by_cases hlt : k < n
      · obtain ⟨ad, x, rfl, hadb, hxk, hcx⟩ := els_hit (h.below hb) hlt hb.size
        obtain ⟨q0, q1, q2⟩ := hcx wr (Below.refl _ _)
        have HX := hide hxk
        clear hxk hcx
        go_wp2_with fail
        refine (rCheckElement_any x _).mono ?_
        rintro e w2 ⟨rfl, hb2⟩
        have hbw2 := below_next hb hb2
        clear q0 q1 q2
        by_cases h0 : x.err = 0
        · have t0 : (x.err != 0) = false := by simpa using h0
          have H0 := hide h0; clear h0
          go_wp2_with fail
          go_roundw
          case rel =>
            refine ⟨k + 1, by omega, by go_num, fun y hy => ?_, hbw2⟩
            rw [List.take_add_one, HX.out] at hy
            simp at hy
            rcases hy with hy | rfl
            · exact HZ.out y hy
            · exact H0.out
          case measure => simp [intOf]; omega
        · have t0 : (x.err != 0) = true := by simpa using h0
          have hz0 : ladErr l = x.err := by
            unfold ladErr
            rw [if_neg (by rw [HL.out]; omega)]
            refine fnz_hit (k := k) (by rw [List.getElem?_map, HX.out]; rfl) (fun e he => ?_) t0
            rw [← List.map_take] at he
            obtain ⟨y, hy, rfl⟩ := List.mem_map.1 he
            exact HZ.out y hy
          clear h0
          go_wp2_with fail
          go_ret
          exact ⟨by rw [hz0]; rfl, hbw2⟩
      · have hz0 : ladErr l = 0 := by
          unfold ladErr
          rw [if_neg (by rw [HL.out]; omega), fnz_zero]
          intro e he
          obtain ⟨x, hx, rfl⟩ := List.mem_map.1 he
          have := HZ.out
          rw [List.take_of_length_le (by rw [HL.out]; omega)] at this
          exact this x hx
        have HZ0 := hide hz0; clear hz0
        go_wp2_with fail
        obtain rfl : k = n := by omega
        go_ret
        exact ⟨by rw [HZ0.out]; rfl, hb⟩
end Go.Proofs.YthlnmoecmicofaaDoor
