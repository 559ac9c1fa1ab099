/- The library's iterator Lines: its contract. -/
import Derived.Test.YtpcmflfinlkeiaaGreatDoorSRTxt
import Derived.Test.YtpcmflfinlkeiaaGreatDoorSLinP
import Derived.Test.YtpcmflfinlkeiaaGreatDoorRangeS
import Derived.Test.YtpcmflfinlkeiaaGreatDoorSplit
import Derived.Sort.CutIn
namespace Go.Proofs.YtpcmflfinlkeiaaGreatDoor
open Go.RowKit Go.Shelf
set_option maxRecDepth 100000
attribute [local go_sem] Oper.semAt_some
/-- The types of the cells that the iterator must find as they were. -/
def linT : List TypeId := [9]
def encL (x : List UInt8) : Array Value := #[.string ⟨x.toArray⟩]
def nextL (s : List UInt8) (pre : List (List UInt8)) (x : List UInt8) : Prop := ∃ t, lnl s = pre ++ x :: t
def memLen : Option Value → Nat
  | some (.string s) => s.size
  | _ => 0
theorem index_any (s : ByteArray) (w : World) : Calls Tryz.prog 78 #[.string s, .int .u8 10] w fun e w' => e = .returned (.int .i64 (Lib.indexByte s.data.toList 10)) ∧ w = w' :=
  (Tryz.strings_IndexByte s 10 w).mono fun _ _ ⟨h1, h2⟩ => ⟨h1, h2.symm⟩
set_option maxHeartbeats 4000000 in
theorem lines1_in (n : Nat) (hn : 1 ≤ n) (lp Bs n0 n1 : Nat) (s : ByteArray) (hs : s.size ≤ 1000000)
    (J Jx : List (List UInt8) → World → Prop) (hJ : ∀ s A B, J s A → Hush linT n1 A.heap.size A B → J s B)
    (hY : ∀ pre x W1, J pre W1 → nextL s.data.toList pre x → YieldAt Fence.wide (n - 1) Tryz.prog lp (encL x) W1 fun e W' => (e = .returned (.bool true) ∧ J (pre ++ [x]) W' ∧ Kept linT n0 n1 W1 W') ∨ (e = .returned (.bool false) ∧ Jx (pre ++ [x]) W'))
    (W : World) (ks : Blk W Bs 9 #[.string s]) (hns : n1 ≤ Bs) (h0 : J [] W) :
    CallsIn Fence.wide n Tryz.prog 77 #[.func (.yield lp) #[] #[], .pointer (some ⟨Bs, 0, none⟩)] W fun e W' => (∃ v, e = .returned v) ∧ ((∃ xs, xs = lnl s.data.toList ∧ J xs W') ∨ (∃ xs, Jx xs W')) := by
  refine callsIn_of_wp Tryz.func77 rfl trivial ?_ rfl
  simp only [Tryz.ntmps77, List.size_toArray, List.length_cons, List.length_nil, Nat.reduceAdd, Nat.reduceSub, Array.replicate_succ, Array.replicate_zero, List.push_toArray, List.append_toArray, List.nil_append, List.cons_append]
  gi_wp2
  gi_loopw [3] (fun v wr => ∃ (pre : List (List UInt8)) (S : ByteArray), lnl s.data.toList = pre ++ lnl S.data.toList ∧ S.size ≤ 1000000 ∧ Blk wr Bs 9 #[.string S] ∧ J pre wr) (fun _ wr => memLen (wr.cell? ⟨Bs, 0, none⟩))
  case atStart => exact ⟨[], s, rfl, hs, ks, h0⟩
  case round =>
    rename World => wr
    obtain ⟨pre, S, hpre, hS, kS, hj⟩ := hrel
    clear ks h0
    have cS := kS.cell 0
    have hm : memLen (wr.cell? ⟨Bs, 0, none⟩) = S.size := by rw [cS]; rfl
    have HM := hide hm
    clear hm
    cases hl : lnl S.data.toList with
    | nil =>
      have hz := lnl_nil hl
      have hz0 : S.size = 0 := by rw [bsize, hz]; rfl
      have t0 : ¬ (0 < S.size) := by omega
      have t0' : decide (0 < S.size) = false := decide_eq_false t0
      rw [hl, List.append_nil] at hpre
      have HP := hide hpre
      clear hz hl hpre
      gi_wp2
      go_end0
      exact ⟨⟨_, rfl⟩, .inl ⟨pre, HP.out.symm, hj⟩⟩
    | cons ln t =>
      rw [hl] at hpre
      have HP := hide hpre
      clear hpre
      rcases lnl_cons hl with ⟨a, l, hx, ha, hSa, ht, hsp⟩ | ⟨hx, ha, hne, ht, hsp⟩
      · have hxe : S.extract 0 (a.length + 1) = (⟨ln.toArray⟩ : ByteArray) := bytes_ext (by rw [ext_data, List.drop_zero, List.toList_toArray, hSa, hx, List.take_append, List.take_of_length_le (Nat.le_succ _)]; simp)
        obtain ⟨R, hR⟩ : ∃ R, R = S.extract (a.length + 1) S.size := ⟨_, rfl⟩
        have hsz : S.size = a.length + 1 + l.length := by rw [bsize, hSa]; simp; omega
        have hRl : R.data.toList = l := by
          rw [hR, ext_data, List.take_of_length_le (by rw [← bsize]; exact Nat.le_refl _), hSa]
          simp [List.drop_append]
        have hRs : R.size = l.length := by rw [bsize, hRl]
        have hidx : Lib.indexByte S.data.toList 10 = (a.length : Nat) := by rw [hSa]; exact index_part ha
        have t0 : 0 < S.size := by omega
        have t0' : decide (0 < S.size) = true := decide_eq_true t0
        have g1 : (a.length : Int) + 1 ≤ (S.size : Int) := by omega
        have g2 : a.length ≤ 1000000 := by omega
        have HE := hide hxe
        have HR := hide hR
        have HRL := hide hRl
        have HRS := hide hRs
        have HI := hide hidx
        have HT := hide ht
        have HSZ := hide hsz
        obtain ⟨m, hm⟩ : ∃ m, m = a.length := ⟨_, rfl⟩
        rw [← hm] at HE HR HI HSZ g1 g2
        clear hl hx ha hSa ht hxe hR hsz hRl hRs hidx hm hsp
        gi_wp2_with fail
        refine ⟨trivial, ?_⟩
        refine (callsIn_wide.2 (index_any S wr)).mono ?_
        rintro e w1 ⟨rfl, hw1⟩
        rw [HI.out, ← hw1]
        clear hw1 w1
        gi_upto_region 4 with (fail)
        refine wpIn_wide.2 ?_
        have cSO := over_blk (B := wr.heap.size) kS kS.lt
        refine wp_region_part 9 wr.heap.size (by kernel_rfl) (by kernel_rfl) ?_; simp only [List.take_succ_cons, List.take_zero, List.drop_succ_cons, List.drop_zero]; (repeat (first | go_big_quiet_step ((fail)) | quiet_step ((fail)))); refine wpQuiet_nil ?_; rintro W ⟨x, rfl⟩
        have hbY := over_below wr.heap.size wr x
        generalize over wr.heap.size wr x = Y at hbY ⊢
        have kY := kS.below hbY kS.lt
        have jY := hJ _ _ _ hj (hush_of_below (Hush.refl linT n1 wr.heap.size wr) hbY)
        have cY := kY.cell
        have fY := kY.frozen
        clear cSO kS hj cS hbY
        go_wp2_with fail
        rw [show S.extract (m + 1) S.size = R from HR.out.symm]
        have kZ : Blk _ Bs 9 #[.string R] := kY.set_ 0 (.string R)
        have j1 := hJ _ _ _ jY (hush_set (i := 0) (Hush.refl linT n1 Y.heap.size Y) kY hns rfl (.string R))
        generalize World.setCell Y _ _ = Z at kZ j1 ⊢
        clear kY jY cY fY
        obtain ⟨fn, tmps, assign, body, hyl, hRd⟩ := hY _ ln Z j1 ⟨t, HP.out⟩
        unfold encL at hyl
        rw [← HE.out] at hyl
        (try dsimp only at hyl)
        gi_wp2
        refine hRd.mono ?_
        rintro e W5 (⟨rfl, hJ5, hk5⟩ | ⟨rfl, hJ5⟩)
        · have kW5 := hk5.blk kZ hns rfl
          gi_wp2
          go_roundw
          case rel => exact ⟨pre ++ [ln], R, by rw [HP.out, HT.out, HRL.out]; simp, by have := HRS.out; have := HSZ.out; omega, kW5, hJ5⟩
          case measure => rw [HM.out, kW5.cell 0]; show R.size < S.size; have := HRS.out; have := HSZ.out; omega
        · gi_wp2
          refine bodyPost_ret (results_none rfl _ _ _) rfl ?_
          exact ⟨⟨_, rfl⟩, .inr ⟨_, hJ5⟩⟩
      · have hz : S.size ≠ 0 := fun e => hne (List.eq_nil_of_length_eq_zero (by rw [← bsize]; exact e))
        have t0 : 0 < S.size := by omega
        have t0' : decide (0 < S.size) = true := decide_eq_true t0
        have hidx : Lib.indexByte S.data.toList 10 = -1 := index_none10 ha
        have hxe : S = (⟨ln.toArray⟩ : ByteArray) := bytes_ext (by rw [List.toList_toArray, hx])
        have HE := hide hxe
        have HI := hide hidx
        have HT := hide ht
        clear hl hx ha hne ht hsp hxe hidx hz
        gi_wp2_with fail
        refine ⟨trivial, ?_⟩
        refine (callsIn_wide.2 (index_any S wr)).mono ?_
        rintro e w1 ⟨rfl, hw1⟩
        rw [HI.out, ← hw1]
        clear hw1 w1
        have cK := kS.cell
        have fK := kS.frozen
        gi_upto_region 6 with (fail)
        have kZ : Blk _ Bs 9 #[.string ⟨#[]⟩] := kS.set_ 0 (.string ⟨#[]⟩)
        have j1 := hJ _ _ _ hj (hush_set (i := 0) (Hush.refl linT n1 wr.heap.size wr) kS hns rfl (.string ⟨#[]⟩))
        generalize World.setCell wr _ _ = Z at kZ j1 ⊢
        clear kS hj cK fK cS
        obtain ⟨fn, tmps, assign, body, hyl, hRd⟩ := hY _ ln Z j1 ⟨t, HP.out⟩
        unfold encL at hyl
        rw [← HE.out] at hyl
        (try dsimp only at hyl)
        gi_wp2
        refine hRd.mono ?_
        rintro e W5 (⟨rfl, hJ5, hk5⟩ | ⟨rfl, hJ5⟩)
        · have kW5 := hk5.blk kZ hns rfl
          gi_wp2
          go_roundw
          case rel => exact ⟨pre ++ [ln], ⟨#[]⟩, by rw [HP.out, HT.out]; simp [lnl], by show 0 ≤ 1000000; omega, kW5, hJ5⟩
          case measure => rw [HM.out, kW5.cell 0]; show 0 < S.size; exact t0
        · gi_wp2
          refine bodyPost_ret (results_none rfl _ _ _) rfl ?_
          exact ⟨⟨_, rfl⟩, .inr ⟨_, hJ5⟩⟩
theorem lines_in (n : Nat) (s : ByteArray) (w : World) :
    CallsIn Fence.wide n Tryz.prog 46 #[.string s] w fun e w' => e = .returned (.func (.func 77) #[] #[.pointer (some ⟨w.heap.size, 0, none⟩)]) ∧ Below w.heap.size w w' ∧ w.heap.size + 1 ≤ w'.heap.size ∧ Blk w' w.heap.size 9 #[.string s] := by
  obtain ⟨w3, e3, hb3, hz3, k0⟩ := box1 w #[.string s] 9
  refine callsIn_of_wp Tryz.func46 rfl trivial ?_ rfl
  simp only [Tryz.ntmps46, List.size_toArray, List.length_cons, List.length_nil, Nat.reduceAdd, Nat.reduceSub, Array.replicate_succ, Array.replicate_zero, List.push_toArray, List.append_toArray, List.nil_append, List.cons_append]
  gi_wp2
  go_ret
  rw [← e3]
  exact ⟨rfl, hb3, hz3, k0⟩
/-- The iterator's contract in the caller's words. -/
theorem lines_all (n : Nat) (hn : 1 ≤ n) (Bs n0 n1 : Nat) (s : ByteArray) (hs : s.size ≤ 1000000) (w : World) (ks : Blk w Bs 9 #[.string s]) (hns : n1 ≤ Bs) :
    SeqSt n Tryz.prog 77 #[.pointer (some ⟨Bs, 0, none⟩)] encL linT n0 n1 (fun xs => xs = lnl s.data.toList) (nextL s.data.toList) w :=
  fun lp J Jx W hW hJ _ hY h0 => lines1_in n hn lp Bs n0 n1 s hs J Jx hJ hY W (ks.below hW ks.lt) hns h0
end Go.Proofs.YtpcmflfinlkeiaaGreatDoor
