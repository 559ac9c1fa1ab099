/- The program's Parse of sources. -/
import Derived.Test.YtcihiglpahhboaaGreatDoorASrc
import Derived.Test.YtcihiglpahhboaaGreatDoorBaseC
namespace Go.Proofs.YtcihiglpahhboaaGreatDoor
open Go.RowKit Go.Shelf
set_option maxRecDepth 100000
theorem list_none (k : ByteArray) : (k.toList == []) = decide (k.data.toList = []) := by
  have h := toList_beqA k ⟨#[]⟩
  rw [show (⟨#[]⟩ : ByteArray).toList = [] from by rw [ByteArray.toList_eq]] at h
  rw [h]
  congr 1
  apply propext
  constructor
  · intro e; rw [e]
  · intro e
    have : k = ⟨k.data.toList.toArray⟩ := by simp
    rw [this, e]
/-- What a parse says, by name. -/
def PsAt (m : Nat) (L : List Src) (K E : Int) (w : World) (e : Ending) (w' : World) : Prop :=
  ∃ A c, e = .returned (.tuple #[.slice A m c, .int .i64 K, .int .i64 E]) ∧ Reads w' w'.heap.size 4 A m (srcs L) ∧ Below w.heap.size w w'
/-- What a parse returns. -/
def PsPost (s : ByteArray) (w : World) (e : Ending) (w' : World) : Prop := PsAt (parS s.data.toList).1.length (parS s.data.toList).1 (parS s.data.toList).2.1 (parS s.data.toList).2.2 w e w'
theorem psPost_bad {s : ByteArray} {w w' : World} {e : Ending} {K E : Int} (h : parS s.data.toList = ([], K, E)) (he : e = .returned (.tuple #[.slice none 0 0, .int .i64 K, .int .i64 E])) (hb : Below w.heap.size w w') : PsPost s w e w' := by
  unfold PsPost
  rw [h]
  exact ⟨none, 0, he, Reads.none_, hb⟩
theorem psPost_ok {s : ByteArray} {w w' : World} {e : Ending} {L : List Src} {n c : Nat} {A : Option Addr} (h : parS s.data.toList = (L, 0, 0)) (hn : L.length = n) (he : e = .returned (.tuple #[.slice A n c, .int .i64 0, .int .i64 0])) (hR : Reads w' w'.heap.size 4 A n (srcs L)) (hb : Below w.heap.size w w') : PsPost s w e w' := by
  unfold PsPost
  rw [h]
  simp only
  rw [hn]
  exact ⟨A, c, he, hR, hb⟩
theorem parS_long {s : List UInt8} (h : 4096 < s.length) : parS s = ([], 0, 27) := by unfold parS; rw [if_pos h]
theorem parS_go {s : List UInt8} (h : ¬ 4096 < s.length) : parS s = pgo [] (spl 10 s) := by unfold parS; rw [if_neg h]
/-- The size of a text. -/
def strLen : Value → Nat
  | .string s => s.size
  | _ => 0
set_option maxHeartbeats 4000000 in
theorem Parse_any (s : ByteArray) (w : World) (hT : TxV w) : Calls Tryz.prog 81 #[.string s] w (PsPost s w) := by
  have hsz := bsize s
  by_cases h1 : 4096 < s.data.toList.length
  · have HB := hide (parS_long h1)
    have g1 : (4096 : Int) < (s.size : Int) := by omega
    clear h1 hsz
    go_enter Tryz.func81, Tryz.ntmps81
    go_wp2_with fail
    go_ret3
    exact psPost_bad HB.out rfl (Below.refl _ _)
  · have g1 : ¬ (4096 : Int) < (s.size : Int) := by omega
    have hs : s.size ≤ 4096 := by omega
    have HG := hide (parS_go h1)
    clear h1 hsz
    go_enter Tryz.func81, Tryz.ntmps81
    go_wp2_with fail
    go_loopw [0, 5] (fun v o wr => ∃ (S : ByteArray) (acc : List Src), v = .string S ∧ acc.length + S.size ≤ 4096 ∧ Hid (parS s.data.toList = pgo acc (spl 10 S.data.toList)) ∧ wr.ownsRow w.heap.size 60 4 o acc.length (srcs acc) ∧ Below w.heap.size w wr) (fun v _ _ => strLen v)
    case atStart => exact ⟨s, [], rfl, by simpa using hs, HG, by simp [srcs, World.ownsRow_nil], Below.refl _ _⟩
    case round =>
      rename World => wo
      obtain ⟨S, acc, rfl, hS, HP, ho, hbo⟩ := hrel
      have hSs : S.size ≤ 1000000 := by omega
      by_cases hz : S.data.toList = []
      · have t0 : (S.toList == []) = true := by rw [list_none]; exact decide_eq_true hz
        have hp : parS s.data.toList = if lstErr acc = 0 then (acc, 0, 0) else ([], (acc.length : Int), lstErr acc) := by rw [HP.out, hz]; exact pgo_end acc
        obtain ⟨A', c', rfl, hr⟩ := own_slice ho
        obtain ⟨n, hn⟩ : ∃ n, acc.length = n := ⟨_, rfl⟩
        rw [hn] at hr hp ⊢
        have HN := hide hn
        have hn1 : n ≤ 1000000 := by omega
        clear ho hz hn hS hSs
        by_cases h0 : lstErr acc = 0
        · rw [if_pos h0] at hp
          have HB := hide hp
          have HL0 := hide h0
          clear hp h0
          go_wp2_with fail
          refine (CheckSources_any A' n c' acc _ hr (by omega)).mono ?_
          rintro e w2 ⟨rfl, hb2⟩
          rw [HL0.out]
          have hr2 := carry hr hb2
          go_wp2_with fail
          go_ret3
          exact psPost_ok HB.out HN.out rfl hr2 (below_step hbo hb2 hbo.size)
        · rw [if_neg h0] at hp
          have HB := hide hp
          have t9 : (lstErr acc != 0) = true := by simpa using h0
          clear hp h0
          go_wp2_with fail
          refine (CheckSources_any A' n c' acc _ hr (by omega)).mono ?_
          rintro e w2 ⟨rfl, hb2⟩
          go_wp2_with fail
          go_ret3
          exact psPost_bad HB.out rfl (below_step hbo hb2 hbo.size)
      · have t0 : (S.toList == []) = false := by rw [list_none]; exact decide_eq_false hz
        have HZ := hide hz
        clear hz
        go_wp2_with fail
        refine (cut_any S 10 _ (hT.carry hbo) hSs).mono ?_
        rintro e w1 ⟨a, r, b, hc, rfl, hb1⟩
        have has : a.size ≤ 1000000 := by have := hc.le.1; rw [← bsize, ← bsize] at this; omega
        have hbo1 := below_step hbo hb1 hbo.size
        have ho1 := row_below ho hb1
        have HC := hide hc
        clear hc ho
        go_wp2_with fail
        refine (source_any a _ (hT.carry hbo1) has).mono ?_
        rintro e w2 ⟨x, rfl, hx, hb2⟩
        have hbo2 := below_step hbo1 hb2 hbo1.size
        have ho2 := row_below ho1 hb2
        have HX := hide hx
        clear ho1 hx
        cases b with
        | false =>
          have hp : parS s.data.toList = ([], (acc.length : Int), 26) := by
            rw [HP.out, (HC.out.2 rfl).1]
            exact pgo_last acc HZ.out
          have HB := hide hp
          clear hp
          obtain ⟨A', c', rfl, hr⟩ := own_slice ho2
          clear ho2
          cases hq : (pline a.data.toList).isSome
          all_goals
            clear hq
            go_wp2_with fail
            go_ret3
            exact psPost_bad HB.out rfl (hbo2.alloc hbo2.size _)
        | true =>
          obtain ⟨h1, h2⟩ := HC.out.1 rfl
          cases hq : pline a.data.toList with
          | none =>
            have hp : parS s.data.toList = ([], (acc.length : Int), 26) := by
              rw [HP.out, h1]
              exact pgo_bad acc (spl_ne _ _) hq
            have HB := hide hp
            clear hp h1 h2 hq
            obtain ⟨A', c', rfl, hr⟩ := own_slice ho2
            clear ho2
            go_wp2_with fail
            go_ret3
            exact psPost_bad HB.out rfl (hbo2.alloc hbo2.size _)
          | some y =>
            obtain rfl := HX.out y hq
            have hp : parS s.data.toList = pgo (acc ++ [x]) (spl 10 r.data.toList) := by
              rw [HP.out, h1]
              exact pgo_good acc (spl_ne _ _) hq
            have HP2 := hide hp
            have hrs : r.size + 1 ≤ S.size := by rw [bsize, bsize]; omega
            have hsz := hbo2.size
            have A1 : acc.length + 1 ≤ maxLen := by unfold maxLen; omega
            have A2 : (acc.length + 1) * 32 ≤ 140737488355328 := by omega
            clear hp h1 h2 hq HP HC
            go_wp2_with (at_builtin; refine wpList_push _ rfl (.tmp 36) (.tmp 38) _ rfl w.heap.size 60 _ 4 32 Tryz.underlying26 info_src rfl (by decide) _ acc.length _ rfl ((ho2.alloc _).alloc _) (w2.heap.size + 1) (srcCells x) rfl rfl (src_new2 _ _ x _) (one_src x) A1 A2 (le_alloc (le_alloc hsz _) _) ?_; intro v1 wb ho6 hb6)
            have hbw6 := ((hbo2.alloc hsz _).alloc (le_alloc hsz _) _).trans hb6
            have ho7 : wb.ownsRow w.heap.size 60 4 v1 (acc ++ [x]).length (srcs (acc ++ [x])) := by rw [srcs_snoc, List.length_append]; exact ho6
            clear ho2 ho6
            go_wp2_with fail
            go_roundw
            case rel =>
              first
                | exact ⟨r, acc ++ [x], rfl, by rw [List.length_append]; simp; omega, HP2, ho7, hbw6⟩
                | ((repeat (apply Exists.intro)); refine ⟨?_, rfl⟩; exact ⟨r, acc ++ [x], rfl, by rw [List.length_append]; simp; omega, HP2, ho7, hbw6⟩)
            case measure => simp [strLen]; omega
end Go.Proofs.YtcihiglpahhboaaGreatDoor
