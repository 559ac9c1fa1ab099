/- mapped at Itoa; the contract of Print. -/
import Derived.Test.YtpcmflfinlkeiaaGreatDoorSecs
import Derived.Test.YtpcmflfinlkeiaaGreatDoorShelf
import Derived.Lib.AppendIntMem
import Derived.Lib.ItoaLen
namespace Go.Proofs.YtpcmflfinlkeiaaGreatDoor
open Go.RowKit Go.Shelf
set_option maxRecDepth 100000

/-- The library's table of powers of ten. -/
def Tens (w : World) : Prop := 2 < w.heap.size ∧ Lib.TabIs Tryz.prog w "internal/strconv.uint64pow10" .u64 Lib.pow10Tab
/-- Strings as cells. -/
def strs (l : List ByteArray) : List Value := l.map Value.string
def itoaB (n : Int) : ByteArray := ⟨(Lib.itoa n).toArray⟩
theorem strs_take_succ {xs : List Int} {k : Nat} {x : Int} (h : xs[k]? = some x) : strs ((xs.take (k + 1)).map itoaB) = strs ((xs.take k).map itoaB) ++ [.string (itoaB x)] := by
  rw [List.take_add_one, h]; simp [strs]
theorem info_str : (Tryz.prog.info? 9).map (fun i => (i.zero, i.size, i.bytes)) = some (some (.string ⟨#[]⟩), 1, 16) := by kernel_rfl
theorem enters_itoa : ∀ a W, Sem.run Tryz.prog (callFunc 44 #[a]) W = .ok (.enter 44 #[a]) W := fun _ _ => by kernel_rfl

theorem tens_below {w w' : World} {B : Nat} (h : Tens w) (hb : Below B w w') (hB : 2 < B) : Tens w' := by
  refine ⟨Nat.lt_of_lt_of_le h.1 hb.size, ?_⟩
  have h2 := h.2
  have hg : Tryz.prog.globalNamed "internal/strconv.uint64pow10" = some 2 := by kernel_rfl
  unfold Lib.TabIs World.var? at h2 ⊢
  rw [hg] at h2 ⊢
  simp only [Option.bind_some] at h2 ⊢
  rw [hb.block _ hB]
  exact h2

theorem itoa_any (n : Int) (w : World) (hT : Tens w) (h0 : -9223372036854775808 ≤ n) (h1 : n ≤ 9223372036854775807) :
    Calls Tryz.prog 44 #[.int .i64 n] w fun e w' => e = .returned (.string (itoaB n)) ∧ Below w.heap.size w w' :=
  (Tryz.strconv_Itoa n h0 h1 w hT.2).mono fun _ _ ⟨he, k, os, hw⟩ => ⟨he, by rw [hw]; exact Lib.below_grow _ w (Nat.le_refl _) k os⟩

set_option maxHeartbeats 1000000 in
theorem mappedStr_any (A : Option Addr) (n c : Nat) (xs : List Int) (w : World) (h : Reads w w.heap.size 1 A n (ints xs)) (hn : n ≤ 1000000) (hT : Tens w) (hx : ∀ x ∈ xs, -9223372036854775808 ≤ x ∧ x ≤ 9223372036854775807) :
    Calls Tryz.prog 43 #[.slice A n c, .func (.func 44) #[] #[]] w fun r w' => ∃ v, r = .returned v ∧ w'.ownsRow w.heap.size 9 1 v n (strs (xs.map itoaB)) ∧ Below w.heap.size w w' := by
  have hl := reads_len h
  have HL := hide hl; clear hl
  have HX := hide hx; clear hx
  have hen := enters_itoa
  go_enter Tryz.func43, Tryz.ntmps43
  go_wp2
  go_loopw [5, 10] (fun v i wr => ∃ k : Nat, k ≤ n ∧ i = .int .i64 k ∧ wr.ownsRow w.heap.size 9 1 v k (strs ((xs.take k).map itoaB)) ∧ Below w.heap.size w wr) (fun _ i _ => n - (intOf i).toNat)
  case atStart => exact ⟨0, by omega, rfl, by simp [strs, World.ownsRow_nil], Below.refl _ _⟩
  case round =>
    obtain ⟨k, hk, rfl, ho, hb⟩ := hrel
    by_cases hlt : k < n
    · have hr := h.below hb
      obtain ⟨ad, x, rfl, _, hx, hc⟩ := reads_at hr hlt
      have hxb := HX.out x (List.mem_of_getElem? hx)
      have HK := hide hx; clear hx
      have hsz := hb.size
      have A1 : k + 1 ≤ maxLen := by unfold maxLen; omega
      have A2 : (k + 1) * 16 ≤ 140737488355328 := by omega
      have hT2 := tens_below hT hb hT.1
      clear h hr
      go_wp2_with fail
      refine (itoa_any x _ hT2 hxb.1 hxb.2).mono ?_
      rintro e w2 ⟨rfl, hb2⟩
      have ho2 := row_below ho hb2
      have hbb := below_step hb hb2 hsz
      clear ho hb hb2 hc
      go_wp2_with (at_builtin; refine wpList_push _ rfl (.tmp 14) (.tmp 18) _ rfl w.heap.size 9 _ 1 16 Tryz.underlying94 info_str rfl (by decide) _ k _ rfl (ho2.alloc _) w2.heap.size [.string (itoaB x)] rfl rfl (cell_new1 _ _ _) (one_str _) A1 A2 (le_alloc hbb.size _) ?_; intro v1 w1 ho1 hb1)
      exact ⟨⟨k + 1, by omega, by go_num, by rw [strs_take_succ HK.out]; exact ho1, (hbb.alloc hbb.size _).trans hb1⟩, by simp [intOf]; omega⟩
    · go_wp2
      go_ret
      obtain rfl : k = n := by omega
      rw [List.take_of_length_le (by rw [HL.out]; omega)] at ho
      exact ⟨_, rfl, ho, hb⟩

/-- The text of a section, and of sections. -/
def secLine (s : Sec) : List UInt8 := Lib.join ([s.b0, s.b1, s.b2, s.a1, s.a2, s.sh].map Lib.itoa) [32] ++ [10]
def prTxt (l : List Sec) : List UInt8 := l.flatMap secLine
theorem prTxt_take_succ {l : List Sec} {k : Nat} {x : Sec} (h : l[k]? = some x) : prTxt (l.take (k + 1)) = prTxt (l.take k) ++ secLine x := by
  rw [List.take_add_one, h]; simp [prTxt]
theorem prTxt_le {l : List Sec} (h : ∀ s ∈ l, (secLine s).length ≤ 1000) : (prTxt l).length ≤ l.length * 1000 := by
  induction l with
  | nil => simp [prTxt]
  | cons s l ih =>
    have h1 := h s (by simp)
    have h2 := ih fun t ht => h t (by simp [ht])
    simp only [prTxt, List.flatMap_cons, List.length_append, List.length_cons] at *
    omega

theorem write_any (B b : Nat) (bs : List Value) (s : ByteArray) (w : World) (h : Lib.IsBuilder 88 5 B b bs w) (hlen : bs.length + s.size ≤ 140737488355328) (hBw : B ≤ w.heap.size) :
    Calls Tryz.prog 41 #[.pointer (some ⟨b, 0, none⟩), .string s] w fun e w' => e = .returned (.tuple #[.int .i64 s.size, .nilIface]) ∧ (Lib.BuilderAt 88 5 B b (.pointer (some ⟨b, 0, none⟩)) (bs ++ Lib.strCells s) w' ∧ Below B w w') :=
  Any.Builder_WriteString { Tryz.lays156 with } Tryz.Builder_Extra_156 B b bs s w h hlen hBw

theorem isB_below {T e : TypeId} {B b : Nat} {bs : List Value} {w w' : World} (h : Lib.IsBuilder T e B b bs w) (hb : Below w.heap.size w w') : Lib.IsBuilder T e B b bs w' := by
  rcases h with ⟨h1, v, h2, h3, h4⟩ | ⟨h1, v, h2, h3, h4⟩
  · exact .inl ⟨h1, v, (hb.block b (Array.getElem?_eq_some_iff.1 h2).1).trans h2, row_below h3 hb, h4⟩
  · exact .inr ⟨h1, v, (hb.block b (Array.getElem?_eq_some_iff.1 h2).1).trans h2, row_below h3 hb, h4⟩

set_option maxHeartbeats 1000000 in
theorem Print_ok (A : Option Addr) (n c : Nat) (l : List Sec) (w : World) (he : secErr l = 0) (hn : n ≤ 1000000) (hR : Reads w w.heap.size 6 A n (secs l)) (hT : Tens w) (hL : ∀ s ∈ l, (secLine s).length ≤ 1000) :
    Calls Tryz.prog 10 #[.slice A n c] w fun e w' => e = .returned (.tuple #[.string ⟨(prTxt l).toArray⟩, .int .i64 0]) ∧ Below w.heap.size w w' := by
  have hl := secs_reads_len hR
  have hok := (secErr_ok he).2
  have HL := hide hl; clear hl
  have HO := hide hok; clear hok
  have HW := hide hL; clear hL
  have t1 : (secErr l != 0) = false := by rw [he]; rfl
  clear he
  go_enter Tryz.func10, Tryz.ntmps10
  go_wp2_with (go_at_call 33; refine (checkSections_any A n c l _ hR (by omega)).mono ?_; rintro e w2 ⟨rfl, hb2⟩)
  have hr2 := hR.below hb2
  have hT2 := tens_below hT hb2 hT.1
  obtain ⟨w3, e3, hb3, hz3, k3⟩ := box1 w2 #[.pointer none, .slice none 0 0] 88
  rw [← e3]; clear e3
  have hb4 := below_step hb2 hb3 hb2.size
  have hI : Lib.IsBuilder 88 5 w2.heap.size w2.heap.size (Lib.byteCells (prTxt (l.take 0))) w3 := .inl ⟨Nat.le_refl _, _, k3, World.ownsRow_nil _ _ _ _, by simp [Value.ownBlock]⟩
  go_loopw [16] (fun i wr => ∃ k : Nat, k ≤ n ∧ i = .int .i64 k ∧ Lib.IsBuilder 88 5 w2.heap.size w2.heap.size (Lib.byteCells (prTxt (l.take k))) wr ∧ Below w.heap.size w wr ∧ w2.heap.size + 1 ≤ wr.heap.size) (fun i _ => n - (intOf i).toNat)
  case atStart => exact ⟨0, by omega, rfl, hI, hb4, hz3⟩
  case round =>
    obtain ⟨k, hk, rfl, hi, hb, hsz⟩ := hrel
    clear hI k3
    by_cases hlt : k < n
    · have hr := hR.below hb
      obtain ⟨ad, s, rfl, _, hx, hc⟩ := secs_hit hr hlt hb.size
      have hso := HO.out s (List.mem_of_getElem? hx)
      have hsl := HW.out s (List.mem_of_getElem? hx)
      have hll : l.length = n := HL.out
      have hpl := prTxt_le (l := l.take k) (fun s hs => HW.out s (List.mem_of_mem_take hs))
      have htl := List.length_take_le k l
      have HK := hide hx; clear hx
      obtain ⟨d0, d1, d2, d3, d4, d5⟩ := hc wr (Below.refl _ _)
      clear hr hc hR hr2
      go_wp2_with fail
      refine (numbers_any s _).mono ?_
      rintro e w5 ⟨rfl, hb5⟩
      have hb6 : Below wr.heap.size wr w5 := ((Below.refl _ _).alloc (Nat.le_refl _) _).trans (hb5.mono (by simp))
      clear d0 d1 d2 d3 d4 d5 hb5
      go_wp2_with fail
      obtain ⟨w6, e6, hb7, hz7, k6⟩ := box1 w5 #[.int .i64 s.b0, .int .i64 s.b1, .int .i64 s.b2, .int .i64 s.a1, .int .i64 s.a2, .int .i64 s.sh] 79
      rw [← e6]; clear e6
      have hb8 := below_step hb6 hb7 hb6.size
      have hT6 := tens_below (tens_below hT hb (Nat.lt_of_lt_of_le hT.1 (Nat.le_refl _))) hb8 (by have := hT.1; have := hb.size; omega)
      have hR6 : Reads w6 w6.heap.size 1 (some ⟨w5.heap.size, 0, none⟩) 6 (ints [s.b0, s.b1, s.b2, s.a1, s.a2, s.sh]) := reads_block (xs := [s.b0, s.b1, s.b2, s.a1, s.a2, s.sh]) k6 (Nat.le_refl _) k6.lt
      have hbd : ∀ x ∈ [s.b0, s.b1, s.b2, s.a1, s.a2, s.sh], -9223372036854775808 ≤ x ∧ x ≤ 9223372036854775807 := by
        have := hso.b0l; have := hso.b0h; have := hso.b1l; have := hso.b1h; have := hso.b2l; have := hso.b2h; have := hso.a1l; have := hso.a1h; have := hso.a2l; have := hso.a2h; have := hso.shl; have := hso.shh
        intro x hx
        simp only [List.mem_cons, List.not_mem_nil, or_false] at hx
        rcases hx with rfl | rfl | rfl | rfl | rfl | rfl <;> omega
      refine (mappedStr_any _ 6 _ _ w6 hR6 (by omega) hT6 hbd).mono ?_
      rintro e w7 ⟨v, rfl, ho, hb9⟩
      rcases ho.2 with ⟨_, h0⟩ | ⟨g, cap, cur, rfl, hg, hh, hcap, hmx, hcs, htk⟩
      · omega
      have hcell : ∀ (j : Nat) x, ([itoaB s.b0, itoaB s.b1, itoaB s.b2, itoaB s.a1, itoaB s.a2, itoaB s.sh] : List ByteArray)[j]? = some x → w7.cell? ⟨g, 0 + j, none⟩ = some (.string x) := by
        intro j x hj
        have h1 : (strs ([s.b0, s.b1, s.b2, s.a1, s.a2, s.sh].map itoaB))[j]? = some (.string x) := by
          show (([itoaB s.b0, itoaB s.b1, itoaB s.b2, itoaB s.a1, itoaB s.a2, itoaB s.sh] : List ByteArray).map Value.string)[j]? = _
          rw [List.getElem?_map, hj]; rfl
        have h2 := ho.cells (g := g) rfl j _ h1
        have h3 : (⟨g, 0, none⟩ : Addr).add j = ⟨g, 0 + j, none⟩ := by unfold Addr.add; split <;> simp_all
        rwa [h3] at h2
      have hb10 := below_step hb8 hb9 hb8.size
      go_wp2_with fail
      obtain ⟨txt, etx⟩ : ∃ t, t = Lib.join (([itoaB s.b0, itoaB s.b1, itoaB s.b2, itoaB s.a1, itoaB s.a2, itoaB s.sh] : List ByteArray).map (·.data.toList)) (⟨#[32]⟩ : ByteArray).data.toList := ⟨_, rfl⟩
      have hsl2 : secLine s = txt ++ [10] := by rw [etx]; rfl
      have hjl : txt.length ≤ 1000 := by rw [hsl2, List.length_append] at hsl; omega
      refine (Tryz.strings_Join g 0 cap [itoaB s.b0, itoaB s.b1, itoaB s.b2, itoaB s.a1, itoaB s.a2, itoaB s.sh] ⟨#[32]⟩ w7 hcell (Array.getElem?_eq_some_iff.1 hh).1 (by simp) hcap (by rw [← etx]; omega)).mono ?_
      rintro e w8 ⟨rfl, hb11⟩
      rw [← etx]
      have HS2 := hide hsl2; clear hsl2 etx hsl
      have hb12 := below_step hb10 hb11 hb10.size
      have hi8 := isB_below hi hb12
      have hb13 := below_step hb hb12 hb.size
      have hsz8 := Nat.le_trans hsz hb12.size
      have hle : (Lib.byteCells (prTxt (List.take k l))).length ≤ 1000000000 := by rw [Lib.byteCells_length]; omega
      clear hcell hh htk hcs hi hb11 hb9 k6 hR6 ho hb10
      go_wp2_with fail
      have hap : ((⟨txt.toArray⟩ : ByteArray) ++ ⟨#[10]⟩) = ⟨(txt ++ [10]).toArray⟩ := by apply ByteArray.ext; simp
      rw [hap]
      have hsz10 : (⟨(txt ++ [10]).toArray⟩ : ByteArray).size ≤ 1001 := by show (txt ++ [10]).toArray.size ≤ 1001; simp; omega
      clear hap
      refine (write_any w2.heap.size w2.heap.size _ _ w8 hi8 (by omega) (by omega)).mono ?_
      rintro e w9 ⟨rfl, hat, hb14⟩
      go_wp2
      go_roundw
      case rel =>
        refine ⟨k + 1, by omega, by go_num, .inr ?_, hb13.trans (hb14.mono hb2.size), Nat.le_trans hsz8 hb14.size⟩
        rw [prTxt_take_succ HK.out, HS2.out, Lib.byteCells_append]
        exact hat
      case measure => simp [intOf]; omega
    · obtain rfl : k = n := by omega
      rw [List.take_of_length_le (by rw [HL.out]; omega)] at hi
      go_wp2_with (go_at_call 45; refine (Tryz.Builder_String_any w2.heap.size w2.heap.size _ _ hi (by omega)).mono ?_; rintro e w5 ⟨rfl, hb5⟩)
      go_ret2
      exact ⟨rfl, hb.trans (hb5.mono hb2.size)⟩
end Go.Proofs.YtpcmflfinlkeiaaGreatDoor
