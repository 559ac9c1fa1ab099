/- mapped at Itoa; the contract of Print of sources. -/
import Derived.Test.YtcihiglpahhboaaGreatDoorBaseC
import Derived.Test.YtcihiglpahhboaaGreatDoorShelf
import Derived.Lib.AppendIntMem
import Derived.Lib.ItoaLen
namespace Go.Proofs.YtcihiglpahhboaaGreatDoor
open Go.RowKit Go.Shelf
set_option maxRecDepth 100000

/-- The library's table of powers of ten. -/
def Tens (w : World) : Prop := 3 < w.heap.size ∧ Lib.TabIs Tryz.prog w "internal/strconv.uint64pow10" .u64 Lib.pow10Tab
/-- Strings as cells. -/
def strs (l : List ByteArray) : List Value := l.map Value.string
def itoaB (n : Int) : ByteArray := ⟨(Lib.itoa n).toArray⟩
theorem strs_take_succ {xs : List Int} {k : Nat} {x : Int} (h : xs[k]? = some x) : strs ((xs.take (k + 1)).map itoaB) = strs ((xs.take k).map itoaB) ++ [.string (itoaB x)] := by
  rw [List.take_add_one, h]; simp [strs]
theorem info_str : (Tryz.prog.info? 9).map (fun i => (i.zero, i.size, i.bytes)) = some (some (.string ⟨#[]⟩), 1, 16) := by kernel_rfl
theorem enters_itoa : ∀ a W, Sem.run Tryz.prog (callFunc 123 #[a]) W = .ok (.enter 123 #[a]) W := fun _ _ => by kernel_rfl

theorem tens_below {w w' : World} {B : Nat} (h : Tens w) (hb : Below B w w') (hB : 3 < B) : Tens w' := by
  refine ⟨Nat.lt_of_lt_of_le h.1 hb.size, ?_⟩
  have h2 := h.2
  have hg : Tryz.prog.globalNamed "internal/strconv.uint64pow10" = some 3 := by kernel_rfl
  unfold Lib.TabIs World.var? at h2 ⊢
  rw [hg] at h2 ⊢
  simp only [Option.bind_some] at h2 ⊢
  rw [hb.block _ hB]
  exact h2

theorem itoa_any (n : Int) (w : World) (hT : Tens w) (h0 : -9223372036854775808 ≤ n) (h1 : n ≤ 9223372036854775807) :
    Calls Tryz.prog 123 #[.int .i64 n] w fun e w' => e = .returned (.string (itoaB n)) ∧ Below w.heap.size w w' :=
  (Tryz.strconv_Itoa n h0 h1 w hT.2).mono fun _ _ ⟨he, k, os, hw⟩ => ⟨he, by rw [hw]; exact Lib.below_grow _ w (Nat.le_refl _) k os⟩

set_option maxHeartbeats 1000000 in
theorem mappedStr_any (A : Option Addr) (n c : Nat) (xs : List Int) (w : World) (h : Reads w w.heap.size 1 A n (ints xs)) (hn : n ≤ 1000000) (hT : Tens w) (hx : ∀ x ∈ xs, -9223372036854775808 ≤ x ∧ x ≤ 9223372036854775807) :
    Calls Tryz.prog 122 #[.slice A n c, .func (.func 123) #[] #[]] w fun r w' => ∃ v, r = .returned v ∧ w'.ownsRow w.heap.size 9 1 v n (strs (xs.map itoaB)) ∧ Below w.heap.size w w' := by
  have hl := reads_len h
  have HL := hide hl; clear hl
  have HX := hide hx; clear hx
  have hen := enters_itoa
  go_enter Tryz.func122, Tryz.ntmps122
  go_wp2
  go_loopw [5, 10] (fun v i wr => ∃ k : Nat, k ≤ n ∧ i = .int .i64 k ∧ wr.ownsRow w.heap.size 9 1 v k (strs ((xs.take k).map itoaB)) ∧ Below w.heap.size w wr) (fun _ i _ => n - (intOf i).toNat)
  case atStart => exact ⟨0, by omega, rfl, by simp [strs, World.ownsRow_nil], Below.refl _ _⟩
  case round =>
    obtain ⟨k, hk, rfl, ho, hb⟩ := hrel
    by_cases hlt : k < n
    · have hr := h.below hb
      obtain ⟨ad, x, rfl, _, hx, hc⟩ := reads_at hr hlt
      have hxb := HX.out x (List.mem_of_getElem? hx)
      have HK := hide hx; clear hx
      have hsz := hb.size
      have A1 : k + 1 ≤ maxLen := by unfold maxLen; omega
      have A2 : (k + 1) * 16 ≤ 140737488355328 := by omega
      have hT2 := tens_below hT hb hT.1
      clear h hr
      go_wp2_with fail
      refine (itoa_any x _ hT2 hxb.1 hxb.2).mono ?_
      rintro e w2 ⟨rfl, hb2⟩
      have ho2 := row_below ho hb2
      have hbb := below_step hb hb2 hsz
      clear ho hb hb2 hc
      go_wp2_with (at_builtin; refine wpList_push _ rfl (.tmp 14) (.tmp 18) _ rfl w.heap.size 9 _ 1 16 Tryz.underlying131 info_str rfl (by decide) _ k _ rfl (ho2.alloc _) w2.heap.size [.string (itoaB x)] rfl rfl (cell_new1 _ _ _) (one_str _) A1 A2 (le_alloc hbb.size _) ?_; intro v1 w1 ho1 hb1)
      exact ⟨⟨k + 1, by omega, by go_num, by rw [strs_take_succ HK.out]; exact ho1, (hbb.alloc hbb.size _).trans hb1⟩, by simp [intOf]; omega⟩
    · go_wp2
      go_ret
      obtain rfl : k = n := by omega
      rw [List.take_of_length_le (by rw [HL.out]; omega)] at ho
      exact ⟨_, rfl, ho, hb⟩

/-- The text of a source, and of sources. -/
def srcTxt (s : Src) : List UInt8 := [115, 111, 117, 114, 99, 101, 32] ++ Lib.join ([s.x, s.y, s.g, s.p].map Lib.itoa) [32] ++ [10]
def prTxt (l : List Src) : List UInt8 := l.flatMap srcTxt
theorem prTxt_take_succ {l : List Src} {k : Nat} {x : Src} (h : l[k]? = some x) : prTxt (l.take (k + 1)) = prTxt (l.take k) ++ srcTxt x := by
  rw [List.take_add_one, h]; simp [prTxt]
theorem itoa_len4 {n : Int} (h : -1000 ≤ n ∧ n ≤ 1000) : (Lib.itoa n).length ≤ 21 := Lib.itoa_length_le n (by omega) (by omega)
theorem srcTxt_len {s : Src} (h : s.Ok) : (srcTxt s).length ≤ 100 := by
  have a := itoa_len4 (n := s.x) (by have := h.x1; have := h.x2; omega)
  have b := itoa_len4 (n := s.y) (by have := h.y1; have := h.y2; omega)
  have c := itoa_len4 (n := s.g) (by have := h.g1; have := h.g2; omega)
  have d := itoa_len4 (n := s.p) (by have := h.p1; have := h.p2; omega)
  simp only [srcTxt, List.map_cons, List.map_nil, Lib.join, List.length_append, List.length_cons, List.length_nil] at *
  simp
  omega
theorem prTxt_le {l : List Src} (h : ∀ s ∈ l, s.Ok) : (prTxt l).length ≤ l.length * 100 := by
  induction l with
  | nil => simp [prTxt]
  | cons s l ih =>
    have h1 := srcTxt_len (h s (by simp))
    have h2 := ih fun t ht => h t (by simp [ht])
    simp only [prTxt, List.flatMap_cons, List.length_append, List.length_cons] at *
    omega

theorem write_any (B b : Nat) (bs : List Value) (s : ByteArray) (w : World) (h : Lib.IsBuilder 166 5 B b bs w) (hlen : bs.length + s.size ≤ 140737488355328) (hBw : B ≤ w.heap.size) :
    Calls Tryz.prog 120 #[.pointer (some ⟨b, 0, none⟩), .string s] w fun e w' => e = .returned (.tuple #[.int .i64 s.size, .nilIface]) ∧ (Lib.BuilderAt 166 5 B b (.pointer (some ⟨b, 0, none⟩)) (bs ++ Lib.strCells s) w' ∧ Below B w w') :=
  Any.Builder_WriteString { Tryz.lays156 with } Tryz.Builder_Extra_156 B b bs s w h hlen hBw

theorem isB_below {T e : TypeId} {B b : Nat} {bs : List Value} {w w' : World} (h : Lib.IsBuilder T e B b bs w) (hb : Below w.heap.size w w') : Lib.IsBuilder T e B b bs w' := by
  rcases h with ⟨h1, v, h2, h3, h4⟩ | ⟨h1, v, h2, h3, h4⟩
  · exact .inl ⟨h1, v, (hb.block b (Array.getElem?_eq_some_iff.1 h2).1).trans h2, row_below h3 hb, h4⟩
  · exact .inr ⟨h1, v, (hb.block b (Array.getElem?_eq_some_iff.1 h2).1).trans h2, row_below h3 hb, h4⟩

set_option maxHeartbeats 1000000 in
theorem Print_ok (A : Option Addr) (n c : Nat) (l : List Src) (w : World) (hO : LOk l) (hR : Reads w w.heap.size 4 A n (srcs l)) (hT : Tens w) :
    Calls Tryz.prog 80 #[.slice A n c] w fun e w' => e = .returned (.tuple #[.string ⟨(prTxt l).toArray⟩, .int .i64 0]) ∧ Below w.heap.size w w' := by
  have hl := srcs_reads_len hR
  have hn : n ≤ 16 := by have := hO.len; omega
  have t1 : (lstErr l != 0) = false := by rw [ok_lst hO]; rfl
  have HL := hide hl; clear hl
  have HO := hide hO.all; clear hO
  go_enter Tryz.func80, Tryz.ntmps80
  go_wp2_with (go_at_call 62; refine (CheckSources_any A n c l _ hR (by omega)).mono ?_; rintro e w2 ⟨rfl, hb2⟩)
  have hr2 := hR.below hb2
  have hT2 := tens_below hT hb2 hT.1
  obtain ⟨w3, e3, hb3, hz3, k3⟩ := box1 w2 #[.pointer none, .slice none 0 0] 166
  rw [← e3]; clear e3
  have hb4 := below_step hb2 hb3 hb2.size
  have hI : Lib.IsBuilder 166 5 w2.heap.size w2.heap.size (Lib.byteCells (prTxt (l.take 0))) w3 := .inl ⟨Nat.le_refl _, _, k3, World.ownsRow_nil _ _ _ _, by simp [Value.ownBlock]⟩
  go_loopw [16] (fun i wr => ∃ k : Nat, k ≤ n ∧ i = .int .i64 k ∧ Lib.IsBuilder 166 5 w2.heap.size w2.heap.size (Lib.byteCells (prTxt (l.take k))) wr ∧ Below w.heap.size w wr ∧ w2.heap.size + 1 ≤ wr.heap.size) (fun i _ => n - (intOf i).toNat)
  case atStart => exact ⟨0, by omega, rfl, hI, hb4, hz3⟩
  case round =>
    rename World => wr0
    obtain ⟨k, hk, rfl, hi, hb, hsz⟩ := hrel
    clear hI k3
    by_cases hlt : k < n
    · have hr := hR.below hb
      obtain ⟨ad, s, rfl, _, hx, hc⟩ := src_hit hr hlt hb.size
      have hso := HO.out s (List.mem_of_getElem? hx)
      have hsl := srcTxt_len hso
      have hll : l.length = n := HL.out
      have hpl := prTxt_le (l := l.take k) (fun s hs => HO.out s (List.mem_of_mem_take hs))
      have htl := List.length_take_le k l
      have HK := hide hx; clear hx
      obtain ⟨d0, d1, d2, d3⟩ := hc wr0 (Below.refl _ _)
      clear hr hc hR hr2
      have HS0 := hide hso
      clear hso
      go_wp2_with fail
      obtain ⟨w6, e6, hb8, hz7, k5, k6⟩ := box2 wr0 #[.int .i64 s.x, .int .i64 s.y, .int .i64 s.g, .int .i64 s.p] #[.int .i64 s.x, .int .i64 s.y, .int .i64 s.g, .int .i64 s.p] 60 3
      rw [← e6]; clear e6 d0 d1 d2 d3
      have hT6 := tens_below (tens_below hT hb (Nat.lt_of_lt_of_le hT.1 (Nat.le_refl _))) hb8 (by have := hT.1; have := hb.size; omega)
      have hR6 : Reads w6 w6.heap.size 1 (some ⟨wr0.heap.size + 1, 0, none⟩) 4 (ints [s.x, s.y, s.g, s.p]) := reads_block (xs := [s.x, s.y, s.g, s.p]) k6 (Nat.le_refl _) k6.lt
      have hbd : ∀ x ∈ [s.x, s.y, s.g, s.p], -9223372036854775808 ≤ x ∧ x ≤ 9223372036854775807 := by
        have := HS0.out.x1; have := HS0.out.x2; have := HS0.out.y1; have := HS0.out.y2; have := HS0.out.g1; have := HS0.out.g2; have := HS0.out.p1; have := HS0.out.p2
        intro x hx
        simp only [List.mem_cons, List.not_mem_nil, or_false] at hx
        rcases hx with rfl | rfl | rfl | rfl <;> omega
      refine (mappedStr_any _ 4 _ _ w6 hR6 (by omega) hT6 hbd).mono ?_
      rintro e w7 ⟨v, rfl, ho, hb9⟩
      rcases ho.2 with ⟨_, h0⟩ | ⟨g, cap, cur, rfl, hg, hh, hcap, hmx, hcs, htk⟩
      · omega
      have hcell : ∀ (j : Nat) x, ([itoaB s.x, itoaB s.y, itoaB s.g, itoaB s.p] : List ByteArray)[j]? = some x → w7.cell? ⟨g, 0 + j, none⟩ = some (.string x) := by
        intro j x hj
        have h1 : (strs ([s.x, s.y, s.g, s.p].map itoaB))[j]? = some (.string x) := by
          show (([itoaB s.x, itoaB s.y, itoaB s.g, itoaB s.p] : List ByteArray).map Value.string)[j]? = _
          rw [List.getElem?_map, hj]; rfl
        have h2 := ho.cells (g := g) rfl j _ h1
        have h3 : (⟨g, 0, none⟩ : Addr).add j = ⟨g, 0 + j, none⟩ := by unfold Addr.add; split <;> simp_all
        rwa [h3] at h2
      have hb10 := below_step hb8 hb9 hb8.size
      go_wp2_with fail
      obtain ⟨txt, etx⟩ : ∃ t, t = Lib.join (([itoaB s.x, itoaB s.y, itoaB s.g, itoaB s.p] : List ByteArray).map (·.data.toList)) (⟨#[32]⟩ : ByteArray).data.toList := ⟨_, rfl⟩
      have hsl2 : srcTxt s = [115, 111, 117, 114, 99, 101, 32] ++ txt ++ [10] := by rw [etx]; rfl
      have hjl : txt.length ≤ 100 := by rw [hsl2, List.length_append, List.length_append] at hsl; omega
      refine (Tryz.strings_Join g 0 cap [itoaB s.x, itoaB s.y, itoaB s.g, itoaB s.p] ⟨#[32]⟩ w7 hcell (Array.getElem?_eq_some_iff.1 hh).1 (by simp) hcap (by rw [← etx]; omega)).mono ?_
      rintro e w8 ⟨rfl, hb11⟩
      rw [← etx]
      have HS2 := hide hsl2; clear hsl2 etx hsl
      have hb12 := below_step hb10 hb11 hb10.size
      have hi8 := isB_below hi hb12
      have hb13 := below_step hb hb12 hb.size
      have hsz8 := Nat.le_trans hsz hb12.size
      have hle : (Lib.byteCells (prTxt (List.take k l))).length ≤ 1000000000 := by rw [Lib.byteCells_length]; omega
      clear hcell hh htk hcs hi hb11 hb9 k6 hR6 ho hb10
      have hjs : (⟨txt.toArray⟩ : ByteArray).size ≤ 100 := by show txt.toArray.size ≤ 100; simp; omega
      go_wp2_with fail
      have hap : ((({ data := #[115, 111, 117, 114, 99, 101, 32] } : ByteArray) ++ ⟨txt.toArray⟩) ++ ⟨#[10]⟩) = ⟨([115, 111, 117, 114, 99, 101, 32] ++ txt ++ [10]).toArray⟩ := by apply ByteArray.ext; simp
      rw [hap]
      have hsz10 : (⟨([115, 111, 117, 114, 99, 101, 32] ++ txt ++ [10]).toArray⟩ : ByteArray).size ≤ 1001 := by show ([115, 111, 117, 114, 99, 101, 32] ++ txt ++ [10]).toArray.size ≤ 1001; simp; omega
      clear hap
      refine (write_any w2.heap.size w2.heap.size _ _ w8 hi8 (by omega) (by omega)).mono ?_
      rintro e w9 ⟨rfl, hat, hb14⟩
      go_wp2
      go_roundw
      case rel =>
        refine ⟨k + 1, by omega, by go_num, .inr ?_, hb13.trans (hb14.mono hb2.size), Nat.le_trans hsz8 hb14.size⟩
        rw [prTxt_take_succ HK.out, HS2.out, Lib.byteCells_append]
        exact hat
      case measure => simp [intOf]; omega
    · obtain rfl : k = n := by omega
      rw [List.take_of_length_le (by rw [HL.out]; omega)] at hi
      have hpl := prTxt_le HO.out
      go_wp2_with (go_at_call 124; refine (Tryz.Builder_String_any w2.heap.size w2.heap.size _ _ hi (by omega)).mono ?_; rintro e w5 ⟨rfl, hb5⟩)
      go_ret2
      exact ⟨rfl, hb.trans (hb5.mono hb2.size)⟩
theorem Print_bad (A : Option Addr) (n c : Nat) (l : List Src) (w : World) (h : Reads w w.heap.size 4 A n (srcs l)) (h0 : ¬ lstErr l = 0) (hn : n ≤ 1000000) :
    Calls Tryz.prog 80 #[.slice A n c] w fun e w' => e = .returned (.tuple #[.string ⟨#[]⟩, .int .i64 (lstErr l)]) ∧ Below w.heap.size w w' := by
  have t0 : (lstErr l != 0) = true := by simpa using h0
  clear h0
  go_enter Tryz.func80, Tryz.ntmps80
  go_wp2_with fail
  refine (CheckSources_any A n c l _ h (by omega)).mono ?_
  rintro e w1 ⟨rfl, hb1⟩
  go_wp2_with fail
  go_ret2
  exact ⟨rfl, hb1⟩
end Go.Proofs.YtcihiglpahhboaaGreatDoor
