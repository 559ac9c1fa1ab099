/- Print of the program. -/
import Derived.Test.YtnndaipnfniciaaGreatDoorBaseQ
import Derived.Test.YtnndaipnfniciaaGreatDoorShelf
import Derived.Lib.AppendIntMem
import Derived.Lib.ItoaLen
namespace Go.Proofs.YtnndaipnfniciaaGreatDoor
open Go.RowKit Go.Shelf
set_option maxRecDepth 100000
/-- The library's table of powers of ten. -/
def Tens (w : World) : Prop := 4 < w.heap.size ∧ Lib.TabIs Tryz.prog w "internal/strconv.uint64pow10" .u64 Lib.pow10Tab
def itoaB (n : Int) : ByteArray := ⟨(Lib.itoa n).toArray⟩
theorem tens_below {w w' : World} {B : Nat} (h : Tens w) (hb : Below B w w') (hB : 4 < B) : Tens w' := by
  refine ⟨Nat.lt_of_lt_of_le h.1 hb.size, ?_⟩
  have h2 := h.2
  have hg : Tryz.prog.globalNamed "internal/strconv.uint64pow10" = some 4 := by kernel_rfl
  unfold Lib.TabIs World.var? at h2 ⊢
  rw [hg] at h2 ⊢
  simp only [Option.bind_some] at h2 ⊢
  rw [hb.block _ hB]
  exact h2
theorem Tens.carry {w w' : World} (h : Tens w) (hb : Below w.heap.size w w') : Tens w' := tens_below h hb h.1
theorem itoa_any (n : Int) (w : World) (hT : Tens w) (h0 : -9223372036854775808 ≤ n) (h1 : n ≤ 9223372036854775807) :
    Calls Tryz.prog 134 #[.int .i64 n] w fun e w' => e = .returned (.string (itoaB n)) ∧ Below w.heap.size w w' :=
  (Tryz.strconv_Itoa n h0 h1 w hT.2).mono fun _ _ ⟨he, k, os, hw⟩ => ⟨he, by rw [hw]; exact Lib.below_grow _ w (Nat.le_refl _) k os⟩
theorem info_str : (Tryz.prog.info? 9).map (fun i => (i.zero, i.size, i.bytes)) = some (some (.string ⟨#[]⟩), 1, 16) := by kernel_rfl
theorem itoaB_size {n : Int} (h : -9223372036854775808 ≤ n ∧ n ≤ 9223372036854775807) : (itoaB n).size ≤ 21 := by
  have := Lib.itoa_length_le n h.1 h.2
  show (Lib.itoa n).toArray.size ≤ 21
  rw [List.size_toArray]; exact this
/-- The text of an element. -/
def El.txt (x : El) : ByteArray := x.kind ++ ⟨#[58]⟩ ++ itoaB x.a ++ ⟨#[58]⟩ ++ itoaB x.b
set_option maxHeartbeats 2000000 in
theorem print1_any (x' : El) (w : World) (hT : Tens w) (hk : x'.kind.size ≤ 1000) (ha : -9223372036854775808 ≤ x'.a ∧ x'.a ≤ 9223372036854775807) (hb : -9223372036854775808 ≤ x'.b ∧ x'.b ≤ 9223372036854775807) :
    Calls Tryz.prog 133 #[.agg #[.string x'.kind, .int .i64 x'.a, .int .i64 x'.b]] w fun e w' => e = .returned (.string x'.txt) ∧ Below w.heap.size w w' := by
  have HA := hide ha
  have HB := hide hb
  have ia := itoaB_size ha
  have ib := itoaB_size hb
  have b1 : x'.kind.size + 1 ≤ 9223372036854775807 := by omega
  have b2 : x'.kind.size + 1 + (itoaB x'.a).size ≤ 9223372036854775807 := by omega
  have b3 : x'.kind.size + 1 + (itoaB x'.a).size + 1 ≤ 9223372036854775807 := by omega
  have b4 : x'.kind.size + 1 + (itoaB x'.a).size + 1 + (itoaB x'.b).size ≤ 9223372036854775807 := by omega
  clear ha hb ia ib hk
  go_enter Tryz.func133, Tryz.ntmps133
  go_upto_region 1 with (fail)
  obtain ⟨w1, e1, hb1, hz1, k0⟩ := box1 w #[.string x'.kind, .int .i64 x'.a, .int .i64 x'.b] 104
  rw [← e1]; clear e1
  have hT1 := hT.carry hb1
  have c0 := over_blk k0 k0.lt
  refine wp_region_over w1.heap.size (by kernel_rfl) (by kernel_rfl) ?_; (repeat (first | go_big_quiet_step ((go_at_call 134; with_reducible first | exact over_call (Nat.le_refl _) (itoa_any x'.a _ (hT1.carry (over_below _ _ _)) HA.out.1 HA.out.2) | exact over_call (Nat.le_refl _) (itoa_any x'.b _ (hT1.carry (over_below _ _ _)) HB.out.1 HB.out.2))) | quiet_step ((go_at_call 134; with_reducible first | exact over_call (Nat.le_refl _) (itoa_any x'.a _ (hT1.carry (over_below _ _ _)) HA.out.1 HA.out.2) | exact over_call (Nat.le_refl _) (itoa_any x'.b _ (hT1.carry (over_below _ _ _)) HB.out.1 HB.out.2))))); refine wpQuiet_nil ?_; rintro W ⟨x, rfl⟩
  have hbY := over_below w1.heap.size w1 x
  generalize over w1.heap.size w1 x = Y at hbY ⊢
  go_wp2_with fail
  go_ret
  exact ⟨rfl, below_next hb1 hbY⟩
set_option maxHeartbeats 1000000 in
theorem mappedTxt_any (A : Option Addr) (n c : Nat) (l : List El) (w : World) (h : Reads w w.heap.size 3 A n (els l)) (hn : n ≤ 100000) (hT : Tens w) (hx : ∀ x ∈ l, x.kind.size ≤ 1000 ∧ (-9223372036854775808 ≤ x.a ∧ x.a ≤ 9223372036854775807) ∧ -9223372036854775808 ≤ x.b ∧ x.b ≤ 9223372036854775807) :
    Calls Tryz.prog 132 #[.slice A n c, .func (.func 133) #[] #[]] w fun r w' => ∃ v, r = .returned v ∧ w'.ownsRow w.heap.size 9 1 v n (strs (l.map El.txt)) ∧ Below w.heap.size w w' := by
  have HL := hide (els_reads_len h)
  have HXX := hide hx
  have hcf : ∀ a W, Sem.run Tryz.prog (callFunc 133 #[a]) W = .ok (.enter 133 #[a]) W := fun _ _ => by kernel_rfl
  clear hx
  go_enter Tryz.func132, Tryz.ntmps132
  go_wp2_with fail
  go_loopw [5, 10] (fun v i wr => ∃ k : Nat, k ≤ n ∧ i = .int .i64 k ∧ wr.ownsRow w.heap.size 9 1 v k (strs ((l.take k).map El.txt)) ∧ Below w.heap.size w wr) (fun _ i _ => n - (intOf i).toNat)
  case atStart => exact ⟨0, by omega, rfl, by simp [strs, World.ownsRow_nil], Below.refl _ _⟩
  case round =>
    rename World => wo
    obtain ⟨k, hk, rfl, ho, hb⟩ := hrel
    by_cases hlt : k < n
    · obtain ⟨ad, s, rfl, _, hx, hc⟩ := els_hit (carry h hb) hlt (Nat.le_refl _)
      obtain ⟨q0, q1, q2⟩ := hc wo (Below.refl _ _)
      have HX := hide hx
      have HI := hide (HXX.out s (List.mem_of_getElem? hx))
      clear hx hc
      have A1 : k + 1 ≤ maxLen := by unfold maxLen; omega
      have A2 : (k + 1) * 16 ≤ 140737488355328 := by omega
      go_upto_region 5 with (fail)
      obtain ⟨w4, e4, hb4, hz4, k4⟩ := box1 wo #[.string s.kind, .int .i64 s.a, .int .i64 s.b] 104
      rw [← e4]; clear e4 q0 q1 q2
      have c4 := k4.cell
      have ho4 := row_below ho hb4
      have hbw4 := below_next hb hb4
      clear ho
      go_wp2_with fail
      refine (print1_any s _ (hT.carry hbw4) HI.out.1 HI.out.2.1 HI.out.2.2).mono ?_
      rintro e w5 ⟨rfl, hb5⟩
      have ho5 := row_below ho4 hb5
      have hbw5 := below_next hbw4 hb5
      clear ho4 c4
      have hsz := hbw5.size
      go_wp2_with (at_builtin; refine wpList_push _ rfl (.tmp 14) (.tmp 18) _ rfl w.heap.size 9 _ 1 16 Tryz.underlying82 info_str rfl (by decide) _ k _ rfl (ho5.alloc _) w5.heap.size [.string s.txt] rfl rfl (cell_new1 _ _ _) (one_str _) A1 A2 (le_alloc hsz _) ?_; intro v1 w6 ho6 hb6)
      have hbw6 := (hbw5.alloc hsz _).trans hb6
      clear ho5
      have he : strs ((l.take k).map El.txt) ++ [.string s.txt] = strs ((l.take (k + 1)).map El.txt) := by rw [List.take_add_one, HX.out]; simp [strs]
      rw [he] at ho6
      clear he
      go_roundw
      case rel => exact ⟨k + 1, by omega, by go_num, ho6, hbw6⟩
      case measure => simp [intOf]; omega
    · obtain rfl : k = n := by omega
      go_wp2_with fail
      go_ret
      rw [List.take_of_length_le (by rw [HL.out]; omega)] at ho
      exact ⟨_, rfl, ho, hb⟩
/-- The text of a ladder. -/
def ladTxt (l : List El) : ByteArray := if l = [] then ⟨#[119, 105, 114, 101]⟩ else ⟨(Lib.join ((l.map El.txt).map (·.data.toList)) [32]).toArray⟩
theorem Print_bad (A : Option Addr) (n c : Nat) (l : List El) (w : World) (h : Reads w w.heap.size 3 A n (els l)) (h0 : ¬ ladErr l = 0) (hn : n ≤ 1000000) :
    Calls Tryz.prog 76 #[.slice A n c] w fun e w' => e = .returned (.tuple #[.string ⟨#[]⟩, .int .i64 (ladErr l)]) ∧ Below w.heap.size w w' := by
  have t0 : (ladErr l != 0) = true := by simpa using h0
  clear h0
  go_enter Tryz.func76, Tryz.ntmps76
  go_wp2_with fail
  refine (checkLadder_any A n c l _ h (by omega)).mono ?_
  rintro e w1 ⟨rfl, hb1⟩
  go_wp2_with fail
  go_ret2
  exact ⟨rfl, hb1⟩
theorem kind_size {x : El} (h : x.known = true) : x.kind.size ≤ 6 := by
  rcases El.kinds h with h | h | h | h <;> rw [h] <;> decide
theorem txt_len {x : El} (h : x.Ok) : x.txt.data.toList.length ≤ 60 := by
  have h1 := h.al; have h2 := h.ah; have h3 := h.bl; have h4 := h.bh
  have h5 := kind_size h.kn
  have ia := itoaB_size (n := x.a) (by omega)
  have ib := itoaB_size (n := x.b) (by omega)
  have : x.txt.size = x.kind.size + 1 + (itoaB x.a).size + 1 + (itoaB x.b).size := by
    unfold El.txt
    simp [ByteArray.size_append]; rfl
  show x.txt.data.toList.length ≤ 60
  rw [Array.length_toList]
  show x.txt.size ≤ 60
  omega
theorem join_len (xs : List (List UInt8)) (m : Nat) (h : ∀ x ∈ xs, x.length ≤ m) : (Lib.join xs [32]).length ≤ xs.length * (m + 1) := by
  have key : ∀ ys : List (List UInt8), (∀ x ∈ ys, x.length ≤ m) → (Lib.joinTail [32] ys).length ≤ ys.length * (m + 1) := by
    intro ys
    induction ys with
    | nil => intro _; simp [Lib.joinTail]
    | cons y ys ih =>
      intro hy
      have h1 := hy y (by simp)
      have h2 := ih fun x hx => hy x (by simp [hx])
      have e : Lib.joinTail [32] (y :: ys) = ([32] ++ y) ++ Lib.joinTail [32] ys := by simp [Lib.joinTail]
      rw [e, List.length_append, List.length_append]
      simp only [List.length_cons, List.length_nil]
      rw [Nat.add_mul]
      omega
  cases xs with
  | nil => simp [Lib.join_nil]
  | cons x r =>
    have h1 := h x (by simp)
    have h2 := key r fun y hy => h y (by simp [hy])
    rw [Lib.join_cons, List.length_append, List.length_cons, Nat.add_mul]
    omega
set_option maxHeartbeats 2000000 in
theorem Print_ok (A : Option Addr) (n c : Nat) (l : List El) (w : World) (hT : Tens w) (h : Reads w w.heap.size 3 A n (els l)) (h0 : ladErr l = 0) :
    Calls Tryz.prog 76 #[.slice A n c] w fun e w' => e = .returned (.tuple #[.string (ladTxt l), .int .i64 0]) ∧ Below w.heap.size w w' := by
  have hok := lad_ok h0
  have hn5 : n ≤ 5 := by rw [← els_reads_len h]; exact hok.len
  have HL := hide (els_reads_len h)
  have hx : ∀ x ∈ l, x.kind.size ≤ 1000 ∧ (-9223372036854775808 ≤ x.a ∧ x.a ≤ 9223372036854775807) ∧ -9223372036854775808 ≤ x.b ∧ x.b ≤ 9223372036854775807 := fun x hx => by
    have ho := hok.all x hx
    have h1 := ho.al; have h2 := ho.ah; have h3 := ho.bl; have h4 := ho.bh
    have h5 := kind_size ho.kn
    omega
  have HX := hide hx
  have H0 := hide h0
  have HOK := hide hok
  clear hx h0 hok
  go_enter Tryz.func76, Tryz.ntmps76
  go_wp2_with fail
  refine (checkLadder_any A n c l _ h (by omega)).mono ?_
  rintro e w1 ⟨rfl, hb1⟩
  rw [H0.out]
  by_cases hz : n = 0
  · have hl0 : l = [] := List.eq_nil_of_length_eq_zero (by rw [HL.out]; exact hz)
    have HZ := hide (show ladTxt l = ⟨#[119, 105, 114, 101]⟩ by unfold ladTxt; rw [if_pos hl0])
    have t0 : ((n : Int) == 0) = true := by simp; omega
    clear hz hl0
    go_wp2_with fail
    go_ret2
    exact ⟨by rw [HZ.out]; rfl, hb1⟩
  · have t0 : ((n : Int) == 0) = false := by simp; omega
    have hl0 : ¬ l = [] := fun e => hz (by rw [← HL.out, e]; rfl)
    go_wp2_with fail
    refine (mappedTxt_any A n c l _ (carry h hb1) (by omega) (hT.carry hb1) HX.out).mono ?_
    rintro e w2 ⟨v, rfl, ho, hb2⟩
    rcases ho.2 with ⟨rfl, h00⟩ | ⟨g, cap, cur, rfl, hg, hh, hcap, hmx, hcs, htk⟩
    · omega
    have hcell : ∀ (j : Nat) x, (l.map El.txt)[j]? = some x → w2.cell? ⟨g, 0 + j, none⟩ = some (.string x) := by
      intro j x hj
      have h1 : (strs (l.map El.txt))[j]? = some (.string x) := by
        show ((l.map El.txt).map Value.string)[j]? = _
        rw [List.getElem?_map, hj]; rfl
      have h2 := ho.cells (g := g) rfl j _ h1
      have h3 : (⟨g, 0, none⟩ : Addr).add j = ⟨g, 0 + j, none⟩ := by unfold Addr.add; split <;> simp_all
      rwa [h3] at h2
    have hjl : (Lib.join ((l.map El.txt).map (·.data.toList)) [32]).length ≤ 1000 := by
      have h1 := join_len ((l.map El.txt).map (·.data.toList)) 60 (fun x hx => by
        obtain ⟨y, hy, rfl⟩ := List.mem_map.1 hx
        obtain ⟨z, hz, rfl⟩ := List.mem_map.1 hy
        exact txt_len (HOK.out.all z hz))
      rw [List.length_map, List.length_map, HL.out] at h1
      omega
    have hlt : g < w2.heap.size := (Array.getElem?_eq_some_iff.1 hh).1
    have hlen : (l.map El.txt).length = n := by rw [List.length_map]; exact HL.out
    have HJ := Tryz.strings_Join g 0 cap (l.map El.txt) ⟨#[32]⟩ w2 hcell hlt (by rw [hlen]; omega) (by rw [hlen]; exact hcap) (Nat.le_trans hjl (by decide))
    rw [hlen] at HJ
    have HTX := hide (show ladTxt l = ⟨(Lib.join ((l.map El.txt).map (·.data.toList)) [32]).toArray⟩ by unfold ladTxt; rw [if_neg hl0])
    have HJ2 : Calls Tryz.prog 131 #[.slice (some ⟨g, 0, none⟩) n cap, .string ⟨#[32]⟩] w2 fun e w' => e = .returned (.string (ladTxt l)) ∧ Below w2.heap.size w2 w' := by rw [HTX.out]; exact HJ
    clear hcell hh hcs htk ho hjl hlen hl0 HJ HTX
    go_wp2_with fail
    refine HJ2.mono ?_
    rintro e w3 ⟨rfl, hb3⟩
    clear HJ2
    go_wp2_with fail
    go_ret2
    exact ⟨rfl, below_next hb1 (below_next hb2 hb3)⟩
end Go.Proofs.YtnndaipnfniciaaGreatDoor
