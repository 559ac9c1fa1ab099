/- The program's taker of numbers. -/
import Derived.Test.YtnndaipnfniciaaGreatDoorNInt
import Derived.Test.YtnndaipnfniciaaGreatDoorBaseF
namespace Go.Proofs.YtnndaipnfniciaaGreatDoor
open Go.RowKit Go.Shelf
set_option maxRecDepth 100000
set_option maxHeartbeats 2000000 in
theorem number2 (b : Nat) (ad : Addr) (q : Bool) (s : ByteArray) (w : World) (hT : TxV w) (hk : Blk w b 178 #[.slice (some ad) 2 2, .bool q]) (hcell : w.cell? ad = some (.string s)) (hs : s.size ≤ 1000000) :
    Calls Tryz.prog 136 #[.pointer (some ⟨b, 0, none⟩)] w fun e w' => ∃ v w1, e = .returned (.int .i64 v) ∧ (∀ m, num s.data.toList = some m → v = (m : Int)) ∧ Below w.heap.size w w1 ∧ w' = (w1.setCell ⟨b, 0, none⟩ (.slice (some (ad.add 1)) 1 1)).setCell ⟨b, 1, none⟩ (.bool (q || !(num s.data.toList).isSome)) := by
  have c0 := hk.cell
  have z0 : ad.add 0 = ad := by unfold Addr.add; rfl
  go_enter Tryz.func136, Tryz.ntmps136
  go_wp2_with fail
  refine (integer_any s w hT hs).mono ?_
  rintro e w1 ⟨⟨v, rfl, hv⟩, hb1⟩
  obtain ⟨r, hr⟩ : ∃ r, (num s.data.toList).isSome = r := ⟨_, rfl⟩
  have HR := hide hr
  have HV := hide hv
  rw [hr]
  have kb := carryK hk hb1
  have c1 := kb.cell
  have f1 := kb.frozen
  clear hr hv c0 hcell
  cases q <;> cases r
  all_goals
    go_wp2_with fail
    go_ret
    exact ⟨v, w1, rfl, HV.out, hb1, by rw [HR.out]; rfl⟩
set_option maxHeartbeats 2000000 in
theorem number1 (b : Nat) (ad : Addr) (q : Bool) (s : ByteArray) (w : World) (hT : TxV w) (hk : Blk w b 178 #[.slice (some ad) 1 1, .bool q]) (hcell : w.cell? ad = some (.string s)) (hs : s.size ≤ 1000000) :
    Calls Tryz.prog 136 #[.pointer (some ⟨b, 0, none⟩)] w fun e w' => ∃ v w1, e = .returned (.int .i64 v) ∧ (∀ m, num s.data.toList = some m → v = (m : Int)) ∧ Below w.heap.size w w1 ∧ w' = (w1.setCell ⟨b, 0, none⟩ (.slice (some ad) 0 0)).setCell ⟨b, 1, none⟩ (.bool (q || !(num s.data.toList).isSome)) := by
  have c0 := hk.cell
  have z0 : ad.add 0 = ad := by unfold Addr.add; rfl
  go_enter Tryz.func136, Tryz.ntmps136
  go_wp2_with fail
  refine (integer_any s w hT hs).mono ?_
  rintro e w1 ⟨⟨v, rfl, hv⟩, hb1⟩
  obtain ⟨r, hr⟩ : ∃ r, (num s.data.toList).isSome = r := ⟨_, rfl⟩
  have HR := hide hr
  have HV := hide hv
  rw [hr]
  have kb := carryK hk hb1
  have c1 := kb.cell
  have f1 := kb.frozen
  clear hr hv c0 hcell
  cases q <;> cases r
  all_goals
    go_wp2_with fail
    go_ret
    exact ⟨v, w1, rfl, HV.out, hb1, by rw [HR.out]; rfl⟩
end Go.Proofs.YtnndaipnfniciaaGreatDoor
