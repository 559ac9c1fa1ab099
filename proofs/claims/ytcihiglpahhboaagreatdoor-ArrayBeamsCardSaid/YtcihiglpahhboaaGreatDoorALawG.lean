/- What the laws of this package share: lists of numbers just laid behind other blocks. -/
import Derived.Test.YtcihiglpahhboaaGreatDoorBaseM
namespace Go.Proofs.YtcihiglpahhboaaGreatDoor
open Go.RowKit
set_option maxRecDepth 100000
theorem reads2E (w : World) (a b : Int) (t : TypeId) (g : Nat) (hg : w.heap.size = g) : Reads (w.alloc (.cells #[.int .i64 a, .int .i64 b] t)) (g + 1) 1 (some ⟨g, 0, none⟩) 2 (ints [a, b]) := by
  subst hg
  exact reads2 w a b t
theorem reads3E (w : World) (a b c : Int) (t : TypeId) (g : Nat) (hg : w.heap.size = g) : Reads (w.alloc (.cells #[.int .i64 a, .int .i64 b, .int .i64 c] t)) (g + 1) 1 (some ⟨g, 0, none⟩) 3 (ints [a, b, c]) := by
  subst hg
  exact reads3 w a b c t
end Go.Proofs.YtcihiglpahhboaaGreatDoor
