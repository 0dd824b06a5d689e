import Derived.Test.YtcdcbkopapedhaaGreatDoorPutP
import Derived.Test.YtcdcbkopapedhaaGreatDoorPutM
/- ref09.Size: of a value of the kinds 2 to 5. -/
namespace Go.Proofs.Tryz.Vl
open Go Go.RowKit Go.Proofs.Mem
open Go.Proofs.YtcdcbkopapedhaaGreatDoorW.PrintWords
set_option linter.unusedVariables false
set_option linter.unusedSimpArgs false
def sizeF (k : Int) (n1 n2 n3 : Nat) : Nat := if k = 2 ∨ k = 4 then n1 else if k = 3 then n2 else n3
set_option maxRecDepth 100000 in
set_option maxHeartbeats 4000000 in
theorem Size_any (k : Int) (s : BA) (A1 A2 A3 : Option Addr) (n1 n2 n3 c1 c2 c3 : Nat) (w : World) (hk : k = 2 ∨ k = 3 ∨ k = 4 ∨ k = 5) :
    Calls Tryz.prog 13 #[.agg #[.int .u8 k, .string s, .slice A1 n1 c1, .slice A2 n2 c2, .slice A3 n3 c3]] w fun e w' => e = .returned (.int .i64 (sizeF k n1 n2 n3 : Nat)) ∧ Below w.heap.size w w' := by
  rcases hk with rfl | rfl | rfl | rfl
  all_goals
    go_enter Tryz.func13, Tryz.ntmps13
    go_wp2_with fail
    go_ret
    exact ⟨rfl, below_alloc (Below.refl _ _) _⟩
end Go.Proofs.Tryz.Vl
