/- Paths, printed by wip/v/genv.py. -/
import Derived.Test.YtpblkjjafdfjkaaN10
import Derived.KernelRfl
namespace Go.Proofs.Ytpblkjjafdfjkaa.V
open Go.RowKit
set_option linter.unusedVariables false
set_option maxRecDepth 100000
theorem p_awake2_0  : evalG Try.prog (S7c) ([]) ([]) 5 14 [] ([]) ([]) = some ([True, True, (false, [(7 : Int)]) = (false, [(7 : Ty.den (Ty.int IntKind.u32))]) ∧ (true, [(2 : Int)]) = (true, [(2 : Ty.den (Ty.int IntKind.u32))]), True, (true, [(0 : Int), (2147483648 : Int)]) = (true, [(0 : Ty.den (Ty.int IntKind.u32)), (2147483648 : Ty.den (Ty.int IntKind.u32))]), True, List.length [(3 : Int)] ≤ (1000000 : Nat), True, List.length [(1 : Int)] ≤ (1000000 : Nat), (true, [(0 : Int)]) = (true, [(0 : Ty.den (Ty.int IntKind.u32))]), True, Ok [(5 : Int)]], D.val (Value.bool (sgn (iv true [(5 : Int)]) == (-1 : Int))), []) := by kernel_rfl
end Go.Proofs.Ytpblkjjafdfjkaa.V
