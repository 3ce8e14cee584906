/- Paths, printed by wip/v/genv.py. -/
import Derived.Test.YtpblkjjafdfjkaaN9
import Derived.KernelRfl
namespace Go.Proofs.Ytpblkjjafdfjkaa.V
open Go.RowKit
set_option linter.unusedVariables false
set_option maxRecDepth 100000
theorem p_idiv72_0  : evalG Try.prog (S6c) ([]) ([]) 5 20 [] ([dI (false, [7]), dI (true, [2])]) ([]) = some ([[(7 : Int)] = [(7 : Ty.den (Ty.int IntKind.u32))] ∧ [(2 : Int)] = [(2 : Ty.den (Ty.int IntKind.u32))], True, True], D.tup [D.agg [D.val (Value.bool (!false == true && decide ((0 : Nat) < List.length [(3 : Int)]))), D.sl (Ty.int IntKind.u32) [(3 : Int)]], D.agg [D.val (Value.bool (false && decide ((0 : Nat) < List.length [(1 : Int)]))), D.sl (Ty.int IntKind.u32) [(1 : Int)]], D.val (Value.int IntKind.i64 (0 : Int))], []) := by kernel_rfl
end Go.Proofs.Ytpblkjjafdfjkaa.V
