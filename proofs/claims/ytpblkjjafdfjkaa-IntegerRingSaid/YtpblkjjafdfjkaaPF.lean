/- Paths, printed by wip/v/genv.py. -/
import Derived.Test.YtpblkjjafdfjkaaN6
import Derived.KernelRfl
namespace Go.Proofs.Ytpblkjjafdfjkaa.V
open Go.RowKit
set_option linter.unusedVariables false
set_option maxRecDepth 100000
theorem p_sub_0 (x y : List Int) : evalG Try.prog (S3) (LSsub) ([([0, 1, 0, 1, 1, 1, 1, 1], [.fix 7 1000])]) 5 83 [(15, true)] ([dS x, dS y]) ([]) = some ([Ok x ∧ Ok y, decide (cmpN (val x) (val y) ≤ (0 : Int)) = true], D.val (Value.slice none (0) (0)), []) := by kernel_rfl
theorem p_sub_1 (x y : List Int) : evalG Try.prog (S3) (LSsub) ([([0, 1, 0, 1, 1, 1, 1, 1], [.fix 7 1000])]) 5 83 [(15, false)] ([dS x, dS y]) ([]) = some ([Ok x ∧ Ok y, decide (cmpN (val x) (val y) ≤ (0 : Int)) = false, Ok x, Ok y, (0 : Int) ≤ (↑(List.length (dg (val x))) : Int) ∧ (↑(List.length (dg (val x))) : Int) ≤ (↑(List.length (dg (val x))) : Int) ∧ (↑(List.length (dg (val x))) : Int) * (↑(4 : Nat) : Int) ≤ (140737488355328 : Int) ∧ (↑(List.length (dg (val x))) : Int) ≤ (140737488355328 : Int), Dig (dg (val x)) ∧ Dig (dg (val y)) ∧ List.length (dg (val x)) ≤ (1000000 : Nat) ∧ List.length (dg (val y)) ≤ List.length (dg (val x)) ∧ val (dg (val y)) ≤ val (dg (val x)) ∧ (0 : Int) = (0 : Int) ∧ (↑(List.length (dg (val x))) : Int) = (↑(List.length (dg (val x))) : Int) ∧ (0 : Int) = (0 : Int) ∧ List.replicate (Int.toNat (↑(List.length (dg (val x))) : Int)) (0 : Int) = List.replicate (List.length (dg (val x))) (0 : Ty.den (Ty.int IntKind.u32)), Ok (Prod.fst (subP (66 : Nat) (dg (val x)) (dg (val y))))], D.sl (Ty.int IntKind.u32) (win (Prod.fst (subP (66 : Nat) (dg (val x)) (dg (val y)))) (0 : Nat) (List.length (dg (val (Prod.fst (subP (66 : Nat) (dg (val x)) (dg (val y)))))))), []) := by kernel_rfl
end Go.Proofs.Ytpblkjjafdfjkaa.V
