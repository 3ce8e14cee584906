/- Paths, printed by wip/v/genv.py. -/
import Derived.Test.YtpblkjjafdfjkaaN1
import Derived.KernelRfl
namespace Go.Proofs.Ytpblkjjafdfjkaa.V
open Go.RowKit
set_option linter.unusedVariables false
set_option maxRecDepth 100000
theorem p_cut_0 (l : List Int) : evalG Try.prog ([]) (LScut) ([]) 5 95 [] ([dS l]) ([]) = some ([(0 : Int) ≤ (↑(List.length l) : Int) ∧ (↑(List.length l) : Int) ≤ (↑(List.length l) : Int) ∧ List.length l ≤ (1000000 : Nat), (0 : Int) ≤ (0 : Int) ∧ (0 : Int) ≤ (↑(top l (Int.toNat (↑(List.length l) : Int))) : Int) ∧ (↑(top l (Int.toNat (↑(List.length l) : Int))) : Int) ≤ (↑(List.length l) : Int)], D.sl (Ty.int IntKind.u32) (win l (0 : Nat) (Int.toNat ((↑(top l (Int.toNat (↑(List.length l) : Int))) : Int) - (0 : Int)))), []) := by kernel_rfl
theorem p_cutO_0 (l : List Int) (T : Nat) : evalG Try.prog ([]) (LScutO) ([]) 5 95 [] ([.own 0]) ([.row T (.int .u32) l]) = some ([(0 : Int) ≤ (↑(List.length l) : Int) ∧ (↑(List.length l) : Int) ≤ (↑(List.length l) : Int) ∧ List.length l ≤ (1000000 : Nat), (0 : Int) ≤ (0 : Int) ∧ (0 : Int) ≤ (↑(top l (Int.toNat (↑(List.length l) : Int))) : Int) ∧ (↑(top l (Int.toNat (↑(List.length l) : Int))) : Int) ≤ (↑(List.length l) : Int)], D.win (0) (1) (0) (Int.toNat ((↑(top l (Int.toNat (↑(List.length l) : Int))) : Int) - (0 : Int))), [BoxC.row T (Ty.int IntKind.u32) l]) := by kernel_rfl
theorem p_clone_0 (l : List Int) : evalG Try.prog ([]) ([]) ([]) 5 122 [] ([dS l]) ([]) = some ([(0 : Nat) < List.length l, ((0 : Nat) + List.length l) * (4 : Nat) ≤ (140737488355328 : Nat), (0 : Nat) + List.length l ≤ (140737488355328 : Nat)], D.sl (Ty.int IntKind.u32) l, []) := by kernel_rfl
theorem p_clone0_0 (A : Option Addr) (c : Nat) : evalG Try.prog ([]) ([]) ([]) 5 122 [(4, true)] ([.val (.slice A 0 c)]) ([]) = some ([(Option.isNone A == true) = true], D.val (Value.slice none (0) (0)), []) := by kernel_rfl
theorem p_clone0_1 (A : Option Addr) (c : Nat) : evalG Try.prog ([]) ([]) ([]) 5 122 [(4, false)] ([.val (.slice A 0 c)]) ([]) = some ([(Option.isNone A == true) = false, (0 : Nat) ≤ (140737488355328 : Nat), (0 : Nat) ≤ (140737488355328 : Nat)], D.sl (Ty.int IntKind.u32) [], []) := by kernel_rfl
theorem p_nanI_0 (x : Int) : evalG Try.prog ([]) ([]) ([]) 5 135 [] ([.val (.int .i64 x)]) ([]) = some ([], D.val (Value.bool (x != x)), []) := by kernel_rfl
theorem p_nanU_0 (x : Int) : evalG Try.prog ([]) ([]) ([]) 5 136 [] ([.val (.int .u32 x)]) ([]) = some ([], D.val (Value.bool (x != x)), []) := by kernel_rfl
end Go.Proofs.Ytpblkjjafdfjkaa.V
