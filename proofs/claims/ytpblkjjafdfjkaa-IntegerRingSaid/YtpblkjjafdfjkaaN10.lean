/- The division that 'awake' asks for. -/
import Derived.Test.YtpblkjjafdfjkaaPI
namespace Go.Proofs.Ytpblkjjafdfjkaa.V
open Go.RowKit
set_option linter.unusedVariables false
set_option linter.unusedSimpArgs false
theorem idiv72_ct : Ct Try.prog 20 [dI (false, [7]), dI (true, [2])] (.tup [dI (true, [3]), dI (false, [1]), .val (.int .i64 0)]) :=
  ct p_idiv72_0 mixed LSok.nil ⟨⟨rfl, rfl⟩, trivial, trivial, trivial⟩ rfl
noncomputable def S7c : List (Spec Try.prog) := S6c ++ [
  .of 20 [intT, intT] (fun x => x.1 = (false, [7]) ∧ x.2.1 = (true, [2])) (fun x => .tup [dI (true, [3]), dI (false, [1]), .val (.int .i64 0)]) (by kernel_rfl) (fun x hp => by obtain ⟨x1, x2, x3⟩ := x; obtain ⟨h1, h2⟩ := hp; dsimp only at h1 h2; subst h1; subst h2; exact idiv72_ct)]
end Go.Proofs.Ytpblkjjafdfjkaa.V
