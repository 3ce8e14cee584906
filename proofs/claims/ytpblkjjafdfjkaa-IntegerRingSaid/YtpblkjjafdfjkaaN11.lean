/- 'awake' of the laws of integers. -/
import Derived.Test.YtpblkjjafdfjkaaPJ
namespace Go.Proofs.Ytpblkjjafdfjkaa.V
open Go.RowKit
set_option linter.unusedVariables false
set_option linter.unusedSimpArgs false
theorem awake2_ct : Ct Try.prog 14 [] (.val (.bool true)) :=
  ct p_awake2_0 mixed LSok.nil ⟨trivial, trivial, ⟨rfl, rfl⟩, trivial, rfl, trivial, by simp, trivial, by simp, rfl, trivial, ⟨fun x hx => by simp at hx; omega, by simp⟩, trivial⟩ (by
    have : sgn (iv true [5]) = -1 := by decide +kernel
    rw [this]; rfl)
noncomputable def S8 : List (Spec Try.prog) := S6 ++ [
  .of 14 [] (fun x => True) (fun x => .val (.bool true)) (by kernel_rfl) (fun x hp => awake2_ct)]
end Go.Proofs.Ytpblkjjafdfjkaa.V
