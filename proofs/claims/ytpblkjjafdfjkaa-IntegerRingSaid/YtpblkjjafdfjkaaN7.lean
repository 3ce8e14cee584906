/- The contract of differences. -/
import Derived.Test.YtpblkjjafdfjkaaPF
namespace Go.Proofs.Ytpblkjjafdfjkaa.V
open Go.RowKit
set_option linter.unusedVariables false
set_option linter.unusedSimpArgs false
theorem sub_ct {x y : List Int} (hx : Sm x) (hy : Sm y) : Ct Try.prog 83 [dS x, dS y] (dS (dg (val x - val y))) := by
  have a1 := hx.dgl
  by_cases c : val x ≤ val y
  · have h1 : cmpN (val x) (val y) ≤ 0 := by unfold cmpN; split; omega; rw [if_pos (by omega)]; omega
    refine (ct (p_sub_0 x y) mixed LSsub_ok ⟨⟨hx.ok, hy.ok⟩, by simpa using h1, trivial⟩ rfl).weak fun w B h u hr => ?_
    have : val x - val y = 0 := by omega
    rw [this, dg_zero]; exact rep_nil hr
  · have h1 : ¬ cmpN (val x) (val y) ≤ 0 := by unfold cmpN; rw [if_neg (by omega), if_neg (by omega)]; omega
    have h2 := dg_len_mono (show val y ≤ val x by omega)
    obtain ⟨_, g1, g2, g3⟩ := subP_ok (dig_dg (val x)) (dig_dg (val y)) (by omega) (by rw [val_dg, val_dg]; omega) h2 66
    refine ct (p_sub_1 x y) mixed LSsub_ok ⟨⟨hx.ok, hy.ok⟩, by simpa using h1, hx.ok, hy.ok, by omega, ⟨dig_dg _, dig_dg _, by omega, h2, by rw [val_dg, val_dg]; omega, rfl, rfl, rfl, by rw [Int.toNat_natCast]⟩, ⟨g1, by rw [g2]; omega⟩, trivial⟩ ?_
    rw [win_dg g1, g3, val_dg, val_dg]
noncomputable def S4 : List (Spec Try.prog) := S3 ++ [
  .of 83 [u32s, u32s] (fun x => Sm x.1 ∧ Sm x.2.1) (fun x => dS (dg (val x.1 - val x.2.1))) (by kernel_rfl) (fun x hp => sub_ct hp.1 hp.2)]
/-! ### Integers -/
abbrev intT : Ty := .pair .bool u32s
abbrev dI (x : Bool × List Int) : D := argD intT x
end Go.Proofs.Ytpblkjjafdfjkaa.V
