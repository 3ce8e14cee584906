/- Contracts of the small functions below the lists of digits. -/
import Derived.Test.YtpblkjjafdfjkaaPB
namespace Go.Proofs.Ytpblkjjafdfjkaa.V
open Go.RowKit
set_option linter.unusedVariables false
set_option linter.unusedSimpArgs false
/-- A parameter that is an empty list: whatever slice it is. -/
theorem GCt.sl0 {P : Program} {f : FuncId} {bx bx' : List BoxC} {t : Ty} {ds : List D} {d : D} (h : ∀ A c, GCt P f bx (.val (.slice A 0 c) :: ds) d bx') : GCt P f bx (.sl t [] :: ds) d bx' :=
  fun w Z hh us h1 h2 h3 h4 => by
    obtain ⟨u, us', rfl, hr, hrs⟩ := h4
    simp only [Rep, RepT] at hr
    obtain ⟨A, c, hA, _⟩ := hr
    injection hA with hA
    subst hA
    exact h A c w Z hh _ h1 h2 h3 ⟨_, us', rfl, by simp only [Rep, List.length_nil], hrs⟩
theorem cut_ct {l : List Int} (h : Ok l) : Ct Try.prog 95 [dS l] (dS (dg (val l))) :=
  ct (p_cut_0 l) mixed LScut_ok ⟨⟨by omega, by omega, h.2⟩, ⟨by omega, by omega, by have := top_le l l.length; simp only [Int.toNat_natCast]; omega⟩, trivial⟩ (by
    simp only [Int.toNat_natCast, Int.sub_zero, Int.toNat_zero, win, List.drop_zero, take_top h.1])
theorem cutO_ct {T : TypeId} {l : List Int} (h : Ok l) : GCt Try.prog 95 [.row T (.int .u32) l] [.own 0] (.win 0 1 0 (dg (val l)).length) [.row T (.int .u32) l] :=
  ct (p_cutO_0 l T) mixed LScutO_ok ⟨⟨by omega, by omega, h.2⟩, ⟨by omega, by omega, by have := top_le l l.length; simp only [Int.toNat_natCast]; omega⟩, trivial⟩ (by
    simp only [Int.toNat_natCast, Int.sub_zero, top_len h.1])
theorem clone_ct {l : List Int} (h : l.length ≤ 1000000) : Ct Try.prog 122 [dS l] (dS l) := by
  cases l with
  | nil =>
    refine GCt.sl0 fun A c => ?_
    cases A with
    | none => exact (ct (p_clone0_0 none c) mixed LSok.nil ⟨rfl, trivial⟩ rfl).weak fun w B h u hr => rep_nil hr
    | some a => exact ct (p_clone0_1 (some a) c) mixed LSok.nil ⟨rfl, by omega, by omega, trivial⟩ rfl
  | cons x l => exact ct (p_clone_0 (x :: l)) mixed LSok.nil ⟨by simp, by omega, by omega, trivial⟩ rfl
theorem nanI_ct (x : Int) : Ct Try.prog 135 [.val (.int .i64 x)] (.val (.bool false)) := ct (p_nanI_0 x) mixed LSok.nil trivial (by simp)
theorem nanU_ct (x : Int) : Ct Try.prog 136 [.val (.int .u32 x)] (.val (.bool false)) := ct (p_nanU_0 x) mixed LSok.nil trivial (by simp)
def cutOf : List D → List BoxC → Option (Prop × D × List BoxC) := fun ds bx => match ds, bx with
  | [.own 0], [.row T (.int .u32) l] => some (Ok l, .win 0 1 0 (dg (val l)).length, [.row T (.int .u32) l])
  | _, _ => none
def S1 : List (Spec Try.prog) := [
  .own 95 cutOf (by kernel_rfl) (fun ds bx pre d bx' hx hp => by
    unfold cutOf at hx
    split at hx
    · injection hx with hx; injection hx with h1 hx; injection hx with h2 h3
      subst h1; subst h2; subst h3
      exact cutO_ct hp
    · cases hx),
  .of 95 [u32s] (fun x => Ok x.1) (fun x => dS (dg (val x.1))) (by kernel_rfl) (fun x hp => cut_ct hp),
  .of 122 [u32s] (fun x => x.1.length ≤ 1000000) (fun x => dS x.1) (by kernel_rfl) (fun x hp => clone_ct hp),
  .of 135 [.int .i64] (fun _ => True) (fun _ => .val (.bool false)) (by kernel_rfl) (fun x hp => nanI_ct x.1),
  .of 136 [.int .u32] (fun _ => True) (fun _ => .val (.bool false)) (by kernel_rfl) (fun x hp => nanU_ct x.1)]
end Go.Proofs.Ytpblkjjafdfjkaa.V
