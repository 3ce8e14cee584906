/- Contracts below the integers. -/
import Derived.Test.YtpblkjjafdfjkaaPG
namespace Go.Proofs.Ytpblkjjafdfjkaa.V
open Go.RowKit
set_option linter.unusedVariables false
set_option linter.unusedSimpArgs false
/-- The integer as it is made. -/
abbrev Zp (z : Int) : Bool × List Int := (decide (z < 0), dg z.natAbs)
abbrev Zd (z : Int) : D := dI (Zp z)
theorem signed_ct (s : Bool) (l : List Int) : Ct Try.prog 80 [.val (.bool s), dS l] (dI (s && decide (0 < l.length), l)) := by
  cases s
  · exact ct (p_signedF_0 l) mixed LSok.nil trivial rfl
  · refine ct (p_signedT_0 l) mixed LSok.nil trivial ?_
    have : decide ((l.length : Int) > 0) = decide (0 < l.length) := decide_eq_decide.2 (by omega)
    rw [this, Bool.true_and]; rfl
theorem digits_ct (l : List Int) : Ct Try.prog 35 [dS l] (.val (.bool (decide (l.length ≤ 10)))) := by
  refine ct (p_digits_0 l) mixed LSok.nil trivial ?_
  have : decide ((l.length : Int) ≤ 10) = decide (l.length ≤ 10) := decide_eq_decide.2 (by omega)
  rw [this]
theorem rsameI_ct {s t : Bool} {l m : List Int} (h : l.length ≤ 1000000) : Ct Try.prog 15 [dI (s, l), dI (t, m)] (.val (.bool (decide (s = t ∧ l = m)))) := by
  cases s <;> cases t
  · exact ct (p_rsame_3 false false l m) mixed LSok.nil ⟨rfl, rfl, h, trivial⟩ (by simp)
  · exact ct (p_rsame_2 false true l m) mixed LSok.nil ⟨rfl, rfl, trivial⟩ (by simp)
  · exact ct (p_rsame_1 true false l m) mixed LSok.nil ⟨rfl, rfl, trivial⟩ (by simp)
  · exact ct (p_rsame_0 true true l m) mixed LSok.nil ⟨rfl, rfl, h, trivial⟩ (by simp)
theorem iv_sgn {s : Bool} {l : List Int} (h : 0 < val l) : decide (iv s l < 0) = s := by
  cases s <;> simp [iv] <;> omega
theorem zd_iv (s : Bool) (l : List Int) : Zp (iv s l) = (s && decide (0 < val l), dg (val l)) := by
  unfold Zp; rw [iv_neg, natAbs_iv]
theorem rtrimI_ct {s : Bool} {l : List Int} (h : Ok l) : Ct Try.prog 28 [dI (s, l)] (Zd (iv s l)) := by
  unfold Zd
  rw [zd_iv]
  cases s
  · exact ct (p_rtrimI_1 false l) mixed LSok.nil ⟨h, rfl, trivial⟩ rfl
  · refine ct (p_rtrimI_0 true l) mixed LSok.nil ⟨h, rfl, trivial⟩ ?_
    have : decide (((dg (val l)).length : Int) > 0) = decide (0 < val l) := decide_eq_decide.2 (by have := @dg_length_pos (val l); omega)
    rw [this, Bool.true_and]; rfl
theorem ok_nil : Ok [] := ⟨fun x hx => (by cases hx), by simp⟩
theorem cmp0 (l : List Int) : cmpN (val l) (val []) = if val l = 0 then 0 else 1 := by
  unfold cmpN
  rw [show val [] = 0 from rfl, if_neg (by omega)]
theorem isign_ct {s : Bool} {l : List Int} (h : Ok l) : Ct Try.prog 18 [dI (s, l)] (.val (.int .i64 (sgn (iv s l)))) := by
  by_cases c : val l = 0
  · refine ct (p_isign_0 s l) mixed LSok.nil ⟨⟨h, ok_nil⟩, by rw [cmp0, if_pos c]; rfl, trivial⟩ ?_
    have : iv s l = 0 := by cases s <;> simp [iv, c]
    rw [this]; rfl
  · cases s
    · refine ct (p_isign_2 false l) mixed LSok.nil ⟨⟨h, ok_nil⟩, by rw [cmp0, if_neg c]; rfl, rfl, trivial⟩ ?_
      have : sgn (iv false l) = 1 := by unfold sgn; rw [iv_false, if_neg (by omega), if_neg (by omega)]
      rw [this]
    · refine ct (p_isign_1 true l) mixed LSok.nil ⟨⟨h, ok_nil⟩, by rw [cmp0, if_neg c]; rfl, rfl, trivial⟩ ?_
      have : sgn (iv true l) = -1 := by unfold sgn; rw [iv_true, if_pos (by omega)]
      rw [this]
theorem ok7 : Ok [7] := ⟨fun x hx => by simp at hx; omega, by simp⟩
theorem ok2 : Ok [2] := ⟨fun x hx => by simp at hx; omega, by simp⟩
theorem ok0 : Ok [0] := ⟨fun x hx => by simp at hx; omega, by simp⟩
theorem ok1 : Ok [1] := ⟨fun x hx => by simp at hx; omega, by simp⟩
theorem ok3 : Ok [3] := ⟨fun x hx => by simp at hx; omega, by simp⟩
theorem okm : Ok [0, 2147483648] := ⟨fun x hx => by simp at hx; omega, by simp⟩
theorem divide72_ct : Ct Try.prog 93 [dS [7], dS [2]] (.tup [dS [3], dS [1]]) :=
  ct p_divide72_0 mixed LSok.nil ⟨⟨ok7, ok2⟩, by omega, by omega, by simp, by simp, by omega, by simp, by simp, by omega, ok3, ok1, trivial⟩ (by kernel_rfl)
theorem format0_ct : Ct Try.prog 90 [dS [0]] (.val (.string ⟨#[48]⟩)) := ct p_format0_0 mixed LSok.nil ⟨ok0, trivial⟩ rfl
theorem ismall0_ct : Ct Try.prog 46 [dI (true, [0, 2147483648])] (.tup [.val (.int .i64 (-9223372036854775808)), .val (.bool true)]) :=
  ct p_ismall0_0 mixed LSok.nil ⟨okm, ⟨by omega, by decide +kernel⟩, by omega, ⟨by omega, by decide +kernel⟩, by omega, trivial⟩ (by kernel_rfl)
noncomputable def S5 : List (Spec Try.prog) := S4 ++ [
  .of 80 [.bool, u32s] (fun x => True) (fun x => dI (x.1 && decide (0 < x.2.1.length), x.2.1)) (by kernel_rfl) (fun x hp => signed_ct x.1 x.2.1),
  .of 35 [u32s] (fun x => True) (fun x => .val (.bool (decide (x.1.length ≤ 10)))) (by kernel_rfl) (fun x hp => digits_ct x.1),
  .of 15 [intT, intT] (fun x => x.1.2.length ≤ 1000000) (fun x => .val (.bool (decide (x.1.1 = x.2.1.1 ∧ x.1.2 = x.2.1.2)))) (by kernel_rfl) (fun x hp => rsameI_ct hp),
  .of 28 [intT] (fun x => Ok x.1.2) (fun x => Zd (iv x.1.1 x.1.2)) (by kernel_rfl) (fun x hp => rtrimI_ct hp),
  .of 18 [intT] (fun x => Ok x.1.2) (fun x => .val (.int .i64 (sgn (iv x.1.1 x.1.2)))) (by kernel_rfl) (fun x hp => isign_ct hp)]
noncomputable def S5c : List (Spec Try.prog) := S5 ++ [
  .of 93 [u32s, u32s] (fun x => x.1 = [7] ∧ x.2.1 = [2]) (fun x => .tup [dS [3], dS [1]]) (by kernel_rfl) (fun x hp => by obtain ⟨x1, x2, x3⟩ := x; obtain ⟨h1, h2⟩ := hp; dsimp only at h1 h2; subst h1; subst h2; exact divide72_ct),
  .of 90 [u32s] (fun x => x.1 = [0]) (fun x => .val (.string ⟨#[48]⟩)) (by kernel_rfl) (fun x hp => by obtain ⟨x1, x2⟩ := x; dsimp only at hp; subst hp; exact format0_ct),
  .of 46 [intT] (fun x => x.1 = (true, [0, 2147483648])) (fun x => .tup [.val (.int .i64 (-9223372036854775808)), .val (.bool true)]) (by kernel_rfl) (fun x hp => by obtain ⟨x1, x2⟩ := x; dsimp only at hp; subst hp; exact ismall0_ct)]
end Go.Proofs.Ytpblkjjafdfjkaa.V
