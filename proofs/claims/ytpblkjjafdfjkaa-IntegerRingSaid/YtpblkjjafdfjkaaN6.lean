/- Contracts of comparisons and products. -/
import Derived.Test.YtpblkjjafdfjkaaPE
namespace Go.Proofs.Ytpblkjjafdfjkaa.V
open Go.RowKit
set_option linter.unusedVariables false
set_option linter.unusedSimpArgs false
theorem dg_len_lt {m n : Nat} (h : (dg m).length < (dg n).length) : m < n := by
  have h1 := (dg_len m (dg m).length).1 (Nat.le_refl _)
  have h2 : ¬ n < 4294967296 ^ (dg m).length := fun h3 => by have := (dg_len n _).2 h3; omega
  omega
theorem dg_len_mono {m n : Nat} (h : m ≤ n) : (dg m).length ≤ (dg n).length := (dg_len _ _).2 (Nat.lt_of_le_of_lt h ((dg_len n _).1 (Nat.le_refl _)))
theorem cmpZ_nat (a b : Nat) : cmpZ (a : Int) (b : Int) = cmpN a b := by
  unfold cmpZ cmpN
  split <;> split <;> (try split) <;> (try split) <;> omega
theorem cmpZ_len {m n : Nat} (h : ¬ (dg m).length = (dg n).length) : cmpZ ((dg m).length : Int) ((dg n).length : Int) = cmpN m n := by
  rcases Nat.lt_or_gt_of_ne h with h1 | h1
  · have := dg_len_lt h1
    unfold cmpZ cmpN
    rw [if_pos (by omega), if_pos this]
  · have := dg_len_lt h1
    unfold cmpZ cmpN
    rw [if_neg (by omega), if_neg (by omega), if_neg (by omega), if_neg (by omega)]
theorem cmp_ct {x y : List Int} (hx : Ok x) (hy : Ok y) : Ct Try.prog 82 [dS x, dS y] (.val (.int .i64 (cmpN (val x) (val y)))) := by
  have a1 := (ok_dgv hx).2
  have a2 := (ok_dgv hy).2
  by_cases c : (dg (val x)).length = (dg (val y)).length
  · by_cases e : val x = val y
    · exact ct (p_cmpT_1 x y) mixed (LScmp_ok true) ⟨hx, hy, by simp [c], ⟨dig_dg _, dig_dg _, a1, c, i64 (by omega) (by omega), by rw [val_dg, val_dg]; simp [e]⟩, trivial⟩ (by simp [cmpN, e])
    · exact ct (p_cmpF_1 x y) mixed (LScmp_ok false) ⟨hx, hy, by simp [c], ⟨dig_dg _, dig_dg _, a1, c, i64 (by omega) (by omega), by rw [val_dg, val_dg]; simp [e]⟩, trivial⟩ (by rw [val_dg, val_dg, cmpZ_nat])
  · exact ct (p_cmpT_0 x y) mixed (LScmp_ok true) ⟨hx, hy, by simp; omega, trivial, trivial⟩ (by rw [cmpZ_len c])
theorem mul_ct {x y : List Int} (hx : Sm x) (hy : Sm y) : Ct Try.prog 34 [dS x, dS y] (dS (dg (val x * val y))) := by
  have a1 := hx.dgl
  have a2 := hy.dgl
  by_cases c1 : val x = 0
  · refine (ct (p_mul_0 x y) mixed LSmul_ok ⟨hx.ok, hy.ok, by simp [c1, dg_zero], trivial⟩ rfl).weak fun w B h u hr => ?_
    rw [c1, Nat.zero_mul, dg_zero]; exact rep_nil hr
  · have p1 := (@dg_length_pos (val x)).2 (by omega)
    by_cases c2 : val y = 0
    · refine (ct (p_mul_1 x y) mixed LSmul_ok ⟨hx.ok, hy.ok, by rw [beq_eq_false_iff_ne]; omega, by simp [c2, dg_zero], trivial⟩ rfl).weak fun w B h u hr => ?_
      rw [c2, Nat.mul_zero, dg_zero]; exact rep_nil hr
    · have p2 := (@dg_length_pos (val y)).2 (by omega)
      obtain ⟨_, h1, h2, h3⟩ := mulP_ok (dig_dg (val x)) (dig_dg (val y)) (by omega) (by omega) 66
      have e : IntKind.i64.wrap (((dg (val x)).length : Int) + ((dg (val y)).length : Int)) = (((dg (val x)).length + (dg (val y)).length : Nat) : Int) := by rw [i64 (by omega) (by omega)]; omega
      refine ct (p_mul_2 x y) mixed LSmul_ok ⟨hx.ok, hy.ok, by rw [beq_eq_false_iff_ne]; omega, by rw [beq_eq_false_iff_ne]; omega, by rw [e]; omega, ⟨dig_dg _, dig_dg _, by omega, by omega, rfl, rfl, by rw [e, Int.toNat_natCast]⟩, ⟨h1, by rw [h2]; omega⟩, trivial⟩ ?_
      rw [win_dg h1, h3, val_dg, val_dg]
noncomputable def S3 : List (Spec Try.prog) := S2 ++ [
  .of 82 [u32s, u32s] (fun x => Ok x.1 ∧ Ok x.2.1) (fun x => .val (.int .i64 (cmpN (val x.1) (val x.2.1)))) (by kernel_rfl) (fun x hp => cmp_ct hp.1 hp.2),
  .of 34 [u32s, u32s] (fun x => Sm x.1 ∧ Sm x.2.1) (fun x => dS (dg (val x.1 * val x.2.1))) (by kernel_rfl) (fun x hp => mul_ct hp.1 hp.2),
  .of 81 [u32s, u32s] (fun x => Sm x.1 ∧ Sm x.2.1) (fun x => dS (dg (val x.1 + val x.2.1))) (by kernel_rfl) (fun x hp => add_ct hp.1 hp.2),
  .of 31 [u32s] (fun x => Ok x.1) (fun x => dS (dg (val x.1))) (by kernel_rfl) (fun x hp => rtrim_ct hp),
  .of 33 [u32s, u32s] (fun x => x.1.length ≤ 1000000) (fun x => .val (.bool (decide (x.1 = x.2.1)))) (by kernel_rfl) (fun x hp => same_ct hp)]
end Go.Proofs.Ytpblkjjafdfjkaa.V
