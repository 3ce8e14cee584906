/- Contracts of integers. -/
import Derived.Test.YtpblkjjafdfjkaaPH
namespace Go.Proofs.Ytpblkjjafdfjkaa.V
open Go.RowKit
set_option linter.unusedVariables false
set_option linter.unusedSimpArgs false
theorem dI_agg (s : Bool) (l : List Int) : dI (s, l) = .agg [.val (.bool s), dS l] := rfl
theorem zd_mk {s : Bool} {v : Nat} {z : Int} (h1 : z.natAbs = v) (h2 : s = true → z ≤ 0) (h3 : s = false → 0 ≤ z) : D.agg [.val (.bool (s && decide (0 < (dg v).length))), dS (dg v)] = Zd z := by
  subst h1
  unfold Zd Zp
  rw [dI_agg]
  congr 4
  have := @dg_length_pos z.natAbs
  cases s
  · have := h3 rfl
    rw [Bool.false_and, decide_eq_false]
    omega
  · have := h2 rfl
    rw [Bool.true_and]
    exact decide_eq_decide.2 (by omega)
theorem val2 (a b : Int) : val [a, b] = a.toNat + 4294967296 * b.toNat := by simp [val]
theorem ok_two {a b : Int} (ha : 0 ≤ a ∧ a < 4294967296) (hb : 0 ≤ b ∧ b < 4294967296) : Ok [a, b] := ⟨fun x hx => by simp at hx; rcases hx with rfl | rfl <;> assumption, by simp⟩
theorem iof_ct {n : Int} (h : -9223372036854775808 ≤ n ∧ n < 9223372036854775808) : Ct Try.prog 79 [.val (.int .i64 n)] (Zd n) := by
  by_cases c : n < 0
  · refine ct (p_iof_0 n) mixed LSok.nil ⟨by simp [c], by omega, ?_, trivial, trivial⟩ ?_
    · simp only [fd32, uu, um]; exact ok_two (by omega) (by omega)
    · refine Eq.trans ?_ (zd_mk (s := decide (n < 0)) (v := n.natAbs) rfl (by simp; omega) (by simp))
      have e : val [IntKind.u32.wrap (IntKind.u64.wrap (0 - IntKind.u64.wrap n)), IntKind.u32.wrap (Int.fdiv (IntKind.u64.wrap (0 - IntKind.u64.wrap n)) 4294967296)] = n.natAbs := by
        simp only [fd32, uu, um, val2]; omega
      rw [e]
  · refine ct (p_iof_1 n) mixed LSok.nil ⟨by simp; omega, by omega, ?_, trivial, trivial⟩ ?_
    · simp only [fd32, uu, um]; exact ok_two (by omega) (by omega)
    · refine Eq.trans ?_ (zd_mk (s := decide (n < 0)) (v := n.natAbs) rfl (by simp; omega) (by simp))
      have e : val [IntKind.u32.wrap (IntKind.u64.wrap n), IntKind.u32.wrap (Int.fdiv (IntKind.u64.wrap n) 4294967296)] = n.natAbs := by
        simp only [fd32, uu, um, val2]; omega
      rw [e]
theorem i64w (m : Int) : IntKind.i64.wrap m = (m + 9223372036854775808) % 18446744073709551616 - 9223372036854775808 := by
  rw [IntKind.wrap_i64]
theorem rof_ct {n : Int} (h : -9223372036854775808 ≤ n ∧ n < 9223372036854775808) : Ct Try.prog 69 [.val (.int .i64 n)] (Zd n) := by
  by_cases c : n < 0
  · refine ct (p_rof_0 n) mixed LSok.nil ⟨by simp [c], by omega, ?_, trivial⟩ ?_
    · simp only [fd32, uu, um, i64w]; exact ok_two (by omega) (by omega)
    · show Zd _ = Zd n
      have e : val [IntKind.u32.wrap (IntKind.u64.wrap (IntKind.u64.wrap (IntKind.i64.wrap (0 - IntKind.i64.wrap (n + 1))) + 1)), IntKind.u32.wrap (Int.fdiv (IntKind.u64.wrap (IntKind.u64.wrap (IntKind.i64.wrap (0 - IntKind.i64.wrap (n + 1))) + 1)) 4294967296)] = n.natAbs := by
        simp only [fd32, uu, um, val2, i64w]; omega
      rw [iv_true, e]
      congr 1; omega
  · refine ct (p_rof_1 n) mixed LSok.nil ⟨by simp; omega, by omega, ?_, trivial⟩ ?_
    · simp only [fd32, uu, um, i64w]; exact ok_two (by omega) (by omega)
    · show Zd _ = Zd n
      have e : val [IntKind.u32.wrap n, IntKind.u32.wrap (Int.fdiv (IntKind.u64.wrap n) 4294967296)] = n.natAbs := by
        simp only [fd32, uu, um, val2]; omega
      rw [iv_false, e]
      congr 1; omega
theorem ineg_ct {s : Bool} {l : List Int} (h : Ok l) : Ct Try.prog 19 [dI (s, l)] (Zd (-iv s l)) :=
  ct (p_ineg_0 s l) mixed LSok.nil ⟨h, trivial, trivial⟩ (zd_mk (by rw [Int.natAbs_neg, natAbs_iv]) (by cases s <;> simp [iv]) (by cases s <;> simp [iv]))
theorem iv_sgn_le {s : Bool} {l : List Int} : (s = true → iv s l ≤ 0) ∧ (s = false → 0 ≤ iv s l) := by cases s <;> simp [iv]
theorem iadd_ct {s t : Bool} {l m : List Int} (h : Sm l) (h2 : Sm m) : Ct Try.prog 16 [dI (s, l), dI (t, m)] (Zd (iv s l + iv t m)) := by
  by_cases c : val l < val m
  · have e : (cmpN (val l) (val m) == (-1 : Int)) = true := by rw [cmpN, if_pos c]; rfl
    cases s <;> cases t
    · exact ct (p_iadd_7 false false l m) mixed LSok.nil ⟨rfl, rfl, ⟨h, h2⟩, trivial, trivial⟩ (zd_mk (by simp only [iv_false]; omega) (by simp) (by simp only [iv_false]; omega))
    · exact ct (p_iadd_5 false true l m) mixed LSok.nil ⟨rfl, rfl, rfl, ⟨h.ok, h2.ok⟩, e, ⟨h2, h⟩, trivial, trivial⟩ (zd_mk (by simp only [iv_false, iv_true]; omega) (by simp only [iv_false, iv_true]; omega) (by simp))
    · exact ct (p_iadd_2 true false l m) mixed LSok.nil ⟨rfl, rfl, rfl, ⟨h.ok, h2.ok⟩, e, ⟨h2, h⟩, trivial, trivial⟩ (zd_mk (by simp only [iv_false, iv_true]; omega) (by simp) (by simp only [iv_false, iv_true]; omega))
    · exact ct (p_iadd_0 true true l m) mixed LSok.nil ⟨rfl, rfl, ⟨h, h2⟩, trivial, trivial⟩ (zd_mk (by simp only [iv_true]; omega) (by simp only [iv_true]; omega) (by simp))
  · have e : (cmpN (val l) (val m) == (-1 : Int)) = false := by
      rw [beq_eq_false_iff_ne, cmpN, if_neg c]; split <;> omega
    cases s <;> cases t
    · exact ct (p_iadd_7 false false l m) mixed LSok.nil ⟨rfl, rfl, ⟨h, h2⟩, trivial, trivial⟩ (zd_mk (by simp only [iv_false]; omega) (by simp) (by simp only [iv_false]; omega))
    · exact ct (p_iadd_6 false true l m) mixed LSok.nil ⟨rfl, rfl, rfl, ⟨h.ok, h2.ok⟩, e, ⟨h, h2⟩, trivial, trivial⟩ (zd_mk (by simp only [iv_false, iv_true]; omega) (by simp) (by simp only [iv_false, iv_true]; omega))
    · exact ct (p_iadd_3 true false l m) mixed LSok.nil ⟨rfl, rfl, rfl, ⟨h.ok, h2.ok⟩, e, ⟨h, h2⟩, trivial, trivial⟩ (zd_mk (by simp only [iv_false, iv_true]; omega) (by simp only [iv_false, iv_true]; omega) (by simp))
    · exact ct (p_iadd_0 true true l m) mixed LSok.nil ⟨rfl, rfl, ⟨h, h2⟩, trivial, trivial⟩ (zd_mk (by simp only [iv_true]; omega) (by simp only [iv_true]; omega) (by simp))
theorem iv_mul (s t : Bool) (l m : List Int) : iv s l * iv t m = if s = t then ((val l * val m : Nat) : Int) else -((val l * val m : Nat) : Int) := by
  cases s <;> cases t <;> simp [iv, Int.neg_mul, Int.mul_neg]
theorem imul_ct {s t : Bool} {l m : List Int} (h : Sm l) (h2 : Sm m) : Ct Try.prog 17 [dI (s, l), dI (t, m)] (Zd (iv s l * iv t m)) := by
  refine ct (p_imul_0 s t l m) mixed LSok.nil ⟨⟨h, h2⟩, trivial, trivial⟩ (zd_mk (s := !(s == t)) (v := val l * val m) ?_ ?_ ?_)
  · rw [iv_mul]; split <;> omega
  · rw [iv_mul]; intro e; rw [if_neg (by simpa using e)]; omega
  · rw [iv_mul]; intro e; rw [if_pos (by simpa using e)]; omega
theorem small_ct (s : Bool) (l : List Int) : Ct Try.prog 13 [dI (s, l)] (.val (.bool (decide (l.length ≤ 10)))) := ct (p_small_0 s l) mixed LSok.nil ⟨trivial, trivial⟩ rfl
theorem divmod72_ct : Ct Try.prog 32 [dS [7], dS [2]] (.tup [dS [3], dS [1], .val (.int .i64 0)]) := ct p_divmod72_0 mixed LSok.nil ⟨ok2, ok7, ⟨by decide +kernel, by decide +kernel⟩, trivial⟩ rfl
theorem iformat0_ct : Ct Try.prog 26 [dI (true, [0])] (.val (.string ⟨#[48]⟩)) := ct p_iformat0_0 mixed LSok.nil ⟨ok0, rfl, trivial⟩ rfl
def In64 (n : Int) : Prop := -9223372036854775808 ≤ n ∧ n < 9223372036854775808
noncomputable def S6 : List (Spec Try.prog) := S5 ++ [
  .of 79 [.int .i64] (fun x => In64 x.1) (fun x => Zd x.1) (by kernel_rfl) (fun x hp => iof_ct hp),
  .of 69 [.int .i64] (fun x => In64 x.1) (fun x => Zd x.1) (by kernel_rfl) (fun x hp => rof_ct hp),
  .of 19 [intT] (fun x => Ok x.1.2) (fun x => Zd (-iv x.1.1 x.1.2)) (by kernel_rfl) (fun x hp => ineg_ct hp),
  .of 16 [intT, intT] (fun x => Sm x.1.2 ∧ Sm x.2.1.2) (fun x => Zd (iv x.1.1 x.1.2 + iv x.2.1.1 x.2.1.2)) (by kernel_rfl) (fun x hp => iadd_ct hp.1 hp.2),
  .of 17 [intT, intT] (fun x => Sm x.1.2 ∧ Sm x.2.1.2) (fun x => Zd (iv x.1.1 x.1.2 * iv x.2.1.1 x.2.1.2)) (by kernel_rfl) (fun x hp => imul_ct hp.1 hp.2),
  .of 13 [intT] (fun x => True) (fun x => .val (.bool (decide (x.1.2.length ≤ 10)))) (by kernel_rfl) (fun x hp => small_ct x.1.1 x.1.2)]
/-- The numbers that 'awake' makes. -/
def ofTab (n : Int) : Option (Bool × List Int) :=
  if n = 7 then some (false, [7]) else if n = -2 then some (true, [2]) else if n = -9223372036854775808 then some (true, [0, 2147483648])
  else if n = -3 then some (true, [3]) else if n = 1 then some (false, [1]) else if n = -5 then some (true, [5]) else none
theorem ofTab_ok {n : Int} {x : Bool × List Int} (h : ofTab n = some x) : In64 n ∧ Zp n = x := by
  unfold ofTab at h
  split at h
  · rename_i e; injection h with h; subst e; subst h; exact ⟨by unfold In64; omega, by decide +kernel⟩
  · split at h
    · rename_i e; injection h with h; subst e; subst h; exact ⟨by unfold In64; omega, by decide +kernel⟩
    · split at h
      · rename_i e; injection h with h; subst e; subst h; exact ⟨by unfold In64; omega, by decide +kernel⟩
      · split at h
        · rename_i e; injection h with h; subst e; subst h; exact ⟨by unfold In64; omega, by decide +kernel⟩
        · split at h
          · rename_i e; injection h with h; subst e; subst h; exact ⟨by unfold In64; omega, by decide +kernel⟩
          · split at h
            · rename_i e; injection h with h; subst e; subst h; exact ⟨by unfold In64; omega, by decide +kernel⟩
            · cases h
def ofFn : List D → List BoxC → Option (Prop × D × List BoxC) := fun ds bx => match ds, bx with
  | [.val (.int .i64 n)], [] => (match ofTab n with | some x => some (True, dI x, []) | none => none)
  | _, _ => none
theorem ofFn_ok {f : FuncId} (hf : ∀ n, In64 n → Ct Try.prog f [.val (.int .i64 n)] (Zd n)) : ∀ ds bx pre d bx', ofFn ds bx = some (pre, d, bx') → pre → GCt Try.prog f bx ds d bx' := fun ds bx pre d bx' hx hp => by
  unfold ofFn at hx
  split at hx
  · rename_i n
    split at hx
    · rename_i x hn
      injection hx with hx; injection hx with h1 hx; injection hx with h2 h3
      subst h2; subst h3
      obtain ⟨h4, h5⟩ := ofTab_ok hn
      have := hf n h4
      unfold Zd at this
      rw [h5] at this
      exact this
    · cases hx
  · cases hx
noncomputable def S6c : List (Spec Try.prog) := S5c ++ [
  .own 79 ofFn (by kernel_rfl) (ofFn_ok fun n h => iof_ct h),
  .own 69 ofFn (by kernel_rfl) (ofFn_ok fun n h => rof_ct h),
  .of 32 [u32s, u32s] (fun x => x.1 = [7] ∧ x.2.1 = [2]) (fun x => .tup [dS [3], dS [1], .val (.int .i64 0)]) (by kernel_rfl) (fun x hp => by obtain ⟨x1, x2, x3⟩ := x; obtain ⟨h1, h2⟩ := hp; dsimp only at h1 h2; subst h1; subst h2; exact divmod72_ct),
  .of 26 [intT] (fun x => x.1 = (true, [0])) (fun x => .val (.string ⟨#[48]⟩)) (by kernel_rfl) (fun x hp => by obtain ⟨x1, x2⟩ := x; dsimp only at hp; subst hp; exact iformat0_ct)]
end Go.Proofs.Ytpblkjjafdfjkaa.V
