/- Contracts: comparing, trimming, equality; loops of sums and differences. -/
import Derived.Test.YtpblkjjafdfjkaaPC
namespace Go.Proofs.Ytpblkjjafdfjkaa.V
open Go.RowKit
set_option linter.unusedVariables false
set_option linter.unusedSimpArgs false
noncomputable def pick {α : Type} [Nonempty α] (p : α → Prop) : α := Classical.epsilon p
theorem pick_ok {α : Type} [Nonempty α] {p : α → Prop} (h : ∃ a, p a) : p (pick p) := Classical.epsilon_spec h
theorem fd32 (a : Int) : Int.fdiv a 4294967296 = a / 4294967296 := Int.fdiv_eq_ediv_of_nonneg _ (by omega)
theorem fd63 (a : Int) : Int.fdiv a 9223372036854775808 = a / 9223372036854775808 := Int.fdiv_eq_ediv_of_nonneg _ (by omega)
theorem uu (a : Int) : IntKind.u32.wrap a = a % 4294967296 := by simp [IntKind.wrap, IntKind.bits, IntKind.signed]
theorem cmpI_ct (x y : Int) : Ct Try.prog 120 [.val (.int .i64 x), .val (.int .i64 y)] (.val (.int .i64 (cmpZ x y))) := by
  by_cases h : x < y
  · exact ct (p_cmpI_2 x y) mixed LSok.nil ⟨trivial, rfl, trivial, rfl, by simp [h], trivial⟩ (by simp [cmpZ, h])
  · by_cases h2 : y < x
    · exact ct (p_cmpI_3 x y) mixed LSok.nil ⟨trivial, rfl, trivial, rfl, by simp [h], by simp [h2], trivial⟩ (by simp [cmpZ, h]; omega)
    · exact ct (p_cmpI_4 x y) mixed LSok.nil ⟨trivial, rfl, trivial, rfl, by simp [h], by simp [h2], trivial⟩ (by simp [cmpZ, h]; omega)
theorem cmpU_ct (x y : Int) : Ct Try.prog 121 [.val (.int .u32 x), .val (.int .u32 y)] (.val (.int .i64 (cmpZ x y))) := by
  by_cases h : x < y
  · exact ct (p_cmpU_2 x y) mixed LSok.nil ⟨trivial, rfl, trivial, rfl, by simp [h], trivial⟩ (by simp [cmpZ, h])
  · by_cases h2 : y < x
    · exact ct (p_cmpU_3 x y) mixed LSok.nil ⟨trivial, rfl, trivial, rfl, by simp [h], by simp [h2], trivial⟩ (by simp [cmpZ, h]; omega)
    · exact ct (p_cmpU_4 x y) mixed LSok.nil ⟨trivial, rfl, trivial, rfl, by simp [h], by simp [h2], trivial⟩ (by simp [cmpZ, h]; omega)
theorem ok_dgv {l : List Int} (h : Ok l) : Ok (dg (val l)) := ⟨dig_dg _, Nat.le_trans (dg_val_len h.1) h.2⟩
theorem trim_ct {l : List Int} (h : Ok l) : Ct Try.prog 84 [dS l] (dS (dg (val l))) := ct (p_trim_0 l) mixed LSok.nil ⟨h, (ok_dgv h).2, trivial⟩ rfl
theorem nrm_at {l : List Int} (h : l.length ≠ 0) (h2 : l.length ≤ 1000000) : IntKind.i64.wrap ((l.length : Int) - 1) = ((l.length - 1 : Nat) : Int) := by rw [i64 (by omega) (by omega)]; omega
theorem normal_ct {l : List Int} (h : l.length ≤ 1000000) : Ct Try.prog 102 [dS l] (.val (.bool (nrm l))) := by
  by_cases c : l.length = 0
  · exact ct (p_normal_0 l) mixed LSok.nil ⟨by simp [c], trivial⟩ (by simp [nrm, c])
  · exact ct (p_normal_1 l) mixed LSok.nil ⟨by simp; intro e; exact c (by simp [e]), by rw [nrm_at c h]; omega, trivial⟩ (by rw [nrm_at c h]; simp [nrm, c])
theorem rnormal_ct {l : List Int} (h : l.length ≤ 1000000) : Ct Try.prog 103 [dS l] (.val (.bool (nrm l))) := by
  by_cases c : l.length = 0
  · exact ct (p_rnormal_0 l) mixed LSok.nil ⟨by simp [c], trivial⟩ (by simp [nrm, c])
  · exact ct (p_rnormal_1 l) mixed LSok.nil ⟨by simp; intro e; exact c (by simp [e]), by rw [nrm_at c h]; omega, trivial⟩ (by rw [nrm_at c h]; simp [nrm, c])
theorem rtrim_loop (l : List Int) (hl : l.length ≤ 1000000) : ∀ n : Nat, n ≤ l.length → Loops Try.prog (tmpsOf Try.prog 31) 0 (nav (rootOf Try.prog 31) [0, 0, 0, 1, 1]) (tmpl [(0, dS l), (3, .val (.int .i64 n))] [] 0) (.exit 0) (tmpl [(0, dS l), (3, .val (.int .i64 (top l n : Nat)))] [] 0)
  | 0, hn => .out (by simp) (round_ok mixed LSok.nil (p_rtrim_r_2 l 0) (allP_mem ⟨by decide, trivial⟩))
  | n + 1, hn => by
    have hw : IntKind.i64.wrap (((n + 1 : Nat) : Int) - 1) = n := by rw [i64 (by omega) (by omega)]; omega
    have h1 : 0 ≤ IntKind.i64.wrap (((n + 1 : Nat) : Int) - 1) ∧ IntKind.i64.wrap (((n + 1 : Nat) : Int) - 1) < (l.length : Int) := by rw [hw]; omega
    by_cases h0 : at_ l n = 0
    · refine .next (round_ok mixed LSok.nil (p_rtrim_r_0 l ((n + 1 : Nat) : Int)) (allP_mem ⟨by simp, h1, ?_, trivial⟩)) ?_
      · rw [hw]; simpa [at_] using h0
      · rw [hw]
        have := rtrim_loop l hl n (by omega)
        simpa only [top, h0, if_true] using this
    · refine .out (by simp) ?_
      have := round_ok mixed LSok.nil (p_rtrim_r_1 l ((n + 1 : Nat) : Int)) (allP_mem ⟨by simp, h1, by rw [hw]; simpa [at_] using h0, trivial⟩)
      simpa only [top, h0, if_false] using this
def LSrtrim : List (List Nat × LFn) := [([0, 0, 1, 1], lfn 0 [0, 3] [] 0 fcut)]
theorem LSrtrim_ok : LSok Try.prog (tmpsOf Try.prog 31) 0 (rootOf Try.prog 31) LSrtrim := .cons (lfn_ok fun e b pre ex e' b' hf hp => by
  unfold fcut at hf
  split at hf
  · rename_i l n
    injection hf with hf; injection hf with h1 hf; injection hf with h2 hf; injection hf with h3 h4
    subst h1; subst h2; subst h3; subst h4
    obtain ⟨h5, h6, h7⟩ := hp
    have h8 := Loops.at (by kernel_rfl) (rtrim_loop l h7 n.toNat (by omega))
    rwa [show ((n.toNat : Nat) : Int) = n by omega] at h8
  · cases hf) .nil
/-- How 'Same' leaves its loop. -/
def sameX (t : Bool) : Ex := match t with | true => .exit 0 | false => .ret
def sameE (t : Bool) : EL := match t with | true => [(4, .any)] | false => [(4, .val (.bool false))]
theorem at_drop {l : List Int} {i : Nat} (h : i < l.length) : l.drop i = at_ l i :: l.drop (i + 1) := by
  rw [List.drop_eq_getElem_cons h]; unfold at_; rw [List.getD_eq_getElem?_getD, List.getElem?_eq_getElem h]; rfl
theorem same_loop {x y : List Int} (he : x.length = y.length) (hl : x.length ≤ 1000000) : ∀ (n i : Nat), i + n = x.length →
    Loops Try.prog (tmpsOf Try.prog 33) 0 (nav (rootOf Try.prog 33) [0, 0, 1, 0, 1, 1]) (tmpl [(0, dS x), (1, dS y), (5, .val (.int .i64 i))] [] 0) (sameX (decide (x.drop i = y.drop i))) (tmpl (sameE (decide (x.drop i = y.drop i))) [] 0)
  | 0, i, hi => by
    have e : decide (x.drop i = y.drop i) = true := by rw [List.drop_of_length_le (by omega), List.drop_of_length_le (by omega)]; simp
    rw [e]
    exact .out (by simp [sameX]) (round_ok mixed LSok.nil (p_same_r_2 x y i) (allP_mem ⟨by simp; omega, trivial⟩))
  | n + 1, i, hi => by
    have hw : IntKind.i64.wrap ((i : Int) + 1) = ((i + 1 : Nat) : Int) := by rw [i64 (by omega) (by omega)]; omega
    by_cases c : at_ x i = at_ y i
    · have e : decide (x.drop i = y.drop i) = decide (x.drop (i + 1) = y.drop (i + 1)) := by
        rw [at_drop (l := x) (by omega), at_drop (l := y) (by omega)]; simp [c]
      rw [e]
      refine .next (round_ok mixed LSok.nil (p_same_r_1 x y i) (allP_mem ⟨by simp; omega, by omega, by omega, by simpa [at_] using c, trivial⟩)) ?_
      rw [hw]
      exact same_loop he hl n (i + 1) (by omega)
    · have e : decide (x.drop i = y.drop i) = false := by
        rw [at_drop (l := x) (by omega), at_drop (l := y) (by omega)]; simp [c]
      rw [e]
      exact .out (by simp [sameX]) (round_ok mixed LSok.nil (p_same_r_0 x y i) (allP_mem ⟨by simp; omega, by omega, by omega, by simpa [at_] using c, trivial⟩))
def fsame (t : Bool) : EL → BL → Option (Prop × Ex × EL × BL) := fun e b => match e, b with
  | [(0, .sl (.int .u32) x), (1, .sl (.int .u32) y), (5, .val (.int .i64 i))], [] => some (x.length = y.length ∧ x.length ≤ 1000000 ∧ i = 0 ∧ decide (x = y) = t, sameX t, sameE t, [])
  | _, _ => none
def LSsame (t : Bool) : List (List Nat × LFn) := [([0, 1, 0, 1, 1], lfn 0 [0, 1, 5] [] 0 (fsame t))]
theorem LSsame_ok (t : Bool) : LSok Try.prog (tmpsOf Try.prog 33) 0 (rootOf Try.prog 33) (LSsame t) := .cons (lfn_ok fun e b pre ex e' b' hf hp => by
  unfold fsame at hf
  split at hf
  · rename_i x y i
    injection hf with hf; injection hf with h1 hf; injection hf with h2 hf; injection hf with h3 h4
    subst h1; subst h2; subst h3; subst h4
    obtain ⟨h1, h2, rfl, rfl⟩ := hp
    have h8 := Loops.at (by kernel_rfl) (same_loop h1 h2 x.length 0 (by omega))
    simpa using h8
  · cases hf) .nil
/-! ### Sums -/
abbrev addS (T : TypeId) (x y s : List Int) (c i : Int) : St := tmpl [(5, dS x), (6, dS y), (7, .own 1000), (8, .val (.int .u64 c)), (27, dS x), (28, .val (.int .i64 x.length)), (29, .val (.int .i64 i))] [(1000, .row T (.int .u32) s)] 1001
theorem add_loop {x y : List Int} (hx : Dig x) (hy : Dig y) (hl : x.length ≤ 1000000) (hyl : y.length ≤ x.length) (T : TypeId) : ∀ (n i : Nat) (s : List Int) (c : Int), i + n = x.length → Dig s → s.length = x.length + 1 → 0 ≤ c ∧ c ≤ 1 →
    Hd (pv s i + c * pw i = pv x i + pv y i) → ∃ r : List Int × Int, Loops Try.prog (tmpsOf Try.prog 81) 0 (nav (rootOf Try.prog 81) [0, 0, 1, 0, 1, 1, 1, 1, 1]) (addS T x y s c i) (.exit 0) (addS T x y r.1 r.2 x.length) ∧
      Dig r.1 ∧ r.1.length = x.length + 1 ∧ (0 ≤ r.2 ∧ r.2 ≤ 1) ∧ Hd (pv r.1 x.length + r.2 * pw x.length = val x + val y)
  | 0, i, s, c, hi, hs, hsl, hc, inv => by
    have : i = x.length := by omega
    subst this
    exact ⟨(s, c), .out (by simp) (round_ok mixed LSok.nil (p_add_r_2 x y s T c x.length x.length) (allP_mem ⟨by simp, trivial⟩)), hs, hsl, hc, ⟨by rw [inv.out, pv_val hx, pv_ge hyl, pv_val hy]⟩⟩
  | n + 1, i, s, c, hi, hs, hsl, hc, inv => by
    have e : IntKind.i64.wrap ((i : Int) + 1) = ((i + 1 : Nat) : Int) := by rw [i64 (by omega) (by omega)]; omega
    have dx := at_dig hx i
    have dy := at_dig hy i
    have et : ((i : Int)).toNat = i := by omega
    have u1 : IntKind.u64.wrap (at_ x i) = at_ x i := uw (by omega) (by omega)
    have u2 : IntKind.u64.wrap (at_ x i + c) = at_ x i + c := uw (by omega) (by omega)
    by_cases c2 : i < y.length
    · have u3 : IntKind.u64.wrap (at_ y i) = at_ y i := uw (by omega) (by omega)
      have u4 : IntKind.u64.wrap (at_ x i + c + at_ y i) = at_ x i + c + at_ y i := uw (by omega) (by omega)
      obtain ⟨r, h1, h2⟩ := add_loop hx hy hl hyl T n (i + 1) (s.set i ((at_ x i + c + at_ y i) % 4294967296)) ((at_ x i + c + at_ y i) / 4294967296) (by omega) (dig_set hs (by omega) _) (by simp [hsl]) (by omega) ⟨by
        rw [pv_set_succ _ (by omega), pv_s, pv_s, pw_succ]
        exact step_add inv.out (by omega)⟩
      refine ⟨r, .next (round_ok mixed LSok.nil (p_add_r_0 x y s T c i x.length) (allP_mem ⟨by simp; omega, by omega, by simp; omega, by omega, by omega, by omega, trivial⟩)) ?_, h2⟩
      simp only [fd32, uu, et, e]
      unfold at_ at u1 u2 u3 u4 h1
      rw [u1, u2, u3, u4]
      exact h1
    · have hy0 : at_ y i = 0 := at_ge (by omega)
      obtain ⟨r, h1, h2⟩ := add_loop hx hy hl hyl T n (i + 1) (s.set i ((at_ x i + c) % 4294967296)) ((at_ x i + c) / 4294967296) (by omega) (dig_set hs (by omega) _) (by simp [hsl]) (by omega) ⟨by
        rw [pv_set_succ _ (by omega), pv_s, pv_s, pw_succ, hy0]
        exact step_add inv.out (by omega)⟩
      refine ⟨r, .next (round_ok mixed LSok.nil (p_add_r_1 x y s T c i x.length) (allP_mem ⟨by simp; omega, by omega, by simp; omega, by omega, by omega, trivial⟩)) ?_, h2⟩
      simp only [fd32, uu, et, e]
      unfold at_ at u1 u2 h1
      rw [u1, u2]
      exact h1
end Go.Proofs.Ytpblkjjafdfjkaa.V
