/- Contracts of trimming and equality of the reference, and of sums; loops of comparisons and of products. -/
import Derived.Test.YtpblkjjafdfjkaaPD
namespace Go.Proofs.Ytpblkjjafdfjkaa.V
open Go.RowKit
set_option linter.unusedVariables false
set_option linter.unusedSimpArgs false
/-- Lists that all functions take. -/
def Sm (l : List Int) : Prop := Dig l ∧ l.length ≤ 400000
theorem Sm.ok {l : List Int} (h : Sm l) : Ok l := ⟨h.1, by have := h.2; omega⟩
theorem Sm.dgl {l : List Int} (h : Sm l) : (dg (val l)).length ≤ 400000 := Nat.le_trans (dg_val_len h.1) h.2
theorem win_top {l : List Int} (h : Dig l) : win l 0 (top l l.length) = dg (val l) := by simp only [win, List.drop_zero, take_top h]
theorem win_dg {l : List Int} (h : Dig l) : win l 0 (dg (val l)).length = dg (val l) := by rw [← top_len h, win_top h]
theorem rtrim_ct {l : List Int} (h : Ok l) : Ct Try.prog 31 [dS l] (dS (dg (val l))) := by
  have hl := h.2
  have h1 := top_le l l.length
  have h2 : (win l 0 (top l l.length)).length ≤ 1000000 := by rw [win_top h.1]; exact (ok_dgv h).2
  have e : Int.toNat (((top l (Int.toNat (l.length : Int)) : Nat) : Int) - 0) = top l l.length := by rw [Int.sub_zero, Int.toNat_natCast, Int.toNat_natCast]
  refine ct (p_rtrim_0 l) mixed LSrtrim_ok ⟨by omega, ⟨by omega, by omega, by rw [Int.toNat_natCast]; omega⟩, by rw [e]; omega, by rw [e]; omega, trivial⟩ ?_
  rw [e, win_top h.1]
theorem same_ct {x y : List Int} (hl : x.length ≤ 1000000) : Ct Try.prog 33 [dS x, dS y] (.val (.bool (decide (x = y)))) := by
  by_cases c : x.length = y.length
  · by_cases e : x = y
    · exact ct (p_sameT_1 x y) mixed (LSsame_ok true) ⟨by simp [c], ⟨c, hl, rfl, by simp [e]⟩, trivial⟩ (by simp [e])
    · exact ct (p_sameF_1 x y) mixed (LSsame_ok false) ⟨by simp [c], ⟨c, hl, rfl, by simp [e]⟩, trivial⟩ (by simp [e])
  · have e : ¬ x = y := fun e => c (by rw [e])
    exact ct (p_sameT_0 x y) mixed (LSsame_ok true) ⟨by simp; omega, trivial⟩ (by simp [e])
theorem addP_val {x y : List Int} (hx : Dig x) (hy : Dig y) (hl : x.length ≤ 900000) (hyl : y.length ≤ x.length) (T : TypeId) : Dig ((addP T x y).1.set x.length (IntKind.u32.wrap (addP T x y).2)) ∧
    ((addP T x y).1.set x.length (IntKind.u32.wrap (addP T x y).2)).length = x.length + 1 ∧ val ((addP T x y).1.set x.length (IntKind.u32.wrap (addP T x y).2)) = val x + val y := by
  obtain ⟨_, h1, h2, h3, h4⟩ := addP_ok hx hy (by omega) hyl T
  have e : IntKind.u32.wrap (addP T x y).2 = (addP T x y).2 := by rw [uu]; omega
  rw [e]
  have hd : Dig ((addP T x y).1.set x.length (addP T x y).2) := dig_set h1 (by omega) _
  have hlen : ((addP T x y).1.set x.length (addP T x y).2).length = x.length + 1 := by simp [h2]
  refine ⟨hd, hlen, val_of_pv (n := val x + val y) hd hlen.symm (by rw [pv_set_succ _ (by omega), h4.out]; omega)⟩
theorem mk_len {n : Nat} (h : n ≤ 1000000) : IntKind.i64.wrap ((n : Int) + 1) = ((n + 1 : Nat) : Int) := by rw [i64 (by omega) (by omega)]; omega
theorem add_ct {x y : List Int} (hx : Sm x) (hy : Sm y) : Ct Try.prog 81 [dS x, dS y] (dS (dg (val x + val y))) := by
  have a1 := hx.dgl
  have a2 := hy.dgl
  by_cases c : (dg (val x)).length < (dg (val y)).length
  · obtain ⟨h1, h2, h3⟩ := addP_val (dig_dg (val y)) (dig_dg (val x)) (by omega) (by omega) (T := 66)
    have h4 := (addP_ok (dig_dg (val y)) (dig_dg (val x)) (by omega) (by omega) 66).2.2.1
    refine ct (p_add_0 x y) mixed LSadd_ok ⟨hx.ok, hy.ok, by simp; omega, by rw [mk_len (by omega)]; omega, ⟨dig_dg _, dig_dg _, by omega, by omega, rfl, rfl, rfl, rfl, by rw [mk_len (by omega), Int.toNat_natCast]⟩, by rw [h4]; omega, ?_, trivial⟩ ?_
    · rw [Int.toNat_natCast]; exact ⟨h1, by rw [h2]; omega⟩
    · rw [Int.toNat_natCast, win_dg h1, h3, val_dg, val_dg, Nat.add_comm]
  · obtain ⟨h1, h2, h3⟩ := addP_val (dig_dg (val x)) (dig_dg (val y)) (by omega) (by omega) (T := 66)
    have h4 := (addP_ok (dig_dg (val x)) (dig_dg (val y)) (by omega) (by omega) 66).2.2.1
    refine ct (p_add_1 x y) mixed LSadd_ok ⟨hx.ok, hy.ok, by simp; omega, by rw [mk_len (by omega)]; omega, ⟨dig_dg _, dig_dg _, by omega, by omega, rfl, rfl, rfl, rfl, by rw [mk_len (by omega), Int.toNat_natCast]⟩, by rw [h4]; omega, ?_, trivial⟩ ?_
    · rw [Int.toNat_natCast]; exact ⟨h1, by rw [h2]; omega⟩
    · rw [Int.toNat_natCast, win_dg h1, h3, val_dg, val_dg]
/-! ### Comparing -/
def cmpX (t : Bool) : Ex := match t with | true => .exit 0 | false => .ret
def cmpE (t : Bool) (v : Int) : EL := match t with | true => [(4, .any)] | false => [(4, .val (.int .i64 v))]
theorem cmp_loop {x y : List Int} (hx : Dig x) (hy : Dig y) (hl : x.length ≤ 1000000) (he : x.length = y.length) : ∀ i : Nat, i ≤ x.length →
    Loops Try.prog (tmpsOf Try.prog 82) 0 (nav (rootOf Try.prog 82) [0, 0, 1, 0, 1, 1, 1]) (tmpl [(5, dS x), (6, dS y), (7, .val (.int .i64 ((i : Int) - 1)))] [] 0) (cmpX (decide (pv x i = pv y i))) (tmpl (cmpE (decide (pv x i = pv y i)) (cmpZ (pv x i) (pv y i))) [] 0)
  | 0, hi => .out (by simp [cmpX, pv]) (round_ok mixed LSok.nil (p_cmp_r_2 x y _) (allP_mem ⟨by simp, trivial⟩))
  | i + 1, hi => by
    have e0 : ((i + 1 : Nat) : Int) - 1 = (i : Int) := by omega
    rw [e0]
    have hw : IntKind.i64.wrap ((i : Int) - 1) = (i : Int) - 1 := i64 (by omega) (by omega)
    by_cases c : at_ x i = at_ y i
    · have e1 : decide (pv x (i + 1) = pv y (i + 1)) = decide (pv x i = pv y i) := by rw [pv, pv, c]; exact decide_eq_decide.2 ⟨fun h => by omega, fun h => by omega⟩
      have e2 : cmpZ (pv x (i + 1)) (pv y (i + 1)) = cmpZ (pv x i) (pv y i) := by
        rw [pv, pv, c]; unfold cmpZ; split <;> split <;> (try split) <;> (try split) <;> omega
      rw [e1, e2]
      refine .next (round_ok mixed LSok.nil (p_cmp_r_1 x y i) (allP_mem ⟨by simp, by omega, by omega, by simpa [at_] using c, trivial⟩)) ?_
      rw [hw]
      exact cmp_loop hx hy hl he i (by omega)
    · have e1 : pv x (i + 1) ≠ pv y (i + 1) ∧ cmpZ (pv x (i + 1)) (pv y (i + 1)) = cmpZ (at_ x i) (at_ y i) := by
        rcases Int.lt_or_gt_of_ne c with h | h
        · have := pv_top hx hy h
          exact ⟨by omega, by simp only [cmpZ, if_pos h, if_pos this]⟩
        · have := pv_top hy hx h
          refine ⟨by omega, ?_⟩
          unfold cmpZ
          rw [if_neg (by omega), if_neg (by omega), if_neg (by omega), if_neg (by omega)]
      rw [decide_eq_false e1.1, e1.2]
      exact .out (by simp [cmpX]) (round_ok mixed LSok.nil (p_cmp_r_0 x y i) (allP_mem ⟨by simp, by omega, by omega, by simpa [at_] using c, by omega, by omega, trivial, trivial⟩))
def fcmp (t : Bool) : EL → BL → Option (Prop × Ex × EL × BL) := fun e b => match e, b with
  | [(5, .sl (.int .u32) x), (6, .sl (.int .u32) y), (7, .val (.int .i64 i))], [] => some (Dig x ∧ Dig y ∧ x.length ≤ 1000000 ∧ x.length = y.length ∧ i = (x.length : Int) - 1 ∧ decide (val x = val y) = t, cmpX t, cmpE t (cmpZ (val x) (val y)), [])
  | _, _ => none
def LScmp (t : Bool) : List (List Nat × LFn) := [([0, 1, 0, 1, 1, 1], lfn 0 [5, 6, 7] [] 0 (fcmp t))]
theorem LScmp_ok (t : Bool) : LSok Try.prog (tmpsOf Try.prog 82) 0 (rootOf Try.prog 82) (LScmp t) := .cons (lfn_ok fun e b pre ex e' b' hf hp => by
  unfold fcmp at hf
  split at hf
  · rename_i x y i
    injection hf with hf; injection hf with h1 hf; injection hf with h2 hf; injection hf with h3 h4
    subst h1; subst h2; subst h3; subst h4
    obtain ⟨hx, hy, hl, he, rfl, rfl⟩ := hp
    have h8 := Loops.at (by kernel_rfl) (cmp_loop hx hy hl he x.length (Nat.le_refl _))
    have e1 := pv_val hx
    have e2 : pv y x.length = val y := by rw [he]; exact pv_val hy
    rw [e1, e2] at h8
    have e3 : decide ((val x : Int) = (val y : Int)) = decide (val x = val y) := decide_eq_decide.2 Int.ofNat_inj
    rwa [e3] at h8
  · cases hf) .nil
/-! ### Products -/
abbrev mulOS (T : TypeId) (x y s : List Int) (i : Int) : St := tmpl [(6, dS y), (7, .own 1000), (32, dS x), (33, .val (.int .i64 x.length)), (34, .val (.int .i64 i))] [(1000, .row T (.int .u32) s)] 1001
theorem mulO_loop {x y : List Int} (hx : Dig x) (hy : Dig y) (lx : x.length ≤ 1000000) (ly : y.length ≤ 1000000) (T : TypeId) : ∀ (n i : Nat) (s : List Int), i + n = x.length → Dig s → s.length = x.length + y.length → (∀ m, i + y.length ≤ m → at_ s m = 0) →
    Hd (pv s (i + y.length) = pv x i * pv y y.length) → ∃ r : List Int, Loops Try.prog (tmpsOf Try.prog 34) 0 (nav (rootOf Try.prog 34) [0, 0, 1, 0, 1, 1, 1, 1]) (mulOS T x y s i) (.exit 0) (mulOS T x y r x.length) ∧ Dig r ∧ r.length = x.length + y.length ∧ val r = val x * val y
  | 0, i, s, hi, hs, hsl, hz, inv => by
    have : i = x.length := by omega
    subst this
    exact ⟨s, .out (by simp) (round_ok mixed LSmulI_ok (p_mulO_r_2 x y s T x.length x.length) (allP_mem ⟨by simp, trivial⟩)), hs, hsl, val_of_pv (n := val x * val y) hs hsl.symm (by rw [inv.out, pv_val hx, pv_val hy]; exact (Int.natCast_mul _ _).symm)⟩
  | n + 1, i, s, hi, hs, hsl, hz, inv => by
    have e2 : IntKind.i64.wrap ((i : Int) + 1) = ((i + 1 : Nat) : Int) := by rw [i64 (by omega) (by omega)]; omega
    have dx := at_dig hx i
    have e3 : i + 1 + y.length = i + y.length + 1 := by omega
    by_cases c : at_ x i = 0
    · obtain ⟨r, h1, h2⟩ := mulO_loop hx hy lx ly T n (i + 1) s (by omega) hs hsl (fun m hm => hz m (by omega)) ⟨by
        rw [e3, pv_s, hz _ (Nat.le_refl _), pv_s, c, Int.zero_mul, Int.zero_mul, Int.add_zero, Int.add_zero]
        exact inv.out⟩
      refine ⟨r, .next (round_ok mixed LSmulI_ok (p_mulO_r_0 x y s T i x.length) (allP_mem ⟨by simp; omega, by omega, by simpa [at_] using c, trivial⟩)) ?_, h2⟩
      rw [e2]; exact h1
    · have e1 : IntKind.i64.wrap ((i : Int) + (y.length : Int)) = ((i + y.length : Nat) : Int) := by rw [i64 (by omega) (by omega)]; omega
      obtain ⟨_, g1, g2, g3, g4, g5⟩ := mulIP_ok hx hy lx ly (i := i) (by omega) dx hs hsl T
      have eu : IntKind.u32.wrap (mulIP T x y s (at_ x i) i).2 = (mulIP T x y s (at_ x i) i).2 := by rw [uu]; omega
      obtain ⟨r, h1, h2⟩ := mulO_loop hx hy lx ly T n (i + 1) ((mulIP T x y s (at_ x i) i).1.set (i + y.length) (mulIP T x y s (at_ x i) i).2) (by omega) (dig_set g1 g4 _) (by simp [g2]) (fun m hm => by
          rw [at_set _ _ m _ (by omega), if_neg (by omega), g3 m (by omega)]; exact hz m (by omega)) ⟨by
        rw [e3, pv_set_succ _ (by omega), pw_add, g5.out, inv.out, pv_s, Int.add_mul]
        congr 1
        rw [Int.mul_assoc, Int.mul_assoc, Int.mul_comm (pw i)]⟩
      have et : ((i : Int)).toNat = i := by omega
      refine ⟨r, .next (round_ok mixed LSmulI_ok (p_mulO_r_1 x y s T i x.length) (allP_mem ⟨by simp; omega, by omega, by simpa [at_] using c, ⟨hx, hy, lx, ly, ⟨by omega, by omega⟩, by rw [et]; exact dx, hs, hsl, rfl, rfl, rfl, rfl, rfl, rfl⟩, ?_, trivial⟩)) ?_, h2⟩
      · rw [et, e1]
        unfold at_ at g2
        rw [g2]; omega
      · rw [et, e1, e2, Int.toNat_natCast]
        unfold at_ at eu h1
        rw [eu]
        exact h1
def mulG (T : TypeId) (x y : List Int) (r : List Int) : Prop := Loops Try.prog (tmpsOf Try.prog 34) 0 (nav (rootOf Try.prog 34) [0, 0, 1, 0, 1, 1, 1, 1]) (mulOS T x y (List.replicate (x.length + y.length) 0) 0) (.exit 0) (mulOS T x y r x.length) ∧ Dig r ∧ r.length = x.length + y.length ∧ val r = val x * val y
noncomputable def mulP (T : TypeId) (x y : List Int) : List Int := pick (mulG T x y)
theorem at_zeros (N m : Nat) : at_ (List.replicate N (0 : Int)) m = 0 := by
  unfold at_
  rw [List.getD_eq_getElem?_getD, List.getElem?_replicate]
  split <;> rfl
theorem pv_zeros (N m : Nat) : pv (List.replicate N (0 : Int)) m = 0 := by
  induction m with
  | zero => rfl
  | succ m ih => rw [pv_s, ih, at_zeros]; simp
theorem mulP_ok {x y : List Int} (hx : Dig x) (hy : Dig y) (lx : x.length ≤ 1000000) (ly : y.length ≤ 1000000) (T : TypeId) : mulG T x y (mulP T x y) :=
  pick_ok (mulO_loop hx hy lx ly T x.length 0 (List.replicate (x.length + y.length) 0) (by omega) (dig_zeros _) (by simp) (fun m _ => at_zeros _ m) ⟨by rw [pv_zeros]; simp [pv]⟩)
noncomputable def fmul : EL → BL → Option (Prop × Ex × EL × BL) := fun e b => match e, b with
  | [(6, .sl (.int .u32) y), (7, .own 1000), (32, .sl (.int .u32) x), (33, .val (.int .i64 n)), (34, .val (.int .i64 i))], [(1000, .row T (.int .u32) s)] =>
    some (Dig x ∧ Dig y ∧ x.length ≤ 1000000 ∧ y.length ≤ 1000000 ∧ n = x.length ∧ i = 0 ∧ s = List.replicate (x.length + y.length) 0, .exit 0,
      [(6, dS y), (7, .own 1000), (32, dS x), (33, .val (.int .i64 x.length)), (34, .val (.int .i64 x.length))], [(1000, .row T (.int .u32) (mulP T x y))])
  | _, _ => none
noncomputable def LSmul : List (List Nat × LFn) := [([0, 1, 0, 1, 1, 1, 1], lfn 0 [6, 7, 32, 33, 34] [1000] 1001 fmul)]
theorem LSmul_ok : LSok Try.prog (tmpsOf Try.prog 34) 0 (rootOf Try.prog 34) LSmul := .cons (lfn_ok fun e b pre ex e' b' hf hp => by
  unfold fmul at hf
  split at hf
  · injection hf with hf; injection hf with h1 hf; injection hf with h2 hf; injection hf with h3 h4
    subst h1; subst h2; subst h3; subst h4
    obtain ⟨hx, hy, lx, ly, rfl, rfl, rfl⟩ := hp
    exact Loops.at (by kernel_rfl) (mulP_ok hx hy lx ly _).1
  · cases hf) .nil
end Go.Proofs.Ytpblkjjafdfjkaa.V
