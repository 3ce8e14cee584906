/- Loops of differences and products; what the loops leave. -/
import Derived.Test.YtpblkjjafdfjkaaN3
namespace Go.Proofs.Ytpblkjjafdfjkaa.V
open Go.RowKit
set_option linter.unusedVariables false
set_option linter.unusedSimpArgs false
abbrev subS (T : TypeId) (x y s : List Int) (c i : Int) : St := tmpl [(6, dS y), (7, .own 1000), (8, .val (.int .u64 c)), (23, dS x), (24, .val (.int .i64 x.length)), (25, .val (.int .i64 i))] [(1000, .row T (.int .u32) s)] 1001
theorem sub_loop {x y : List Int} (hx : Dig x) (hy : Dig y) (hl : x.length ≤ 1000000) (hv : val y ≤ val x) (hyl : y.length ≤ x.length) (T : TypeId) : ∀ (n i : Nat) (s : List Int) (c : Int), i + n = x.length → Dig s → s.length = x.length → 0 ≤ c ∧ c ≤ 1 →
    Hd (pv s i = pv x i - pv y i + c * pw i) → ∃ r : List Int × Int, Loops Try.prog (tmpsOf Try.prog 83) 0 (nav (rootOf Try.prog 83) [0, 0, 1, 0, 1, 1, 1, 1, 1]) (subS T x y s c i) (.exit 0) (subS T x y r.1 r.2 x.length) ∧
      Dig r.1 ∧ r.1.length = x.length ∧ val r.1 = val x - val y
  | 0, i, s, c, hi, hs, hsl, hc, inv => by
    have : i = x.length := by omega
    subst this
    refine ⟨(s, c), .out (by simp) (round_ok mixed LSok.nil (p_sub_r_2 x y s T c x.length x.length) (allP_mem ⟨by simp, trivial⟩)), hs, hsl, ?_⟩
    have h1 := pv_l hs x.length
    have h2 := pv_val hx
    have h3 := pv_val hy
    have inv := inv.out
    rw [pv_ge hyl] at inv
    have hb0 : c = 0 := by
      rcases (show c = 0 ∨ c = 1 by omega) with h | h
      · exact h
      · subst h; rw [Int.one_mul] at inv; omega
    subst hb0
    exact val_of_pv (n := val x - val y) hs hsl.symm (by rw [inv]; omega)
  | n + 1, i, s, c, hi, hs, hsl, hc, inv => by
    have e : IntKind.i64.wrap ((i : Int) + 1) = ((i + 1 : Nat) : Int) := by rw [i64 (by omega) (by omega)]; omega
    have dx := at_dig hx i
    have dy := at_dig hy i
    have et : ((i : Int)).toNat = i := by omega
    by_cases c2 : i < y.length
    · have ht : (((at_ x i % 18446744073709551616 - c) % 18446744073709551616 - at_ y i % 18446744073709551616) % 18446744073709551616) % 4294967296 - 4294967296 * ((((at_ x i % 18446744073709551616 - c) % 18446744073709551616 - at_ y i % 18446744073709551616) % 18446744073709551616) / 9223372036854775808) = at_ x i - c - at_ y i := by omega
      have hb2 : 0 ≤ (((at_ x i % 18446744073709551616 - c) % 18446744073709551616 - at_ y i % 18446744073709551616) % 18446744073709551616) / 9223372036854775808 ∧ (((at_ x i % 18446744073709551616 - c) % 18446744073709551616 - at_ y i % 18446744073709551616) % 18446744073709551616) / 9223372036854775808 ≤ 1 := by omega
      obtain ⟨r, h1, h2⟩ := sub_loop hx hy hl hv hyl T n (i + 1) (s.set i ((((at_ x i % 18446744073709551616 - c) % 18446744073709551616 - at_ y i % 18446744073709551616) % 18446744073709551616) % 4294967296)) _ (by omega) (dig_set hs (by omega) _) (by simp [hsl]) hb2 ⟨by
        rw [pv_set_succ _ (by omega), pv_s, pv_s, pw_succ]
        exact step_sub inv.out ht⟩
      refine ⟨r, .next (round_ok mixed LSok.nil (p_sub_r_0 x y s T c i x.length) (allP_mem ⟨by simp; omega, by omega, by simp; omega, by omega, by omega, by omega, trivial⟩)) ?_, h2⟩
      simp only [fd63, uu, et, e, um]
      exact h1
    · have hy0 : at_ y i = 0 := at_ge (by omega)
      have ht : ((at_ x i % 18446744073709551616 - c) % 18446744073709551616) % 4294967296 - 4294967296 * (((at_ x i % 18446744073709551616 - c) % 18446744073709551616) / 9223372036854775808) = at_ x i - c := by omega
      have hb2 : 0 ≤ ((at_ x i % 18446744073709551616 - c) % 18446744073709551616) / 9223372036854775808 ∧ ((at_ x i % 18446744073709551616 - c) % 18446744073709551616) / 9223372036854775808 ≤ 1 := by omega
      obtain ⟨r, h1, h2⟩ := sub_loop hx hy hl hv hyl T n (i + 1) (s.set i (((at_ x i % 18446744073709551616 - c) % 18446744073709551616) % 4294967296)) _ (by omega) (dig_set hs (by omega) _) (by simp [hsl]) hb2 ⟨by
        rw [pv_set_succ _ (by omega), pv_s, pv_s, pw_succ, hy0]
        exact step_sub inv.out (by omega)⟩
      refine ⟨r, .next (round_ok mixed LSok.nil (p_sub_r_1 x y s T c i x.length) (allP_mem ⟨by simp; omega, by omega, by simp; omega, by omega, by omega, trivial⟩)) ?_, h2⟩
      simp only [fd63, uu, et, e, um]
      exact h1
abbrev mulIS (T : TypeId) (x y s : List Int) (d c i j : Int) : St := tmpl [(6, dS y), (7, .own 1000), (8, .val (.int .i64 i)), (9, .val (.int .u32 d)), (10, .val (.int .u64 c)), (32, dS x), (33, .val (.int .i64 x.length)), (34, .val (.int .i64 i)), (41, dS y), (42, .val (.int .i64 y.length)), (43, .val (.int .i64 j))] [(1000, .row T (.int .u32) s)] 1001
theorem mulI_loop {x y : List Int} (hx : Dig x) (hy : Dig y) (lx : x.length ≤ 1000000) (ly : y.length ≤ 1000000) (i : Nat) (hi : i < x.length) (X : Int) (hX : 0 ≤ X ∧ X < 4294967296) (o : List Int) (T : TypeId) :
    ∀ (n j : Nat) (s : List Int) (c : Int), j + n = y.length → Dig s → s.length = x.length + y.length → (∀ m, i + j ≤ m → at_ s m = at_ o m) → 0 ≤ c ∧ c < 4294967296 →
    Hd (pv s (i + j) + c * (pw i * pw j) = pv o (i + j) + X * pv y j * pw i) →
    ∃ r : List Int × Int, Loops Try.prog (tmpsOf Try.prog 34) 0 (nav (rootOf Try.prog 34) [0, 0, 1, 0, 1, 1, 1, 0, 0, 1, 1, 0, 0, 1, 0, 1, 1, 1, 1]) (mulIS T x y s X c i j) (.exit 2) (mulIS T x y r.1 X r.2 i y.length) ∧
      Dig r.1 ∧ r.1.length = x.length + y.length ∧ (∀ m, i + y.length ≤ m → at_ r.1 m = at_ o m) ∧ (0 ≤ r.2 ∧ r.2 < 4294967296) ∧
      Hd (pv r.1 (i + y.length) + r.2 * (pw i * pw y.length) = pv o (i + y.length) + X * pv y y.length * pw i)
  | 0, j, s, c, hj, hs, hsl, same, hc, inv => by
    have : j = y.length := by omega
    subst this
    exact ⟨(s, c), .out (by simp) (round_ok mixed LSok.nil (p_mulI_r_1 x y s T X c i x.length y.length y.length) (allP_mem ⟨by simp, trivial⟩)), hs, hsl, same, hc, inv⟩
  | n + 1, j, s, c, hj, hs, hsl, same, hc, inv => by
    have e1 : IntKind.i64.wrap ((i : Int) + (j : Int)) = ((i + j : Nat) : Int) := by rw [i64 (by omega) (by omega)]; omega
    have e2 : IntKind.i64.wrap ((j : Int) + 1) = ((j + 1 : Nat) : Int) := by rw [i64 (by omega) (by omega)]; omega
    have et : (((i + j : Nat) : Int)).toNat = i + j := by omega
    have et2 : ((j : Int)).toNat = j := by omega
    have dy := at_dig hy j
    have ds := at_dig hs (i + j)
    have es : at_ s (i + j) = at_ o (i + j) := same _ (Nat.le_refl _)
    have u1 : IntKind.u64.wrap X = X := uw (by omega) (by omega)
    have u2 : IntKind.u64.wrap (at_ y j) = at_ y j := uw (by omega) (by omega)
    have u4 : IntKind.u64.wrap (at_ s (i + j)) = at_ s (i + j) := uw (by omega) (by omega)
    have hall := mul_dig (mul_le X (at_ y j) hX dy) ds hc
    obtain ⟨r, h1, h2⟩ := mulI_loop hx hy lx ly i hi X hX o T n (j + 1) (s.set (i + j) ((X * at_ y j + at_ s (i + j) + c) % 4294967296)) ((X * at_ y j + at_ s (i + j) + c) / 4294967296) (by omega) (dig_set hs hall.out.2.2.2.1 _) (by simp [hsl]) (fun m hm => by
        rw [at_set s _ m _ (by omega), if_neg (by omega)]; exact same m (by omega)) hall.out.2.2.2.2.1 ⟨by
        have e3 : i + (j + 1) = i + j + 1 := by omega
        rw [e3, pv_set_succ _ (by omega), pv_s, pv_s, pw_succ, pw_add, ← es]
        have := step_mul inv.out hall.out.2.2.2.2.2
        rw [Int.mul_assoc (pw i)] at this
        exact this⟩
    have c1 : (0 : Int) ≤ IntKind.i64.wrap ((i : Int) + (j : Int)) ∧ IntKind.i64.wrap ((i : Int) + (j : Int)) < (s.length : Int) := by rw [e1]; omega
    refine ⟨r, .next (round_ok mixed LSok.nil (p_mulI_r_0 x y s T X c i x.length j y.length) (allP_mem ⟨by simp; omega, by omega, c1, c1, by omega, trivial⟩)) ?_, h2⟩
    have v1 := hall.out.1
    have v2 := hall.out.2.1
    have v3 := hall.out.2.2.1
    simp only [fd32, uu, et, et2, e1, e2]
    unfold at_ at u2 u4 h1 v1 v2 v3
    rw [u1, u2, v1, u4, v2, v3]
    exact h1
/-! ### What the loops leave -/
def addG (T : TypeId) (x y : List Int) (r : List Int × Int) : Prop := Loops Try.prog (tmpsOf Try.prog 81) 0 (nav (rootOf Try.prog 81) [0, 0, 1, 0, 1, 1, 1, 1, 1]) (addS T x y (List.replicate (x.length + 1) 0) 0 0) (.exit 0) (addS T x y r.1 r.2 x.length) ∧
  Dig r.1 ∧ r.1.length = x.length + 1 ∧ (0 ≤ r.2 ∧ r.2 ≤ 1) ∧ Hd (pv r.1 x.length + r.2 * pw x.length = val x + val y)
noncomputable def addP (T : TypeId) (x y : List Int) : List Int × Int := pick (addG T x y)
theorem addP_ok {x y : List Int} (hx : Dig x) (hy : Dig y) (hl : x.length ≤ 1000000) (hyl : y.length ≤ x.length) (T : TypeId) : addG T x y (addP T x y) :=
  pick_ok (add_loop hx hy hl hyl T x.length 0 (List.replicate (x.length + 1) 0) 0 (by omega) (dig_zeros _) (by simp) (by omega) ⟨by simp [pv]⟩)
noncomputable def fadd : EL → BL → Option (Prop × Ex × EL × BL) := fun e b => match e, b with
  | [(5, .sl (.int .u32) x), (6, .sl (.int .u32) y), (7, .own 1000), (8, .val (.int .u64 c)), (27, .sl (.int .u32) x2), (28, .val (.int .i64 n)), (29, .val (.int .i64 i))], [(1000, .row T (.int .u32) s)] =>
    some (Dig x ∧ Dig y ∧ x.length ≤ 1000000 ∧ y.length ≤ x.length ∧ c = 0 ∧ x2 = x ∧ n = x.length ∧ i = 0 ∧ s = List.replicate (x.length + 1) 0, .exit 0,
      [(5, dS x), (6, dS y), (7, .own 1000), (8, .val (.int .u64 (addP T x y).2)), (27, dS x), (28, .val (.int .i64 x.length)), (29, .val (.int .i64 x.length))], [(1000, .row T (.int .u32) (addP T x y).1)])
  | _, _ => none
noncomputable def LSadd : List (List Nat × LFn) := [([0, 1, 0, 1, 1, 1, 1, 1], lfn 0 [5, 6, 7, 8, 27, 28, 29] [1000] 1001 fadd)]
theorem LSadd_ok : LSok Try.prog (tmpsOf Try.prog 81) 0 (rootOf Try.prog 81) LSadd := .cons (lfn_ok fun e b pre ex e' b' hf hp => by
  unfold fadd at hf
  split at hf
  · injection hf with hf; injection hf with h1 hf; injection hf with h2 hf; injection hf with h3 h4
    subst h1; subst h2; subst h3; subst h4
    obtain ⟨hx, hy, hl, hyl, rfl, rfl, rfl, rfl, rfl⟩ := hp
    exact Loops.at (by kernel_rfl) (addP_ok hx hy hl hyl _).1
  · cases hf) .nil
def subG (T : TypeId) (x y : List Int) (r : List Int × Int) : Prop := Loops Try.prog (tmpsOf Try.prog 83) 0 (nav (rootOf Try.prog 83) [0, 0, 1, 0, 1, 1, 1, 1, 1]) (subS T x y (List.replicate x.length 0) 0 0) (.exit 0) (subS T x y r.1 r.2 x.length) ∧
  Dig r.1 ∧ r.1.length = x.length ∧ val r.1 = val x - val y
noncomputable def subP (T : TypeId) (x y : List Int) : List Int × Int := pick (subG T x y)
theorem subP_ok {x y : List Int} (hx : Dig x) (hy : Dig y) (hl : x.length ≤ 1000000) (hv : val y ≤ val x) (hyl : y.length ≤ x.length) (T : TypeId) : subG T x y (subP T x y) :=
  pick_ok (sub_loop hx hy hl hv hyl T x.length 0 (List.replicate x.length 0) 0 (by omega) (dig_zeros _) (by simp) (by omega) ⟨by simp [pv]⟩)
noncomputable def fsub : EL → BL → Option (Prop × Ex × EL × BL) := fun e b => match e, b with
  | [(6, .sl (.int .u32) y), (7, .own 1000), (8, .val (.int .u64 c)), (23, .sl (.int .u32) x), (24, .val (.int .i64 n)), (25, .val (.int .i64 i))], [(1000, .row T (.int .u32) s)] =>
    some (Dig x ∧ Dig y ∧ x.length ≤ 1000000 ∧ y.length ≤ x.length ∧ val y ≤ val x ∧ c = 0 ∧ n = x.length ∧ i = 0 ∧ s = List.replicate x.length 0, .exit 0,
      [(6, dS y), (7, .own 1000), (8, .val (.int .u64 (subP T x y).2)), (23, dS x), (24, .val (.int .i64 x.length)), (25, .val (.int .i64 x.length))], [(1000, .row T (.int .u32) (subP T x y).1)])
  | _, _ => none
noncomputable def LSsub : List (List Nat × LFn) := [([0, 1, 0, 1, 1, 1, 1, 1], lfn 0 [6, 7, 8, 23, 24, 25] [1000] 1001 fsub)]
theorem LSsub_ok : LSok Try.prog (tmpsOf Try.prog 83) 0 (rootOf Try.prog 83) LSsub := .cons (lfn_ok fun e b pre ex e' b' hf hp => by
  unfold fsub at hf
  split at hf
  · injection hf with hf; injection hf with h1 hf; injection hf with h2 hf; injection hf with h3 h4
    subst h1; subst h2; subst h3; subst h4
    obtain ⟨hx, hy, hl, hyl, hv, rfl, rfl, rfl, rfl⟩ := hp
    exact Loops.at (by kernel_rfl) (subP_ok hx hy hl hv hyl _).1
  · cases hf) .nil
def mulIG (T : TypeId) (x y s : List Int) (X : Int) (i : Nat) (r : List Int × Int) : Prop := Loops Try.prog (tmpsOf Try.prog 34) 0 (nav (rootOf Try.prog 34) [0, 0, 1, 0, 1, 1, 1, 0, 0, 1, 1, 0, 0, 1, 0, 1, 1, 1, 1]) (mulIS T x y s X 0 i 0) (.exit 2) (mulIS T x y r.1 X r.2 i y.length) ∧
  Dig r.1 ∧ r.1.length = x.length + y.length ∧ (∀ m, i + y.length ≤ m → at_ r.1 m = at_ s m) ∧ (0 ≤ r.2 ∧ r.2 < 4294967296) ∧ Hd (pv r.1 (i + y.length) + r.2 * (pw i * pw y.length) = pv s (i + y.length) + X * pv y y.length * pw i)
noncomputable def mulIP (T : TypeId) (x y s : List Int) (X : Int) (i : Nat) : List Int × Int := pick (mulIG T x y s X i)
theorem mulIP_ok {x y s : List Int} (hx : Dig x) (hy : Dig y) (lx : x.length ≤ 1000000) (ly : y.length ≤ 1000000) {i : Nat} (hi : i < x.length) {X : Int} (hX : 0 ≤ X ∧ X < 4294967296) (hs : Dig s) (hsl : s.length = x.length + y.length) (T : TypeId) : mulIG T x y s X i (mulIP T x y s X i) :=
  pick_ok (mulI_loop hx hy lx ly i hi X hX s T y.length 0 s 0 (by omega) hs hsl (fun _ _ => rfl) (by omega) ⟨by simp [pv]⟩)
noncomputable def fmulI : EL → BL → Option (Prop × Ex × EL × BL) := fun e b => match e, b with
  | [(6, .sl (.int .u32) y), (7, .own 1000), (8, .val (.int .i64 i)), (9, .val (.int .u32 d)), (10, .val (.int .u64 c)), (32, .sl (.int .u32) x), (33, .val (.int .i64 n)), (34, .val (.int .i64 i2)), (41, .sl (.int .u32) y2), (42, .val (.int .i64 m)), (43, .val (.int .i64 j))], [(1000, .row T (.int .u32) s)] =>
    some (Dig x ∧ Dig y ∧ x.length ≤ 1000000 ∧ y.length ≤ 1000000 ∧ (0 ≤ i ∧ i.toNat < x.length) ∧ (0 ≤ d ∧ d < 4294967296) ∧ Dig s ∧ s.length = x.length + y.length ∧ c = 0 ∧ n = x.length ∧ i2 = i ∧ y2 = y ∧ m = y.length ∧ j = 0, .exit 2,
      [(6, dS y), (7, .own 1000), (8, .val (.int .i64 i)), (9, .val (.int .u32 d)), (10, .val (.int .u64 (mulIP T x y s d i.toNat).2)), (32, dS x), (33, .val (.int .i64 x.length)), (34, .val (.int .i64 i)), (41, dS y), (42, .val (.int .i64 y.length)), (43, .val (.int .i64 y.length))], [(1000, .row T (.int .u32) (mulIP T x y s d i.toNat).1)])
  | _, _ => none
noncomputable def LSmulI : List (List Nat × LFn) := [([0, 1, 0, 1, 1, 1, 0, 0, 1, 1, 0, 0, 1, 0, 1, 1, 1, 1], lfn 0 [6, 7, 8, 9, 10, 32, 33, 34, 41, 42, 43] [1000] 1001 fmulI)]
theorem LSmulI_ok : LSok Try.prog (tmpsOf Try.prog 34) 0 (rootOf Try.prog 34) LSmulI := .cons (lfn_ok fun e b pre ex e' b' hf hp => by
  unfold fmulI at hf
  split at hf
  · rename_i y i d c x n i2 y2 m j T s
    injection hf with hf; injection hf with h1 hf; injection hf with h2 hf; injection hf with h3 h4
    subst h1; subst h2; subst h3; subst h4
    obtain ⟨hx, hy, lx, ly, ⟨hi0, hi⟩, hX, hs, hsl, rfl, rfl, rfl, rfl, rfl, rfl⟩ := hp
    have h8 := Loops.at (by kernel_rfl) (mulIP_ok hx hy lx ly hi hX hs hsl T).1
    unfold mulIS at h8
    rwa [show ((i2.toNat : Nat) : Int) = i2 by omega] at h8
  · cases hf) .nil
noncomputable def S2 : List (Spec Try.prog) := S1 ++ [
  .of 120 [.int .i64, .int .i64] (fun _ => True) (fun x => .val (.int .i64 (cmpZ x.1 x.2.1))) (by kernel_rfl) (fun x hp => cmpI_ct x.1 x.2.1),
  .of 121 [.int .u32, .int .u32] (fun _ => True) (fun x => .val (.int .i64 (cmpZ x.1 x.2.1))) (by kernel_rfl) (fun x hp => cmpU_ct x.1 x.2.1),
  .of 84 [u32s] (fun x => Ok x.1) (fun x => dS (dg (val x.1))) (by kernel_rfl) (fun x hp => trim_ct hp),
  .of 102 [u32s] (fun x => x.1.length ≤ 1000000) (fun x => .val (.bool (nrm x.1))) (by kernel_rfl) (fun x hp => normal_ct hp),
  .of 103 [u32s] (fun x => x.1.length ≤ 1000000) (fun x => .val (.bool (nrm x.1))) (by kernel_rfl) (fun x hp => rnormal_ct hp)]
end Go.Proofs.Ytpblkjjafdfjkaa.V
