/- What 'cut' does: the digits of the value. -/
import Derived.Test.YtpblkjjafdfjkaaNM
import Derived.Test.YtpblkjjafdfjkaaPA
namespace Go.Proofs.Ytpblkjjafdfjkaa.V
open Go.RowKit
set_option linter.unusedVariables false
set_option linter.unusedSimpArgs false
abbrev u32s : Ty := .slice (.int .u32)
abbrev dS (l : List Int) : D := .sl (.int .u32) l
theorem GCt.weak {P : Program} {f : FuncId} {bx bx' : List BoxC} {ds : List D} {d d' : D} (h : GCt P f bx ds d bx') (hd : ∀ (w : World) (B : Nat → Prop) (h : Hist) (u : Value), Rep w B h d u → Rep w B h d' u) : GCt P f bx ds d' bx' :=
  fun w Z hh us h1 h2 h3 h4 cs => by
    obtain ⟨e, w', fr, ⟨v, he, hr, h5⟩, h6⟩ := h w Z hh us h1 h2 h3 h4 cs
    exact ⟨e, w', fr, ⟨v, he, hd _ _ _ _ hr, h5⟩, h6⟩
theorem rep_nil {w : World} {B : Nat → Prop} {h : Hist} {t : Ty} {u : Value} (hr : Rep w B h (.val (.slice none 0 0)) u) : Rep w B h (.sl t []) u := by
  simp only [Rep] at hr ⊢
  subst hr
  exact repT_nil none
theorem mixed : Try.prog.follows .mixedOrders = true := by kernel_rfl
/-- How many digits of the first n are left by 'cut'. -/
def top (l : List Int) : Nat → Nat
  | 0 => 0
  | n + 1 => if at_ l n = 0 then top l n else n + 1
theorem top_le (l : List Int) : ∀ n, top l n ≤ n
  | 0 => Nat.le_refl _
  | n + 1 => by
    simp only [top]
    split
    · exact Nat.le_succ_of_le (top_le l n)
    · exact Nat.le_refl _
theorem top_nz (l : List Int) : ∀ n, top l n = 0 ∨ at_ l (top l n - 1) ≠ 0
  | 0 => .inl rfl
  | n + 1 => by
    simp only [top]
    split
    · exact top_nz l n
    · rename_i h; exact .inr h
theorem pv_topN (l : List Int) : ∀ n, pv l (top l n) = pv l n
  | 0 => rfl
  | n + 1 => by
    simp only [top]
    split
    · rename_i h; rw [pv_topN l n, pv, h]; simp
    · rfl
theorem take_top {l : List Int} (h : Dig l) : l.take (top l l.length) = dg (val l) := by
  rw [← dg_take h (top_le l _) (top_nz l _)]
  congr 1
  have h1 := val_take h (top_le l l.length)
  rw [pv_topN, pv_val h] at h1
  omega
theorem top_len {l : List Int} (h : Dig l) : top l l.length = (dg (val l)).length := by
  rw [← take_top h, List.length_take, Nat.min_eq_left (top_le _ _)]
def fcut : EL → BL → Option (Prop × Ex × EL × BL) := fun e b => match e, b with
  | [(0, .sl (.int .u32) l), (3, .val (.int .i64 n))], [] => some (0 ≤ n ∧ n ≤ l.length ∧ l.length ≤ 1000000, .exit 0, [(0, dS l), (3, .val (.int .i64 (top l n.toNat : Nat)))], [])
  | _, _ => none
def fcutO : EL → BL → Option (Prop × Ex × EL × BL) := fun e b => match e, b with
  | [(0, .own 0), (3, .val (.int .i64 n))], [(0, .row T (.int .u32) l)] => some (0 ≤ n ∧ n ≤ l.length ∧ l.length ≤ 1000000, .exit 0, [(0, .own 0), (3, .val (.int .i64 (top l n.toNat : Nat)))], [(0, .row T (.int .u32) l)])
  | _, _ => none
theorem cut_loop (l : List Int) (hl : l.length ≤ 1000000) : ∀ n : Nat, n ≤ l.length → Loops Try.prog (tmpsOf Try.prog 95) 0 (nav (rootOf Try.prog 95) [0, 0, 0, 1, 1]) (tmpl [(0, dS l), (3, .val (.int .i64 n))] [] 0) (.exit 0) (tmpl [(0, dS l), (3, .val (.int .i64 (top l n : Nat)))] [] 0)
  | 0, hn => .out (by simp) (round_ok mixed LSok.nil (p_cut_r_2 l 0) (allP_mem ⟨by decide, trivial⟩))
  | n + 1, hn => by
    have hw : IntKind.i64.wrap (((n + 1 : Nat) : Int) - 1) = n := by rw [i64 (by omega) (by omega)]; omega
    have h1 : 0 ≤ IntKind.i64.wrap (((n + 1 : Nat) : Int) - 1) ∧ IntKind.i64.wrap (((n + 1 : Nat) : Int) - 1) < (l.length : Int) := by rw [hw]; omega
    by_cases h0 : at_ l n = 0
    · refine .next (round_ok mixed LSok.nil (p_cut_r_0 l ((n + 1 : Nat) : Int)) (allP_mem ⟨by simp, h1, ?_, trivial⟩)) ?_
      · rw [hw]; simpa [at_] using h0
      · rw [hw]
        have := cut_loop l hl n (by omega)
        simpa only [top, h0, if_true] using this
    · refine .out (by simp) ?_
      have := round_ok mixed LSok.nil (p_cut_r_1 l ((n + 1 : Nat) : Int)) (allP_mem ⟨by simp, h1, by rw [hw]; simpa [at_] using h0, trivial⟩)
      simpa only [top, h0, if_false] using this
theorem cut_loopO (T : TypeId) (l : List Int) (hl : l.length ≤ 1000000) : ∀ n : Nat, n ≤ l.length → Loops Try.prog (tmpsOf Try.prog 95) 1 (nav (rootOf Try.prog 95) [0, 0, 0, 1, 1]) (tmpl [(0, .own 0), (3, .val (.int .i64 n))] [(0, .row T (.int .u32) l)] 1) (.exit 0) (tmpl [(0, .own 0), (3, .val (.int .i64 (top l n : Nat)))] [(0, .row T (.int .u32) l)] 1)
  | 0, hn => .out (by simp) (round_ok mixed LSok.nil (p_cutO_r_2 l T 0) (allP_mem ⟨by decide, trivial⟩))
  | n + 1, hn => by
    have hw : IntKind.i64.wrap (((n + 1 : Nat) : Int) - 1) = n := by rw [i64 (by omega) (by omega)]; omega
    have h1 : 0 ≤ IntKind.i64.wrap (((n + 1 : Nat) : Int) - 1) ∧ IntKind.i64.wrap (((n + 1 : Nat) : Int) - 1) < (l.length : Int) := by rw [hw]; omega
    by_cases h0 : at_ l n = 0
    · refine .next (round_ok mixed LSok.nil (p_cutO_r_0 l T ((n + 1 : Nat) : Int)) (allP_mem ⟨by simp, h1, ?_, trivial⟩)) ?_
      · rw [hw]; simpa [at_] using h0
      · rw [hw]
        have := cut_loopO T l hl n (by omega)
        simpa only [top, h0, if_true] using this
    · refine .out (by simp) ?_
      have := round_ok mixed LSok.nil (p_cutO_r_1 l T ((n + 1 : Nat) : Int)) (allP_mem ⟨by simp, h1, by rw [hw]; simpa [at_] using h0, trivial⟩)
      simpa only [top, h0, if_false] using this
def LScut : List (List Nat × LFn) := [([0, 0, 1, 1], lfn 0 [0, 3] [] 0 fcut)]
def LScutO : List (List Nat × LFn) := [([0, 0, 1, 1], lfn 1 [0, 3] [0] 1 fcutO)]
theorem LScut_ok : LSok Try.prog (tmpsOf Try.prog 95) 0 (rootOf Try.prog 95) LScut := .cons (lfn_ok fun e b pre ex e' b' hf hp => by
  unfold fcut at hf
  split at hf
  · rename_i l n
    injection hf with hf; injection hf with h1 hf; injection hf with h2 hf; injection hf with h3 h4
    subst h1; subst h2; subst h3; subst h4
    obtain ⟨h5, h6, h7⟩ := hp
    have h8 := Loops.at (by kernel_rfl) (cut_loop l h7 n.toNat (by omega))
    rwa [show ((n.toNat : Nat) : Int) = n by omega] at h8
  · cases hf) .nil
theorem LScutO_ok : LSok Try.prog (tmpsOf Try.prog 95) 1 (rootOf Try.prog 95) LScutO := .cons (lfn_ok fun e b pre ex e' b' hf hp => by
  unfold fcutO at hf
  split at hf
  · rename_i n T l
    injection hf with hf; injection hf with h1 hf; injection hf with h2 hf; injection hf with h3 h4
    subst h1; subst h2; subst h3; subst h4
    obtain ⟨h5, h6, h7⟩ := hp
    have h8 := Loops.at (by kernel_rfl) (cut_loopO T l h7 n.toNat (by omega))
    rwa [show ((n.toNat : Nat) : Int) = n by omega] at h8
  · cases hf) .nil
end Go.Proofs.Ytpblkjjafdfjkaa.V
