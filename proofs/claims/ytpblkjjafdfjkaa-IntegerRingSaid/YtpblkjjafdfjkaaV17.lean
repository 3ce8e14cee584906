/- Contracts of functions whose parameters are plain data. -/
import Derived.Test.YtpblkjjafdfjkaaV16
import Derived.KernelRfl
namespace Go.Proofs.Ytpblkjjafdfjkaa.V
open Go.RowKit
set_option linter.unusedVariables false
set_option linter.unusedSimpArgs false

def argD : (t : Ty) → t.den → D
  | .int k, n => .val (.int k n)
  | .bool, b => .val (.bool b)
  | .str, s => .val (.string s)
  | .val, v => .val v
  | .slice t, l => .sl t l
  | .pair a b, x => .agg (cellsOf (.pair a b) x)
  | .arr n t, l => .arr t l
def readD : (t : Ty) → D → Option t.den
  | .pair a b, d => match d with
    | .agg cs => (match toDen (fun _ => none) (.pair a b) cs with | some (x, _) => some x | none => none)
    | .val (.agg cs) => (match toDen (fun _ => none) (.pair a b) (cs.toList.map D.val) with | some (x, _) => some x | none => none)
    | _ => none
  | .arr n t, d => match d with
    | .arr t' l => if h : t' = t then some (castL h l) else none
    | _ => none
  | t, d => match toDen (fun _ => none) t [d] with | some (x, _) => some x | none => none
def Dens : List Ty → Type
  | [] => Unit
  | t :: ts => t.den × Dens ts
def argDs : (ts : List Ty) → Dens ts → List D
  | [], _ => []
  | t :: ts, x => argD t x.1 :: argDs ts x.2
def readDs : (ts : List Ty) → List D → Option (Dens ts)
  | [], ds => match ds with | [] => some () | _ => none
  | t :: ts, ds => match ds with
    | [] => none
    | d :: ds => match readD t d, readDs ts ds with
      | some x, some y => some (x, y)
      | _, _ => none

section
variable {P : Program} {w : World} {Z : Nat → Prop} {h : Hist}
theorem rep_argD {B : Nat → Prop} : ∀ {t : Ty} {x : t.den} {u : Value}, (match t with | .pair _ _ => False | .arr _ _ => False | _ => True) → RepT w B t x [u] → Rep w B h (argD t x) u
  | .int k, x, u, _, hr => by simp only [RepT, List.cons.injEq, and_true] at hr; simpa only [argD, Rep] using hr
  | .bool, x, u, _, hr => by simp only [RepT, List.cons.injEq, and_true] at hr; simpa only [argD, Rep] using hr
  | .str, x, u, _, hr => by simp only [RepT, List.cons.injEq, and_true] at hr; simpa only [argD, Rep] using hr
  | .val, x, u, _, hr => by simp only [RepT, List.cons.injEq, and_true] at hr; simpa only [argD, Rep] using hr.1
  | .slice t, x, u, _, hr => by simp only [argD, Rep]; exact hr
  | .pair _ _, x, u, hn, hr => hn.elim
  | .arr _ _, x, u, hn, hr => hn.elim
theorem readD_ok {live : Nat → Prop} (hh : Heap w Z h live) (hl : ∀ i, ¬ live i) {t : Ty} {d : D} {x : t.den} {u : Value} (hx : readD t d = some x) (hr : Rep w (Bd Z h live) h d u) : Rep w (Bd Z h live) h (argD t x) u := by
  have c : Ctx w Z h live (fun _ => none) := ⟨hh, fun g c hg => (by cases hg), fun g c hg => (by cases hg)⟩
  have hdead : ∀ cons, Dead live live cons := fun cons => ⟨fun i hi => hi, fun g hg => hl g⟩
  have one : ∀ {t : Ty} {x : t.den}, (match t with | .pair _ _ => False | .arr _ _ => False | _ => True) → (match toDen (fun _ => none) t [d] with | some (x, _) => some x | none => none) = some x → Rep w (Bd Z h live) h (argD t x) u := by
    intro t x hn hx
    split at hx
    · rename_i y cons hy
      simp only [Option.some.injEq] at hx; subst hx
      exact rep_argD hn ((toDen_ok c hy (by simp only [Reps]; exact ⟨u, [], rfl, hr, rfl⟩)).2 _ (hdead cons))
    · cases hx
  cases t with
  | pair a b =>
    simp only [readD] at hx
    split at hx
    · rename_i cs
      split at hx
      · rename_i y cons hy
        simp only [Option.some.injEq] at hx; subst hx
        simp only [Rep] at hr
        obtain ⟨vs, rfl, hv⟩ := hr
        simp only [argD, Rep]
        exact ⟨vs, rfl, reps_cellsOf ((toDen_ok c hy hv).2 _ (hdead cons))⟩
      · cases hx
    · rename_i cs
      split at hx
      · rename_i y cons hy
        simp only [Option.some.injEq] at hx; subst hx
        simp only [Rep] at hr
        subst hr
        simp only [argD, Rep]
        exact ⟨cs.toList, by simp, reps_cellsOf ((toDen_ok c hy (reps_vals _ _)).2 _ (hdead cons))⟩
      · cases hx
    · cases hx
  | arr n t =>
    simp only [readD] at hx
    split at hx
    · split at hx
      · rename_i t' l e
        subst e
        simp only [Option.some.injEq] at hx; subst hx
        exact hr
      · cases hx
    · cases hx
  | int k => exact one trivial (by simpa only [readD] using hx)
  | bool => exact one trivial (by simpa only [readD] using hx)
  | str => exact one trivial (by simpa only [readD] using hx)
  | val => exact one trivial (by simpa only [readD] using hx)
  | slice t => exact one trivial (by simpa only [readD] using hx)
theorem readDs_ok {live : Nat → Prop} (hh : Heap w Z h live) (hl : ∀ i, ¬ live i) : ∀ {ts : List Ty} {ds : List D} {x : Dens ts} {us : List Value}, readDs ts ds = some x → Reps w (Bd Z h live) h ds us → Reps w (Bd Z h live) h (argDs ts x) us
  | [], ds, x, us, hx, hr => by
    cases ds with
    | nil => exact hr
    | cons d ds => cases hx
  | t :: ts, ds, x, us, hx, hr => by
    unfold readDs at hx
    split at hx
    · cases hx
    · split at hx
      · rename_i y z h1 h2
        injection hx with hx; subst hx
        simp only [Reps] at hr
        obtain ⟨u, us', rfl, hr1, hr2⟩ := hr
        show Reps w (Bd Z h live) h (argD t y :: argDs ts z) (u :: us')
        simp only [Reps]
        exact ⟨u, us', rfl, readD_ok hh hl h1 hr1, readDs_ok hh hl h2 hr2⟩
      · cases hx
end
def enterOk (P : Program) (f : FuncId) : Bool := match P.funcs[f]? with
  | some fn => (!(fn.name == "runtime.NumGoroutine")).and (!fn.body.isNone)
  | none => false
theorem enters_of {P : Program} {f : FuncId} (h : enterOk P f = true) (args : Array Value) (w : World) : (callFunc f args).run P w = .ok (.enter f args) w := by
  unfold enterOk at h
  split at h
  · rename_i fn hf
    have h12 : (!(fn.name == "runtime.NumGoroutine")) = true ∧ (!fn.body.isNone) = true := by
      cases h1 : (!(fn.name == "runtime.NumGoroutine")) <;> cases h2 : (!fn.body.isNone) <;> simp [h1, h2, Bool.and] at h ⊢
    have h1 : (fn.name == "runtime.NumGoroutine") = false := by simpa using h12.1
    have h2 : fn.body.isNone = false := by simpa using h12.2
    unfold callFunc
    have h1 : ¬ fn.name = "runtime.NumGoroutine" := by simpa using h1
    have h2 : ¬ fn.body = none := by intro h0; rw [h0] at h2; cases h2
    simp [Sem.run_bind, hf, h1, h2]
  · cases h
/-- A contract as 'run' asks for it: parameters that are plain data. -/
def Spec.of {P : Program} (f : FuncId) (ts : List Ty) (pre : Dens ts → Prop) (res : Dens ts → D) (en : enterOk P f = true) (h : ∀ x, pre x → Ct P f (argDs ts x) (res x)) : Spec P where
  f := f
  fn := fun ds bx => match bx with
    | [] => (match readDs ts ds with | some x => some (pre x, res x, []) | none => none)
    | _ => none
  enters := enters_of en
  ok := fun ds bx p d bx' hx hp => by
    split at hx
    · split at hx
      · rename_i x hrd
        simp only [Option.some.injEq, Prod.mk.injEq] at hx
        obtain ⟨rfl, rfl, rfl⟩ := hx
        intro w Z hh us hheap hnone hbx hus
        exact h x hp w Z hh us hheap hnone hbx (readDs_ok hheap (fun i hi => by simp at hi) hrd hus)
      · cases hx
    · cases hx
/-- A contract with boxes that come in. -/
def Spec.own {P : Program} (f : FuncId) (fn : List D → List BoxC → Option (Prop × D × List BoxC)) (en : enterOk P f = true) (h : ∀ ds bx pre d bx', fn ds bx = some (pre, d, bx') → pre → GCt P f bx ds d bx') : Spec P := ⟨f, fn, enters_of en, h⟩
/-- What a path asks for, one by one. -/
def allP : List Prop → Prop
  | [] => True
  | p :: ps => p ∧ allP ps
theorem allP_mem : ∀ {ps : List Prop}, allP ps → ∀ p ∈ ps, p
  | _ :: _, h, _, hm => by
    rcases List.mem_cons.1 hm with rfl | hm
    · exact h.1
    · exact allP_mem h.2 _ hm
/-- The contract, along a path. -/
theorem ct {P : Program} {S : List (Spec P)} {LS : List (List Nat × LFn)} {DS : List (List Nat × List Ghost)} {fuel : Nat} {f : FuncId} {dec : List (Nat × Bool)} {ds : List D} {bx bx' : List BoxC} {ps : List Prop} {d d' : D} (hx : evalG P S LS DS fuel f dec ds bx = some (ps, d, bx')) (hm : P.follows .mixedOrders = true)
    (hLS : LSok P (tmpsOf P f) bx.length (rootOf P f) LS) (hps : allP ps) (hd : d = d') : GCt P f bx ds d' bx' := hd ▸ evalG_ok hm hLS hx (allP_mem hps)
theorem GCt.mono {P : Program} {f : FuncId} {bx bx1 bx2 : List BoxC} {ds : List D} {d d' : D} (h : GCt P f bx ds d bx1) (hd : d = d') (hb : bx1 = bx2) : GCt P f bx ds d' bx2 := by subst hd; subst hb; exact h
theorem i64 {x : Int} (h0 : -9223372036854775808 ≤ x) (h1 : x ≤ 9223372036854775807) : IntKind.i64.wrap x = x := by rw [IntKind.wrap_i64]; omega
end Go.Proofs.Ytpblkjjafdfjkaa.V
