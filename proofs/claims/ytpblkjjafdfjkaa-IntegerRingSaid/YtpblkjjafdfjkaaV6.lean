/- What one operation does: the proofs, first part (values, memory). -/
import Derived.Test.YtpblkjjafdfjkaaV5
namespace Go.Proofs.Ytpblkjjafdfjkaa.V
open Go.RowKit
set_option linter.unusedVariables false
set_option linter.unusedSimpArgs false

section
variable {P : Program} {w : World} {Z : Nat → Prop} {h : Hist} {live : Nat → Prop} {boxes : Boxes} {id : Nat}

theorem rep_toD (B : Nat → Prop) (v : Value) : Rep w B h (toD v) v := by
  unfold toD
  split
  · rename_i cs
    simp only [Rep]
    refine ⟨cs.toList, by simp, ?_⟩
    generalize cs.toList = l
    induction l with
    | nil => simp [Reps]
    | cons v vs ih => simp only [List.map_cons, Reps, Rep]; exact ⟨v, vs, rfl, rfl, ih⟩
  · simp only [Rep]
theorem reps_vals (B : Nat → Prop) : ∀ vs : List Value, Reps w B h (vs.map D.val) vs
  | [] => by simp [Reps]
  | v :: vs => by simp only [List.map_cons, Reps, Rep]; exact ⟨v, vs, rfl, rfl, reps_vals B vs⟩
theorem ev_ok {B : Nat → Prop} {env : Env} {a : Act} (he : ∀ t, Rep w B h (env t) (a.tmps.getD t undef)) {x : Operand} {d : D} (hx : ev env x = some d) : Rep w B h d (a.eval x) := by
  cases x with
  | tmp t => simp only [ev, Option.some.injEq] at hx; subst hx; exact he t
  | const v => simp only [ev, Option.some.injEq] at hx; subst hx; exact rep_toD B v
  | func f => simp only [ev, Option.some.injEq] at hx; subst hx; simp only [Rep, Reps]; exact ⟨[], rfl, rfl⟩
  | global g => simp [ev] at hx
theorem cells_ok {B : Nat → Prop} {d : D} {u : Value} (hk : d.known = true) (hr : Rep w B h d u) : Reps w B h d.cells u.cells.toList := by
  have h0 := hr
  cases d with
  | val v =>
    simp only [Rep] at hr; subst hr
    cases u with
    | agg cs => simpa [D.cells, Value.cells] using reps_vals B cs.toList
    | _ => simp [D.cells, Value.cells, Reps, Rep]
  | agg cs => simp only [Rep] at hr; obtain ⟨vs, rfl, hv⟩ := hr; simpa [D.cells, Value.cells] using hv
  | arr t l => simp only [Rep] at hr; obtain ⟨vs, rfl, hv⟩ := hr; simpa [D.cells, Value.cells] using RepLs.reps (fun x us hx => reps_cellsOf hx) hv
  | any => cases hk
  | sl t l =>
    simp only [Rep, RepT] at hr; obtain ⟨A, c, he, _⟩ := hr
    injection he with he _; subst he
    simp only [D.cells, Value.cells, Reps]; exact ⟨_, [], rfl, h0, rfl⟩
  | tup cs => simp only [Rep] at hr; obtain ⟨vs, rfl, hv⟩ := hr; simp only [D.cells, Value.cells, Reps]; exact ⟨_, [], rfl, h0, rfl⟩
  | box g off => simp only [Rep] at hr; obtain ⟨_, _, _, _, rfl⟩ := hr; simp only [D.cells, Value.cells, Reps]; exact ⟨_, [], rfl, h0, rfl⟩
  | own g =>
    simp only [Rep] at hr
    obtain ⟨_, _, hr⟩ := hr
    rcases hr with ⟨_, _, a, rfl⟩ | ⟨b, _, rfl⟩ <;> (simp only [D.cells, Value.cells, Reps]; exact ⟨_, [], rfl, h0, rfl⟩)
  | win g sz off n => simp only [Rep] at hr; obtain ⟨_, _, _, _, _, rfl, _⟩ := hr; simp only [D.cells, Value.cells, Reps]; exact ⟨_, [], rfl, h0, rfl⟩
  | rel g sz e j => simp only [Rep] at hr; obtain ⟨_, _, _, _, _, rfl⟩ := hr; simp only [D.cells, Value.cells, Reps]; exact ⟨_, [], rfl, h0, rfl⟩
  | elt t l i j => simp only [Rep] at hr; obtain ⟨_, _, _, rfl, _⟩ := hr; simp only [D.cells, Value.cells, Reps]; exact ⟨_, [], rfl, h0, rfl⟩
  | ptr cs off => simp only [Rep] at hr; obtain ⟨_, _, _, rfl, _⟩ := hr; simp only [D.cells, Value.cells, Reps]; exact ⟨_, [], rfl, h0, rfl⟩
  | clo f caps => simp only [Rep] at hr; obtain ⟨_, rfl, _⟩ := hr; simp only [D.cells, Value.cells, Reps]; exact ⟨_, [], rfl, h0, rfl⟩
/-! ### Structs and slices, part by part (from the elder core) -/
theorem evs_ok {B : Nat → Prop} {env : Env} {a : Act} : ∀ {xs : List Operand} {ds : List D}, (∀ x ∈ xs, ∀ d, ev env x = some d → Rep w B h d (a.eval x)) → evs env xs = some ds → Reps w B h ds (xs.map a.eval)
  | [], ds, _, hx => by simp only [evs, Option.some.injEq] at hx; subst hx; simp [Reps]
  | x :: xs, ds, hv, hx => by
    simp only [evs] at hx
    split at hx
    · rename_i d ds' h1 h2
      simp only [Option.some.injEq] at hx
      subst hx
      simp only [List.map_cons, Reps]
      exact ⟨_, _, rfl, hv x (by simp) d h1, evs_ok (fun y hy => hv y (by simp [hy])) h2⟩
    · simp at hx
/-- Parts: numbers and data, numbers and values. -/
def Parts (w : World) (B : Nat → Prop) (h : Hist) : List (Nat × D) → List (Nat × Value) → Prop
  | [], vs => vs = []
  | (i, d) :: ds, vs => ∃ u us, vs = (i, u) :: us ∧ Rep w B h d u ∧ Parts w B h ds us
theorem evParts_ok {B : Nat → Prop} {env : Env} {a : Act} : ∀ {xs : List (Nat × Operand)} {ds : List (Nat × D)}, (∀ x ∈ xs, ∀ d, ev env x.2 = some d → Rep w B h d (a.eval x.2)) → evParts env xs = some ds → Parts w B h ds (xs.map fun (i, x) => (i, a.eval x))
  | [], ds, _, hx => by simp only [evParts, Option.some.injEq] at hx; subst hx; simp [Parts]
  | (i, x) :: xs, ds, hv, hx => by
    simp only [evParts] at hx
    split at hx
    · rename_i d ds' h1 h2
      simp only [Option.some.injEq] at hx
      subst hx
      simp only [List.map_cons, Parts]
      exact ⟨_, _, rfl, hv (i, x) (by simp) d h1, evParts_ok (fun y hy => hv y (by simp [hy])) h2⟩
    · simp at hx
theorem foldl_set_toList : ∀ (vs : List Value) (k off : Nat) (cur : Array Value), off + k + vs.length ≤ cur.size →
    ((vs.zipIdx k).foldl (fun cs (c, j) => cs.setIfInBounds (off + j) c) cur).toList = cur.toList.take (off + k) ++ vs ++ cur.toList.drop (off + k + vs.length)
  | [], k, off, cur, _ => by simp
  | v :: vs, k, off, cur, hl => by
    have h' : off + k < cur.size := by simp at hl; omega
    simp only [List.zipIdx_cons, List.foldl_cons]
    rw [foldl_set_toList vs (k + 1) off _ (by simp at hl ⊢; omega)]
    have e := list_seg_step cur.toList (off + k) v vs (by simp at hl ⊢; omega)
    simpa [Array.toList_setIfInBounds, Nat.add_assoc] using e
theorem setAt_ok {B : Nat → Prop} {cs ds : List D} {us vs : List Value} (off : Nat) (hr : Reps w B h cs us) (h' : Reps w B h ds vs) :
    Reps w B h (setAt cs off ds) (us.take off ++ vs ++ us.drop (off + vs.length)) := by
  unfold setAt
  rw [← h'.length]
  exact Reps.append (Reps.append (hr.take off) h') (hr.drop _)
theorem fill_ok {B : Nat → Prop} (place : Nat → Option (Nat × Nat)) : ∀ {ps : List (Nat × D)} {vs : List (Nat × Value)} {cs cs' : List D} {cells : Array Value}, Parts w B h ps vs → Reps w B h cs cells.toList →
    fillD place cs ps = some cs' → ∃ cells', Instr.fill place cells vs = some cells' ∧ Reps w B h cs' cells'.toList
  | [], vs, cs, cs', cells, hp, hc, hx => by
    simp only [Parts] at hp; subst hp
    simp only [fillD, Option.some.injEq] at hx; subst hx
    exact ⟨cells, rfl, hc⟩
  | (i, d) :: ps, vs, cs, cs', cells, hp, hc, hx => by
    simp only [Parts] at hp
    obtain ⟨u, us, rfl, hr, hp2⟩ := hp
    simp only [fillD] at hx
    cases hpl : place i with
    | none => simp [hpl] at hx
    | some os =>
      obtain ⟨off, size⟩ := os
      simp only [hpl] at hx
      split at hx
      · simp at hx
      · rename_i hn
        simp only [not_or] at hn
        have hrc := cells_ok (by simpa using hn.1) hr
        have hl1 : u.cells.size = d.cells.length := by have := hrc.length; simpa using this
        have hl2 : cells.size = cs.length := by have := hc.length; simpa using this
        have hn2 : ¬ (u.cells.size ≠ size || off + u.cells.size > cells.size) = true := by
          simp only [Bool.or_eq_true, decide_eq_true_eq, not_or]
          rw [hl1, hl2]; exact ⟨hn.2.1, hn.2.2⟩
        have hle : off + u.cells.size ≤ cells.size := by
          simp only [Bool.or_eq_true, decide_eq_true_eq, not_or] at hn2
          omega
        have hset := foldl_set_toList u.cells.toList 0 off cells (by simpa using hle)
        have hrs : Reps w B h (setAt cs off d.cells) ((u.cells.zipIdx.foldl (fun cs (c, j) => cs.setIfInBounds (off + j) c) cells).toList) := by
          have h1 := setAt_ok off hc hrc
          have e : (u.cells.zipIdx.foldl (fun cs (c, j) => cs.setIfInBounds (off + j) c) cells).toList = cells.toList.take off ++ u.cells.toList ++ cells.toList.drop (off + u.cells.toList.length) := by
            rw [← Array.foldl_toList, Array.toList_zipIdx]
            simpa using hset
          rw [e]; exact h1
        obtain ⟨cells', hf, hr'⟩ := fill_ok place hp2 hrs hx
        refine ⟨cells', ?_, hr'⟩
        simp only [Instr.fill, hpl]
        rw [if_neg hn2]
        exact hf
theorem fillD_length (place : Nat → Option (Nat × Nat)) : ∀ {ps : List (Nat × D)} {cs cs' : List D}, fillD place cs ps = some cs' → cs'.length = cs.length
  | [], cs, cs', hx => by simp only [fillD, Option.some.injEq] at hx; rw [hx]
  | (i, d) :: ps, cs, cs', hx => by
    simp only [fillD] at hx
    split at hx
    · simp at hx
    · split at hx
      · simp at hx
      · rename_i hn
        rw [fillD_length place hx]
        unfold setAt; simp only [List.length_append, List.length_take, List.length_drop]; omega

theorem scal_ok {op : BinOp} {x y v : Value} {ps : List Prop} (T : TypeId) (hx : scal op x y = some (ps, v)) (hps : ∀ p ∈ ps, p) : (binOp op T x y).run P w = .ok v w := by
  unfold scal at hx
  split at hx
  · rename_i k m k' n
    split at hx
    · simp only [Option.some.injEq, Prod.mk.injEq] at hx
      obtain ⟨rfl, rfl⟩ := hx
      have h0 := hps (0 ≤ n) (by simp)
      simp [binOp, Op.shift, show ¬ n < 0 by omega]
    · simp only [Option.some.injEq, Prod.mk.injEq] at hx
      obtain ⟨rfl, rfl⟩ := hx
      have h0 := hps (0 ≤ n) (by simp)
      simp [binOp, Op.shift, show ¬ n < 0 by omega]
    · split at hx
      · rename_i hk
        subst hk
        split at hx <;> first
          | (simp at hx; done)
          | (simp only [Option.some.injEq, Prod.mk.injEq] at hx; obtain ⟨rfl, rfl⟩ := hx; simp [binOp, Op.intArith, Op.intCmp, Op.intBits, bits]; done)
          | (simp only [Option.some.injEq, Prod.mk.injEq] at hx; obtain ⟨rfl, rfl⟩ := hx; simp [binOp]; done)
          | (simp only [Option.some.injEq, Prod.mk.injEq] at hx; obtain ⟨rfl, rfl⟩ := hx; have h0 := hps _ (List.mem_cons_self ..); simp [binOp, Op.intDiv, h0]; done)
      · simp at hx
  · rename_i s t
    split at hx
    · simp only [Option.some.injEq, Prod.mk.injEq] at hx; obtain ⟨rfl, rfl⟩ := hx; simp [binOp, Op.stringOp]
    · simp only [Option.some.injEq, Prod.mk.injEq] at hx; obtain ⟨rfl, rfl⟩ := hx; simp [binOp, Op.stringOp]
    · simp only [Option.some.injEq, Prod.mk.injEq] at hx; obtain ⟨rfl, rfl⟩ := hx
      have h0 := hps _ (List.mem_cons_self ..)
      have h1 : ¬ (((s.size + t.size : Nat) : Int) > IntKind.i64.max) := by
        have : IntKind.i64.max = 9223372036854775807 := rfl
        rw [this]; omega
      simp only [binOp, Op.stringOp, h1, if_false]
      rfl
    · simp at hx
  · simp at hx
theorem run_equalIn_bool {T : TypeId} (hu : P.underlying T = some .bool) (d : Nat) (b c : Bool) : (Op.equalIn (d + 1) T (.bool b) (.bool c)).run P w = .ok (b == c) w := by
  simp [Op.equalIn, run_underlying hu]
theorem run_equalIn_nil {T e : TypeId} (hu : P.underlying T = some (.slice e)) (d : Nat) (A : Option Addr) (n cp : Nat) : (Op.equalIn (d + 1) T (.slice A n cp) (.slice none 0 0)).run P w = .ok A.isNone w := by
  cases A <;> simp [Op.equalIn, run_underlying hu]
theorem boolEq_ok {op : BinOp} {x y v : Value} {T : TypeId} (hx : boolEq P op T x y = some v) : (binOp op T x y).run P w = .ok v w := by
  unfold boolEq at hx
  split at hx
  · rename_i b c
    split at hx
    · rename_i hu
      simp only [Option.some.injEq] at hx; subst hx
      simp only [binOp]
      simp [Op.equal, Op.maxDepth, run_equalIn_bool hu 9999 b c]
    · rename_i hu
      simp only [Option.some.injEq] at hx; subst hx
      simp only [binOp]
      simp [Op.equal, Op.maxDepth, run_equalIn_bool hu 9999 b c]
    · simp at hx
  · simp at hx
theorem eqGuard_scal {op : BinOp} {x y v : Value} {ps : List Prop} (T : TypeId) (ox oy : Operand) (hx : scal op x y = some (ps, v)) : (eqGuard op T ox oy x y).run P w = .ok () w := by
  unfold scal at hx
  split at hx
  · unfold eqGuard; split <;> simp
  · unfold eqGuard; split <;> simp
  · simp at hx
theorem eqGuard_bool {op : BinOp} {x y v : Value} {T : TypeId} (ox oy : Operand) (hx : boolEq P op T x y = some v) : (eqGuard op T ox oy x y).run P w = .ok () w := by
  unfold boolEq at hx
  split at hx
  · unfold eqGuard; split <;> simp
  · simp at hx
theorem run_part {B : Nat → Prop} {T : TypeId} {off : Nat} {cs : List D} {vs : List Value} {d : D} (hr : Reps w B h cs vs) (hx : ofCells P T off cs = some d) : ∃ u, (part T vs.toArray off).run P w = .ok u w ∧ Rep w B h d u := by
  unfold ofCells at hx
  split at hx
  · rename_i i td hi hu
    have hA := run_isAgg (w := w) hu
    split at hx
    · rename_i hagg
      split at hx
      · rename_i hle
        simp only [Option.some.injEq] at hx
        subst hx
        refine ⟨.agg ((vs.drop off).take i.size).toArray, ?_, ?_⟩
        · simp only [part, Sem.run_bind, hA, hagg, Result.andThen_ok, if_true, sizeOf, typeInfo]
          simp [hi, Nat.add_sub_cancel_left]
        · simp only [Rep]; exact ⟨_, rfl, (hr.drop off).take i.size⟩
      · simp at hx
    · rename_i hagg
      obtain ⟨u, hu2, hr2⟩ := hr.get off d hx
      refine ⟨u, ?_, hr2⟩
      simp only [part, Sem.run_bind, hA, hagg, Result.andThen_ok, Bool.false_eq_true, if_false]
      simp [hu2]
  · cases hx
end
end Go.Proofs.Ytpblkjjafdfjkaa.V
