/- How arguments of the statements read as data. -/
import Derived.Test.YtpblkjjafdfjkaaNM
import Derived.Test.YtpblkjjafdfjkaaRows
import Derived.WalkKit
import Derived.ProofKit
import Derived.OpenShut
import Derived.ShutString
import Derived.ChangeOld
import Derived.Below
import Derived.SizedLaws
namespace Go.Proofs.Ytpblkjjafdfjkaa.V
open Go.ChangeShapes Go.WideShapes Go.ChangeAt Go.RowKit
set_option linter.unusedVariables false
abbrev hn : Hist := fun _ => none
abbrev bt : Nat → Prop := fun _ => True
theorem top_call {P : Program} {f : FuncId} {ds : List D} {d : D} {W : World} {us : List Value} (h : Ct P f ds d) (hr : Reps W bt hn ds us) :
    Calls P f us.toArray W fun e W' => ∃ v, e = .returned v ∧ Rep W' bt hn d v ∧ Below W.heap.size W W' := fun cs => by
  have hb : ∀ k, Bd (fun _ => False) hn (fun i => i < ([] : List BoxC).length) k := fun k => ⟨fun h => h, fun i _ hi => absurd hi (Nat.not_lt_zero _)⟩
  obtain ⟨e, w', fr, ⟨v, he, hv, _, _, hk⟩, h6⟩ := h W (fun _ => False) hn us ⟨fun i j _ _ _ hi => absurd hi (Nat.not_lt_zero _), fun i hb b e => (by cases e), fun i hb b hi => absurd hi (Nat.not_lt_zero _), fun k hk => hk.elim⟩ (fun _ _ => rfl) (fun g c hg => by simp at hg)
    (Reps.step (Agree.mono fun k _ => hb k) (Ext.refl _) _ _ hr) cs
  exact ⟨e, w', fr, ⟨v, he, Rep.step (Agree.mono fun _ _ => trivial) (Ext.refl _) _ _ hv, (hk.mono fun k _ ⟨i, _, hi, _⟩ => absurd hi (Nat.not_lt_zero _)).below⟩, h6⟩
theorem reps_cons {W : World} {B : Nat → Prop} {h : Hist} {d : D} {ds : List D} {u : Value} {us : List Value} (h1 : Rep W B h d u) (h2 : Reps W B h ds us) : Reps W B h (d :: ds) (u :: us) := by simp only [Reps]; exact ⟨u, us, rfl, h1, h2⟩
theorem reps_nil {W : World} {B : Nat → Prop} {h : Hist} : Reps W B h [] [] := by simp only [Reps]
theorem rep_val {W : World} {B : Nat → Prop} {h : Hist} (v : Value) : Rep W B h (.val v) v := by simp only [Rep]
/-- A row of whole numbers. -/
theorem rep_row {W : World} {k : IntKind} {a : Option Addr} {len cap : Nat} {zs : List Int}
    (h : (a = none ∧ len = 0 ∧ cap = 0 ∧ zs = []) ∨ ∃ x, a = some x ∧ len ≤ cap ∧ cap ≤ maxLen ∧ zs.length = cap ∧ (∀ i, i < zs.length → W.cell? (x.add i) = some (.int k (zs.getD i 0))) ∧ ∀ n ∈ zs, (Lit.int k n).wf = true) :
    ∃ l : List Int, (∀ n ∈ l, (Lit.int k n).wf = true) ∧ Rep W bt hn (.sl (.int k) l) (.slice a len cap) := by
  rcases h with ⟨rfl, rfl, rfl, rfl⟩ | ⟨x, rfl, h1, h2, h3, h4, h5⟩
  · exact ⟨[], fun n hn => (by cases hn), by simp only [Rep]; exact repT_nil none⟩
  · have hlen : (zs.take len).length = len := by rw [List.length_take]; omega
    refine ⟨zs.take len, fun n hn => h5 n (List.mem_of_mem_take hn), ?_⟩
    simp only [Rep, RepT]
    refine ⟨some x, cap, by rw [hlen], by omega, by omega, fun i n hi => ?_⟩
    have hi2 : i < (zs.take len).length := (List.getElem?_eq_some_iff.1 hi).1
    have hi3 : i < zs.length := by omega
    have hv : zs.getD i 0 = n := by
      rw [List.getElem?_take] at hi
      split at hi
      · rw [List.getD_eq_getElem?_getD, hi]; rfl
      · cases hi
    have hc := h4 i hi3
    rw [hv] at hc
    have hb := cell_lt hc
    rw [add_block] at hb
    refine ⟨x, [.int k n], rfl, trivial, hb, rfl, fun j u hu => ?_⟩
    cases j with
    | zero => simp at hu; subst hu; rw [add_add]; simpa [Ty.size] using hc
    | succ j => simp at hu
theorem dig_wf {l : List Int} (h : ∀ n ∈ l, (Lit.int .u32 n).wf = true) : Dig l := fun x hx => by
  have := h x hx
  simp only [Lit.wf, Bool.and_eq_true, decide_eq_true_eq] at this
  have h1 : IntKind.u32.min = 0 := rfl
  have h2 : IntKind.u32.max = 4294967295 := rfl
  omega
theorem agg_two {v : Value} (h : v.cells.toList.length = 2) : ∃ x y, v = .agg #[x, y] ∧ v.cells.toList = [x, y] := by
  cases v with
  | agg cs =>
    obtain ⟨cs⟩ := cs
    match cs, h with
    | [x, y], _ => exact ⟨x, y, rfl, rfl⟩
  | _ => simp [Value.cells] at h
theorem laidOut : laidOutB Try.prog = true := by kernel_rfl
theorem own : ownKnob Try.prog.godebug = none := by kernel_rfl
section
variable {H : Type} {enc : TypeId × Value → H} {W : World} {held : Bool}
theorem open_bits {n : Nat} {cs : List Value} {y : DataW H × List MemPlace} {base : Nat} {spare : Nat → Bool} (h : DataW.trod enc Try.prog W base spare held n 4 cs = some y) : ∃ s, cs = [.bool s] := by
  cases n with
  | zero => simp [DataW.trod] at h
  | succ n =>
    simp only [DataW.trod, Try.underlying4] at h
    split at h <;> first | (simp_all; done) | (rename_i b _ _; exact ⟨_, rfl⟩) | simp_all
theorem open_row {n : Nat} {cs : List Value} {y : DataW H × List MemPlace} (h : DataW.trod enc Try.prog W 0 (fun _ => true) held n 22 cs = some y) : ∃ a len cap l, cs = [.slice a len cap] ∧ Dig l ∧ Rep W bt hn (.sl (.int .u32) l) (.slice a len cap) := by
  rcases open_ints Try.underlying22 Try.underlying66 (by kernel_rfl) h with ⟨hcs, _⟩ | ⟨x, l, c, zs, hcs, _, hl, hm, hz, _, hcell, hwz⟩
  · exact ⟨none, 0, 0, [], hcs, fun x hx => (by cases hx), by simp only [Rep]; exact repT_nil none⟩
  · obtain ⟨l', h1, h2⟩ := rep_row (W := W) (a := some x) (len := l) (cap := c) (zs := zs) (.inr ⟨x, rfl, hl, hm, by simpa using hz, hcell, hwz⟩)
    exact ⟨_, _, _, l', hcs, dig_wf h1, h2⟩
/-- An argument of type api.Int. -/
theorem open_Int {v : Value} {d : DataW H} {p : List MemPlace} (h : DataW.Trod enc Try.prog W 0 (fun _ => true) held 24 v d p) :
    ∃ s l, Dig l ∧ Rep W bt hn (argD (.pair .bool (.slice (.int .u32))) (s, l)) v := by
  obtain ⟨fuel, hf⟩ := h
  obtain ⟨y0, y1, n, _, hlen, h0, h1⟩ := trod_struct2 Try.underlying24 hf
  obtain ⟨s, hs⟩ := open_bits h0
  obtain ⟨a, len, cap, l, hr, hd, hrep⟩ := open_row h1
  have e0 : Try.prog.cellsOf 4 = 1 := by kernel_rfl
  have e1 : Try.prog.cellsOf 22 = 1 := by kernel_rfl
  have e2 : Try.prog.cellsOf 24 = 2 := by kernel_rfl
  rw [e2] at hlen
  obtain ⟨x, y, hv, hc⟩ := agg_two hlen
  rw [hc] at hs hr
  have o0 : ([x, y].drop 0).take 1 = [x] := rfl
  have o1 : ([x, y].drop 1).take 1 = [y] := rfl
  have hx : x = .bool s := by
    have h2 : ([x, y].drop 0).take (Try.prog.cellsOf 4) = [.bool s] := hs
    rw [e0, o0] at h2
    injection h2
  have hy : y = .slice a len cap := by
    have h2 : ([x, y].drop 1).take (Try.prog.cellsOf 22) = [.slice a len cap] := hr
    rw [e1, o1] at h2
    injection h2
  subst hx
  subst hy
  refine ⟨s, l, hd, ?_⟩
  subst hv
  show Rep W bt hn (.agg [.val (.bool s), .sl (.int .u32) l]) _
  simp only [Rep, Reps] at hrep ⊢
  exact ⟨[.bool s, .slice a len cap], rfl, _, _, rfl, rfl, _, _, rfl, hrep, rfl⟩
end
end Go.Proofs.Ytpblkjjafdfjkaa.V
