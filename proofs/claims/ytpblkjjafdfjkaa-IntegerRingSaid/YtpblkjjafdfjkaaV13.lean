/- The abstract state and the real one; one operation; operations in a given order. -/
import Derived.Test.YtpblkjjafdfjkaaV12
namespace Go.Proofs.Ytpblkjjafdfjkaa.V
open Go.RowKit
set_option linter.unusedVariables false
set_option linter.unusedSimpArgs false

def liveB (boxes : Boxes) : Nat → Prop := fun i => ∃ c, boxes i = some c
/-- The real state fits the data. N: how many temporaries; fr: which box numbers are still free; O: old blocks that may be written. -/
structure Sim (w0 : World) (h0 : Hist) (Z O : Nat → Prop) (N : Nat) (env : Env) (boxes : Boxes) (fr : Nat → Prop) (h : Hist) (a : Act) (w : World) : Prop where
  defers : a.defers = []
  size : a.tmps.size = N
  env : ∀ t, Rep w (Bd Z h (liveB boxes)) h (env t) (a.tmps.getD t undef)
  ctx : Ctx w Z h (liveB boxes) boxes
  free : ∀ i, fr i → h i = none
  ge : ∀ i hb b, liveB boxes i → h i = some hb → hb.blk = some b → w0.heap.size ≤ b ∨ O b
  keeps : Keeps w0 w O
  base : Ext h0 h
def setE (env : Env) (dst : Option Tmp) (d : D) : Env := match dst with
  | none => env
  | some t' => fun t => match Nat.beq t' t with | true => d | false => env t
theorem setE_eq (env : Env) (dst : Option Tmp) (d : D) (t : Nat) : setE env dst d t = if dst = some t then d else env t := by
  unfold setE
  cases dst with
  | none => simp
  | some t' =>
    simp only [Option.some.injEq]
    cases hb : Nat.beq t' t with
    | true => simp [Nat.eq_of_beq_eq_true hb]
    | false => simp [Nat.ne_of_beq_eq_false hb]
def dstOk (N : Nat) : Option Tmp → Bool
  | some t => Nat.blt t N
  | none => true
theorem put_getD (a : Act) (dst : Option Tmp) (v : Value) (t : Nat) (h : dstOk a.tmps.size dst = true) : (a.put dst v).tmps.getD t undef = if dst = some t then v else a.tmps.getD t undef := by
  cases dst with
  | none => simp [Act.put]
  | some d =>
    have h : d < a.tmps.size := Nat.le_of_ble_eq_true h
    simp only [Act.put, Option.some.injEq]
    by_cases hd : d = t
    · subst hd; simp [h]
    · simp [Array.getElem?_setIfInBounds_ne hd, hd]
theorem put_defers (a : Act) (dst : Option Tmp) (v : Value) : (a.put dst v).defers = a.defers := by cases dst <;> rfl
theorem put_size (a : Act) (dst : Option Tmp) (v : Value) : (a.put dst v).tmps.size = a.tmps.size := by cases dst <;> simp [Act.put]
theorem liveU_B (boxes : Boxes) (u : Upd) : liveU (liveB boxes) u = liveB (applyU boxes u) := by
  funext i
  unfold liveU liveB applyU
  apply propext
  split
  · rename_i c hc; simp [hc]
  · rename_i hc; simp [hc]
  · rename_i hc; simp [hc]

section
variable {P : Program} {w0 w : World} {h0 : Hist} {Z O : Nat → Prop} {N : Nat} {h : Hist} {env : Env} {a : Act} {boxes : Boxes} {fr : Nat → Prop}

/-- Behind an operation: the state again. -/
theorem sim_after {w' : World} {h' : Hist} {id : Nat} {u : Upd} {d d' : D} {v : Value} {dst : Option Tmp} (s : Sim w0 h0 Z O N env boxes fr h a w) (r : Res w w' Z h h' (liveB boxes) id u d v) (hd : dstOk N dst = true)
    (hdd : ∀ w'' B'' h'', Rep w'' B'' h'' d v → Rep w'' B'' h'' d' v) : Sim w0 h0 Z O N (setE env dst d') (applyU boxes u) (fun i => fr i ∧ i ≠ id) h' (a.put dst v) w' := by
  have hd2 : dstOk a.tmps.size dst = true := by rw [s.size]; exact hd
  have hL := liveU_B boxes u
  refine ⟨by rw [put_defers]; exact s.defers, by rw [put_size]; exact s.size, fun t => ?_, ⟨?_, ?_, ?_⟩, fun i hi => by rw [r.only i hi.2]; exact s.free i hi.1, fun i hb b hl he hbl => ?_, ?_, fun g hb he => r.ext g hb (s.base g hb he)⟩
  · rw [put_getD a dst v t hd2, setE_eq, ← hL]
    split
    · exact hdd _ _ _ r.rep
    · exact Rep.step r.agree r.ext _ _ (s.env t)
  · rw [← hL]; exact r.heap
  · exact fun g c hg => ⟨c, hg⟩
  · rw [← hL]; exact r.boxes s.ctx.hh s.ctx.hl s.ctx.hb
  · rw [← hL] at hl
    by_cases hid : i = id
    · subst hid
      rcases r.new hb b hl he hbl with h1 | ⟨g, hb', h1, h2, h3⟩
      · exact .inl (Nat.le_trans s.keeps.size h1)
      · exact s.ge g hb' b h1 h2 h3
    · rw [r.only i hid] at he
      have hli : liveB boxes i := by
        unfold liveU at hl
        split at hl
        · rename_i c hc; exact r.upd i _ hc hid
        · exact hl.elim
        · exact hl
      exact s.ge i hb b hli he hbl
  · refine ⟨r.keeps.os.trans s.keeps.os, r.keeps.tape.trans s.keeps.tape, r.keeps.output.trans s.keeps.output, Nat.le_trans s.keeps.size r.keeps.size, fun k hk hn => ?_⟩
    refine (r.keeps.block k (Nat.lt_of_lt_of_le hk s.keeps.size) (fun ⟨g, hb, _, hl, he, hbl⟩ => ?_)).trans (s.keeps.block k hk hn)
    rcases s.ge g hb k hl he hbl with h1 | h1
    · omega
    · exact hn h1
theorem Sim.mono {fr' : Nat → Prop} (s : Sim w0 h0 Z O N env boxes fr h a w) (hf : ∀ i, fr' i → fr i) : Sim w0 h0 Z O N env boxes fr' h a w :=
  ⟨s.defers, s.size, s.env, s.ctx, fun i hi => s.free i (hf i hi), s.ge, s.keeps, s.base⟩

/-- What a path decides: the slot's Bool is this one. -/
def takeDec (t : Nat) : List (Nat × Bool) → Option (Bool × List (Nat × Bool))
  | [] => none
  | (t', b) :: l => match Nat.beq t' t with
    | true => some (b, l)
    | false => match takeDec t l with
      | some (c, l') => some (c, (t', b) :: l')
      | none => none
def fixD (dec : List (Nat × Bool)) (dst : Option Tmp) (d : D) : Option (List Prop × D × List (Nat × Bool)) :=
  match dst with
  | none => some ([], d, dec)
  | some t => match takeDec t dec with
    | none => some ([], d, dec)
    | some (bit, dec') => match d with
      | .val (.bool b) => some ([b = bit], .val (.bool bit), dec')
      | _ => none
theorem fixD_ok {dec dec' : List (Nat × Bool)} {dst : Option Tmp} {d d' : D} {ps : List Prop} (hx : fixD dec dst d = some (ps, d', dec')) (hps : ∀ p ∈ ps, p) (w : World) (B : Nat → Prop) (h : Hist) (v : Value) (hr : Rep w B h d v) : Rep w B h d' v := by
  unfold fixD at hx
  split at hx
  · simp only [Option.some.injEq, Prod.mk.injEq] at hx; obtain ⟨_, rfl, _⟩ := hx; exact hr
  · split at hx
    · simp only [Option.some.injEq, Prod.mk.injEq] at hx; obtain ⟨_, rfl, _⟩ := hx; exact hr
    · split at hx
      · simp only [Option.some.injEq, Prod.mk.injEq] at hx
        obtain ⟨rfl, rfl, _⟩ := hx
        have := hps _ (List.mem_cons_self ..)
        rw [this] at hr
        exact hr
      · simp at hx

structure St where
  env : Env
  boxes : Boxes
  nb : Nat
  dec : List (Nat × Bool)

/-- A guard's word, out of the data: some b: decided. -/
def wantsD (ops : Array Oper) (env : Env) (o : Oper) : Option Bool :=
  match o.guard with
  | none => some true
  | some (g, want) => match (ops[g]?).bind (·.dst) with
    | some t => match env t with
      | .val (.bool b) => some (b == want)
      | .val (.tuple _) => some false
      | _ => none
    | none => none
theorem wantsD_ok {B : Nat → Prop} {ops : Array Oper} {o : Oper} {b : Bool} (hx : wantsD ops env o = some b) (he : ∀ t, (∃ g want, o.guard = some (g, want) ∧ (ops[g]?).bind (·.dst) = some t) → Rep w B h (env t) (a.tmps.getD t undef)) :
    Region.wanted o (yielded ops a.tmps) = b := by
  unfold wantsD at hx
  unfold Region.wanted
  split at hx
  · rename_i hg
    simp only [Option.some.injEq] at hx
    simp [hg, hx]
  · rename_i g want hg
    simp only [hg]
    split at hx
    · rename_i t ht
      have hrep := he t ⟨g, want, hg, ht⟩
      unfold yielded
      rw [ht]
      split at hx
      · rename_i c hc
        rw [hc] at hrep
        simp only [Rep] at hrep
        simp only [Option.some.injEq] at hx
        have : a.tmps[t]? = some (.bool c) := by
          simp only [Array.getD_eq_getD_getElem?] at hrep
          cases hx : a.tmps[t]? with
          | none => rw [hx] at hrep; simp [undef] at hrep
          | some u => rw [hx] at hrep; simpa using hrep
        simp [this, ← hx]
      · rename_i vs hc
        rw [hc] at hrep
        simp only [Rep] at hrep
        simp only [Option.some.injEq] at hx
        subst hx
        simp only [Array.getD_eq_getD_getElem?] at hrep
        cases hx : a.tmps[t]? with
        | none => simp [hx]
        | some u => rw [hx] at hrep; simp at hrep; subst hrep; simp [hx]
      · simp at hx
    · simp at hx

/-- One operation in a given order. -/
def stepSeq (P : Program) (S : List (Spec P)) (N : Nat) (ops : Array Oper) (st : St) (o : Oper) : Option (List Prop × St) :=
  match dstOk N o.dst with
  | true => match wantsD ops st.env o with
    | some true => match absOp P S st.env st.boxes st.nb o.op with
      | some (ps, d, u) => match fixD st.dec o.dst d with
        | some (qs, d', dec') => some (ps ++ qs, ⟨setE st.env o.dst d', applyU st.boxes u, st.nb + 1, dec'⟩)
        | none => none
      | none => none
    | some false => some ([], ⟨setE st.env o.dst (.val undef), st.boxes, st.nb + 1, st.dec⟩)
    | none => none
  | false => none
def runSeq (P : Program) (S : List (Spec P)) (N : Nat) (ops : Array Oper) : List Nat → St → Option (List Prop × St)
  | [], st => some ([], st)
  | i :: is, st => match ops[i]? with
    | none => none
    | some o => match stepSeq P S N ops st o with
      | none => none
      | some (ps, st1) => match runSeq P S N ops is st1 with
        | none => none
        | some (qs, st2) => some (ps ++ qs, st2)

abbrev SimS (w0 : World) (h0 : Hist) (Z O : Nat → Prop) (N : Nat) (st : St) (h : Hist) (a : Act) (w : World) : Prop := Sim w0 h0 Z O N st.env st.boxes (fun i => st.nb ≤ i) h a w

theorem mem_append_l {α : Type} {p : α → Prop} {l m : List α} (h : ∀ x ∈ l ++ m, p x) : ∀ x ∈ l, p x := fun x hx => h x (List.mem_append_left _ hx)
theorem mem_append_r {α : Type} {p : α → Prop} {l m : List α} (h : ∀ x ∈ l ++ m, p x) : ∀ x ∈ m, p x := fun x hx => h x (List.mem_append_right _ hx)

theorem runSeq_ok {S : List (Spec P)} {ops : Array Oper} {Q : Exit → Act → World → Prop} : ∀ (is : List Nat) (st st' : St) (ps : List Prop), runSeq P S N ops is st = some (ps, st') → (∀ p ∈ ps, p) →
    ∀ (h : Hist) (a : Act) (w : World), SimS w0 h0 Z O N st h a w → (∀ h' a' w', SimS w0 h0 Z O N st' h' a' w' → Q .normal a' w') → wpOps P ops Q is a w
  | [], st, st', ps, hx, hps, h, a, w, hs, hQ => by
    simp only [runSeq, Option.some.injEq, Prod.mk.injEq] at hx
    obtain ⟨_, rfl⟩ := hx
    exact hQ h a w hs
  | i :: is, st, st', ps, hx, hps, h, a, w, hs, hQ => by
    simp only [runSeq] at hx
    split at hx
    · simp at hx
    · rename_i o ho
      split at hx
      · simp at hx
      · rename_i ps1 st1 h1
        split at hx
        · simp at hx
        · rename_i ps2 st2 h2
          simp only [Option.some.injEq, Prod.mk.injEq] at hx
          obtain ⟨rfl, rfl⟩ := hx
          have hp1 := mem_append_l hps
          have ih := fun h' a' w' hs' => runSeq_ok is st1 st2 ps2 h2 (mem_append_r hps) h' a' w' hs' hQ
          unfold stepSeq at h1
          split at h1
          · rename_i hdst
            simp only [wpOps, ho]
            split at h1
            · rename_i hw
              have hwant := wantsD_ok (a := a) hw (fun t _ => hs.env t)
              rw [if_pos hwant]
              split at h1
              · rename_i qs d u hop
                split at h1
                · rename_i rs d' dec' hfix
                  simp only [Option.some.injEq, Prod.mk.injEq] at h1
                  obtain ⟨rfl, rfl⟩ := h1
                  refine .inl (absOp_ok hop (mem_append_l hp1) hs.ctx (hs.free _ (Nat.le_refl _)) (fun x hxm d hd => ev_ok hs.env hd) fun v w' h' hres => ?_)
                  refine ih h' _ w' (Sim.mono (sim_after (d' := d') (dst := o.dst) hs hres hdst (fun w'' B'' h'' hr => fixD_ok hfix (mem_append_r hp1) w'' B'' h'' v hr)) (fun i hi => ?_))
                  have hi : st.nb + 1 ≤ i := hi
                  exact ⟨by omega, by omega⟩
                · cases h1
              · cases h1
            · rename_i hw
              have hwant := wantsD_ok (a := a) hw (fun t _ => hs.env t)
              simp only [Option.some.injEq, Prod.mk.injEq] at h1
              obtain ⟨rfl, rfl⟩ := h1
              rw [if_neg (by rw [hwant]; simp)]
              refine ih h _ w (Sim.mono (sim_after (id := st.nb) (u := []) (d := .val undef) (d' := .val undef) (v := undef) (dst := o.dst) hs (res_pure hs.ctx.hh (by simp only [Rep])) hdst (fun _ _ _ hr => hr)) (fun i hi => ?_))
              have hi : st.nb + 1 ≤ i := hi
              exact ⟨by omega, by omega⟩
            · cases h1
          · cases h1
end
end Go.Proofs.Ytpblkjjafdfjkaa.V
