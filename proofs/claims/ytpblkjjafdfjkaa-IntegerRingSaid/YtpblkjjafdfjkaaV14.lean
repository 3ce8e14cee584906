/- A region that draws its order: evaluated once, in one order, with each operation seeing only what it waits for (through others too); whatever order is drawn comes to the same. -/
import Derived.Test.YtpblkjjafdfjkaaV13
namespace Go.Proofs.Ytpblkjjafdfjkaa.V
open Go.RowKit
set_option linter.unusedVariables false
set_option linter.unusedSimpArgs false

def depsOf (o : Oper) : List Nat := (o.after.toList.filter (fun e => Region.binds .any e)).map (·.on)
def inb (m i : Nat) : Bool := Nat.testBit m i
/-- What an operation came to. -/
structure RE where
  i : Nat
  d : D
  u : Upd
  acc : List Nat
  cl : Nat
def clR (R : List RE) (i : Nat) : Nat := match R.find? (fun r => Nat.beq r.i i) with | some r => r.cl | none => 0
def clOf (R : List RE) : List Nat → Nat
  | [] => 0
  | i :: is => Nat.lor (Nat.lor (Nat.shiftLeft 1 i) (clR R i)) (clOf R is)
theorem inb_or (a b i : Nat) : inb (Nat.lor a b) i = (inb a i || inb b i) := by unfold inb; exact Nat.testBit_or a b i
theorem inb_one (j i : Nat) : inb (Nat.shiftLeft 1 j) i = decide (i = j) := by
  unfold inb
  have e : Nat.shiftLeft 1 j = 2 ^ j := Nat.one_shiftLeft j
  rw [e, Nat.testBit_two_pow]
  simp [eq_comm]
theorem inb_clOf {R : List RE} : ∀ {js : List Nat} {i : Nat}, inb (clOf R js) i = true ↔ ∃ j ∈ js, i = j ∨ inb (clR R j) i = true
  | [], i => by simp [clOf, inb]
  | j :: js, i => by
    simp only [clOf, inb_or, inb_one, Bool.or_eq_true, decide_eq_true_eq, inb_clOf, List.mem_cons, exists_eq_or_imp]
theorem clR_of {R : List RE} {j i : Nat} (h : inb (clR R j) i = true) : ∃ q ∈ R, q.i = j ∧ inb q.cl i = true := by
  unfold clR at h
  split at h
  · rename_i r hr
    exact ⟨r, List.mem_of_find?_eq_some hr, Nat.eq_of_beq_eq_true (by have := List.find?_some hr; simpa using this), h⟩
  · simp [inb] at h

def dstIs (ops : Array Oper) (i t : Nat) : Bool := match ops[i]? with | some o => (match o.dst with | some t' => Nat.beq t' t | none => false) | none => false
theorem dstIs_iff {ops : Array Oper} {i t : Nat} : dstIs ops i t = true ↔ ∃ o, ops[i]? = some o ∧ o.dst = some t := by
  unfold dstIs
  cases ho : ops[i]? with
  | none => simp
  | some o =>
    cases hd : o.dst with
    | none => simp [hd]
    | some t' =>
      simp only [Option.some.injEq, exists_eq_left', hd]
      exact ⟨Nat.eq_of_beq_eq_true, fun e => by simp [e]⟩
def envSel (ops : Array Oper) (R : List RE) (sel : Nat → Bool) (env : Env) : Env := fun t => match R.find? (fun r => match dstIs ops r.i t with | true => sel r.i | false => false) with
  | some r => r.d
  | none => env t
def lastU (sel : Nat → Bool) (g : Nat) : List RE → Option (Option BoxC)
  | [] => none
  | r :: R => match lastU sel g R with
    | some c => some c
    | none => match sel r.i with | true => lookU r.u g | false => none
def boxSel (R : List RE) (sel : Nat → Bool) (boxes : Boxes) : Boxes := fun g => match lastU sel g R with
  | some c => c
  | none => boxes g
def accOf (env : Env) (op : Op) : List Nat := dedup (op.operands.toList.flatMap (fun x => match ev env x with | some d => d.ids | none => []))
def only (acc : List Nat) (boxes : Boxes) : Boxes := fun g => match has acc g with | true => boxes g | false => none

def dstNew (ops : Array Oper) (R : List RE) (o : Oper) : Bool := match o.dst with | some t => R.all (fun r => !dstIs ops r.i t) | none => true
def guardIn (cl : Nat) (o : Oper) : Bool := match o.guard with | some (g, _) => inb cl g | none => true
def updIn (acc : List Nat) (id : Nat) (u : Upd) : Bool := u.all (fun p => (Nat.beq p.1 id).or (has acc p.1))
def placed (R : List RE) (i : Nat) : Bool := R.any (fun r => Nat.beq r.i i)

/-- n told to f as it stands (so that an evaluation does not carry it along unread). -/
def forceN {α : Sort _} (n : Nat) (f : Nat → α) : α := Nat.rec (motive := fun _ => α) (f 0) (fun k _ => f (Nat.succ k)) n
theorem forceN_eq {α : Sort _} (n : Nat) (f : Nat → α) : forceN n f = f n := by cases n <;> rfl
def forceL {α : Type _} {β : Sort _} : List α → (List α → β) → β
  | [], f => f []
  | a :: l, f => forceL l (fun l' => f (a :: l'))
theorem forceL_eq {α : Type _} {β : Sort _} : ∀ (l : List α) (f : List α → β), forceL l f = f l
  | [], f => rfl
  | a :: l, f => by rw [forceL, forceL_eq]
def stepB (P : Program) (S : List (Spec P)) (N : Nat) (ops : Array Oper) (nb : Nat) (env0 : Env) (boxes0 : Boxes) (R : List RE) (dec : List (Nat × Bool)) (j : Nat) (o : Oper) (cl : Nat) : Option (List Prop × RE × List (Nat × Bool)) :=
  match (dstOk N o.dst).and (((depsOf o).all (placed R)).and ((R.all (fun r => !(Nat.beq r.i j))).and ((dstNew ops R o).and ((guardIn cl o).and (!(inb cl j)))))) with
  | true =>
    match wantsD ops (envSel ops R (inb cl) env0) o with
    | some true => match absOp P S (envSel ops R (inb cl) env0) (only (accOf (envSel ops R (inb cl) env0) o.op) (boxSel R (inb cl) boxes0)) (nb + j) o.op with
      | some (ps, d, u) => match updIn (accOf (envSel ops R (inb cl) env0) o.op) (nb + j) u with
        | true => (match fixD dec o.dst d with
          | some (qs, d', dec') => some (ps ++ qs, ⟨j, d', u, accOf (envSel ops R (inb cl) env0) o.op, cl⟩, dec')
          | none => none)
        | false => none
      | none => none
    | some false => some ([], ⟨j, .val undef, [], [], cl⟩, dec)
    | none => none
  | false => none
def stepD (P : Program) (S : List (Spec P)) (N : Nat) (ops : Array Oper) (nb : Nat) (env0 : Env) (boxes0 : Boxes) (R : List RE) (dec : List (Nat × Bool)) (j : Nat) : Option (List Prop × RE × List (Nat × Bool)) :=
  match ops[j]? with
  | none => none
  | some o => forceN (clOf R (depsOf o)) (fun cl => stepB P S N ops nb env0 boxes0 R dec j o cl)
theorem stepD_eq (P : Program) (S : List (Spec P)) (N : Nat) (ops : Array Oper) (nb : Nat) (env0 : Env) (boxes0 : Boxes) (R : List RE) (dec : List (Nat × Bool)) (j : Nat) : stepD P S N ops nb env0 boxes0 R dec j = match ops[j]? with
  | none => none
  | some o => stepB P S N ops nb env0 boxes0 R dec j o (clOf R (depsOf o)) := by
  unfold stepD
  split
  · rfl
  · exact forceN_eq _ _
def runD (P : Program) (S : List (Spec P)) (N : Nat) (ops : Array Oper) (nb : Nat) (env0 : Env) (boxes0 : Boxes) : List Nat → List RE → List (Nat × Bool) → Option (List Prop × List RE × List (Nat × Bool))
  | [], R, dec => some ([], R, dec)
  | j :: js, R, dec => match stepD P S N ops nb env0 boxes0 R dec j with
    | none => none
    | some (ps, r, dec1) => match runD P S N ops nb env0 boxes0 js (R ++ [r]) dec1 with
      | none => none
      | some (qs, R', dec2) => some (ps ++ qs, R', dec2)
/-- q may come before or behind r, and r does not look at it. -/
def indep1 (ops : Array Oper) (nb : Nat) (r : RE) (o : Oper) (q : RE) : Bool :=
  match Nat.beq q.i r.i with
  | true => true
  | false => match inb r.cl q.i with
    | true => true
    | false => match inb q.cl r.i with
      | true => !(has r.acc (nb + q.i))
      | false => (!((o.looksAt ops).any (fun t => dstIs ops q.i t))).and ((r.acc.all (fun g => (lookU q.u g).isNone)).and (!(has r.acc (nb + q.i))))
def indep (ops : Array Oper) (nb : Nat) (R : List RE) : Bool := R.all fun r => match ops[r.i]? with
  | none => false
  | some o => R.all (indep1 ops nb r o)
def runDrawn (P : Program) (S : List (Spec P)) (N : Nat) (ops : Array Oper) (st : St) : Option (List Prop × St) :=
  match runD P S N ops st.nb st.env st.boxes (List.range ops.size) [] st.dec with
  | none => none
  | some (ps, R, dec) => match (indep ops st.nb R).and ((List.range ops.size).all (placed R)) with
    | true => some (ps, ⟨envSel ops R (fun _ => true) st.env, boxSel R (fun _ => true) st.boxes, st.nb + ops.size, dec⟩)
    | false => none

/-! ### Selections -/
theorem envSel_congr {ops : Array Oper} {R : List RE} {s1 s2 : Nat → Bool} {env : Env} {t : Nat} (h : ∀ r ∈ R, dstIs ops r.i t = true → s1 r.i = s2 r.i) : envSel ops R s1 env t = envSel ops R s2 env t := by
  unfold envSel
  have : R.find? (fun r => match dstIs ops r.i t with | true => s1 r.i | false => false) = R.find? (fun r => match dstIs ops r.i t with | true => s2 r.i | false => false) := by
    induction R with
    | nil => rfl
    | cons r R ih =>
      have ih := ih (fun q hq => h q (List.mem_cons_of_mem _ hq))
      simp only [List.find?_cons, ih]
      cases hd : dstIs ops r.i t with
      | true => simp only [h r (List.mem_cons_self ..) hd]
      | false => rfl
  rw [this]
theorem find_unique {α : Type} {R : List α} {p : α → Bool} {r : α} (hr : r ∈ R) (hp : p r = true) (hu : ∀ q ∈ R, p q = true → q = r) : R.find? p = some r := by
  induction R with
  | nil => cases hr
  | cons q R ih =>
    simp only [List.find?_cons]
    cases hq : p q with
    | true => simp only; rw [hu q (List.mem_cons_self ..) hq]
    | false =>
      simp only
      rcases List.mem_cons.1 hr with rfl | hr
      · rw [hp] at hq; cases hq
      · exact ih hr (fun q' hq' => hu q' (List.mem_cons_of_mem _ hq'))
theorem envSel_prefix {ops : Array Oper} {L M : List RE} {sel : Nat → Bool} {env : Env} (h : ∀ r ∈ M, sel r.i = false) : envSel ops (L ++ M) sel env = envSel ops L sel env := by
  funext t
  unfold envSel
  rw [List.find?_append]
  have : M.find? (fun r => match dstIs ops r.i t with | true => sel r.i | false => false) = none := List.find?_eq_none.2 (fun r hr => by
    cases dstIs ops r.i t <;> simp [h r hr])
  rw [this]
  cases L.find? (fun r => match dstIs ops r.i t with | true => sel r.i | false => false) <;> rfl
theorem lastU_congr {s1 s2 : Nat → Bool} {g : Nat} : ∀ {R : List RE}, (∀ r ∈ R, (lookU r.u g).isSome = true → s1 r.i = s2 r.i) → lastU s1 g R = lastU s2 g R
  | [], _ => rfl
  | r :: R, h => by
    simp only [lastU, lastU_congr (fun q hq => h q (List.mem_cons_of_mem _ hq))]
    cases hx : lookU r.u g with
    | none => cases s1 r.i <;> cases s2 r.i <;> rfl
    | some c => rw [h r (List.mem_cons_self ..) (by rw [hx]; rfl)]
theorem lastU_none {sel : Nat → Bool} {g : Nat} : ∀ {R : List RE}, (∀ r ∈ R, sel r.i = true → lookU r.u g = none) → lastU sel g R = none
  | [], _ => rfl
  | r :: R, h => by
    simp only [lastU, lastU_none (fun q hq => h q (List.mem_cons_of_mem _ hq))]
    cases hs : sel r.i with
    | true => exact h r (List.mem_cons_self ..) hs
    | false => rfl
theorem lastU_append {sel : Nat → Bool} {g : Nat} : ∀ {L M : List RE}, lastU sel g (L ++ M) = match lastU sel g M with | some c => some c | none => lastU sel g L
  | [], M => by cases h : lastU sel g M <;> simp [lastU, h]
  | r :: L, M => by
    simp only [List.cons_append, lastU, lastU_append (L := L) (M := M)]
    cases lastU sel g M <;> rfl
theorem lastU_mid {sel : Nat → Bool} {g : Nat} {A B : List RE} {r : RE} {c : Option BoxC} (hs : sel r.i = true) (hc : lookU r.u g = some c) (hB : ∀ q ∈ B, sel q.i = true → lookU q.u g = none) : lastU sel g (A ++ r :: B) = some c := by
  rw [lastU_append]
  simp only [lastU, lastU_none hB, hs, hc]
theorem boxSel_prefix {L M : List RE} {sel : Nat → Bool} {boxes : Boxes} (h : ∀ r ∈ M, sel r.i = false) : boxSel (L ++ M) sel boxes = boxSel L sel boxes := by
  funext g
  unfold boxSel
  rw [lastU_append, lastU_none (R := M) (fun r hr hs => by rw [h r hr] at hs; cases hs)]

theorem and6 {a b c d e f : Bool} (h : (a.and (b.and (c.and (d.and (e.and f))))) = true) : a = true ∧ b = true ∧ c = true ∧ d = true ∧ e = true ∧ f = true := by
  cases a <;> cases b <;> cases c <;> cases d <;> cases e <;> cases f <;> simp_all
theorem placed_iff {R : List RE} {i : Nat} : placed R i = true ↔ ∃ q ∈ R, q.i = i := by
  unfold placed
  rw [List.any_eq_true]
  exact ⟨fun ⟨q, hq, h⟩ => ⟨q, hq, Nat.eq_of_beq_eq_true h⟩, fun ⟨q, hq, h⟩ => ⟨q, hq, by simp [h]⟩⟩

/-- What is known of an entry. -/
structure Fact (P : Program) (S : List (Spec P)) (N : Nat) (ops : Array Oper) (nb : Nat) (env0 : Env) (boxes0 : Boxes) (R : List RE) (r : RE) (o : Oper) : Prop where
  op : ops[r.i]? = some o
  dst : dstOk N o.dst = true
  self : inb r.cl r.i = false
  guard : ∀ g want, o.guard = some (g, want) → inb r.cl g = true
  cl : ∀ i, inb r.cl i = true → i ∈ depsOf o ∨ ∃ q ∈ R, q.i ∈ depsOf o ∧ inb q.cl i = true
  deps : ∀ i ∈ depsOf o, inb r.cl i = true
  upd : ∀ g c, lookU r.u g = some c → g = nb + r.i ∨ g ∈ r.acc
  run : (wantsD ops (envSel ops R (inb r.cl) env0) o = some false ∧ r.d = .val undef ∧ r.u = [] ∧ r.acc = []) ∨
    (wantsD ops (envSel ops R (inb r.cl) env0) o = some true ∧ ∃ ps d, absOp P S (envSel ops R (inb r.cl) env0) (only r.acc (boxSel R (inb r.cl) boxes0)) (nb + r.i) o.op = some (ps, d, r.u) ∧ (∀ p ∈ ps, p) ∧
      ∀ (w : World) (B : Nat → Prop) (h : Hist) (v : Value), Rep w B h d v → Rep w B h r.d v)
def Apart (ops : Array Oper) (q r : RE) : Prop := q.i ≠ r.i ∧ (∀ t, dstIs ops q.i t = true → dstIs ops r.i t = true → False)

section
variable {P : Program} {S : List (Spec P)} {N : Nat} {ops : Array Oper} {nb : Nat} {env0 : Env} {boxes0 : Boxes}

theorem runD_facts : ∀ (js : List Nat) (L R : List RE) (dec dec' : List (Nat × Bool)) (ps : List Prop), runD P S N ops nb env0 boxes0 js L dec = some (ps, R, dec') → (∀ p ∈ ps, p) → (∀ q ∈ L, ∀ i, inb q.cl i = true → ∃ q' ∈ L, q'.i = i) →
    ∃ M, R = L ++ M ∧ (∀ r ∈ M, ∃ o, Fact P S N ops nb env0 boxes0 R r o) ∧ (∀ q ∈ L, ∀ r ∈ M, Apart ops q r) ∧ M.Pairwise (Apart ops) ∧
      ∀ A r B, M = A ++ r :: B → ∀ i, inb r.cl i = true → ∃ q ∈ L ++ A, q.i = i
  | [], L, R, dec, dec', ps, h, hps, _ => by
    simp only [runD, Option.some.injEq, Prod.mk.injEq] at h
    obtain ⟨_, rfl, _⟩ := h
    exact ⟨[], by simp, by simp, by simp, List.Pairwise.nil, fun A r B he => by simp at he⟩
  | j :: js, L, R, dec, dec', ps, h, hps, hLc => by
    simp only [runD, forceL_eq] at h
    split at h
    · cases h
    · rename_i ps1 r dec1 h1
      split at h
      · cases h
      · rename_i ps2 R2 dec2 h2
        simp only [Option.some.injEq, Prod.mk.injEq] at h
        obtain ⟨rfl, rfl, rfl⟩ := h
        have hp1 := mem_append_l hps
        rw [stepD_eq] at h1
        split at h1
        · cases h1
        · rename_i o ho
          unfold stepB at h1
          split at h1
          · rename_i hchk
            obtain ⟨hdst, hdeps, hne, hdd, hgd, hsf⟩ := and6 hchk
            have hne' : ∀ q ∈ L, q.i ≠ j := fun q hq => by
              have h0 := List.all_eq_true.1 hne q hq
              intro e
              rw [e] at h0; simp at h0
            have hdeps' : ∀ i ∈ depsOf o, ∃ q ∈ L, q.i = i := fun i hi => placed_iff.1 (List.all_eq_true.1 hdeps i hi)
            have hcl' : ∀ i, inb (clOf L (depsOf o)) i = true → ∃ q ∈ L, q.i = i := fun i hi => by
              obtain ⟨k, hk, e⟩ := inb_clOf.1 hi
              rcases e with rfl | e
              · exact hdeps' i hk
              · obtain ⟨q, hq, _, hqi⟩ := clR_of e
                exact hLc q hq i hqi
            have hdd' : ∀ q ∈ L, ∀ t, o.dst = some t → dstIs ops q.i t = false := fun q hq t ht => by
              unfold dstNew at hdd
              rw [ht] at hdd
              have := List.all_eq_true.1 hdd q hq
              simpa using this
            have hri : r.i = j ∧ r.cl = clOf L (depsOf o) := by
              split at h1
              · split at h1
                · split at h1
                  · split at h1
                    · simp only [Option.some.injEq, Prod.mk.injEq] at h1; rw [← h1.2.1]; exact ⟨rfl, rfl⟩
                    · cases h1
                  · cases h1
                · cases h1
              · simp only [Option.some.injEq, Prod.mk.injEq] at h1; rw [← h1.2.1]; exact ⟨rfl, rfl⟩
              · cases h1
            obtain ⟨hri, hrc⟩ := hri
            have hself : inb r.cl r.i = false := by
              rw [hrc, hri]; simpa using hsf
            have hLc2 : ∀ q ∈ L ++ [r], ∀ i, inb q.cl i = true → ∃ q' ∈ L ++ [r], q'.i = i := by
              intro q hq i hi
              rcases List.mem_append.1 hq with hq | hq
              · obtain ⟨q', h3, h4⟩ := hLc q hq i hi; exact ⟨q', List.mem_append_left _ h3, h4⟩
              · have : q = r := by simpa using hq
                subst this
                rw [hrc] at hi
                obtain ⟨q', h3, h4⟩ := hcl' i hi; exact ⟨q', List.mem_append_left _ h3, h4⟩
            obtain ⟨M, rfl, hF, hA, hPw, hT⟩ := runD_facts js (L ++ [r]) R2 dec1 dec2 ps2 h2 (mem_append_r hps) hLc2
            have hlate : ∀ q ∈ r :: M, inb r.cl q.i = false := fun q hq => by
              cases hh : inb r.cl q.i with
              | false => rfl
              | true =>
                rw [hrc] at hh
                obtain ⟨l, hl, hli⟩ := hcl' q.i hh
                rcases List.mem_cons.1 hq with rfl | hq
                · exact absurd (hli.trans hri) (hne' l hl)
                · exact absurd hli (hA l (List.mem_append_left _ hl) q hq).1
            have hLM : L ++ [r] ++ M = L ++ (r :: M) := by simp
            have he : envSel ops (L ++ [r] ++ M) (inb r.cl) env0 = envSel ops L (inb r.cl) env0 := by rw [hLM]; exact envSel_prefix hlate
            have hb : boxSel (L ++ [r] ++ M) (inb r.cl) boxes0 = boxSel L (inb r.cl) boxes0 := by rw [hLM]; exact boxSel_prefix hlate
            have hgd' : ∀ g want, o.guard = some (g, want) → inb r.cl g = true := fun g want hg => by unfold guardIn at hgd; rw [hg] at hgd; rw [hrc]; exact hgd
            have hdp : ∀ i ∈ depsOf o, inb r.cl i = true := fun i hi => by rw [hrc]; exact inb_clOf.2 ⟨i, hi, .inl rfl⟩
            have hcl2 : ∀ i, inb r.cl i = true → i ∈ depsOf o ∨ ∃ q ∈ L ++ [r] ++ M, q.i ∈ depsOf o ∧ inb q.cl i = true := fun i hi => by
              rw [hrc] at hi
              obtain ⟨k, hk, e⟩ := inb_clOf.1 hi
              rcases e with rfl | e
              · exact .inl hk
              · obtain ⟨q, hq, hqk, hqi⟩ := clR_of e
                exact .inr ⟨q, by simp [hq], by rw [hqk]; exact hk, hqi⟩
            have hkey : ∃ o, Fact P S N ops nb env0 boxes0 (L ++ [r] ++ M) r o := by
              suffices hboth : (∀ g c, lookU r.u g = some c → g = nb + r.i ∨ g ∈ r.acc) ∧ ((wantsD ops (envSel ops (L ++ [r] ++ M) (inb r.cl) env0) o = some false ∧ r.d = .val undef ∧ r.u = [] ∧ r.acc = []) ∨
                  (wantsD ops (envSel ops (L ++ [r] ++ M) (inb r.cl) env0) o = some true ∧ ∃ ps d, absOp P S (envSel ops (L ++ [r] ++ M) (inb r.cl) env0) (only r.acc (boxSel (L ++ [r] ++ M) (inb r.cl) boxes0)) (nb + r.i) o.op = some (ps, d, r.u) ∧ (∀ p ∈ ps, p) ∧
                    ∀ (w : World) (B : Nat → Prop) (h : Hist) (v : Value), Rep w B h d v → Rep w B h r.d v)) from
                ⟨o, by rw [hri]; exact ho, hdst, hself, hgd', hcl2, hdp, hboth.1, hboth.2⟩
              rw [he, hb, hrc]
              split at h1
              · rename_i hw
                split at h1
                · rename_i qs d u hop
                  split at h1
                  · rename_i hui
                    split at h1
                    · rename_i rs d' dec3 hfix
                      simp only [Option.some.injEq, Prod.mk.injEq] at h1
                      obtain ⟨rfl, rfl, rfl⟩ := h1
                      refine ⟨fun g c hg => ?_, .inr ⟨hw, qs, d, hop, mem_append_l hp1, fun w B h v hr => fixD_ok hfix (mem_append_r hp1) w B h v hr⟩⟩
                      have hin : ∀ (u : Upd), updIn (accOf (envSel ops L (inb (clOf L (depsOf o))) env0) o.op) (nb + j) u = true → lookU u g = some c → g = nb + j ∨ g ∈ accOf (envSel ops L (inb (clOf L (depsOf o))) env0) o.op := by
                        intro u
                        induction u with
                        | nil => intro _ h0; cases h0
                        | cons p u ih =>
                          intro h0 h1
                          obtain ⟨g0, c0⟩ := p
                          rw [lookU_cons] at h1
                          unfold updIn at h0
                          simp only [List.all_cons, Bool.and_eq_true] at h0
                          split at h1
                          · rename_i e
                            subst e
                            have h2 := h0.1
                            cases h3 : Nat.beq g0 (nb + j) with
                            | true => exact .inl (Nat.eq_of_beq_eq_true h3)
                            | false =>
                              rw [h3] at h2
                              exact .inr (has_iff.1 (by simpa using h2))
                          · exact ih h0.2 h1
                      exact hin u hui hg
                    · cases h1
                  · cases h1
                · cases h1
              · rename_i hw
                simp only [Option.some.injEq, Prod.mk.injEq] at h1
                obtain ⟨rfl, rfl, rfl⟩ := h1
                exact ⟨fun g c hg => (by cases hg), .inl ⟨hw, rfl, rfl, rfl⟩⟩
              · cases h1
            refine ⟨r :: M, hLM, fun q hq => ?_, fun q hq q' hq' => ?_, List.Pairwise.cons (fun q hq => hA r (by simp) q hq) hPw, fun A q B hq i hi => ?_⟩
            · rcases List.mem_cons.1 hq with rfl | hq
              · exact hkey
              · exact hF q hq
            · rcases List.mem_cons.1 hq' with rfl | hq'
              · refine ⟨by rw [hri]; exact hne' q hq, fun t h1' h2' => ?_⟩
                obtain ⟨o', ho', hdt⟩ := dstIs_iff.1 h2'
                rw [hri, ho] at ho'
                injection ho' with ho'
                subst ho'
                rw [hdd' q hq t hdt] at h1'; cases h1'
              · exact hA q (List.mem_append_left _ hq) q' hq'
            · cases A with
              | nil =>
                simp only [List.nil_append, List.cons.injEq] at hq
                obtain ⟨rfl, rfl⟩ := hq
                rw [hrc] at hi
                obtain ⟨l, hl, hli⟩ := hcl' i hi
                exact ⟨l, by simpa using hl, hli⟩
              | cons x A =>
                simp only [List.cons_append, List.cons.injEq] at hq
                obtain ⟨rfl, rfl⟩ := hq
                obtain ⟨l, hl, hli⟩ := hT A q B rfl i hi
                exact ⟨l, by simpa using hl, hli⟩
          · cases h1

def lst (listed : Array Bool) : Nat → Bool := fun i => listed.getD i false
theorem lst_set (listed : Array Bool) (j i : Nat) (hj : j < listed.size) : lst (listed.setIfInBounds j true) i = if i = j then true else lst listed i := by
  unfold lst
  by_cases h : i = j
  · subst h; simp [hj]
  · simp [h, Array.getElem?_setIfInBounds_ne (Ne.symm h)]
theorem count_set : ∀ (l : List Bool) (j : Nat), l[j]? = some false → (l.set j true).count false + 1 = l.count false
  | [], j, h => by simp at h
  | b :: l, 0, h => by simp at h; subst h; simp
  | b :: l, j + 1, h => by
    have := count_set l j (by simpa using h)
    simp only [List.set_cons_succ, List.count_cons]
    omega
theorem deps_of_after {o : Oper} {i : Nat} (h : i ∈ depsOf o) : ∃ e ∈ o.after, Region.binds .any e = true ∧ e.on = i := by
  unfold depsOf at h
  obtain ⟨e, he, rfl⟩ := List.mem_map.1 h
  obtain ⟨h1, h2⟩ := List.mem_filter.1 he
  exact ⟨e, by simpa using h1, h2, rfl⟩
theorem after_of_deps {o : Oper} {e : Edge} (h : e ∈ o.after) (hb : Region.binds .any e = true) : e.on ∈ depsOf o := by
  unfold depsOf
  exact List.mem_map.2 ⟨e, List.mem_filter.2 ⟨by simpa using h, hb⟩, rfl⟩
theorem mem_looks {o : Oper} {t : Tmp} (h : Operand.tmp t ∈ o.op.operands) : t ∈ o.looksAt ops := by
  unfold Oper.looksAt
  refine List.mem_append_left _ (List.mem_filterMap.2 ⟨.tmp t, by simpa using h, rfl⟩)
theorem mem_looks_guard {o : Oper} {g : Nat} {want : Bool} {t : Tmp} (h : o.guard = some (g, want)) (ht : (ops[g]?).bind (·.dst) = some t) : t ∈ o.looksAt ops := by
  unfold Oper.looksAt
  refine List.mem_append_right _ ?_
  rw [h]
  simp [ht]

variable {Z O : Nat → Prop} {w0 : World} {h0 : Hist} {R : List RE} {Q : Exit → Act → World → Prop}
/-- The state while a region runs. -/
structure Inv (w0 : World) (h0 : Hist) (Z O : Nat → Prop) (N : Nat) (ops : Array Oper) (nb : Nat) (env0 : Env) (boxes0 : Boxes) (R : List RE) (listed : Array Bool) (h : Hist) (a : Act) (w : World) : Prop where
  sim : Sim w0 h0 Z O N (envSel ops R (lst listed) env0) (boxSel R (lst listed) boxes0) (fun i => nb + ops.size ≤ i ∨ ∃ j, i = nb + j ∧ j < ops.size ∧ lst listed j = false) h a w
  down : ∀ r ∈ R, lst listed r.i = true → ∀ i, inb r.cl i = true → lst listed i = true
  size : listed.size = ops.size

theorem step_any (hF : ∀ r ∈ R, ∃ o, Fact P S N ops nb env0 boxes0 R r o) (hP : R.Pairwise (Apart ops)) (hT : ∀ A r B, R = A ++ r :: B → ∀ i, inb r.cl i = true → ∃ q ∈ A, q.i = i) (hI : indep ops nb R = true) (hall : ∀ i, i < ops.size → ∃ r ∈ R, r.i = i)
    {listed : Array Bool} {h : Hist} {a : Act} {w : World} (hv : Inv w0 h0 Z O N ops nb env0 boxes0 R listed h a w) {j : Nat} (hj : j ∈ Region.ready .any ops listed) {K : Act → World → Prop}
    (hK : ∀ h' a' w', Inv w0 h0 Z O N ops nb env0 boxes0 R (listed.setIfInBounds j true) h' a' w' → K a' w') : wpOp P ops Q j K a w := by
  obtain ⟨hjn, o, ho, hdeps⟩ := mem_ready.1 hj
  have hjs : j < ops.size := (Array.getElem?_eq_some_iff.1 ho).1
  have hjl : lst listed j = false := by
    unfold lst
    have : j < listed.size := by rw [hv.size]; exact hjs
    simp [this] at hjn ⊢
    exact hjn
  have hdl : ∀ d ∈ depsOf o, lst listed d = true := fun d hd => by
    obtain ⟨e, he, hb, rfl⟩ := deps_of_after hd
    exact hdeps e he hb
  obtain ⟨r, hr, hri⟩ := hall j hjs
  subst hri
  obtain ⟨o', hf⟩ := hF r hr
  obtain rfl : o' = o := by have := hf.op; rw [ho] at this; injection this with this; exact this.symm
  have hcl : ∀ i, inb r.cl i = true → lst listed i = true := fun i hi => by
    rcases hf.cl i hi with h1 | ⟨q, hq, h1, h2⟩
    · exact hdl i h1
    · exact hv.down q hq (hdl q.i h1) i h2
  -- two entries are one, where their numbers or slots meet
  have huniq : ∀ q ∈ R, (q.i = r.i ∨ ∃ t, dstIs ops q.i t = true ∧ dstIs ops r.i t = true) → q = r := by
    intro q hq hm
    have key : ∀ {L : List RE}, L.Pairwise (Apart ops) → q ∈ L → r ∈ L → q = r := by
      intro L hL hqL hrL
      induction L with
      | nil => cases hqL
      | cons x L ih =>
        obtain ⟨hx, hL'⟩ := List.pairwise_cons.1 hL
        rcases List.mem_cons.1 hqL with rfl | hqL2
        · rcases List.mem_cons.1 hrL with rfl | hrL2
          · rfl
          · obtain ⟨h1, h2⟩ := hx r hrL2
            rcases hm with hm | ⟨t, hm1, hm2⟩
            · exact absurd hm h1
            · exact (h2 t hm1 hm2).elim
        · rcases List.mem_cons.1 hrL with rfl | hrL2
          · obtain ⟨h1, h2⟩ := hx q hqL2
            rcases hm with hm | ⟨t, hm1, hm2⟩
            · exact absurd hm.symm h1
            · exact (h2 t hm2 hm1).elim
          · exact ih hL' hqL2 hrL2
    exact key hP hq hr
  have hindQ : ∀ r ∈ R, ∀ o, ops[r.i]? = some o → ∀ q ∈ R, indep1 ops nb r o q = true := fun r hr o ho q hq => by
    have h1 := List.all_eq_true.1 hI r hr
    rw [ho] at h1
    exact List.all_eq_true.1 h1 q hq
  -- what an entry q is to this one
  have hno : ∀ q ∈ R, inb q.cl r.i = true → lst listed q.i = false := fun q hq hi => by
    cases hh : lst listed q.i with
    | false => rfl
    | true => have := hv.down q hq hh r.i hi; rw [hjl] at this; cases this
  have hsame : ∀ q ∈ R, ((∃ t ∈ o'.looksAt ops, dstIs ops q.i t = true) ∨ (∃ g ∈ r.acc, (lookU q.u g).isSome = true)) → inb r.cl q.i = lst listed q.i := by
    intro q hq hm
    by_cases hqi : q.i = r.i
    · rw [hqi, hf.self, hjl]
    · have h1 := hindQ r hr o' ho q hq
      unfold indep1 at h1
      have hne : Nat.beq q.i r.i = false := by cases hb : Nat.beq q.i r.i; rfl; exact absurd (Nat.eq_of_beq_eq_true hb) hqi
      rw [hne] at h1
      dsimp only at h1
      cases h2 : inb r.cl q.i with
      | true => rw [hcl _ h2]
      | false =>
        rw [h2] at h1
        dsimp only at h1
        cases h3 : inb q.cl r.i with
        | true => rw [hno q hq h3]
        | false =>
          rw [h3] at h1
          dsimp only at h1
          exfalso
          have h4 : (!((o'.looksAt ops).any (fun t => dstIs ops q.i t))) = true ∧ (r.acc.all (fun g => (lookU q.u g).isNone)) = true := by
            cases hx : (!((o'.looksAt ops).any (fun t => dstIs ops q.i t))) <;> cases hy : (r.acc.all (fun g => (lookU q.u g).isNone)) <;> simp [hx, hy, Bool.and] at h1 ⊢
          rcases hm with ⟨t, ht, hd⟩ | ⟨g, hg, hu⟩
          · have : (o'.looksAt ops).any (fun t => dstIs ops q.i t) = true := List.any_eq_true.2 ⟨t, ht, hd⟩
            rw [this] at h4; simp at h4
          · have := List.all_eq_true.1 h4.2 g hg
            cases hx : lookU q.u g with
            | none => rw [hx] at hu; cases hu
            | some c => rw [hx] at this; cases this
  have henv : ∀ t ∈ o'.looksAt ops, envSel ops R (inb r.cl) env0 t = envSel ops R (lst listed) env0 t := fun t ht => envSel_congr (fun q hq hd => hsame q hq (.inl ⟨t, ht, hd⟩))
  have hbx : ∀ g ∈ r.acc, boxSel R (inb r.cl) boxes0 g = boxSel R (lst listed) boxes0 g := fun g hg => by
    unfold boxSel
    rw [lastU_congr (fun q hq hu => hsame q hq (.inr ⟨g, hg, hu⟩))]
  have hrepE : ∀ t ∈ o'.looksAt ops, Rep w (Bd Z h (liveB (boxSel R (lst listed) boxes0))) h (envSel ops R (inb r.cl) env0 t) (a.tmps.getD t undef) := fun t ht => by rw [henv t ht]; exact hv.sim.env t
  have honly : ∀ g c, only r.acc (boxSel R (inb r.cl) boxes0) g = some c → boxSel R (lst listed) boxes0 g = some c := fun g c hg => by
    unfold only at hg
    split at hg
    · rename_i hm; rw [← hbx g (has_iff.1 hm)]; exact hg
    · cases hg
  have hctx : Ctx w Z h (liveB (boxSel R (lst listed) boxes0)) (only r.acc (boxSel R (inb r.cl) boxes0)) :=
    ⟨hv.sim.ctx.hh, fun g c hg => ⟨c, honly g c hg⟩, fun g c hg => hv.sim.ctx.hb g c (honly g c hg)⟩
  have hwant : ∀ b, wantsD ops (envSel ops R (inb r.cl) env0) o' = some b → Region.wanted o' (yielded ops a.tmps) = b := fun b hb =>
    wantsD_ok hb (fun t ⟨g, want, hg, ht⟩ => hrepE t (mem_looks_guard hg ht))
  have hfree : h (nb + r.i) = none := hv.sim.free _ (.inr ⟨r.i, rfl, hjs, hjl⟩)
  have hsz : r.i < listed.size := by rw [hv.size]; exact hjs
  have hl : ∀ i, lst (listed.setIfInBounds r.i true) i = if i = r.i then true else lst listed i := fun i => lst_set listed r.i i hsz
  -- the state behind it, in the selections' own words
  have hback : ∀ {h' : Hist} {a' : Act} {w' : World},
      Sim w0 h0 Z O N (setE (envSel ops R (lst listed) env0) o'.dst r.d) (applyU (boxSel R (lst listed) boxes0) r.u) (fun i => (nb + ops.size ≤ i ∨ ∃ j, i = nb + j ∧ j < ops.size ∧ lst listed j = false) ∧ i ≠ nb + r.i) h' a' w' →
      Inv w0 h0 Z O N ops nb env0 boxes0 R (listed.setIfInBounds r.i true) h' a' w' := by
    intro h' a' w' hs
    have hE : setE (envSel ops R (lst listed) env0) o'.dst r.d = envSel ops R (lst (listed.setIfInBounds r.i true)) env0 := by
      funext t
      rw [setE_eq]
      split
      · rename_i hdt
        have hrt : dstIs ops r.i t = true := dstIs_iff.2 ⟨o', ho, hdt⟩
        unfold envSel
        rw [find_unique hr (by simp [hl, hrt]) (fun q hq hp => huniq q hq (.inr ⟨t, (by
          cases hx : dstIs ops q.i t with
          | true => rfl
          | false => rw [hx] at hp; cases hp), hrt⟩))]
      · rename_i hdt
        exact envSel_congr (fun q hq hd => by
          rw [hl, if_neg]
          intro hqi
          rw [hqi] at hd
          obtain ⟨o2, ho2, hd2⟩ := dstIs_iff.1 hd
          rw [ho] at ho2; injection ho2 with ho2; subst ho2
          exact hdt hd2)
    have hB : applyU (boxSel R (lst listed) boxes0) r.u = boxSel R (lst (listed.setIfInBounds r.i true)) boxes0 := by
      funext g
      unfold applyU
      cases hx : lookU r.u g with
      | some c =>
        dsimp only
        obtain ⟨A, B, hAB⟩ := List.append_of_mem hr
        have hlast : lastU (lst (listed.setIfInBounds r.i true)) g R = some c := by
          rw [hAB]
          refine lastU_mid (by rw [hl, if_pos rfl]) hx fun q hqB hq => ?_
          have hqR : q ∈ R := by rw [hAB]; simp [hqB]
          have hqr : q.i ≠ r.i := by
            have hpw := hP
            rw [hAB] at hpw
            have := (List.pairwise_cons.1 (List.pairwise_append.1 hpw).2.1).1 q hqB
            exact Ne.symm this.1
          rw [hl, if_neg hqr] at hq
          cases hy : lookU q.u g with
          | none => rfl
          | some c' =>
            exfalso
            have hnq : inb q.cl r.i = false := by
              cases h3 : inb q.cl r.i with
              | false => rfl
              | true => rw [hno q hqR h3] at hq; cases hq
            -- q is not before r
            have hnr : inb r.cl q.i = false := by
              cases h3 : inb r.cl q.i with
              | false => rfl
              | true =>
                obtain ⟨q', hq', hqi⟩ := hT A r B hAB q.i h3
                have hpw := hP
                rw [hAB] at hpw
                have := (List.pairwise_append.1 hpw).2.2 q' hq' q (List.mem_cons_of_mem _ hqB)
                exact absurd hqi this.1
            rcases hf.upd g c hx with hg | hg
            · obtain ⟨oq, hfq⟩ := hF q hqR
              rcases hfq.upd g c' hy with hg2 | hg2
              · omega
              · have h1 := hindQ q hqR oq hfq.op r hr
                unfold indep1 at h1
                have hne : Nat.beq r.i q.i = false := by cases hb : Nat.beq r.i q.i; rfl; exact absurd (Nat.eq_of_beq_eq_true hb).symm hqr
                rw [hne, hnq, hnr] at h1
                dsimp only at h1
                have hacc : has q.acc (nb + r.i) = true := has_iff.2 (by rw [← hg]; exact hg2)
                rw [hacc] at h1
                cases hx1 : (!((oq.looksAt ops).any (fun t => dstIs ops r.i t))) <;> cases hx2 : (q.acc.all (fun g => (lookU r.u g).isNone)) <;> simp [hx1, hx2, Bool.and] at h1
            · have := hsame q hqR (.inr ⟨g, hg, by rw [hy]; rfl⟩)
              rw [hnr, hq] at this; cases this
        unfold boxSel
        rw [hlast]
      | none =>
        dsimp only
        unfold boxSel
        rw [lastU_congr (s1 := lst (listed.setIfInBounds r.i true)) (s2 := lst listed) (fun q hq hu => by
          rw [hl, if_neg]
          intro hqi
          have := huniq q hq (.inl hqi)
          subst this
          rw [hx] at hu; cases hu)]
    refine ⟨⟨hs.defers, hs.size, ?_, ?_, fun i hi => hs.free i ?_, ?_, hs.keeps, hs.base⟩, fun q hq hlq i hi => ?_, by simp [hv.size]⟩
    · rw [← hE, ← hB]; exact hs.env
    · rw [← hB]; exact hs.ctx
    · rcases hi with hi | ⟨k, rfl, hk, hlk⟩
      · exact ⟨.inl hi, by omega⟩
      · rw [hl] at hlk
        split at hlk
        · cases hlk
        · rename_i hne
          exact ⟨.inr ⟨k, rfl, hk, hlk⟩, by omega⟩
    · rw [← hB]; exact hs.ge
    · rw [hl] at hlq ⊢
      split at hlq
      · rename_i hqr
        have := huniq q hq (.inl hqr)
        subst this
        split
        · rfl
        · exact hcl i hi
      · split
        · rfl
        · exact hv.down q hq hlq i hi
  unfold wpOp
  rw [ho]
  dsimp only
  rcases hf.run with ⟨hw, hd, hu, _⟩ | ⟨hw, ps, d, hop, hps, hdd⟩
  · rw [if_neg (by rw [hwant _ hw]; simp)]
    have hs := sim_after (w' := w) (id := nb + r.i) (u := []) (d := .val undef) (d' := .val undef) (v := undef) (dst := o'.dst) hv.sim (res_pure hv.sim.ctx.hh (by simp only [Rep])) hf.dst (fun _ _ _ hr => hr)
    exact hK _ _ w (hback (by rw [hd, hu]; exact hs))
  · rw [if_pos (hwant _ hw)]
    refine .inl (absOp_ok hop hps hctx hfree (fun x hx d hd => ?_) fun v w' h' hres => ?_)
    · cases x with
      | tmp t => simp only [ev, Option.some.injEq] at hd; subst hd; exact hrepE t (mem_looks hx)
      | const v => simp only [ev, Option.some.injEq] at hd; subst hd; exact rep_toD _ v
      | func f => simp only [ev, Option.some.injEq] at hd; subst hd; simp only [Rep, Reps]; exact ⟨[], rfl, rfl⟩
      | global g => simp [ev] at hd
    · exact hK _ _ w' (hback (sim_after (d' := r.d) (dst := o'.dst) hv.sim hres hf.dst (fun w'' B'' h'' hr => hdd w'' B'' h'' v hr)))

theorem all_listed (hT : ∀ A r B, R = A ++ r :: B → ∀ i, inb r.cl i = true → ∃ q ∈ A, q.i = i) (hF : ∀ r ∈ R, ∃ o, Fact P S N ops nb env0 boxes0 R r o) {listed : Array Bool} (hsz : listed.size = ops.size) (h : Region.ready .any ops listed = []) :
    ∀ (n : Nat) (A B : List RE), A.length = n → R = A ++ B → ∀ r ∈ A, lst listed r.i = true
  | 0, A, B, hn, he => by
    have : A = [] := List.eq_nil_of_length_eq_zero hn
    subst this; intro r hr; cases hr
  | n + 1, A, B, hn, he => by
    intro r hr
    obtain ⟨A', x, rfl⟩ : ∃ A' x, A = A' ++ [x] := ⟨A.dropLast, A.getLast (by intro h0; rw [h0] at hn; cases hn), (List.dropLast_concat_getLast _).symm⟩
    have ih := all_listed hT hF hsz h n A' (x :: B) (by simp at hn; omega) (by simpa using he)
    rcases List.mem_append.1 hr with hr | hr
    · exact ih r hr
    · have hrx : r = x := by simpa using hr
      subst hrx
      obtain ⟨o, hf⟩ := hF r (by rw [he]; simp)
      have hlt : r.i < ops.size := (Array.getElem?_eq_some_iff.1 hf.op).1
      cases hl : lst listed r.i with
      | true => rfl
      | false =>
        exfalso
        have hl2 : listed.getD r.i true = false := by
          unfold lst at hl
          have : r.i < listed.size := by omega
          simp [this] at hl ⊢
          exact hl
        have : r.i ∈ Region.ready .any ops listed := mem_ready.2 ⟨hl2, o, hf.op, fun e he2 hb => by
          obtain ⟨q, hq, hqi⟩ := hT A' r B (by simpa using he) e.on (hf.deps _ (after_of_deps he2 hb))
          have := ih q hq
          rw [hqi] at this
          exact this⟩
        rw [h] at this; cases this

theorem drawn_any (hF : ∀ r ∈ R, ∃ o, Fact P S N ops nb env0 boxes0 R r o) (hP : R.Pairwise (Apart ops)) (hI : indep ops nb R = true) (hall : ∀ i, i < ops.size → ∃ r ∈ R, r.i = i)
    (hT : ∀ A r B, R = A ++ r :: B → ∀ i, inb r.cl i = true → ∃ q ∈ A, q.i = i)
    (hQ : ∀ h a w, Sim w0 h0 Z O N (envSel ops R (fun _ => true) env0) (boxSel R (fun _ => true) boxes0) (fun i => nb + ops.size ≤ i) h a w → Q .normal a w) :
    ∀ (fuel : Nat) (listed : Array Bool) (h : Hist) (a : Act) (w : World), listed.toList.count false ≤ fuel → Inv w0 h0 Z O N ops nb env0 boxes0 R listed h a w → wpAny P .any ops Q fuel listed a w := by
  have hend : ∀ (listed : Array Bool) (h : Hist) (a : Act) (w : World), Inv w0 h0 Z O N ops nb env0 boxes0 R listed h a w → Region.ready .any ops listed = [] → Q .normal a w := by
    intro listed h a w hv hrd
    have hl := all_listed hT hF hv.size hrd R.length R [] rfl (by simp)
    have hE : envSel ops R (fun _ => true) env0 = envSel ops R (lst listed) env0 := by
      funext t
      exact envSel_congr (fun r hr _ => (hl r hr).symm)
    have hB : boxSel R (fun _ => true) boxes0 = boxSel R (lst listed) boxes0 := by
      funext g
      unfold boxSel
      rw [lastU_congr (s2 := lst listed) (fun r hr _ => (hl r hr).symm)]
    refine hQ h a w ?_
    rw [hE, hB]
    exact hv.sim.mono (fun i hi => .inl hi)
  have hlt : ∀ (listed : Array Bool) (j : Nat), listed.size = ops.size → j ∈ Region.ready .any ops listed → listed.toList[j]? = some false := by
    intro listed j hsz hj
    obtain ⟨h1, o, ho, _⟩ := mem_ready.1 hj
    have : j < listed.size := by rw [hsz]; exact (Array.getElem?_eq_some_iff.1 ho).1
    simp [this] at h1 ⊢
    exact h1
  intro fuel
  induction fuel with
  | zero =>
    intro listed h a w hc hv
    have hr : Region.ready .any ops listed = [] := by
      cases hrd : Region.ready .any ops listed with
      | nil => rfl
      | cons j js =>
        have hj : j ∈ Region.ready .any ops listed := by rw [hrd]; exact List.mem_cons_self ..
        have := count_set listed.toList j (hlt listed j hv.size hj)
        omega
    exact ⟨hr, hend listed h a w hv hr⟩
  | succ fuel ih =>
    intro listed h a w hc hv
    refine ⟨hend listed h a w hv, fun j hj => ?_⟩
    refine step_any hF hP hT hI hall hv hj fun h' a' w' hv' => ih _ h' a' w' ?_ hv'
    have := count_set listed.toList j (hlt listed j hv.size hj)
    rw [Array.toList_setIfInBounds]
    omega

theorem runDrawn_ok {id : Nat} {st st' : St} {ps : List Prop} (hm : P.follows .mixedOrders = true) (hx : runDrawn P S N ops st = some (ps, st')) (hps : ∀ p ∈ ps, p) {h : Hist} {a : Act} {w : World} (hs : SimS w0 h0 Z O N st h a w)
    (hQ : ∀ h' a' w', SimS w0 h0 Z O N st' h' a' w' → Q .normal a' w') : (Code.region id ops true).wp P Q a w := by
  unfold runDrawn at hx
  split at hx
  · cases hx
  · rename_i qs R dec hrun
    split at hx
    · rename_i hchk
      simp only [Option.some.injEq, Prod.mk.injEq] at hx
      obtain ⟨rfl, rfl⟩ := hx
      have hchk2 : indep ops st.nb R = true ∧ (List.range ops.size).all (placed R) = true := by
        cases h1 : indep ops st.nb R <;> cases h2 : (List.range ops.size).all (placed R) <;> simp [h1, h2, Bool.and] at hchk ⊢
      obtain ⟨hI, hall⟩ := hchk2
      obtain ⟨M, hRM, hF, _, hP, hT⟩ := runD_facts _ [] R st.dec dec qs hrun hps (fun q hq => by cases hq)
      simp only [List.nil_append] at hRM
      subst hRM
      refine wp_region_any hm (drawn_any (w0 := w0) (h0 := h0) (Z := Z) (O := O) hF hP hI (fun i hi => placed_iff.1 (List.all_eq_true.1 hall i (List.mem_range.2 hi))) (fun A r B he i hi => by simpa using hT A r B he i hi) hQ ops.size _ h a _ (by simp [List.count_replicate]) ?_)
      have hl : lst (Array.replicate ops.size false) = fun _ => false := by
        funext i
        unfold lst
        by_cases hi : i < ops.size <;> simp [hi]
      have he : envSel ops R (lst (Array.replicate ops.size false)) st.env = st.env := by
        rw [hl]; funext t; unfold envSel
        rw [List.find?_eq_none.2 (fun r _ => by cases dstIs ops r.i t <;> simp)]
      have hb : boxSel R (lst (Array.replicate ops.size false)) st.boxes = st.boxes := by
        rw [hl]; funext g; unfold boxSel
        rw [lastU_none (fun r _ hs => by cases hs)]
      refine ⟨?_, (fun r _ hi => by rw [hl] at hi; cases hi), by simp⟩
      rw [he, hb]
      have hag : ∀ B : Nat → Prop, Agree w { w with drawn := w.drawn + 1 } B B := fun B k hk _ => ⟨hk, rfl⟩
      refine ⟨hs.defers, hs.size, fun t => Rep.step (hag _) (Ext.refl _) _ _ (hs.env t), ⟨hs.ctx.hh.size (Nat.le_refl _), hs.ctx.hl, fun g c hg => ?_⟩, fun i hi => hs.free i ?_, hs.ge, ⟨hs.keeps.os, hs.keeps.tape, hs.keeps.output, hs.keeps.size, hs.keeps.block⟩, hs.base⟩
      · obtain ⟨hb', h1, h2⟩ := hs.ctx.hb g c hg
        exact ⟨hb', h1, h2.step (hag _) (Ext.refl _) (fun b _ => rfl)⟩
      · rcases hi with hi | ⟨k, rfl, _, _⟩
        · show st.nb ≤ i; omega
        · show st.nb ≤ st.nb + k; omega
    · cases hx
end
end Go.Proofs.Ytpblkjjafdfjkaa.V
