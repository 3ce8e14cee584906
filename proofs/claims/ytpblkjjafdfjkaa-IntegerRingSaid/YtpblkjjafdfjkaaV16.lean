/- Loops, round by round; functions; contracts. -/
import Derived.Test.YtpblkjjafdfjkaaV15
namespace Go.Proofs.Ytpblkjjafdfjkaa.V
open Go.RowKit
set_option linter.unusedVariables false
set_option linter.unusedSimpArgs false

/-! ### States that are told slot by slot -/
abbrev EL := List (Nat × D)
abbrev BL := List (Nat × BoxC)
def lookE : EL → Env
  | [], _ => .any
  | (t', d) :: l, t => match Nat.beq t' t with | true => d | false => lookE l t
def lookB : BL → Boxes
  | [], _ => none
  | (g', c) :: l, g => match Nat.beq g' g with | true => some c | false => lookB l g
def tmpl (e : EL) (b : BL) (nb : Nat) : St := ⟨lookE e, lookB b, nb, []⟩
def projE (env : Env) : List Nat → EL
  | [] => []
  | t :: ts => (t, env t) :: projE env ts
def projB (boxes : Boxes) : List Nat → Option BL
  | [] => some []
  | g :: gs => match boxes g, projB boxes gs with
    | some c, some l => some ((g, c) :: l)
    | _, _ => none
def inK (ids : List Nat) (k : Nat) (g : Nat) : Bool := (has ids g).or (Nat.blt g k)
def BoxC.within (p : Nat → Bool) : BoxC → Bool
  | .cells _ cs => D.within.withins p cs
  | .row _ _ _ => true
def projSt (k : Nat) (slots ids : List Nat) (nb : Nat) (st : St) : Option (EL × BL) :=
  match projB st.boxes ids with
  | some b => match ((projE st.env slots).all (fun p => p.2.within (inK ids k))).and ((b.all (fun p => p.2.within (inK ids k))).and ((ids.all (fun g => Nat.blt g nb)).and (Nat.ble k nb))) with
    | true => some (projE st.env slots, b)
    | false => none
  | none => none
theorem lookE_proj (env : Env) : ∀ (slots : List Nat) (t : Nat), lookE (projE env slots) t = if t ∈ slots then env t else .any
  | [], t => rfl
  | s :: slots, t => by
    simp only [projE, lookE]
    split
    · rename_i hb; have := Nat.eq_of_beq_eq_true hb; subst this; simp
    · rename_i hb
      have := Nat.ne_of_beq_eq_false hb
      rw [lookE_proj env slots t]
      simp [Ne.symm this]
theorem projE_mem {env : Env} {t : Nat} : ∀ {slots : List Nat}, t ∈ slots → (t, env t) ∈ projE env slots
  | s :: slots, h => by
    simp only [projE]
    rcases List.mem_cons.1 h with rfl | h
    · exact List.mem_cons_self ..
    · exact List.mem_cons_of_mem _ (projE_mem h)
theorem lookB_proj {boxes : Boxes} : ∀ {ids : List Nat} {b : BL}, projB boxes ids = some b → ∀ g, lookB b g = if g ∈ ids then boxes g else none
  | [], b, h, g => by simp only [projB, Option.some.injEq] at h; subst h; rfl
  | i :: ids, b, h, g => by
    simp only [projB] at h
    split at h
    · rename_i c l h1 h2
      simp only [Option.some.injEq] at h
      subst h
      simp only [lookB]
      split
      · rename_i hb; have := Nat.eq_of_beq_eq_true hb; subst this; simp [h1]
      · rename_i hb
        have := Nat.ne_of_beq_eq_false hb
        rw [lookB_proj h2 g]
        simp [Ne.symm this]
    · cases h
theorem lookB_mem {b : BL} {g : Nat} {c : BoxC} (h : lookB b g = some c) : (g, c) ∈ b := by
  induction b with
  | nil => cases h
  | cons p b ih =>
    obtain ⟨g', c'⟩ := p
    simp only [lookB] at h
    split at h
    · rename_i hb
      have := Nat.eq_of_beq_eq_true hb
      injection h with h
      subst this; subst h
      exact List.mem_cons_self ..
    · exact List.mem_cons_of_mem _ (ih h)
theorem and4 {a b c d : Bool} (h : a.and (b.and (c.and d)) = true) : a = true ∧ b = true ∧ c = true ∧ d = true := by
  cases a <;> cases b <;> cases c <;> cases d <;> simp_all
theorem inK_iff {ids : List Nat} {k g : Nat} : inK ids k g = true ↔ g ∈ ids ∨ g < k := by
  unfold inK
  cases h : has ids g with
  | true => simp [Bool.or, has_iff.1 h]
  | false =>
    have : g ∉ ids := fun hm => by rw [has_iff.2 hm] at h; cases h
    simp only [Bool.or, this, false_or]
    exact ⟨Nat.le_of_ble_eq_true, fun hlt => Nat.ble_eq_true_of_le hlt⟩

section
variable {P : Program} {N k : Nat}
/-- What is not told is forgotten. -/
theorem sim_proj {st : St} {slots ids : List Nat} {nb : Nat} {e : EL} {b : BL} (hx : projSt k slots ids nb st = some (e, b)) {w0 : World} {h0 : Hist} {Z O : Nat → Prop} (hk : ∀ i, k ≤ i → h0 i = none) {h : Hist} {a : Act} {w : World} {dec : List (Nat × Bool)} (hs : SimS w0 h0 Z O N st h a w) :
    ∃ h', SimS w0 h0 Z O N ⟨lookE e, lookB b, nb, dec⟩ h' a w := by
  unfold projSt at hx
  split at hx
  · rename_i b' hb'
    split at hx
    · rename_i hchk
      simp only [Option.some.injEq, Prod.mk.injEq] at hx
      obtain ⟨rfl, rfl⟩ := hx
      obtain ⟨h1, h2, h3, h4⟩ := and4 hchk
      have h4 := Nat.le_of_ble_eq_true h4
      have hlk := lookB_proj hb'
      have hlive : ∀ i, liveB (lookB b') i → liveB st.boxes i ∧ i ∈ ids := fun i ⟨c, hc⟩ => by
        rw [hlk] at hc
        split at hc
        · rename_i hm; exact ⟨⟨c, hc⟩, hm⟩
        · cases hc
      obtain ⟨h', hh'⟩ : ∃ h' : Hist, h' = fun i => match inK ids k i with | true => h i | false => none := ⟨_, rfl⟩
      have hin : ∀ g, inK ids k g = true → h' g = h g := fun g hg => by rw [hh']; simp only [hg]
      have hsome : ∀ g hb, h' g = some hb → h g = some hb := fun g hb he => by
        rw [hh'] at he
        dsimp only at he
        split at he
        · exact he
        · cases he
      have hids : ∀ i, i ∈ ids → h' i = h i := fun i hi => hin i (inK_iff.2 (.inl hi))
      have hbd : ∀ k, Bd Z h (liveB st.boxes) k → Bd Z h' (liveB (lookB b')) k := fun k hk => ⟨hk.1, fun i hb hl he => hk.2 i hb (hlive i hl).1 (hsome i hb he)⟩
      have hrep : ∀ d u, d.within (inK ids k) = true → Rep w (Bd Z h (liveB st.boxes)) h d u → Rep w (Bd Z h' (liveB (lookB b'))) h' d u := fun d u hd hr =>
        Rep.step (Agree.mono hbd) (Ext.refl _) _ _ (Rep.hist hin d u hd hr)
      refine ⟨h', hs.defers, hs.size, fun t => ?_, ⟨⟨fun i j hi hj b l1 l2 e1 e2 => hs.ctx.hh.inj i j hi hj b (hlive i l1).1 (hlive j l2).1 (hsome _ _ e1) (hsome _ _ e2), fun i hb b e1 => hs.ctx.hh.lt i hb b (hsome _ _ e1), fun i hb b l1 e1 => hs.ctx.hh.nz i hb b (hlive i l1).1 (hsome _ _ e1), hs.ctx.hh.zlt⟩, fun g c hg => ⟨c, hg⟩, fun g c hg => ?_⟩, fun i hi => ?_, fun i hb b l1 e1 => hs.ge i hb b (hlive i l1).1 (hsome _ _ e1), hs.keeps, fun g hb hg => ?_⟩
      · dsimp only
        rw [lookE_proj]
        split
        · rename_i hm
          exact hrep _ _ (List.all_eq_true.1 h1 _ (projE_mem hm)) (hs.env t)
        · simp only [Rep]
      · have hg0 := hg
        dsimp only at hg
        rw [hlk] at hg
        split at hg
        · rename_i hm
          obtain ⟨hb, he, hok⟩ := hs.ctx.hb g c hg
          refine ⟨hb, (hids g hm).trans he, ?_⟩
          have hw := List.all_eq_true.1 h2 _ (lookB_mem hg0)
          cases c with
          | cells T cs =>
            obtain ⟨b, cells, a1, a2, a3⟩ := hok
            exact ⟨b, cells, a1, a2, Reps.step (Agree.mono hbd) (Ext.refl _) _ _ (Reps.hist hin cs _ hw a3)⟩
          | row T t l => exact BoxOk1.hist (c := .row T t l) hbd rfl hok
        · cases hg
      · have hi : nb ≤ i := hi
        rw [hh']
        dsimp only
        cases hK : inK ids k i with
        | false => rfl
        | true =>
          rcases inK_iff.1 hK with h5 | h5
          · have h6 : i < nb := Nat.le_of_ble_eq_true (List.all_eq_true.1 h3 i h5)
            omega
          · omega
      · have hgk : g < k := by
          rcases Nat.lt_or_ge g k with h5 | h5
          · exact h5
          · rw [hk g h5] at hg; cases hg
        rw [hin g (inK_iff.2 (.inr hgk))]
        exact hs.base g hb hg
    · cases hx
  · cases hx
theorem Tri.pre {c : Code} {st st0 : St} {e : Ex} {st' : St} (h : Tri P N k c st0 e st') (hst : ∀ (w0 : World) (h0 : Hist) (Z O : Nat → Prop), (∀ i, k ≤ i → h0 i = none) → ∀ h a w, SimS w0 h0 Z O N st h a w → ∃ h', SimS w0 h0 Z O N st0 h' a w) : Tri P N k c st e st' :=
  fun w0 h0 Z O hk Q hh a w hs hQ => by
    obtain ⟨h', hs'⟩ := hst w0 h0 Z O hk hh a w hs
    exact h w0 h0 Z O hk Q h' a w hs' hQ

/-- What a loop does, as 'run' asks for it. -/
def lfn (k : Nat) (slots ids : List Nat) (nb : Nat) (f : EL → BL → Option (Prop × Ex × EL × BL)) : LFn := fun st =>
  match projSt k slots ids nb st with
  | some (e, b) => (match f e b with | some (pre, ex, e', b') => some (pre, ex, ⟨lookE e', lookB b', nb, st.dec⟩) | none => none)
  | none => none
theorem lfn_ok {c : Code} {slots ids : List Nat} {nb : Nat} {f : EL → BL → Option (Prop × Ex × EL × BL)} (hf : ∀ e b pre ex e' b', f e b = some (pre, ex, e', b') → pre → Tri P N k c (tmpl e b nb) ex (tmpl e' b' nb)) :
    ∀ st pre ex st', lfn k slots ids nb f st = some (pre, ex, st') → pre → Tri P N k c st ex st' := by
  intro st pre ex st' hx hp
  unfold lfn at hx
  split at hx
  · rename_i e b hpr
    split at hx
    · rename_i pre' ex' e' b' he
      simp only [Option.some.injEq, Prod.mk.injEq] at hx
      obtain ⟨rfl, rfl, rfl⟩ := hx
      have h1 := hf e b _ _ _ _ he hp
      intro w0 h0 Z O hk Q h a w hs hQ
      obtain ⟨h', hs'⟩ := sim_proj (dec := []) hpr hk hs
      exact h1 w0 h0 Z O hk Q h' a w hs' hQ
    · cases hx
  · cases hx
theorem LSok.nil {root : Code} : LSok P N k root [] := fun p f hm => by cases hm
theorem LSok.cons {root : Code} {p : List Nat} {f : LFn} {LS : List (List Nat × LFn)} (hf : ∀ st pre e st', f st = some (pre, e, st') → pre → Tri P N k (nav root p) st e st') (h : LSok P N k root LS) : LSok P N k root ((p, f) :: LS) := fun q g hm => by
  rcases List.mem_cons.1 hm with he | hm
  · injection he with h1 h2; subst h1; subst h2; exact hf
  · exact h q g hm

/-- One round of a loop. -/
def roundR (P : Program) (S : List (Spec P)) (LS : List (List Nat × LFn)) (DS : List (List Nat × List Ghost)) (N k fuel : Nat) (root : Code) (p : List Nat) (slots ids : List Nat) (nb : Nat) (outS outB : List Nat) (dec : List (Nat × Bool)) (e : EL) (b : BL) : Option (List Prop × Ex × EL × BL) :=
  match run P S LS DS N fuel (nav root (0 :: p)) (0 :: p) ⟨lookE e, lookB b, nb, dec⟩ with
  | some (ps, .normal, st) => (match projSt k slots ids nb st with | some (e', b') => some (ps, .normal, e', b') | none => none)
  | some (ps, .exit id, st) => (match projSt k outS outB nb st with | some (e', b') => some (ps, .exit id, e', b') | none => none)
  | some (ps, .ret, st) => (match projSt k outS outB nb st with | some (e', b') => some (ps, .ret, e', b') | none => none)
  | none => none
def isLoop : Code → Bool
  | .loop _ => true
  | _ => false
theorem isLoop_ok {root : Code} {p : List Nat} (h : isLoop (nav root p) = true) : nav root p = .loop (nav root (0 :: p)) := by
  simp only [nav]
  cases hc : nav root p with
  | loop c => simp [child]
  | _ => rw [hc] at h; cases h
theorem Tri.post {c : Code} {st st1 : St} {ex : Ex} {slots ids : List Nat} {nb : Nat} {e : EL} {b : BL} (h : Tri P N k c st ex st1) (hp : projSt k slots ids nb st1 = some (e, b)) : Tri P N k c st ex (tmpl e b nb) :=
  fun w0 h0 Z O hk Q hh a w hs hQ => h w0 h0 Z O hk Q hh a w hs fun h' a' w' hs' => by
    obtain ⟨h2, hs2⟩ := sim_proj (dec := []) hp hk hs'
    exact hQ h2 a' w' hs2
theorem Tri.dec {c : Code} {st : St} {ex : Ex} {st' : St} {dec : List (Nat × Bool)} (h : Tri P N k c ⟨st.env, st.boxes, st.nb, dec⟩ ex st') : Tri P N k c st ex st' := h
variable {S : List (Spec P)} {LS : List (List Nat × LFn)} {DS : List (List Nat × List Ghost)} {fuel : Nat} {root : Code} {p : List Nat} {slots ids outS outB : List Nat} {nb : Nat} {dec : List (Nat × Bool)} {e e' : EL} {b b' : BL} {ps : List Prop} {ex : Ex}
theorem round_ok (hm : P.follows .mixedOrders = true) (hLS : LSok P N k root LS) (hx : roundR P S LS DS N k fuel root p slots ids nb outS outB dec e b = some (ps, ex, e', b')) (hps : ∀ q ∈ ps, q) :
    Tri P N k (nav root (0 :: p)) (tmpl e b nb) ex (tmpl e' b' nb) := by
  unfold roundR at hx
  split at hx
  · rename_i ps1 st1 h1
    split at hx
    · rename_i e1 b1 h2
      simp only [Option.some.injEq, Prod.mk.injEq] at hx
      obtain ⟨rfl, rfl, rfl, rfl⟩ := hx
      exact Tri.post (Tri.dec (st := tmpl e b nb) (dec := dec) (run_ok hm hLS _ _ _ _ _ _ rfl h1 hps)) h2
    · cases hx
  · rename_i ps1 id st1 h1
    split at hx
    · rename_i e1 b1 h2
      simp only [Option.some.injEq, Prod.mk.injEq] at hx
      obtain ⟨rfl, rfl, rfl, rfl⟩ := hx
      exact Tri.post (Tri.dec (st := tmpl e b nb) (dec := dec) (run_ok hm hLS _ _ _ _ _ _ rfl h1 hps)) h2
    · cases hx
  · rename_i ps1 st1 h1
    split at hx
    · rename_i e1 b1 h2
      simp only [Option.some.injEq, Prod.mk.injEq] at hx
      obtain ⟨rfl, rfl, rfl, rfl⟩ := hx
      exact Tri.post (Tri.dec (st := tmpl e b nb) (dec := dec) (run_ok hm hLS _ _ _ _ _ _ rfl h1 hps)) h2
    · cases hx
  · cases hx
end

/-- A loop that comes to its end within some rounds, whatever stands behind. -/
inductive Loops (P : Program) (N k : Nat) (c : Code) : St → Ex → St → Prop where
  | out {st st' : St} {ex : Ex} : ex ≠ .normal → Tri P N k c st ex st' → Loops P N k c st ex st'
  | next {st st1 st' : St} {ex : Ex} : Tri P N k c st .normal st1 → Loops P N k c st1 ex st' → Loops P N k c st ex st'
section
variable {P : Program} {N k : Nat}
theorem Loops.rounds {c : Code} {st st' : St} {ex : Ex} (h : Loops P N k c st ex st') : ∃ n, ∀ (w0 : World) (h0 : Hist) (Z O : Nat → Prop), (∀ i, k ≤ i → h0 i = none) → ∀ (Q : Exit → Act → World → Prop) (hh : Hist) (a : Act) (w : World),
    SimS w0 h0 Z O N st hh a w → (∀ h' a' w', SimS w0 h0 Z O N st' h' a' w' → Q ex.to a' w') → Code.rounds P c Q n a w := by
  induction h with
  | @out st st' ex hne h1 =>
    refine ⟨1, fun w0 h0 Z O hk Q hh a w hs hQ => ?_⟩
    rw [rounds_succ]
    refine h1 w0 h0 Z O hk _ hh a w hs fun h' a' w' hs' => ?_
    cases ex with
    | normal => exact absurd rfl hne
    | _ => exact hQ h' a' w' hs'
  | @next st st1 st' ex h1 _ ih =>
    obtain ⟨n, hn⟩ := ih
    refine ⟨n + 1, fun w0 h0 Z O hk Q hh a w hs hQ => ?_⟩
    rw [rounds_succ]
    exact h1 w0 h0 Z O hk _ hh a w hs fun h' a' w' hs' => hn w0 h0 Z O hk Q h' a' w' hs' hQ
theorem Loops.tri {c : Code} {st st' : St} {ex : Ex} (h : Loops P N k c st ex st') : Tri P N k (.loop c) st ex st' := fun w0 h0 Z O hk Q hh a w hs hQ => by
  obtain ⟨n, hn⟩ := h.rounds
  exact wp_loop_rounds n (hn w0 h0 Z O hk Q hh a w hs hQ)
/-- The loop at a place. -/
theorem Loops.at {root : Code} {p : List Nat} (hl : isLoop (nav root p) = true) {st st' : St} {ex : Ex} (h : Loops P N k (nav root (0 :: p)) st ex st') : Tri P N k (nav root p) st ex st' := by
  rw [isLoop_ok hl]; exact h.tri
end

/-! ### A function -/
def resD1 (P : Program) (st : St) : ResultVar → Option D
  | .tmp t => some (st.env t)
  | .cell a T => match absLoad P st.boxes T (st.env a) with
    | some ([], d) => some d
    | _ => none
def resDs (P : Program) (st : St) : List ResultVar → Option (List D)
  | [] => some []
  | r :: rs => match resD1 P st r, resDs P st rs with
    | some d, some ds => some (d :: ds)
    | _, _ => none
def resD (P : Program) (fn : Func) (st : St) : Option D := match resDs P st fn.results.toList with
  | some [d] => some d
  | some ds => some (.tup ds)
  | none => none
def resV (tmps : Array Value) : ResultVar → Sem Value
  | .tmp t => pure (tmps.getD t undef)
  | .cell a t => do loadVar t (← asAddr (tmps.getD a undef))

section
variable {P : Program} {S : List (Spec P)} {w0 w : World} {h0 : Hist} {Z O : Nat → Prop} {N fuel : Nat} {st : St} {h : Hist} {a : Act}
theorem resDs_ok (hs : SimS w0 h0 Z O N st h a w) : ∀ (rs : List ResultVar) (ds : List D), resDs P st rs = some ds →
    ∃ us, (rs.mapM (resV a.tmps)).run P w = .ok us w ∧ Reps w (Bd Z h (liveB st.boxes)) h ds us
  | [], ds, hx => by simp only [resDs, Option.some.injEq] at hx; subst hx; exact ⟨[], by simp, by simp [Reps]⟩
  | r :: rs, ds, hx => by
    simp only [resDs] at hx
    split at hx
    · rename_i d ds' h1 h2
      simp only [Option.some.injEq] at hx; subst hx
      obtain ⟨us, hu, hr⟩ := resDs_ok hs rs ds' h2
      have hone : ∃ u, (resV a.tmps r).run P w = .ok u w ∧ Rep w (Bd Z h (liveB st.boxes)) h d u := by
        cases r with
        | tmp t => simp only [resD1, Option.some.injEq] at h1; subst h1; exact ⟨_, by simp [resV], hs.env t⟩
        | cell b T =>
          simp only [resD1] at h1
          split at h1
          · rename_i d' hl
            simp only [Option.some.injEq] at h1; subst h1
            obtain ⟨u, hu, hru⟩ := load_ok hs.ctx hl (fun _ hp => by cases hp) (hs.env b)
            refine ⟨u, ?_, hru⟩
            have hptr : ∃ ad : Addr, a.tmps.getD b undef = .pointer (some ad) := by
              generalize a.tmps.getD b undef = v at hu
              cases v with
              | pointer p =>
                cases p with
                | some ad => exact ⟨ad, rfl⟩
                | none => simp [Instr.loadAt, Instr.sureAddr, stuck] at hu
              | _ => simp [Instr.loadAt, Instr.sureAddr, stuck] at hu
            obtain ⟨ad, he⟩ := hptr
            rw [he] at hu
            simp only [resV, he, Sem.run_bind, asAddr, Sem.run_pure, Result.andThen_ok]
            simpa [Instr.loadAt, Instr.sureAddr] using hu
          · cases h1
      obtain ⟨u, hu1, hr1⟩ := hone
      refine ⟨u :: us, ?_, by simp only [Reps]; exact ⟨u, us, rfl, hr1, hr⟩⟩
      simp only [List.mapM_cons, Sem.run_bind, hu1, Result.andThen_ok, hu, Sem.run_pure]
    · cases hx
theorem resD_ok {fn : Func} {d : D} (hs : SimS w0 h0 Z O N st h a w) (hx : resD P fn st = some d) : ∃ u, (results fn a.tmps).run P w = .ok u w ∧ Rep w (Bd Z h (liveB st.boxes)) h d u := by
  unfold resD at hx
  have hA : ∀ us, (fn.results.toList.mapM (resV a.tmps)).run P w = .ok us w →
      (results fn a.tmps).run P w = .ok (if h : us.toArray.size = 1 then us.toArray[0] else .tuple us.toArray) w := by
    intro us hus
    have he : results fn a.tmps = (do let vs ← fn.results.mapM (resV a.tmps); pure (if h : vs.size = 1 then vs[0] else .tuple vs)) := rfl
    rw [he, Array.mapM_eq_mapM_toList]
    simp [Sem.run_bind, Sem.run_map, hus, Result.andThen_ok, Sem.run_pure]
  split at hx
  · rename_i d' hds
    simp only [Option.some.injEq] at hx; subst hx
    obtain ⟨us, hu, hr⟩ := resDs_ok hs _ _ hds
    simp only [Reps] at hr
    obtain ⟨u, us', rfl, hr1, rfl⟩ := hr
    exact ⟨u, by have := hA _ hu; simpa using this, hr1⟩
  · rename_i ds hne hds
    simp only [Option.some.injEq] at hx; subst hx
    obtain ⟨us, hu, hr⟩ := resDs_ok hs _ _ hds
    have hl := hr.length
    have h1 : us.length ≠ 1 := by
      intro h1
      rw [h1] at hl
      match ds, hl with
      | [d], _ => exact hne d rfl
    refine ⟨.tuple us.toArray, ?_, by simp only [Rep]; exact ⟨us, rfl, hr⟩⟩
    have := hA _ hu
    simpa [h1] using this
  · cases hx
end

def rootOf (P : Program) (f : FuncId) : Code := match P.funcs[f]? with
  | some fn => (match fn.body with | some c => c | none => .skip)
  | none => .skip
def tmpsOf (P : Program) (f : FuncId) : Nat := match P.funcs[f]? with
  | some fn => fn.ntmps
  | none => 0
def env0 (ds : List D) : Env := fun t => match ds[t]? with | some d => d | none => .val undef
def outD (k : Nat) (boxes : Boxes) (d : D) : Option D :=
  match d.within (fun g => Nat.blt g k) with
  | true => some d
  | false => match dataD boxes d with
    | some (d', cons) => (match (cons.all (fun g => Nat.ble k g)).and d'.free with | true => some d' | false => none)
    | none => none
/-- The function, along one path. -/
def evalG (P : Program) (S : List (Spec P)) (LS : List (List Nat × LFn)) (DS : List (List Nat × List Ghost)) (fuel : Nat) (f : FuncId) (dec : List (Nat × Bool)) (ds : List D) (bx : List BoxC) : Option (List Prop × D × List BoxC) :=
  match P.funcs[f]? with
  | none => none
  | some fn => match fn.body with
    | none => none
    | some c => match Nat.ble ds.length fn.ntmps with
      | true => match run P S LS DS fn.ntmps fuel c [] ⟨env0 ds, fun i => bx[i]?, bx.length, dec⟩ with
        | some (ps, e, st) => (match e with
          | .exit _ => none
          | _ => (match resD P fn st with
            | some d => (match outD bx.length st.boxes d, boxesOf st.boxes (List.range bx.length) with
              | some d', some bx' => (match bx'.all BoxC.plain with | true => some (ps, d', bx') | false => none)
              | _, _ => none)
            | none => none))
        | none => none
      | false => none
theorem evalG_ok {P : Program} {S : List (Spec P)} {LS : List (List Nat × LFn)} {DS : List (List Nat × List Ghost)} {fuel : Nat} {f : FuncId} {dec : List (Nat × Bool)} {ds : List D} {bx bx' : List BoxC} {ps : List Prop} {d : D} (hm : P.follows .mixedOrders = true)
    (hLS : LSok P (tmpsOf P f) bx.length (rootOf P f) LS) (hx : evalG P S LS DS fuel f dec ds bx = some (ps, d, bx')) (hps : ∀ p ∈ ps, p) : GCt P f bx ds d bx' := by
  unfold evalG at hx
  split at hx
  · cases hx
  · rename_i fn hf
    split at hx
    · cases hx
    · rename_i c hb
      split at hx
      · rename_i hlen
        have hlen := Nat.le_of_ble_eq_true hlen
        split at hx
        · rename_i ps' e st hrun
          have hroot : rootOf P f = c := by unfold rootOf; simp only [hf, hb]
          have htm : tmpsOf P f = fn.ntmps := by unfold tmpsOf; simp only [hf]
          rw [hroot, htm] at hLS
          have key : (e = .normal ∨ e = .ret) → ∀ d1, resD P fn st = some d1 → outD bx.length st.boxes d1 = some d → boxesOf st.boxes (List.range bx.length) = some bx' → bx'.all BoxC.plain = true → (∀ p ∈ ps', p) → GCt P f bx ds d bx' := by
            intro he d1 hres hout hbx hpl hps w Z h us hheap hnone hboxes hus
            refine calls_of_wp hf hb ?_
            have hl : us.length = ds.length := hus.length
            have hlive : liveB (fun i => bx[i]?) = fun i => i < bx.length := by
              funext i
              apply propext
              unfold liveB
              constructor
              · rintro ⟨c, hc⟩; exact (List.getElem?_eq_some_iff.1 hc).1
              · intro hi; exact ⟨_, List.getElem?_eq_getElem hi⟩
            have hsim : SimS w h Z (fun k => ∃ i hb, i < bx.length ∧ h i = some hb ∧ hb.blk = some k) fn.ntmps ⟨env0 ds, fun i => bx[i]?, bx.length, dec⟩ h { tmps := us.toArray ++ Array.replicate (fn.ntmps - us.toArray.size) undef, defers := [] } w := by
              refine ⟨rfl, ?_, fun t => ?_, ⟨by dsimp only; rw [hlive]; exact hheap, fun g c hg => ⟨c, hg⟩, by dsimp only; rw [hlive]; exact hboxes⟩, fun i hi => hnone i hi, fun i hb b hl he hbl => .inr ⟨i, hb, by dsimp only at hl; rw [hlive] at hl; exact hl, he, hbl⟩, Keeps.refl _ _, Ext.refl _⟩
              · simp only [Array.size_append, Array.size_replicate, List.size_toArray]; omega
              · dsimp only
                rw [hlive]
                unfold env0
                cases hd : ds[t]? with
                | some d0 =>
                  obtain ⟨u, hu, hr⟩ := hus.get t d0 hd
                  have : (us.toArray ++ Array.replicate (fn.ntmps - us.toArray.size) undef).getD t undef = u := by
                    have ht : t < us.length := (List.getElem?_eq_some_iff.1 hu).1
                    rw [Array.getD_eq_getD_getElem?, Array.getElem?_append]
                    simp only [List.size_toArray, ht, if_true]; simp [hu]
                  rw [this]; exact hr
                | none =>
                  have ht : us.length ≤ t := by rw [hl]; exact List.getElem?_eq_none_iff.1 hd
                  simp only [Rep]
                  rw [Array.getD_eq_getD_getElem?, Array.getElem?_append]
                  simp only [List.size_toArray, Nat.not_lt.2 ht, if_false]
                  rw [Array.getElem?_replicate]
                  split <;> rfl
            refine run_ok hm hLS c [] _ _ _ _ rfl hrun hps w h Z _ hnone _ h _ w hsim fun h' a' w' hs' => ?_
            obtain ⟨u, hu, hr⟩ := resD_ok hs' hres
            obtain ⟨hbl, hbg⟩ := boxesOf_ok hbx
            rw [List.length_range] at hbl
            have hbg' : ∀ i c, bx'[i]? = some c → st.boxes i = some c := fun i c hi => by
              have hlt : i < bx.length := by rw [← hbl]; exact (List.getElem?_eq_some_iff.1 hi).1
              obtain ⟨c', h1, h2⟩ := hbg i i (by rw [List.getElem?_range hlt])
              rw [hi] at h1; injection h1 with h1; subst h1
              exact h2
            have hsame : ∀ i, i < bx.length → h' i = h i := fun i hi => by
              obtain ⟨hb, he, _⟩ := hboxes i _ (List.getElem?_eq_getElem hi)
              rw [hs'.base i hb he, he]
            have hlive' : ∀ i, i < bx.length → liveB st.boxes i := fun i hi => ⟨bx'[i]'(by omega), hbg' i _ (List.getElem?_eq_getElem (by omega))⟩
            have hbd : ∀ k, Bd Z h' (liveB st.boxes) k → Bd Z h (fun i => i < bx.length) k := fun k hk => ⟨hk.1, fun i hb hi he => hk.2 i hb (hlive' i hi) ((hsame i hi).trans he)⟩
            have hrep : Rep w' (Bd Z h (fun i => i < bx.length)) h d u := by
              unfold outD at hout
              split at hout
              · rename_i hw
                simp only [Option.some.injEq] at hout; subst hout
                exact Rep.step (Agree.mono hbd) (Ext.refl _) _ _ (Rep.hist (p := fun g => Nat.blt g bx.length) (fun g hg => (hsame g (Nat.le_of_ble_eq_true hg)).symm) _ _ hw hr)
              · split at hout
                · rename_i d2 cons hdd
                  split at hout
                  · rename_i hc
                    simp only [Option.some.injEq] at hout; subst hout
                    have hc2 : cons.all (fun g => Nat.ble bx.length g) = true ∧ d2.free = true := by
                      cases h1 : cons.all (fun g => Nat.ble bx.length g) <;> cases h2 : d2.free <;> simp [h1, h2, Bool.and] at hc ⊢
                    obtain ⟨_, a2⟩ := datas_ok.dataD_ok hs'.ctx hdd hr
                    have := a2 _ (bd_dead (c := .cells 0 []))
                    refine Rep.step (Agree.mono fun k hk => ?_) (Ext.refl _) _ _ (Rep.hist (p := fun _ => false) (fun _ hp => by cases hp) _ _ hc2.2 this)
                    exact ⟨hk.1, fun i hb hi he => hk.2 i hb ⟨hlive' i hi, fun hm => by
                      have := Nat.le_of_ble_eq_true (List.all_eq_true.1 hc2.1 i hm)
                      have hi : i < bx.length := hi
                      omega⟩ ((hsame i hi).trans he)⟩
                  · cases hout
                · cases hout
            have hend : a'.defers = [] ∧ ∃ v, (results fn a'.tmps).run P w' = .ok v w' ∧ (∃ v2, Ending.returned v = .returned v2 ∧ Rep w' (Bd Z h (fun i => i < bx.length)) h d v2 ∧ bx'.length = bx.length ∧
                BoxesOk w' (Bd Z h (fun i => i < bx.length)) h (fun i => bx'[i]?) ∧ Keeps w w' (fun k => ∃ i hb, i < bx.length ∧ h i = some hb ∧ hb.blk = some k)) := by
              refine ⟨hs'.defers, u, hu, u, rfl, hrep, hbl, fun i c hi => ?_, hs'.keeps⟩
              have hi : bx'[i]? = some c := hi
              have hlt : i < bx.length := by rw [← hbl]; exact (List.getElem?_eq_some_iff.1 hi).1
              obtain ⟨hb, he, hok⟩ := hs'.ctx.hb i c (hbg' i c hi)
              exact ⟨hb, (hsame i hlt).symm.trans he, hok.hist hbd (List.all_eq_true.1 hpl c (List.mem_of_getElem? hi))⟩
            rcases he with rfl | rfl <;> exact hend
          split at hx
          · cases hx
          · rename_i hne
            split at hx
            · rename_i d1 hres
              split at hx
              · rename_i d2 bx2 h1 h2
                split at hx
                · rename_i h3
                  simp only [Option.some.injEq, Prod.mk.injEq] at hx
                  obtain ⟨rfl, rfl, rfl⟩ := hx
                  refine key ?_ d1 hres h1 h2 h3 hps
                  cases e with
                  | normal => exact .inl rfl
                  | ret => exact .inr rfl
                  | exit id => exact absurd rfl (hne id)
                · cases hx
              · cases hx
            · cases hx
        · cases hx
      · cases hx
end Go.Proofs.Ytpblkjjafdfjkaa.V
