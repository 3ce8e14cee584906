/- Code as a whole: 'run', with loops told by what they do, and that it is so. -/
import Derived.Test.YtpblkjjafdfjkaaV14
import Derived.LoopN
import Derived.Scope
namespace Go.Proofs.Ytpblkjjafdfjkaa.V
open Go.RowKit
set_option linter.unusedVariables false
set_option linter.unusedSimpArgs false

/-- How a piece of code is left. -/
inductive Ex where
  | normal
  | exit (id : Nat)
  | ret
def Ex.to : Ex → Exit
  | .normal => .normal
  | .exit id => .exit id
  | .ret => .ret
/-- From the one state the code comes to the other. k: how many boxes came in. -/
def Tri (P : Program) (N k : Nat) (c : Code) (st : St) (e : Ex) (st' : St) : Prop :=
  ∀ (w0 : World) (h0 : Hist) (Z O : Nat → Prop), (∀ i, k ≤ i → h0 i = none) → ∀ (Q : Exit → Act → World → Prop) (h : Hist) (a : Act) (w : World), SimS w0 h0 Z O N st h a w → (∀ h' a' w', SimS w0 h0 Z O N st' h' a' w' → Q e.to a' w') → c.wp P Q a w

def child : Code → Nat → Code
  | .seq a b, i => match i with | 0 => a | _ => b
  | .cond _ a b, i => match i with | 0 => a | _ => b
  | .block _ c, _ => c
  | .loop c, _ => c
  | .scope c, _ => c
  | c, _ => c
def nav (root : Code) : List Nat → Code
  | [] => root
  | i :: p => child (nav root p) i
def eqL : List Nat → List Nat → Bool
  | [], [] => true
  | a :: l, b :: m => match Nat.beq a b with | true => eqL l m | false => false
  | _, _ => false
theorem eqL_ok : ∀ {l m : List Nat}, eqL l m = true → l = m
  | [], [], _ => rfl
  | a :: l, b :: m, h => by
    simp only [eqL] at h
    split at h
    · rename_i hb; rw [Nat.eq_of_beq_eq_true hb, eqL_ok h]
    · cases h
  | [], b :: m, h => by cases h
  | a :: l, [], h => by cases h
def lookP {α : Type} : List (List Nat × α) → List Nat → Option α
  | [], _ => none
  | (p, x) :: l, q => match eqL p q with | true => some x | false => lookP l q
theorem lookP_mem {α : Type} {x : α} {q : List Nat} : ∀ {l : List (List Nat × α)}, lookP l q = some x → (q, x) ∈ l
  | [], h => by cases h
  | (p, y) :: l, h => by
    simp only [lookP] at h
    split at h
    · rename_i he
      injection h with h
      subst h
      rw [eqL_ok he]; exact List.mem_cons_self ..
    · exact List.mem_cons_of_mem _ (lookP_mem h)

/-! ### Steps of the datum alone -/
/-- A box is given up: it reads as plain data from now on. -/
def frz (g : Nat) (c : BoxC) : D → D
  | .box g' off => match Nat.beq g' g with | true => (match c with | .cells _ cs => .ptr cs off | _ => .any) | false => .box g' off
  | .own g' => match Nat.beq g' g with | true => (match c with | .row _ t l => .sl t l | _ => .any) | false => .own g'
  | .win g' sz off n => match Nat.beq g' g with | true => (match c with | .row _ t l => if sz = t.size then .sl t (win l off n) else .any | _ => .any) | false => .win g' sz off n
  | .rel g' sz e j => match Nat.beq g' g with | true => (match c with | .row _ t l => if sz = t.size then .elt t l e j else .any | _ => .any) | false => .rel g' sz e j
  | .agg cs => .agg (frzs g c cs)
  | .tup cs => .tup (frzs g c cs)
  | .ptr cs off => .ptr (frzs g c cs) off
  | .clo f cs => .clo f (frzs g c cs)
  | d => d
where frzs (g : Nat) (c : BoxC) : List D → List D
  | [] => []
  | d :: ds => frz g c d :: frzs g c ds
def frzB (g : Nat) (c : BoxC) : BoxC → BoxC
  | .cells T cs => .cells T (frz.frzs g c cs)
  | .row T t l => .row T t l
inductive Ghost where
  | freeze (g : Nat)
  | adopt (t : Nat) (e : TypeId)
  | fix (t g : Nat)
/-- Box g is called g2 from now on (and g2, which nobody bears yet, g2 + 1). -/
def fixF (g g2 i : Nat) : Nat := match Nat.beq i g with | true => g2 | false => (match Nat.beq i g2 with | true => g2 + 1 | false => i)
def boxOf : D → Option Nat
  | .box g _ => some g
  | .own g => some g
  | .win g _ _ _ => some g
  | .rel g _ _ _ => some g
  | _ => none
def renB (f : Nat → Nat) : BoxC → BoxC
  | .cells T cs => .cells T (D.ren.rens f cs)
  | .row T t l => .row T t l
def ghost1 (P : Program) (st : St) : Ghost → Option St
  | .freeze g => match st.boxes g with
    | some c => some ⟨fun t => frz g c (st.env t), fun i => match Nat.beq i g with | true => none | false => (match st.boxes i with | some c' => some (frzB g c c') | none => none), st.nb, st.dec⟩
    | none => none
  | .adopt t e => match st.env t, elemTy P e with
    | .val (.slice none 0 0), some ⟨ty, _, _⟩ => some ⟨setE st.env (some t) (.own st.nb), applyU st.boxes [(st.nb, some (.row e ty []))], st.nb + 1, st.dec⟩
    | _, _ => none
  | .fix t g2 => match boxOf (st.env t) with
    | some g => (match st.boxes g, Nat.ble st.nb g2 with
      | some c, true => some ⟨fun t => (st.env t).ren (fixF g g2), fun i => match Nat.beq i g2 with | true => some (renB (fixF g g2) c) | false => (match Nat.beq i g with | true => none | false => (match st.boxes i with | some c' => some (renB (fixF g g2) c') | none => none)), g2 + 1, st.dec⟩
      | _, _ => none)
    | none => none
def ghosts (P : Program) : List Ghost → St → Option St
  | [], st => some st
  | g :: gs, st => match ghost1 P st g with | some st1 => ghosts P gs st1 | none => none

section
variable {P : Program} {w0 w : World} {h0 : Hist} {Z O : Nat → Prop} {N : Nat} {h : Hist} {env : Env} {a : Act} {boxes : Boxes} {fr : Nat → Prop}
mutual
theorem frz_ok {live live' : Nat → Prop} (c : Ctx w Z h live boxes) {g : Nat} {bc : BoxC} (hg : boxes g = some bc) (hd : Dead live live' [g]) : ∀ (d : D) (u : Value), Rep w (Bd Z h live) h d u → Rep w (Bd Z h live') h (frz g bc d) u
  | .any, _, _ => by simp only [frz, Rep]
  | .val _, _, hr => by simpa only [frz, Rep] using hr
  | .sl t l, u, hr => by simp only [frz, Rep] at hr ⊢; exact RepT.step (Agree.mono fun k hk => hk.less hd.1) hr
  | .elt t l i j, u, hr => by simp only [frz]; exact Rep.step (Agree.mono fun k hk => hk.less hd.1) (Ext.refl _) _ _ hr
  | .arr t l, u, hr => by simp only [frz]; exact Rep.step (Agree.mono fun k hk => hk.less hd.1) (Ext.refl _) _ _ hr
  | .agg cs, u, hr => by simp only [frz, Rep] at hr ⊢; obtain ⟨vs, rfl, hv⟩ := hr; exact ⟨vs, rfl, frzs_ok c hg hd cs vs hv⟩
  | .tup cs, u, hr => by simp only [frz, Rep] at hr ⊢; obtain ⟨vs, rfl, hv⟩ := hr; exact ⟨vs, rfl, frzs_ok c hg hd cs vs hv⟩
  | .clo f cs, u, hr => by simp only [frz, Rep] at hr ⊢; obtain ⟨vs, rfl, hv⟩ := hr; exact ⟨vs, rfl, frzs_ok c hg hd cs vs hv⟩
  | .ptr cs off, u, hr => by
    simp only [frz, Rep] at hr ⊢
    obtain ⟨b, cells, T, rfl, hb, hc, hr⟩ := hr
    exact ⟨b, cells, T, rfl, hb.less hd.1, hc, frzs_ok c hg hd cs _ hr⟩
  | .box g' off, u, hr => by
    simp only [frz]
    split
    · rename_i he
      have he := Nat.eq_of_beq_eq_true he
      subst he
      cases bc with
      | row T t l => simp only [Rep]
      | cells T cs =>
        simp only [Rep] at hr ⊢
        obtain ⟨hb, b, h1, h2, rfl⟩ := hr
        obtain ⟨hb', h1', b', cells, h2', h3, h4⟩ := c.hb _ _ hg
        rw [h1] at h1'; injection h1' with h1'; subst h1'
        rw [h2] at h2'; injection h2' with h2'; subst h2'
        exact ⟨b, cells, T, rfl, c.bd (c.hl _ _ hg) h1 h2 hd.1 (hd.2 _ (List.mem_singleton.2 rfl)), h3, Reps.step (Agree.mono fun k hk => hk.less hd.1) (Ext.refl _) _ _ h4⟩
    · exact Rep.step (Agree.mono fun k hk => hk.less hd.1) (Ext.refl _) _ _ hr
  | .own g', u, hr => by
    simp only [frz]
    split
    · rename_i he
      have he := Nat.eq_of_beq_eq_true he
      subst he
      cases bc with
      | cells T cs => simp only [Rep]
      | row T t l => simp only [Rep]; exact own_slice c hg hr hd
    · exact Rep.step (Agree.mono fun k hk => hk.less hd.1) (Ext.refl _) _ _ hr
  | .win g' sz off n, u, hr => by
    simp only [frz]
    split
    · rename_i he
      have he := Nat.eq_of_beq_eq_true he
      subst he
      cases bc with
      | cells T cs => simp only [Rep]
      | row T t l =>
        dsimp only
        split
        · rename_i hs; simp only [Rep]; exact win_slice c hg hs hr hd
        · simp only [Rep]
    · exact Rep.step (Agree.mono fun k hk => hk.less hd.1) (Ext.refl _) _ _ hr
  | .rel g' sz e j, u, hr => by
    simp only [frz]
    split
    · rename_i he
      have he := Nat.eq_of_beq_eq_true he
      subst he
      cases bc with
      | cells T cs => simp only [Rep]
      | row T t l =>
        dsimp only
        split
        · rename_i hs
          subst hs
          obtain ⟨hb, b, cur, h1, h2, rfl, h3, h4, h5, h6, h7, h8, h9, h10, h11⟩ := row_elem c hg hr
          simp only [Rep]
          exact ⟨⟨b, e * t.size, none⟩, _, l.getD e t.zero, by rw [add_at], c.bd (c.hl _ _ hg) h1 h2 hd.1 (hd.2 _ (List.mem_singleton.2 rfl)), c.hh.lt _ hb b h1 h2, by simp [List.getD, List.getElem?_eq_getElem h4], RepT.step (Agree.mono fun k hk => hk.less hd.1) h10, h11⟩
        · simp only [Rep]
    · exact Rep.step (Agree.mono fun k hk => hk.less hd.1) (Ext.refl _) _ _ hr
theorem frzs_ok {live live' : Nat → Prop} (c : Ctx w Z h live boxes) {g : Nat} {bc : BoxC} (hg : boxes g = some bc) (hd : Dead live live' [g]) : ∀ (ds : List D) (us : List Value), Reps w (Bd Z h live) h ds us → Reps w (Bd Z h live') h (frz.frzs g bc ds) us
  | [], _, hr => by simpa only [frz.frzs, Reps] using hr
  | d :: ds, us, hr => by
    simp only [frz.frzs, Reps] at hr ⊢
    obtain ⟨u, us', rfl, h1, h2⟩ := hr
    exact ⟨u, us', rfl, frz_ok c hg hd d u h1, frzs_ok c hg hd ds us' h2⟩
end
theorem within_all : ∀ (d : D), d.within (fun _ => true) = true
  | .any => rfl
  | .val _ => rfl
  | .sl _ _ => rfl
  | .agg cs => by simpa only [D.within] using withins_all cs
  | .tup cs => by simpa only [D.within] using withins_all cs
  | .box _ _ => rfl
  | .own _ => rfl
  | .win _ _ _ _ => rfl
  | .rel _ _ _ _ => rfl
  | .elt _ _ _ _ => rfl
  | .ptr cs _ => by simpa only [D.within] using withins_all cs
  | .clo _ cs => by simpa only [D.within] using withins_all cs
  | .arr _ _ => rfl
where withins_all : ∀ (ds : List D), D.within.withins (fun _ => true) ds = true
  | [] => rfl
  | d :: ds => by simp only [D.within.withins, within_all d, withins_all ds, Bool.and_self]
theorem fix_ok {st st' : St} {t g2 : Nat} (hx : ghost1 P st (.fix t g2) = some st') (hs : SimS w0 h0 Z O N st h a w) : ∃ h', SimS w0 h0 Z O N st' h' a w := by
  simp only [ghost1] at hx
  split at hx
  · rename_i g hg
    split at hx
    · rename_i c hc hle
      have hle : st.nb ≤ g2 := Nat.le_of_ble_eq_true hle
      simp only [Option.some.injEq] at hx
      subst hx
      obtain ⟨hb, he, hok⟩ := hs.ctx.hb g c hc
      have hn2 : h g2 = none := hs.free _ hle
      have hn3 : h (g2 + 1) = none := hs.free _ (show st.nb ≤ g2 + 1 by omega)
      have hne : g ≠ g2 := fun e => by subst e; rw [hn2] at he; cases he
      have hP : ∀ i, (fun _ : Nat => true) i = true → setH h g2 hb (fixF g g2 i) = h i := by
        intro i _
        unfold fixF
        split
        · rename_i e; have e := Nat.eq_of_beq_eq_true e; subst e; rw [setH_same, he]
        · split
          · rename_i e; have e := Nat.eq_of_beq_eq_true e; subst e
            rw [setH_ne h _ (by omega), hn3, hn2]
          · rename_i e; rw [setH_ne h _ (Nat.ne_of_beq_eq_false e)]
      obtain ⟨bx, hbx⟩ : ∃ bx : Boxes, bx = fun i => match Nat.beq i g2 with | true => some (renB (fixF g g2) c) | false => (match Nat.beq i g with | true => none | false => (match st.boxes i with | some c' => some (renB (fixF g g2) c') | none => none)) := ⟨_, rfl⟩
      have hcase : ∀ i c', bx i = some c' → (i = g2 ∧ c' = renB (fixF g g2) c) ∨ (i ≠ g2 ∧ i ≠ g ∧ ∃ c0, st.boxes i = some c0 ∧ c' = renB (fixF g g2) c0) := by
        intro i c' hi
        rw [hbx] at hi
        dsimp only at hi
        split at hi
        · rename_i e; injection hi with hi; exact .inl ⟨Nat.eq_of_beq_eq_true e, hi.symm⟩
        · rename_i e
          split at hi
          · cases hi
          · rename_i e2
            split at hi
            · rename_i c0 h0; injection hi with hi; exact .inr ⟨Nat.ne_of_beq_eq_false e, Nat.ne_of_beq_eq_false e2, c0, h0, hi.symm⟩
            · cases hi
      have hlive : ∀ i, liveB bx i → (i = g2 ∧ liveB st.boxes g ∧ setH h g2 hb i = h g) ∨ (i ≠ g2 ∧ i ≠ g ∧ liveB st.boxes i ∧ setH h g2 hb i = h i) := by
        rintro i ⟨c', hi⟩
        rcases hcase i c' hi with ⟨e, _⟩ | ⟨e1, e2, c0, h0, _⟩
        · subst e; exact .inl ⟨rfl, ⟨c, hc⟩, by rw [setH_same, he]⟩
        · exact .inr ⟨e1, e2, ⟨c0, h0⟩, setH_ne h _ e1⟩
      have hbd : ∀ k, Bd Z h (liveB st.boxes) k → Bd Z (setH h g2 hb) (liveB bx) k := fun k hk => ⟨hk.1, fun i hb' hi he' => by
        rcases hlive i hi with ⟨_, h1, h2⟩ | ⟨_, _, h1, h2⟩
        · exact hk.2 g hb' h1 (h2 ▸ he')
        · exact hk.2 i hb' h1 (h2 ▸ he')⟩
      have hrep : ∀ d u, Rep w (Bd Z h (liveB st.boxes)) h d u → Rep w (Bd Z (setH h g2 hb) (liveB bx)) (setH h g2 hb) (d.ren (fixF g g2)) u := fun d u hr =>
        Rep.step (Agree.mono hbd) (Ext.refl _) _ _ (Rep.ren hP d u (within_all d) hr)
      have hreps : ∀ ds us, Reps w (Bd Z h (liveB st.boxes)) h ds us → Reps w (Bd Z (setH h g2 hb) (liveB bx)) (setH h g2 hb) (D.ren.rens (fixF g g2) ds) us := fun ds us hr =>
        Reps.step (Agree.mono hbd) (Ext.refl _) _ _ (Reps.ren hP ds us (within_all.withins_all ds) hr)
      have hbok : ∀ c0 hb0, BoxOk1 w (Bd Z h (liveB st.boxes)) h hb0 c0 → BoxOk1 w (Bd Z (setH h g2 hb) (liveB bx)) (setH h g2 hb) hb0 (renB (fixF g g2) c0) := by
        intro c0 hb0 hk
        cases c0 with
        | cells T cs => obtain ⟨b, cells, h1, h2, h3⟩ := hk; exact ⟨b, cells, h1, h2, hreps _ _ h3⟩
        | row T t l => exact BoxOk1.hist (c := .row T t l) hbd rfl hk
      refine ⟨setH h g2 hb, hs.defers, hs.size, fun t => ?_, ⟨⟨fun i j hi hj b l1 l2 e1 e2 b1 b2 => ?_, fun i hb' b e1 b1 => ?_, fun i hb' b l1 e1 b1 => ?_, hs.ctx.hh.zlt⟩, fun g c hg => ⟨c, hg⟩, fun i c' hi => ?_⟩, fun i hi => ?_, fun i hb' b l1 e1 b1 => ?_, hs.keeps, fun i hb' hi => ?_⟩
      · dsimp only; rw [← hbx]; exact hrep _ _ (hs.env t)
      · dsimp only at l1 l2
        rw [← hbx] at l1 l2
        rcases hlive i l1 with ⟨a1, a2, a3⟩ | ⟨a1, a0, a2, a3⟩ <;> rcases hlive j l2 with ⟨d1, d2, d3⟩ | ⟨d1, d0, d2, d3⟩
        · rw [a1, d1]
        · exact absurd (hs.ctx.hh.inj g j hi hj b a2 d2 (a3 ▸ e1) (d3 ▸ e2) b1 b2) (fun e => d0 e.symm)
        · exact absurd (hs.ctx.hh.inj i g hi hj b a2 d2 (a3 ▸ e1) (d3 ▸ e2) b1 b2) a0
        · exact hs.ctx.hh.inj i j hi hj b a2 d2 (a3 ▸ e1) (d3 ▸ e2) b1 b2
      · by_cases hi : i = g2
        · subst hi; rw [setH_same] at e1; injection e1 with e1; subst e1; exact hs.ctx.hh.lt g hb b he b1
        · rw [setH_ne h _ hi] at e1; exact hs.ctx.hh.lt i hb' b e1 b1
      · dsimp only at l1
        rw [← hbx] at l1
        rcases hlive i l1 with ⟨a1, a2, a3⟩ | ⟨a1, a0, a2, a3⟩
        · exact hs.ctx.hh.nz g hb' b a2 (a3 ▸ e1) b1
        · exact hs.ctx.hh.nz i hb' b a2 (a3 ▸ e1) b1
      · have hi : bx i = some c' := by rw [hbx]; exact hi
        dsimp only
        rw [← hbx]
        rcases hcase i c' hi with ⟨e1, e2⟩ | ⟨e1, e2, c0, h0, e3⟩
        · subst e1; subst e2; exact ⟨hb, setH_same h _ _, hbok c hb hok⟩
        · subst e3
          obtain ⟨hb0, he0, hok0⟩ := hs.ctx.hb i c0 h0
          exact ⟨hb0, by rw [setH_ne h _ e1]; exact he0, hbok c0 hb0 hok0⟩
      · have hi : g2 + 1 ≤ i := hi
        rw [setH_ne h _ (by omega)]
        exact hs.free i (show st.nb ≤ i by omega)
      · dsimp only at l1
        rw [← hbx] at l1
        rcases hlive i l1 with ⟨a1, a2, a3⟩ | ⟨a1, a0, a2, a3⟩
        · exact hs.ge g hb' b a2 (a3 ▸ e1) b1
        · exact hs.ge i hb' b a2 (a3 ▸ e1) b1
      · have h2 := hs.base i hb' hi
        have : i ≠ g2 := fun e => by subst e; rw [hn2] at h2; cases h2
        rw [setH_ne h _ this]; exact h2
    · cases hx
  · cases hx
theorem ghost1_ok {st st' : St} {g : Ghost} (hx : ghost1 P st g = some st') (hs : SimS w0 h0 Z O N st h a w) : ∃ h', SimS w0 h0 Z O N st' h' a w := by
  cases g with
  | fix t g2 => exact fix_ok hx hs
  | freeze g =>
    simp only [ghost1] at hx
    split at hx
    · rename_i c hc
      simp only [Option.some.injEq] at hx
      subst hx
      have hl : ∀ i, liveB (fun i => match Nat.beq i g with | true => none | false => (match st.boxes i with | some c' => some (frzB g c c') | none => none)) i ↔ liveB st.boxes i ∧ i ≠ g := by
        intro i
        unfold liveB
        constructor
        · rintro ⟨c', h1⟩
          dsimp only at h1
          split at h1
          · cases h1
          · rename_i hb
            split at h1
            · rename_i c2 h2; exact ⟨⟨c2, h2⟩, Nat.ne_of_beq_eq_false hb⟩
            · cases h1
        · rintro ⟨⟨c', h1⟩, hne⟩
          have hb : Nat.beq i g = false := by cases hb : Nat.beq i g; rfl; exact absurd (Nat.eq_of_beq_eq_true hb) hne
          exact ⟨frzB g c c', by dsimp only; rw [hb, h1]⟩
      have hd : Dead (liveB st.boxes) (liveB (fun i => match Nat.beq i g with | true => none | false => (match st.boxes i with | some c' => some (frzB g c c') | none => none))) [g] :=
        ⟨fun i hi => ((hl i).1 hi).1, fun i hi hi2 => ((hl i).1 hi2).2 (List.mem_singleton.1 hi)⟩
      refine ⟨h, hs.defers, hs.size, fun t => frz_ok hs.ctx hc hd _ _ (hs.env t), ⟨hs.ctx.hh.less hd.1, fun g c hg => ⟨c, hg⟩, fun i c' hi => ?_⟩, hs.free, fun i hb b hi => hs.ge i hb b (hd.1 i hi), hs.keeps, hs.base⟩
      dsimp only at hi
      split at hi
      · cases hi
      · split at hi
        · rename_i c2 h2
          injection hi with hi
          subst hi
          obtain ⟨hb, he, hok⟩ := hs.ctx.hb i c2 h2
          refine ⟨hb, he, ?_⟩
          cases c2 with
          | cells T cs =>
            obtain ⟨b, cells, h1, h2, h3⟩ := hok
            exact ⟨b, cells, h1, h2, frzs_ok hs.ctx hc hd _ _ h3⟩
          | row T t l => exact BoxOk1.hist (c := .row T t l) (fun k hk => hk.less hd.1) rfl hok
        · cases hi
    · cases hx
  | adopt t e =>
    simp only [ghost1] at hx
    split at hx
    · rename_i ty x b he hty
      simp only [Option.some.injEq] at hx
      subst hx
      have hfree : h st.nb = none := hs.free _ (Nat.le_refl _)
      have henv := hs.env t
      rw [he] at henv
      simp only [Rep] at henv
      have hres : Res w w Z h (setH h st.nb ⟨none, 0, 0⟩) (liveB st.boxes) st.nb [(st.nb, some (.row e ty []))] (.own st.nb) (.slice none 0 0) :=
        res_none hs.ctx.hh hfree rfl (by simp only [Rep]; exact ⟨_, setH_same h _ _, .inl ⟨rfl, rfl, none, rfl⟩⟩) ⟨rfl, .inl ⟨rfl, rfl, rfl⟩⟩
      have hL := liveU_B st.boxes [(st.nb, some (.row e ty []))]
      refine ⟨_, hs.defers, hs.size, fun t' => ?_, ⟨?_, fun g c hg => ⟨c, hg⟩, ?_⟩, fun i hi => ?_, fun i hb b hl hei hbl => ?_, hs.keeps, fun g hb hg => hres.ext g hb (hs.base g hb hg)⟩
      · dsimp only
        rw [setE_eq, ← hL]
        split
        · rename_i htt
          injection htt with htt
          subst htt
          have := hres.rep
          rw [← henv] at this
          exact this
        · exact Rep.step hres.agree hres.ext _ _ (hs.env t')
      · dsimp only; rw [← hL]; exact hres.heap
      · dsimp only; rw [← hL]; exact hres.boxes hs.ctx.hh hs.ctx.hl hs.ctx.hb
      · have hi : st.nb + 1 ≤ i := hi
        rw [hres.only i (by omega)]
        exact hs.free i (by show st.nb ≤ i; omega)
      · dsimp only at hl
        rw [← hL] at hl
        by_cases hid : i = st.nb
        · subst hid
          rw [setH_same] at hei
          injection hei with hei
          subst hei
          cases hbl
        · rw [setH_ne h _ hid] at hei
          rcases (liveU_new (live := liveB st.boxes) _ [] i).1 hl with h1 | h1
          · exact absurd h1 hid
          · exact hs.ge i hb b h1.1 hei hbl
    · cases hx
theorem ghosts_ok : ∀ {gs : List Ghost} {st st' : St} {h : Hist}, ghosts P gs st = some st' → SimS w0 h0 Z O N st h a w → ∃ h', SimS w0 h0 Z O N st' h' a w
  | [], st, st', h, hx, hs => by simp only [ghosts, Option.some.injEq] at hx; subst hx; exact ⟨h, hs⟩
  | g :: gs, st, st', h, hx, hs => by
    simp only [ghosts] at hx
    split at hx
    · rename_i st1 h1
      obtain ⟨h', hs'⟩ := ghost1_ok h1 hs
      exact ghosts_ok hx hs'
    · cases hx
end

/-! ### Code -/
abbrev LFn := St → Option (Prop × Ex × St)
def loopN (r : St → Option (List Prop × Ex × St)) : Nat → St → Option (List Prop × Ex × St)
  | 0, _ => none
  | n + 1, st => match r st with
    | some (ps, .normal, st1) => (match loopN r n st1 with | some (qs, e, st2) => some (ps ++ qs, e, st2) | none => none)
    | some (ps, .exit id, st1) => some (ps, .exit id, st1)
    | some (ps, .ret, st1) => some (ps, .ret, st1)
    | none => none
def atG (P : Program) (DS : List (List Nat × List Ghost)) (p : List Nat) (st : St) : Option St :=
  match lookP DS p with
  | none => some st
  | some gs => ghosts P gs st
/-- LS: what loops do, by their places; DS: boxes that are given up at places. -/
def run (P : Program) (S : List (Spec P)) (LS : List (List Nat × LFn)) (DS : List (List Nat × List Ghost)) (N fuel : Nat) : Code → List Nat → St → Option (List Prop × Ex × St)
  | .skip, _, st => some ([], .normal, st)
  | .label _, _, st => some ([], .normal, st)
  | .region _ ops draw, p, st => match atG P DS p st with
    | none => none
    | some st => match draw with
      | false => (match runSeq P S N ops (List.range ops.size) st with | some (ps, st1) => some (ps, .normal, st1) | none => none)
      | true => (match runDrawn P S N ops st with | some (ps, st1) => some (ps, .normal, st1) | none => none)
  | .seq x y, p, st => match run P S LS DS N fuel x (0 :: p) st with
    | some (ps, .normal, st1) => (match run P S LS DS N fuel y (1 :: p) st1 with | some (qs, e, st2) => some (ps ++ qs, e, st2) | none => none)
    | some (ps, .exit id, st1) => some (ps, .exit id, st1)
    | some (ps, .ret, st1) => some (ps, .ret, st1)
    | none => none
  | .cond c x y, p, st => match ev st.env c with
    | some (.val (.bool t)) => (match t with | true => run P S LS DS N fuel x (0 :: p) st | false => run P S LS DS N fuel y (1 :: p) st)
    | _ => none
  | .block id x, p, st => match run P S LS DS N fuel x (0 :: p) st with
    | some (ps, .normal, st1) => some (ps, .normal, st1)
    | some (ps, .exit id', st1) => (match Nat.beq id' id with | true => some (ps, .normal, st1) | false => some (ps, .exit id', st1))
    | some (ps, .ret, st1) => some (ps, .ret, st1)
    | none => none
  | .loop x, p, st => match atG P DS p st with
    | none => none
    | some st => match lookP LS p with
      | some f => (match f st with | some (pre, e, st1) => some ([pre], e, st1) | none => none)
      | none => loopN (fun st => run P S LS DS N fuel x (0 :: p) st) fuel st
  | .exit id, _, st => some ([], .exit id, st)
  | .scope x, p, st => run P S LS DS N fuel x (0 :: p) st
  | .ret, _, st => some ([], .ret, st)
  | _, _, _ => none
def LSok (P : Program) (N k : Nat) (root : Code) (LS : List (List Nat × LFn)) : Prop :=
  ∀ p f, (p, f) ∈ LS → ∀ st pre e st', f st = some (pre, e, st') → pre → Tri P N k (nav root p) st e st'

section
variable {P : Program} {S : List (Spec P)} {LS : List (List Nat × LFn)} {DS : List (List Nat × List Ghost)} {N k fuel : Nat} {root : Code}
theorem atG_ok {p : List Nat} {st st' : St} (hx : atG P DS p st = some st') {w0 : World} {h0 : Hist} {Z O : Nat → Prop} {h : Hist} {a : Act} {w : World} (hs : SimS w0 h0 Z O N st h a w) : ∃ h', SimS w0 h0 Z O N st' h' a w := by
  unfold atG at hx
  split at hx
  · simp only [Option.some.injEq] at hx; subst hx; exact ⟨h, hs⟩
  · exact ghosts_ok hx hs
theorem run_ok (hm : P.follows .mixedOrders = true) (hLS : LSok P N k root LS) : ∀ (c : Code) (p : List Nat) (st st' : St) (ps : List Prop) (e : Ex), nav root p = c → run P S LS DS N fuel c p st = some (ps, e, st') → (∀ q ∈ ps, q) → Tri P N k c st e st' := by
  intro c
  induction c with
  | skip => intro p st st' ps e hn hx hps w0 h0 Z O hk Q h a w hs hQ; simp only [run, Option.some.injEq, Prod.mk.injEq] at hx; obtain ⟨_, rfl, rfl⟩ := hx; exact wp_skip (hQ h a w hs)
  | label l => intro p st st' ps e hn hx hps w0 h0 Z O hk Q h a w hs hQ; simp only [run, Option.some.injEq, Prod.mk.injEq] at hx; obtain ⟨_, rfl, rfl⟩ := hx; exact wp_label (hQ h a w hs)
  | exit id => intro p st st' ps e hn hx hps w0 h0 Z O hk Q h a w hs hQ; simp only [run, Option.some.injEq, Prod.mk.injEq] at hx; obtain ⟨_, rfl, rfl⟩ := hx; exact wp_exit (hQ h a w hs)
  | ret => intro p st st' ps e hn hx hps w0 h0 Z O hk Q h a w hs hQ; simp only [run, Option.some.injEq, Prod.mk.injEq] at hx; obtain ⟨_, rfl, rfl⟩ := hx; exact wp_ret (hQ h a w hs)
  | region id ops draw =>
    intro p st st' ps e hn hx hps w0 h0 Z O hk Q h a w hs hQ
    simp only [run] at hx
    split at hx
    · cases hx
    · rename_i st0 hg
      obtain ⟨h, hs⟩ := atG_ok hg hs
      split at hx
      · split at hx
        · rename_i qs st1 h1
          simp only [Option.some.injEq, Prod.mk.injEq] at hx; obtain ⟨rfl, rfl, rfl⟩ := hx
          exact wp_region (runSeq_ok _ _ _ _ h1 hps h a w hs hQ)
        · cases hx
      · split at hx
        · rename_i qs st1 h1
          simp only [Option.some.injEq, Prod.mk.injEq] at hx; obtain ⟨rfl, rfl, rfl⟩ := hx
          exact runDrawn_ok hm h1 hps hs hQ
        · cases hx
  | seq x y ihx ihy =>
    intro p st st' ps e hn hx hps w0 h0 Z O hk Q h a w hs hQ
    have hnx : nav root (0 :: p) = x := by simp only [nav, hn]; rfl
    have hny : nav root (1 :: p) = y := by simp only [nav, hn]; rfl
    simp only [run] at hx
    apply wp_seq
    split at hx
    · rename_i p1 st1 h1
      split at hx
      · rename_i p2 e2 st2 h2
        simp only [Option.some.injEq, Prod.mk.injEq] at hx; obtain ⟨rfl, rfl, rfl⟩ := hx
        exact ihx _ _ _ _ _ hnx h1 (mem_append_l hps) w0 h0 Z O hk _ h a w hs fun h' a' w' hs' => ihy _ _ _ _ _ hny h2 (mem_append_r hps) w0 h0 Z O hk _ h' a' w' hs' hQ
      · cases hx
    · rename_i p1 id st1 h1
      simp only [Option.some.injEq, Prod.mk.injEq] at hx; obtain ⟨rfl, rfl, rfl⟩ := hx
      exact ihx _ _ _ _ _ hnx h1 hps w0 h0 Z O hk _ h a w hs fun h' a' w' hs' => hQ h' a' w' hs'
    · rename_i p1 st1 h1
      simp only [Option.some.injEq, Prod.mk.injEq] at hx; obtain ⟨rfl, rfl, rfl⟩ := hx
      exact ihx _ _ _ _ _ hnx h1 hps w0 h0 Z O hk _ h a w hs fun h' a' w' hs' => hQ h' a' w' hs'
    · cases hx
  | cond c x y ihx ihy =>
    intro p st st' ps e hn hx hps w0 h0 Z O hk Q h a w hs hQ
    have hnx : nav root (0 :: p) = x := by simp only [nav, hn]; rfl
    have hny : nav root (1 :: p) = y := by simp only [nav, hn]; rfl
    simp only [run] at hx
    split at hx
    · rename_i t hc
      have hcv := ev_ok (w := w) hs.env hc
      simp only [Rep] at hcv
      refine wp_cond hcv ?_
      split at hx
      · simpa using ihx _ _ _ _ _ hnx hx hps w0 h0 Z O hk Q h a w hs hQ
      · simpa using ihy _ _ _ _ _ hny hx hps w0 h0 Z O hk Q h a w hs hQ
    · cases hx
  | block id x ih =>
    intro p st st' ps e hn hx hps w0 h0 Z O hk Q h a w hs hQ
    have hnx : nav root (0 :: p) = x := by simp only [nav, hn]; rfl
    simp only [run] at hx
    apply wp_block
    split at hx
    · rename_i p1 st1 h1
      simp only [Option.some.injEq, Prod.mk.injEq] at hx; obtain ⟨rfl, rfl, rfl⟩ := hx
      exact ih _ _ _ _ _ hnx h1 hps w0 h0 Z O hk _ h a w hs fun h' a' w' hs' => hQ h' a' w' hs'
    · rename_i p1 id' st1 h1
      split at hx
      · rename_i hid
        have hid := Nat.eq_of_beq_eq_true hid
        simp only [Option.some.injEq, Prod.mk.injEq] at hx; obtain ⟨rfl, rfl, rfl⟩ := hx
        refine ih _ _ _ _ _ hnx h1 hps w0 h0 Z O hk _ h a w hs fun h' a' w' hs' => ?_
        simp only [Ex.to, Exit.inBlock, hid, if_true]
        exact hQ h' a' w' hs'
      · rename_i hid
        have hid := Nat.ne_of_beq_eq_false hid
        simp only [Option.some.injEq, Prod.mk.injEq] at hx; obtain ⟨rfl, rfl, rfl⟩ := hx
        refine ih _ _ _ _ _ hnx h1 hps w0 h0 Z O hk _ h a w hs fun h' a' w' hs' => ?_
        simp only [Ex.to, Exit.inBlock, hid, if_false]
        exact hQ h' a' w' hs'
    · rename_i p1 st1 h1
      simp only [Option.some.injEq, Prod.mk.injEq] at hx; obtain ⟨rfl, rfl, rfl⟩ := hx
      exact ih _ _ _ _ _ hnx h1 hps w0 h0 Z O hk _ h a w hs fun h' a' w' hs' => hQ h' a' w' hs'
    · cases hx
  | loop x ih =>
    intro p st st' ps e hn hx hps w0 h0 Z O hk Q h a w hs hQ
    have hnx : nav root (0 :: p) = x := by simp only [nav, hn]; rfl
    simp only [run] at hx
    split at hx
    · cases hx
    · rename_i st0 hg
      obtain ⟨h, hs⟩ := atG_ok hg hs
      split at hx
      · rename_i f hf
        split at hx
        · rename_i pre e1 st1 h1
          simp only [Option.some.injEq, Prod.mk.injEq] at hx; obtain ⟨rfl, rfl, rfl⟩ := hx
          have := hLS p f (lookP_mem hf) _ _ _ _ h1 (hps _ (List.mem_singleton.2 rfl))
          rw [hn] at this
          exact this w0 h0 Z O hk Q h a w hs hQ
        · cases hx
      · refine wp_loop_rounds fuel ?_
        have key : ∀ (n : Nat) (st st' : St) (ps : List Prop) (e : Ex), loopN (fun st => run P S LS DS N fuel x (0 :: p) st) n st = some (ps, e, st') → (∀ q ∈ ps, q) → ∀ (h : Hist) (a : Act) (w : World), SimS w0 h0 Z O N st h a w →
            (∀ h' a' w', SimS w0 h0 Z O N st' h' a' w' → Q e.to a' w') → Code.rounds P x Q n a w := by
          intro n
          induction n with
          | zero => intro st st' ps e hx; simp [loopN] at hx
          | succ n ihn =>
            intro st st' ps e hx hps h a w hs hQ
            rw [rounds_succ]
            simp only [loopN] at hx
            split at hx
            · rename_i p1 st1 h1
              split at hx
              · rename_i p2 e2 st2 h2
                simp only [Option.some.injEq, Prod.mk.injEq] at hx; obtain ⟨rfl, rfl, rfl⟩ := hx
                exact ih _ _ _ _ _ hnx h1 (mem_append_l hps) w0 h0 Z O hk _ h a w hs fun h' a' w' hs' => ihn _ _ _ _ h2 (mem_append_r hps) h' a' w' hs' hQ
              · cases hx
            · rename_i p1 id st1 h1
              simp only [Option.some.injEq, Prod.mk.injEq] at hx; obtain ⟨rfl, rfl, rfl⟩ := hx
              exact ih _ _ _ _ _ hnx h1 hps w0 h0 Z O hk _ h a w hs fun h' a' w' hs' => hQ h' a' w' hs'
            · rename_i p1 st1 h1
              simp only [Option.some.injEq, Prod.mk.injEq] at hx; obtain ⟨rfl, rfl, rfl⟩ := hx
              exact ih _ _ _ _ _ hnx h1 hps w0 h0 Z O hk _ h a w hs fun h' a' w' hs' => hQ h' a' w' hs'
            · cases hx
        exact key fuel st0 st' ps e hx hps h a w hs hQ
  | scope x ih =>
    intro p st st' ps e hn hx hps w0 h0 Z O hk Q h a w hs hQ
    have hnx : nav root (0 :: p) = x := by simp only [nav, hn]; rfl
    simp only [run] at hx
    refine wp_scope_straight (ih _ _ _ _ _ hnx hx hps w0 h0 Z O hk _ h a w hs fun h' a' w' hs' => ?_)
    cases e with
    | _ => exact hQ h' a' w' hs'
  | rangeFunc _ _ _ _ => intro p st st' ps e hn hx; simp [run] at hx
  | goto _ => intro p st st' ps e hn hx; simp [run] at hx
  | refuse _ => intro p st st' ps e hn hx; simp [run] at hx
end
end Go.Proofs.Ytpblkjjafdfjkaa.V
