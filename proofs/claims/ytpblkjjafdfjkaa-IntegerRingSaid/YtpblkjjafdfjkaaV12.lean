/- What one operation does: the proofs, last part (calls that write into boxes; all of it). -/
import Derived.Test.YtpblkjjafdfjkaaV11
namespace Go.Proofs.Ytpblkjjafdfjkaa.V
open Go.RowKit
set_option linter.unusedVariables false
set_option linter.unusedSimpArgs false

theorem dedup_mem : ∀ {l : List Nat} {g : Nat}, g ∈ dedup l ↔ g ∈ l
  | [], g => by simp [dedup]
  | x :: l, g => by
    simp only [dedup]
    split
    · rename_i hh
      have := has_iff.1 hh
      rw [dedup_mem] at this ⊢
      constructor
      · exact fun hg => List.mem_cons_of_mem _ hg
      · intro hg; rcases List.mem_cons.1 hg with rfl | hg; exact this; exact hg
    · rw [List.mem_cons, List.mem_cons, dedup_mem]
theorem dedup_nodup : ∀ l : List Nat, (dedup l).Nodup
  | [] => List.nodup_nil
  | x :: l => by
    simp only [dedup]
    split
    · exact dedup_nodup l
    · rename_i hh
      refine List.nodup_cons.2 ⟨fun hm => ?_, dedup_nodup l⟩
      rw [has_iff.2 hm] at hh; cases hh
theorem idxOf_get : ∀ {l : List Nat} {g : Nat}, g ∈ l → l[idxOf l g]? = some g
  | [], g, hg => by cases hg
  | x :: l, g, hg => by
    simp only [idxOf]
    split
    · rename_i hb; simp [Nat.eq_of_beq_eq_true hb]
    · rename_i hb
      have hne := Nat.ne_of_beq_eq_false hb
      rcases List.mem_cons.1 hg with rfl | hg
      · exact absurd rfl hne
      · simpa using idxOf_get hg
mutual
theorem D.within_ids {ids : List Nat} : ∀ d : D, (∀ g ∈ d.ids, g ∈ ids) → d.within (fun g => has ids g) = true
  | .any, _ | .val _, _ | .sl _ _, _ | .elt _ _ _ _, _ | .arr _ _, _ => rfl
  | .box g _, hd => has_iff.2 (hd g (by simp [D.ids]))
  | .own g, hd => has_iff.2 (hd g (by simp [D.ids]))
  | .win g _ _ _, hd => has_iff.2 (hd g (by simp [D.ids]))
  | .rel g _ _ _, hd => has_iff.2 (hd g (by simp [D.ids]))
  | .agg cs, hd => D.withins_ids cs (by simpa only [D.ids] using hd)
  | .tup cs, hd => D.withins_ids cs (by simpa only [D.ids] using hd)
  | .ptr cs _, hd => D.withins_ids cs (by simpa only [D.ids] using hd)
  | .clo _ cs, hd => D.withins_ids cs (by simpa only [D.ids] using hd)
theorem D.withins_ids {ids : List Nat} : ∀ ds : List D, (∀ g ∈ D.ids.idss ds, g ∈ ids) → D.within.withins (fun g => has ids g) ds = true
  | [], _ => rfl
  | d :: ds, hd => by
    simp only [D.ids.idss, List.mem_append] at hd
    simp only [D.within.withins, Bool.and_eq_true]
    exact ⟨D.within_ids d fun g hg => hd g (.inl hg), D.withins_ids ds fun g hg => hd g (.inr hg)⟩
end
theorem boxesOf_ok {boxes : Boxes} : ∀ {ids : List Nat} {bx : List BoxC}, boxesOf boxes ids = some bx → bx.length = ids.length ∧ ∀ (i g : Nat), ids[i]? = some g → ∃ c, bx[i]? = some c ∧ boxes g = some c
  | [], bx, hx => by simp only [boxesOf, Option.some.injEq] at hx; subst hx; exact ⟨rfl, fun i g hg => by simp at hg⟩
  | x :: ids, bx, hx => by
    simp only [boxesOf] at hx
    split at hx
    · rename_i c cs h1 h2
      simp only [Option.some.injEq] at hx; subst hx
      obtain ⟨a1, a2⟩ := boxesOf_ok h2
      refine ⟨by simp [a1], fun i g hg => ?_⟩
      cases i with
      | zero => simp at hg; subst hg; exact ⟨c, by simp, h1⟩
      | succ i => simpa using a2 i g (by simpa using hg)
    · cases hx
theorem zipU_look : ∀ {ids : List Nat} {bx : List BoxC}, bx.length = ids.length → ids.Nodup → ∀ (g : Nat), (∀ (i : Nat), ids[i]? = some g → lookU (zipU ids bx) g = some bx[i]?) ∧ (g ∉ ids → lookU (zipU ids bx) g = none)
  | [], bx, hl, _, g => ⟨fun i hi => by simp at hi, fun _ => by cases bx <;> rfl⟩
  | x :: ids, [], hl, _, g => by simp at hl
  | x :: ids, c :: bx, hl, hn, g => by
    obtain ⟨hx, hn'⟩ := List.nodup_cons.1 hn
    obtain ⟨a1, a2⟩ := zipU_look (ids := ids) (bx := bx) (by simpa using hl) hn' g
    refine ⟨fun i hi => ?_, fun hg => ?_⟩
    · simp only [zipU, lookU_cons]
      cases i with
      | zero => simp at hi; rw [if_pos hi]; simp
      | succ i =>
        have hi : ids[i]? = some g := by simpa using hi
        have hne : ¬ x = g := fun e => hx (by rw [e]; exact List.mem_of_getElem? hi)
        rw [if_neg hne, a1 i hi]
        simp
    · simp only [List.mem_cons, not_or] at hg
      simp only [zipU, lookU_cons]
      rw [if_neg (fun e => hg.1 e.symm), a2 hg.2]

section
variable {P : Program} {w w' : World} {Z : Nat → Prop} {h : Hist} {live : Nat → Prop} {boxes : Boxes} {id : Nat} {u : Upd} {d : D} {v : Value}

theorem BoxOk1.hist {w : World} {B B' : Nat → Prop} {h h' : Hist} {hb : Hb} {c : BoxC} (hB : ∀ k, B k → B' k) (hp : c.plain = true) (hr : BoxOk1 w B h hb c) : BoxOk1 w B' h' hb c := by
  cases c with
  | cells T cs =>
    obtain ⟨b, cells, h1, h2, h3⟩ := hr
    exact ⟨b, cells, h1, h2, Reps.step (Agree.mono hB) (Ext.refl _) _ _ (Reps.hist (p := fun _ => false) (fun _ hp => by cases hp) cs _ hp h3)⟩
  | row T t l =>
    obtain ⟨h1, h2⟩ := hr
    exact ⟨h1, h2.imp (fun e => e) (fun ⟨b, cur, a1, a2, a3, a4, a5, a6⟩ => ⟨b, cur, a1, a2, a3, a4, a5, a6.step (Agree.mono hB)⟩)⟩

theorem callOwn_ok (c : Ctx w Z h live boxes) (hf : h id = none) {S : List (Spec P)} {f : FuncId} {ds : List D} {us : List Value} {ids : List Nat} {ps : List Prop} (hn : ids.Nodup) (hids : ∀ g ∈ D.ids.idss ds, g ∈ ids) (hx : callOwn P S boxes f ds ids = some (ps, d, u)) (hps : ∀ p ∈ ps, p) (hr : Reps w (Bd Z h live) h ds us) :
    (∀ (args : Array Value) (w : World), (callFunc f args).run P w = .ok (.enter f args) w) ∧ Calls P f us.toArray w fun e w' => ∃ v, e = .returned v ∧ Res w w' Z h h live id u d v := by
  unfold callOwn at hx
  split at hx
  · rename_i bx hbx
    split at hx
    · rename_i hpl
      split at hx
      · rename_i pre d' bx' h2
        split at hx
        · rename_i hwd hpl'
          simp only [Option.some.injEq, Prod.mk.injEq] at hx
          obtain ⟨rfl, rfl, rfl⟩ := hx
          obtain ⟨hct, hent⟩ := absCall1_ok h2 (hps _ (List.mem_singleton.2 rfl))
          refine ⟨hent, ?_⟩
          obtain ⟨hlen, hget⟩ := boxesOf_ok hbx
          obtain ⟨hc, hhc⟩ : ∃ hc : Hist, hc = fun i => (ids[i]?).bind h := ⟨_, rfl⟩
          have hc_get : ∀ i g, ids[i]? = some g → hc i = h g := fun i g hi => by rw [hhc]; simp [hi]
          have hc_none : ∀ i, bx.length ≤ i → hc i = none := fun i hi => by rw [hhc]; simp [List.getElem?_eq_none (show ids.length ≤ i by omega)]
          have hc_of : ∀ i hb, hc i = some hb → ∃ g, ids[i]? = some g ∧ h g = some hb := fun i hb he => by
            rw [hhc] at he
            obtain ⟨g, h1, h2⟩ := Option.bind_eq_some_iff.1 he
            exact ⟨g, h1, h2⟩
          have hlive : ∀ i g, ids[i]? = some g → live g := fun i g hi => by obtain ⟨c', _, h1⟩ := hget i g hi; exact c.hl _ _ h1
          have hbd : ∀ k, Bd (zoneC Z h (fun i => live i ∧ i ∉ ids)) hc (fun i => i < bx.length) k ↔ Bd Z h live k := by
            intro k
            unfold Bd zoneC
            constructor
            · rintro ⟨h1, h3⟩
              refine ⟨fun hz => h1 (.inl hz), fun i hb hl he hblk => ?_⟩
              by_cases hi : i ∈ ids
              · have hg := idxOf_get hi
                exact h3 (idxOf ids i) hb (by rw [hlen]; exact (List.getElem?_eq_some_iff.1 hg).1) ((hc_get _ _ hg).trans he) hblk
              · exact h1 (.inr ⟨i, hb, ⟨hl, hi⟩, he, hblk⟩)
            · rintro ⟨h1, h3⟩
              refine ⟨fun hz => hz.elim h1 (fun ⟨i, hb, hl, he, hblk⟩ => h3 i hb hl.1 he hblk), fun i hb hl he hblk => ?_⟩
              obtain ⟨g, hg, he'⟩ := hc_of i hb he
              exact h3 g hb (hlive i g hg) he' hblk
          have hplain : ∀ {bx : List BoxC} {i : Nat} {c : BoxC}, bx.all BoxC.plain = true → bx[i]? = some c → c.plain = true := fun ha hi => List.all_eq_true.1 ha _ (List.mem_of_getElem? hi)
          have hcall := hct w (zoneC Z h (fun i => live i ∧ i ∉ ids)) hc us
            ⟨fun i j hi hj b h1 h2 h3 h4 h5 h6 => by
              obtain ⟨g, hg, he⟩ := hc_of i hi h3
              obtain ⟨g', hg', he'⟩ := hc_of j hj h4
              have := c.hh.inj g g' hi hj b (hlive i g hg) (hlive j g' hg') he he' h5 h6
              subst this
              exact (List.getElem?_inj (List.getElem?_eq_some_iff.1 hg).1 hn).1 (hg.trans hg'.symm),
            fun i hb b he hblk => by obtain ⟨g, _, he'⟩ := hc_of i hb he; exact c.hh.lt g hb b he' hblk,
            fun i hb b hl he hblk hz => by
              obtain ⟨g, hg, he'⟩ := hc_of i hb he
              rcases hz with hz | ⟨j, hb', ⟨hl', hni⟩, he'', hblk'⟩
              · exact c.hh.nz g hb b (hlive i g hg) he' hblk hz
              · have := c.hh.inj g j hb hb' b (hlive i g hg) hl' he' he'' hblk hblk'
                exact hni (this ▸ List.mem_of_getElem? hg),
            fun k hk => hk.elim (c.hh.zlt k) (fun ⟨i, hb, hl, he, hblk⟩ => c.hh.lt i hb k he hblk)⟩
            hc_none
            (fun i c' hi => by
              have hi : bx[i]? = some c' := hi
              obtain ⟨g, hg⟩ : ∃ g, ids[i]? = some g := by
                have := (List.getElem?_eq_some_iff.1 hi).1
                exact ⟨ids[i]'(by omega), List.getElem?_eq_getElem (by omega)⟩
              obtain ⟨c'', h3, h4⟩ := hget i g hg
              rw [hi] at h3; injection h3 with h3; subst h3
              obtain ⟨hb, he, hok⟩ := c.hb g _ h4
              exact ⟨hb, (hc_get i g hg).trans he, hok.hist (fun k hk => (hbd k).2 hk) (hplain hpl hi)⟩)
            (Reps.step (Agree.mono fun k hk => (hbd k).2 hk) (Ext.refl _) _ _ (Reps.ren (h' := hc) (fun g hg => hc_get _ _ (idxOf_get (has_iff.1 hg))) ds us (D.withins_ids ds hids) hr))
          refine hcall.mono ?_
          rintro e w' ⟨v, rfl, hrv, hl', hbok, hk⟩
          have hl2 : bx'.length = ids.length := hl'.trans hlen
          have hlook := zipU_look hl2 hn
          have hlookS : ∀ g c', lookU (zipU ids bx') g = some c' → ∃ (i : Nat) (c'' : BoxC), ids[i]? = some g ∧ bx'[i]? = some c'' ∧ c' = some c'' := by
            intro g c' hg
            by_cases hm : g ∈ ids
            · have hi := idxOf_get hm
              rw [(hlook g).1 _ hi] at hg
              injection hg with hg
              have hlt : idxOf ids g < bx'.length := by rw [hl2]; exact (List.getElem?_eq_some_iff.1 hi).1
              exact ⟨_, bx'[idxOf ids g], hi, List.getElem?_eq_getElem hlt, by rw [← hg, List.getElem?_eq_getElem hlt]⟩
            · rw [(hlook g).2 hm] at hg; cases hg
          have hlv : ∀ i, liveU live (zipU ids bx') i ↔ live i := by
            intro i
            unfold liveU
            split
            · rename_i c' hc'
              obtain ⟨j, _, hj, _⟩ := hlookS i _ hc'
              exact ⟨fun _ => hlive j i hj, fun _ => trivial⟩
            · rename_i hc'
              obtain ⟨j, _, _, _, h0⟩ := hlookS i _ hc'
              cases h0
            · exact Iff.rfl
          have hbd2 : ∀ k, Bd (zoneC Z h (fun i => live i ∧ i ∉ ids)) hc (fun i => i < bx.length) k → Bd Z h (liveU live (zipU ids bx')) k := fun k hk => ((hbd k).1 hk).less fun i hi => (hlv i).1 hi
          refine ⟨v, rfl, Ext.refl h, fun _ _ => rfl, (c.hh.less fun i hi => (hlv i).1 hi).size hk.size, ?_, ?_, ?_, ?_, ?_⟩
          · refine Rep.step (Agree.mono hbd2) (Ext.refl _) _ _ (Rep.ren (h := hc) (p := fun g => Nat.blt g ids.length) (fun i hi => ?_) d' v hwd hrv)
            have hi : i < ids.length := by
              have h0 : Nat.blt i ids.length = true := hi
              exact Nat.le_of_ble_eq_true h0
            rw [List.getD_eq_getElem?_getD, List.getElem?_eq_getElem hi, Option.getD_some]
            exact (hc_get i _ (List.getElem?_eq_getElem hi)).symm
          · intro g c' hg
            obtain ⟨i, c'', hi, hci, he⟩ := hlookS g _ hg
            injection he with he
            subst he
            obtain ⟨hb, heb, hok⟩ := hbok i _ hci
            exact ⟨hb, (hc_get i g hi).symm.trans heb, hok.hist hbd2 (hplain hpl' hci)⟩
          · intro g c' hg _
            obtain ⟨i, c'', hi, _, _⟩ := hlookS g _ hg
            exact hlive i g hi
          · refine hk.mono fun k _ ⟨i, hb, hlt, he, hblk⟩ => ?_
            obtain ⟨g, hg, he'⟩ := hc_of i hb he
            refine ⟨g, hb, ?_, hlive i g hg, he', hblk⟩
            rw [(hlook g).1 i hg]; rfl
          · intro hb b _ he
            rw [hf] at he; cases he
        · cases hx
      · cases hx
    · cases hx
  · cases hx
theorem absCall_ok (c : Ctx w Z h live boxes) (hf : h id = none) {S : List (Spec P)} {f : FuncId} {ds : List D} {us : List Value} {ps : List Prop} (hx : absCall P S boxes f ds = some (ps, d, u)) (hps : ∀ p ∈ ps, p) (hr : Reps w (Bd Z h live) h ds us) :
    (∀ (args : Array Value) (w : World), (callFunc f args).run P w = .ok (.enter f args) w) ∧ Calls P f us.toArray w fun e w' => ∃ v, e = .returned v ∧ Res w w' Z h h live id u d v := by
  unfold absCall at hx
  split at hx
  · exact callPlain_ok c hx hps hr
  · rename_i ids hne
    split at hx
    · rename_i r hr2
      simp only [Option.some.injEq] at hx
      subst hx
      exact callOwn_ok c hf (dedup_nodup _) (fun g hg => dedup_mem.2 hg) hr2 hps hr
    · exact callPlain_ok c hx hps hr

/-! ### All of it -/
theorem wp_value {a : Act} {o : Oper} {v : Value} {w' : World} {K : Act → World → Prop} {Q : Exit → Act → World → Prop} (hx : (execOp a.eval o).run P w = .ok (.value v) w') (hK : K (a.put o.dst v) w') : o.wp P a w K Q := by
  unfold Oper.wp; rw [hx]; exact hK
theorem wp_skipped {a : Act} {o : Oper} {w' : World} {K : Act → World → Prop} {Q : Exit → Act → World → Prop} (hx : (execOp a.eval o).run P w = .ok .skip w') (hK : K (a.put o.dst undef) w') : o.wp P a w K Q := by
  unfold Oper.wp; rw [hx]; exact hK
theorem wp_calls {a : Act} {o : Oper} {f : FuncId} {args : Array Value} {K : Act → World → Prop} {Q : Exit → Act → World → Prop} (hx : (execOp a.eval o).run P w = .ok (.enter f args) w) (hK : Calls P f args w fun e w' => ∃ v, e = .returned v ∧ K (a.put o.dst v) w') : o.wp P a w K Q := by
  unfold Oper.wp
  rw [hx]
  show Calls P f args w _
  refine hK.mono ?_
  rintro e w' ⟨v, rfl, hk⟩
  exact hk
theorem mem_parts {xs : Array (Nat × Operand)} {x : Nat × Operand} (hx : x ∈ xs.toList) : x.2 ∈ (xs.toList.map (·.2)).toArray := by
  simp only [List.mem_toArray, List.mem_map]
  exact ⟨x, hx, rfl⟩
theorem bndD_ok {env : Env} {a : Act} {o : Option Operand} {m : Option Int} (hv : ∀ x ∈ o.toArray, ∀ d, ev env x = some d → Rep w (Bd Z h live) h d (a.eval x)) (hx : bndD env o = some m) : ∃ p : Option (IntKind × Int), m = p.map (fun q => q.2) ∧ o.map a.eval = optV p := by
  unfold bndD at hx
  split at hx
  · simp only [Option.some.injEq] at hx; subst hx; exact ⟨none, rfl, rfl⟩
  · rename_i x
    split at hx
    · rename_i k n he
      simp only [Option.some.injEq] at hx; subst hx
      have := hv x (by simp) _ he
      simp only [Rep] at this
      exact ⟨some (k, n), rfl, by simp [optV, this]⟩
    · cases hx
theorem allVals_ok {B : Nat → Prop} : ∀ {ds : List D} {vs us : List Value}, allVals ds = some vs → Reps w B h ds us → us = vs
  | [], vs, us, hx, hr => by simp only [allVals, Option.some.injEq] at hx; subst hx; simpa only [Reps] using hr
  | d :: ds, vs, us, hx, hr => by
    cases d with
    | val v =>
      simp only [allVals] at hx
      split at hx
      · rename_i vs' h1
        simp only [Option.some.injEq] at hx; subst hx
        simp only [Reps, Rep] at hr
        obtain ⟨u, us', rfl, rfl, h2⟩ := hr
        rw [allVals_ok h1 h2]
      · cases hx
    | _ => simp [allVals] at hx
theorem methD_ok {f : FuncId} {name : String} {d : D} (hx : methD P v name = some (f, d)) (args : Array Value) : ∃ r, Rep w (Bd Z h live) h d r ∧ (callMethod v name args).run P w = ((callFunc f (#[r] ++ args)).run P w) := by
  unfold methD at hx
  split at hx
  · rename_i T v'
    split at hx
    · rename_i i hi
      split at hx
      · rename_i m hm
        split at hx
        · cases hx
        · rename_i f' td hnp hp hfn hu
          simp only [Option.some.injEq, Prod.mk.injEq] at hx
          obtain ⟨rfl, rfl⟩ := hx
          refine ⟨v', rep_toD _ v', ?_⟩
          have hrecv : (receiverAt T (.val v') false (if m.path.isEmpty then some ((name.splitOn ".").getLastD name) else none)).run P w = .ok v' w := by
            unfold receiverAt
            simp only [Sem.run_bind, run_underlying hu, Result.andThen_ok]
            cases td <;> first | (exact absurd rfl (hnp _)) | simp [Place.get]
          have hmeth : (method (P.types.size + Made.depth) T v' name).run P w = .ok (f', v') w := by
            have hpos : 0 < Made.depth := by decide
            obtain ⟨n, hn⟩ : ∃ n, P.types.size + Made.depth = n + 1 := ⟨P.types.size + Made.depth - 1, by omega⟩
            rw [hn]
            simp only [method, Sem.run_bind, typeInfo]
            simp [hi, hm, hp, follow, hfn]
            have := hrecv
            simp at this
            rw [this]
            simp
          simp only [callMethod, Sem.run_bind]
          simp [hmeth]
        · cases hx
      · cases hx
    · cases hx
  · cases hx

theorem absOp_ok {S : List (Spec P)} {env : Env} {a : Act} {o : Oper} {K : Act → World → Prop} {Q : Exit → Act → World → Prop} {ps : List Prop} (hx : absOp P S env boxes id o.op = some (ps, d, u)) (hps : ∀ p ∈ ps, p)
    (c : Ctx w Z h live boxes) (hf : h id = none) (hv : ∀ x ∈ o.op.operands, ∀ d, ev env x = some d → Rep w (Bd Z h live) h d (a.eval x))
    (hK : ∀ v w' h', Res w w' Z h h' live id u d v → K (a.put o.dst v) w') : o.wp P a w K Q := by
  obtain ⟨dst, op, type, pos, after, guard⟩ := o
  dsimp only at hx hv hK ⊢
  have pure1 : ∀ {v : Value} {d : D}, Rep w (Bd Z h live) h d v → Res w w Z h h live id [] d v := fun hr => res_pure c.hh hr
  cases op with
  | move x =>
    simp only [absOp] at hx
    split at hx
    · rename_i d' he
      simp only [Option.some.injEq, Prod.mk.injEq] at hx; obtain ⟨rfl, rfl, rfl⟩ := hx
      exact wp_value (v := a.eval x) (by simp [execOp]) (hK _ _ _ (pure1 (hv x (by simp [Op.operands]) _ he)))
    · cases hx
  | assign x =>
    simp only [absOp] at hx
    split at hx
    · rename_i d' he
      simp only [Option.some.injEq, Prod.mk.injEq] at hx; obtain ⟨rfl, rfl, rfl⟩ := hx
      exact wp_value (v := a.eval x) (by simp [execOp]) (hK _ _ _ (pure1 (hv x (by simp [Op.operands]) _ he)))
    · cases hx
  | pick c0 x y =>
    simp only [absOp] at hx
    split at hx
    · rename_i t hc
      have hcv := hv c0 (by simp [Op.operands]) _ hc
      simp only [Rep] at hcv
      cases t with
      | true =>
        simp only at hx
        split at hx
        · rename_i d' he
          simp only [Option.some.injEq, Prod.mk.injEq] at hx; obtain ⟨rfl, rfl, rfl⟩ := hx
          exact wp_value (v := a.eval x) (by simp [execOp, hcv, asBool]) (hK _ _ _ (pure1 (hv x (by simp [Op.operands]) _ he)))
        · cases hx
      | false =>
        simp only at hx
        split at hx
        · rename_i d' he
          simp only [Option.some.injEq, Prod.mk.injEq] at hx; obtain ⟨rfl, rfl, rfl⟩ := hx
          exact wp_value (v := a.eval y) (by simp [execOp, hcv, asBool]) (hK _ _ _ (pure1 (hv y (by simp [Op.operands]) _ he)))
        · cases hx
    · cases hx
  | alloc T =>
    simp only [absOp, absAlloc] at hx
    split at hx
    · rename_i i hi
      split at hx
      · rename_i z hz
        have hrz : Rep w (Bd Z h live) h (toD z) z := rep_toD _ z
        obtain ⟨h', hres⟩ := new_ok c hf hx hps hrz
        refine wp_value ?_ (hK _ _ _ hres)
        simp [execOp, Instr.alloc, zeroValue, typeInfo, hi, hz, newVar, newRow]
      · cases hx
    · cases hx
  | box T x =>
    simp only [absOp] at hx
    split at hx
    · rename_i d' he
      obtain ⟨h', hres⟩ := new_ok c hf hx hps (hv x (by simp [Op.operands]) _ he)
      refine wp_value ?_ (hK _ _ _ hres)
      simp [execOp, Instr.box, newVar, newRow]
    · cases hx
  | build T parts =>
    simp only [absOp] at hx
    split at hx
    · rename_i pds hp
      split at hx
      · rename_i d' hb
        simp only [Option.some.injEq, Prod.mk.injEq] at hx; obtain ⟨rfl, rfl, rfl⟩ := hx
        have hparts := evParts_ok (a := a) (xs := parts.toList) (fun x hxm d hd => hv x.2 (mem_parts hxm) d hd) hp
        obtain ⟨r, hrun, hr⟩ := build_ok (vs := parts.map fun (i, x) => (i, a.eval x)) hb (by simpa using hparts)
        refine wp_value ?_ (hK _ _ _ (pure1 hr))
        simp only [execOp, Sem.run_bind, hrun, Result.andThen_ok]
        rfl
      · cases hx
    · cases hx
  | buildSlice T n parts =>
    simp only [absOp] at hx
    split at hx
    · rename_i pds hp
      split at hx
      · rename_i d' u' hb
        simp only [Option.some.injEq, Prod.mk.injEq] at hx; obtain ⟨rfl, rfl, rfl⟩ := hx
        have hparts := evParts_ok (a := a) (xs := parts.toList) (fun x hxm d hd => hv x.2 (mem_parts hxm) d hd) hp
        obtain ⟨r, w', h', hrun, hres⟩ := buildSlice_ok c hf (vs := parts.map fun (i, x) => (i, a.eval x)) hb (by simpa using hparts)
        refine wp_value ?_ (hK _ _ _ hres)
        simp only [execOp, Sem.run_bind, hrun, Result.andThen_ok]
        rfl
      · cases hx
    · cases hx
  | load T x =>
    simp only [absOp] at hx
    split at hx
    · rename_i d1 he
      split at hx
      · rename_i ps' d' hl
        simp only [Option.some.injEq, Prod.mk.injEq] at hx; obtain ⟨rfl, rfl, rfl⟩ := hx
        obtain ⟨r, hrun, hr⟩ := load_ok c hl hps (hv x (by simp [Op.operands]) _ he)
        exact wp_value (by simp [execOp, hrun]) (hK _ _ _ (pure1 hr))
      · cases hx
    · cases hx
  | store T x y =>
    simp only [absOp] at hx
    split at hx
    · rename_i d1 d2 he1 he2
      split at hx
      · rename_i ps' u' hl
        simp only [Option.some.injEq, Prod.mk.injEq] at hx; obtain ⟨rfl, rfl, rfl⟩ := hx
        obtain ⟨w', hrun, hres⟩ := store_ok c hf hl hps (hv x (by simp [Op.operands]) _ he1) (hv y (by simp [Op.operands]) _ he2)
        exact wp_skipped (by simp [execOp, hrun]) (hK _ _ _ hres)
      · cases hx
    · cases hx
  | fieldAddr s x f =>
    simp only [absOp] at hx
    split at hx
    · rename_i d1 he
      split at hx
      · rename_i d' hl
        simp only [Option.some.injEq, Prod.mk.injEq] at hx; obtain ⟨rfl, rfl, rfl⟩ := hx
        obtain ⟨r, hrun, hr⟩ := fieldAddr_ok (P := P) hl (hv x (by simp [Op.operands]) _ he)
        exact wp_value (by simp [execOp, hrun]) (hK _ _ _ (pure1 hr))
      · cases hx
    · cases hx
  | field T x f =>
    simp only [absOp] at hx
    split at hx
    · rename_i fields cs hu he
      have hxv := hv x (by simp [Op.operands]) _ he
      simp only [Rep] at hxv
      obtain ⟨vs, hxe, hr⟩ := hxv
      split at hx
      · rename_i fl hfl
        split at hx
        · rename_i d' hd
          simp only [Option.some.injEq, Prod.mk.injEq] at hx; obtain ⟨rfl, rfl, rfl⟩ := hx
          obtain ⟨r, hrun, hru⟩ := run_part (P := P) (w := w) hr hd
          refine wp_value (v := r) (w' := w) ?_ (hK _ _ _ (pure1 hru))
          simp [execOp, hxe, Instr.field, run_underlying hu, hfl, asAgg, hrun]
        · cases hx
      · cases hx
    · cases hx
  | unOp op T x =>
    simp only [absOp] at hx
    split at hx
    · rename_i b he
      have hxv := hv x (by simp [Op.operands]) _ he
      simp only [Rep] at hxv
      simp only [Option.some.injEq, Prod.mk.injEq] at hx; obtain ⟨rfl, rfl, rfl⟩ := hx
      exact wp_value (v := .bool !b) (w' := w) (by simp [execOp, hxv, Op.unary]) (hK _ _ _ (pure1 (by simp only [Rep])))
    · rename_i k n he
      have hxv := hv x (by simp [Op.operands]) _ he
      simp only [Rep] at hxv
      simp only [Option.some.injEq, Prod.mk.injEq] at hx; obtain ⟨rfl, rfl, rfl⟩ := hx
      exact wp_value (v := .int k (k.wrap (0 - n))) (w' := w) (by simp [execOp, hxv, Op.unary, Op.intArith]) (hK _ _ _ (pure1 (by simp only [Rep])))
    · cases hx
  | binOp op T x y T2 =>
    have hnil : ∀ {A : Option Addr} {n cp : Nat} {t : Bool} {e : TypeId}, a.eval x = .slice A n cp → a.eval y = .slice none 0 0 → eqOp op = some t → P.underlying T = some (.slice e) →
        (execOp a.eval ⟨dst, .binOp op T x y T2, type, pos, after, guard⟩).run P w = .ok (.value (.bool (A.isNone == t))) w := by
      intro A n cp t e h1 h2 h3 h4
      have heq : (Op.equal T (.slice A n cp) (.slice none 0 0)).run P w = .ok A.isNone w := by
        simp [Op.equal, Op.maxDepth, run_equalIn_nil h4 9999]
      cases op <;> simp only [eqOp, Option.some.injEq] at h3 <;> (try (cases h3; done)) <;> subst h3 <;>
        simp [execOp, eqGuard, h1, h2, binOp, heq]
    simp only [absOp] at hx
    split at hx
    · rename_i A n cp hex hey
      have hxv := hv x (by simp [Op.operands]) _ hex
      have hyv := hv y (by simp [Op.operands]) _ hey
      simp only [Rep] at hxv hyv
      split at hx
      · rename_i t e ht hu
        simp only [Option.some.injEq, Prod.mk.injEq] at hx; obtain ⟨rfl, rfl, rfl⟩ := hx
        exact wp_value (hnil hxv hyv ht hu) (hK _ _ _ (pure1 (by simp only [Rep])))
      · cases hx
    · rename_i t0 l hex hey
      have hxv := hv x (by simp [Op.operands]) _ hex
      have hyv := hv y (by simp [Op.operands]) _ hey
      simp only [Rep] at hxv hyv
      split at hx
      · rename_i t e ht hu
        simp only [Option.some.injEq, Prod.mk.injEq] at hx; obtain ⟨rfl, rfl, rfl⟩ := hx
        have hl := hps _ (List.mem_singleton.2 rfl)
        obtain ⟨A, cp, us, hxe, _, _, _, hne⟩ := slice_row hxv
        obtain ⟨ad, rfl, _⟩ := hne (fun e0 => by rw [e0] at hl; simp at hl)
        exact wp_value (hnil hxe hyv ht hu) (hK _ _ _ (pure1 (by simp only [Rep]; rfl)))
      · cases hx
    · rename_i g hex hey
      have hxv := hv x (by simp [Op.operands]) _ hex
      have hyv := hv y (by simp [Op.operands]) _ hey
      simp only [Rep] at hyv
      split at hx
      · rename_i t e T0 t0 l ht hu hg
        simp only [Option.some.injEq, Prod.mk.injEq] at hx; obtain ⟨rfl, rfl, rfl⟩ := hx
        have hl := hps _ (List.mem_singleton.2 rfl)
        have hsl := own_slice c hg hxv (live' := fun _ => False) dead_none
        obtain ⟨A, cp, us, hxe, _, _, _, hne⟩ := slice_row hsl
        obtain ⟨ad, rfl, _⟩ := hne (fun e0 => by rw [e0] at hl; simp at hl)
        exact wp_value (hnil hxe hyv ht hu) (hK _ _ _ (pure1 (by simp only [Rep]; rfl)))
      · cases hx
    · rename_i p q hne1 hex hey
      have hxv := hv x (by simp [Op.operands]) _ hex
      have hyv := hv y (by simp [Op.operands]) _ hey
      simp only [Rep] at hxv hyv
      split at hx
      · rename_i ps' r hs
        simp only [Option.some.injEq, Prod.mk.injEq] at hx; obtain ⟨rfl, rfl, rfl⟩ := hx
        refine wp_value (v := r) (w' := w) ?_ (hK _ _ _ (pure1 (by simp only [Rep])))
        simp only [execOp, Sem.run_bind, hxv, hyv, eqGuard_scal T x y hs, Result.andThen_ok, scal_ok T hs hps]
        rfl
      · split at hx
        · rename_i r hs
          simp only [Option.some.injEq, Prod.mk.injEq] at hx; obtain ⟨rfl, rfl, rfl⟩ := hx
          refine wp_value (v := r) (w' := w) ?_ (hK _ _ _ (pure1 (by simp only [Rep])))
          simp only [execOp, Sem.run_bind, hxv, hyv, eqGuard_bool x y hs, Result.andThen_ok, boolEq_ok hs]
          rfl
        · cases hx
    · cases hx
  | convert src dst x =>
    simp only [absOp] at hx
    split at hx
    · rename_i d1 he
      split at hx
      · rename_i d' hl
        simp only [Option.some.injEq, Prod.mk.injEq] at hx; obtain ⟨rfl, rfl, rfl⟩ := hx
        obtain ⟨r, hrun, hr⟩ := convert_ok c hl (hv x (by simp [Op.operands]) _ he)
        exact wp_value (by simp [execOp, hrun]) (hK _ _ _ (pure1 hr))
      · cases hx
    · cases hx
  | extract x i =>
    simp only [absOp] at hx
    split at hx
    · rename_i ds he
      have hxv := hv x (by simp [Op.operands]) _ he
      simp only [Rep] at hxv
      obtain ⟨vs, hxe, hr⟩ := hxv
      split at hx
      · rename_i d' hd
        simp only [Option.some.injEq, Prod.mk.injEq] at hx; obtain ⟨rfl, rfl, rfl⟩ := hx
        obtain ⟨r, hu, hru⟩ := hr.get i d' hd
        refine wp_value (v := r) (w' := w) ?_ (hK _ _ _ (pure1 hru))
        simp [execOp, hxe, Instr.extract, hu]
      · cases hx
    · cases hx
  | makeSlice T l cp =>
    simp only [absOp] at hx
    split at hx
    · rename_i n m he1 he2
      have h1 := hv l (by simp [Op.operands]) _ he1
      have h2 := hv cp (by simp [Op.operands]) _ he2
      simp only [Rep] at h1 h2
      obtain ⟨r, w', h', hrun, hres⟩ := make_ok c hf hx hps
      exact wp_value (by simp [execOp, h1, h2, hrun]) (hK _ _ _ hres)
    · cases hx
  | slice T x lo hi mx =>
    simp only [absOp] at hx
    split at hx
    · rename_i d1 l1 h1 m1 he hl hh hm
      obtain ⟨pl, rfl, el⟩ := bndD_ok (o := lo) (fun y hy => hv y (by simp [Op.operands]; simp at hy; simp [hy])) hl
      obtain ⟨ph, rfl, eh⟩ := bndD_ok (o := hi) (fun y hy => hv y (by simp [Op.operands]; simp at hy; simp [hy])) hh
      obtain ⟨pm, hpm, em⟩ := bndD_ok (o := mx) (fun y hy => hv y (by simp [Op.operands]; simp at hy; simp [hy])) hm
      obtain ⟨r, h', hrun, hres⟩ := slice_ok c hf hpm hx hps (hv x (by simp [Op.operands]) _ he)
      refine wp_value ?_ (hK _ _ _ hres)
      simp only [execOp, el, eh, em, Sem.run_bind, hrun, Result.andThen_ok]
      rfl
    · cases hx
  | makeFunc fn first captured =>
    simp only [absOp] at hx
    split at hx
    · rename_i f ds hfirst hds
      simp only [Option.some.injEq, Prod.mk.injEq] at hx; obtain ⟨rfl, rfl, rfl⟩ := hx
      have hreps := evs_ok (w := w) (B := Bd Z h live) (h := h) (a := a) (fun x hxm d hd => hv x (by simp [Op.operands]; right; simpa using hxm) d hd) hds
      have hf0 : first = #[] := by apply Array.toList_inj.1; simpa using hfirst
      refine wp_value (v := .func (.func f) #[] (captured.toList.map a.eval).toArray) (w' := w) ?_ (hK _ _ _ (pure1 (by simp only [Rep]; exact ⟨_, rfl, hreps⟩)))
      simp [execOp, Instr.makeFunc, hf0, ← Array.toList_inj]
    · cases hx
  | makeInterface T x =>
    simp only [absOp] at hx
    split at hx
    · cases hx
    · rename_i v' td hnp he hu
      simp only [Option.some.injEq, Prod.mk.injEq] at hx; obtain ⟨rfl, rfl, rfl⟩ := hx
      have hxv := hv x (by simp [Op.operands]) _ he
      simp only [Rep] at hxv
      refine wp_value (v := .iface T v') (w' := w) ?_ (hK _ _ _ (pure1 (by simp only [Rep])))
      simp only [execOp, Instr.makeInterface, Sem.run_bind, run_underlying hu, Result.andThen_ok, hxv]
      cases td <;> first | (exact absurd rfl (hnp _)) | simp
    · rename_i cs td hnp he hu
      split at hx
      · rename_i vs hvs
        simp only [Option.some.injEq, Prod.mk.injEq] at hx; obtain ⟨rfl, rfl, rfl⟩ := hx
        have hxv := hv x (by simp [Op.operands]) _ he
        simp only [Rep] at hxv
        obtain ⟨us, hxe, hr⟩ := hxv
        have hus := allVals_ok hvs hr
        subst hus
        refine wp_value (v := .iface T (.agg us.toArray)) (w' := w) ?_ (hK _ _ _ (pure1 (by simp only [Rep])))
        simp only [execOp, Instr.makeInterface, Sem.run_bind, run_underlying hu, Result.andThen_ok, hxe]
        cases td <;> first | (exact absurd rfl (hnp _)) | simp
      · cases hx
    · cases hx
  | nilCheck x =>
    simp only [absOp] at hx
    split at hx <;> first
      | (cases hx; done)
      | (rename_i he
         simp only [Option.some.injEq, Prod.mk.injEq] at hx; obtain ⟨rfl, rfl, rfl⟩ := hx
         have hxv := hv x (by simp [Op.operands]) _ he
         have hptr : ∃ ad : Addr, a.eval x = .pointer (some ad) := by
           simp only [Rep] at hxv
           first
             | (obtain ⟨_, _, _, _, e⟩ := hxv; exact ⟨_, e⟩)
             | (obtain ⟨_, _, _, _, _, e⟩ := hxv; exact ⟨_, e⟩)
             | (obtain ⟨_, _, _, e, _⟩ := hxv; exact ⟨_, e⟩)
         obtain ⟨ad, e⟩ := hptr
         exact wp_value (v := a.eval x) (by simp [execOp, e]) (hK _ _ _ (pure1 hxv)))
  | indexAddr T x i =>
    simp only [absOp] at hx
    split at hx
    · rename_i d1 k n he1 he2
      split at hx
      · rename_i ps' d' hl
        simp only [Option.some.injEq, Prod.mk.injEq] at hx; obtain ⟨rfl, rfl, rfl⟩ := hx
        have hiv := hv i (by simp [Op.operands]) _ he2
        simp only [Rep] at hiv
        obtain ⟨r, hrun, hr⟩ := indexAddr_ok (k := k) c hl hps (hv x (by simp [Op.operands]) _ he1)
        exact wp_value (by simp [execOp, hiv, hrun]) (hK _ _ _ (pure1 hr))
      · cases hx
    · cases hx
  | index T x i =>
    simp only [absOp] at hx
    split at hx
    · rename_i s k n hu he1 he2
      have hxv := hv x (by simp [Op.operands]) _ he1
      have hiv := hv i (by simp [Op.operands]) _ he2
      simp only [Rep] at hxv hiv
      simp only [Option.some.injEq, Prod.mk.injEq] at hx; obtain ⟨rfl, rfl, rfl⟩ := hx
      obtain ⟨hn0, hn1⟩ := hps _ (List.mem_singleton.2 rfl)
      have hlt : n.toNat < s.size := by omega
      have hg : s[n.toNat]? = some s[n.toNat] := by simp [hlt]
      refine wp_value (v := .int .u8 s[n.toNat].toNat) (w' := w) ?_ (hK _ _ _ (pure1 (by simp only [Rep, hg])))
      simp [execOp, hxv, hiv, Instr.index, asIntOf, run_underlying hu, hn0, hg]
    · rename_i m e cs k n hu he1 he2
      split at hx
      · rename_i ie hie
        split at hx
        · rename_i d' hd
          simp only [Option.some.injEq, Prod.mk.injEq] at hx; obtain ⟨rfl, rfl, rfl⟩ := hx
          obtain ⟨hn0, hn1⟩ := hps _ (List.mem_singleton.2 rfl)
          have hxv := hv x (by simp [Op.operands]) _ he1
          have hiv := hv i (by simp [Op.operands]) _ he2
          simp only [Rep] at hxv hiv
          obtain ⟨vs, hxe, hr⟩ := hxv
          obtain ⟨r, hrun, hru⟩ := run_part (P := P) (w := w) hr hd
          refine wp_value (v := r) (w' := w) ?_ (hK _ _ _ (pure1 hru))
          simp [execOp, hxe, hiv, Instr.index, asIntOf, run_underlying hu, hn0, hn1, sizeOf, typeInfo, hie, hrun]
        · cases hx
      · cases hx
    · cases hx
  | call cl =>
    simp only [absOp] at hx
    split at hx
    · rename_i b hcal
      split at hx
      · rename_i d1 he
        have hargs : ∃ x, cl.args.toList = [x] ∧ ev env x = some d1 := by
          match hA : cl.args.toList with
          | [] => rw [hA] at he; simp [evs] at he
          | [x] => 
            rw [hA] at he
            simp only [evs] at he
            split at he
            · rename_i d ds h1 h2
              simp only [Option.some.injEq] at h2; subst h2
              simp only [Option.some.injEq, List.cons.injEq, and_true] at he; subst he
              exact ⟨x, rfl, h1⟩
            · cases he
          | x :: y :: l =>
            rw [hA] at he
            simp only [evs] at he
            split at he
            · rename_i d ds h1 h2
              split at h2
              · simp only [Option.some.injEq] at h2; subst h2; simp at he
              · cases h2
            · cases he
        obtain ⟨x, hA0, hex⟩ := hargs
        have hxv := hv x (by simp [Op.operands, Call.operands, hcal]; rw [← Array.mem_toList_iff, hA0]; simp) _ hex
        have hA : cl.args = #[x] := by apply Array.toList_inj.1; simpa using hA0
        split at hx
        · rename_i t htys
          have hT : cl.argTypes = #[t] := by apply Array.toList_inj.1; simpa using htys
          split at hx
          · rename_i e hu
            split at hx
            · rename_i n hn
              simp only [Option.some.injEq, Prod.mk.injEq] at hx; obtain ⟨rfl, rfl, rfl⟩ := hx
              have hval : ∃ A cp, a.eval x = .slice A n cp := by
                unfold lenD at hn
                split at hn
                · simp only [Option.some.injEq] at hn; subst hn
                  simp only [Rep, RepT] at hxv; obtain ⟨A, cp, e1, _⟩ := hxv; injection e1 with e1 _; exact ⟨_, _, e1⟩
                · rename_i g
                  split at hn
                  · rename_i T0 t0 l hg
                    simp only [Option.some.injEq] at hn; subst hn
                    simp only [Rep] at hxv
                    obtain ⟨hb, heb, hxv⟩ := hxv
                    obtain ⟨hb', he', hlen, _⟩ := c.hb g _ hg
                    rw [heb] at he'; injection he' with he'; subst he'
                    rcases hxv with ⟨_, h0, A, e1⟩ | ⟨b, _, e1⟩
                    · exact ⟨A, 0, by rw [e1, hlen, h0]⟩
                    · exact ⟨_, _, by rw [e1, hlen]⟩
                  · cases hn
                · simp only [Option.some.injEq] at hn; subst hn
                  simp only [Rep] at hxv; obtain ⟨_, _, _, _, _, e1, _⟩ := hxv; exact ⟨_, _, e1⟩
                · simp only [Option.some.injEq] at hn; subst hn
                  simp only [Rep] at hxv; exact ⟨_, _, hxv⟩
                · cases hn
              obtain ⟨A, cp, e1⟩ := hval
              refine wp_value (v := .int .i64 n) (w' := w) ?_ (hK _ _ _ (pure1 (by simp only [Rep])))
              simp [execOp, resolve, hcal, hA, hT, invoke, builtin, e1, Builtin.len_, run_underlying hu, goInt]
            · cases hx
          · rename_i hu
            split at hx
            · rename_i s
              simp only [Option.some.injEq, Prod.mk.injEq] at hx; obtain ⟨rfl, rfl, rfl⟩ := hx
              simp only [Rep] at hxv
              refine wp_value (v := .int .i64 s.size) (w' := w) ?_ (hK _ _ _ (pure1 (by simp only [Rep])))
              simp [execOp, resolve, hcal, hA, hT, invoke, builtin, hxv, Builtin.len_, run_underlying hu, goInt]
            · cases hx
          · rename_i n e hu
            simp only [Option.some.injEq, Prod.mk.injEq] at hx; obtain ⟨rfl, rfl, rfl⟩ := hx
            refine wp_value (v := .int .i64 n) (w' := w) ?_ (hK _ _ _ (pure1 (by simp only [Rep])))
            simp [execOp, resolve, hcal, hA, hT, invoke, builtin, Builtin.len_, run_underlying hu, goInt]
          · cases hx
        · cases hx
      · rename_i d1 d2 he
        have hargs := evs_ok (w := w) (B := Bd Z h live) (h := h) (a := a) (fun x hxm d hd => hv x (by simp [Op.operands, Call.operands, hcal]; rw [← Array.mem_toList_iff]; exact hxm) d hd) he
        simp only [Reps] at hargs
        obtain ⟨v1, us1, e1, hr1, v2, us2, rfl, hr2, rfl⟩ := hargs
        obtain ⟨r, w', h', hrun, hres⟩ := append_ok (ty := type) c hf hx hps hr1 hr2
        have hA : cl.args.map a.eval = #[v1, v2] := by apply Array.toList_inj.1; simpa using e1
        refine wp_value ?_ (hK _ _ _ hres)
        simp only [execOp, Sem.run_bind, resolve, hcal, Sem.run_pure, Result.andThen_ok, invoke, builtin, hA]
        have : (Builtin.append_ cl.argTypes type #[v1, v2]).run P w = .ok r w' := by simpa using hrun
        simp [this]
      · rename_i ds he
        have hargs := evs_ok (w := w) (B := Bd Z h live) (h := h) (a := a) (fun x hxm d hd => hv x (by simp [Op.operands, Call.operands, hcal]; rw [← Array.mem_toList_iff]; exact hxm) d hd) he
        split at hx
        · rename_i d' hm
          simp only [Option.some.injEq, Prod.mk.injEq] at hx; obtain ⟨rfl, rfl, rfl⟩ := hx
          unfold minmax at hm
          split at hm
          · rename_i k p k' q
            simp only [Option.some.injEq] at hm; subst hm
            simp only [Reps, Rep] at hargs
            obtain ⟨v1, us1, e1, rfl, v2, us2, rfl, rfl, rfl⟩ := hargs
            have hA : cl.args.map a.eval = #[.int k p, .int k' q] := by apply Array.toList_inj.1; simpa using e1
            refine wp_value (v := .int k (if q < p then q else p)) (w' := w) ?_ (hK _ _ _ (pure1 (by simp only [Rep])))
            simp [execOp, Sem.run_bind, resolve, hcal, invoke, builtin, hA, Builtin.min_, Builtin.min2]
          · cases hm
        · cases hx
      · rename_i ds he
        have hargs := evs_ok (w := w) (B := Bd Z h live) (h := h) (a := a) (fun x hxm d hd => hv x (by simp [Op.operands, Call.operands, hcal]; rw [← Array.mem_toList_iff]; exact hxm) d hd) he
        split at hx
        · rename_i d' hm
          simp only [Option.some.injEq, Prod.mk.injEq] at hx; obtain ⟨rfl, rfl, rfl⟩ := hx
          unfold minmax at hm
          split at hm
          · rename_i k p k' q
            simp only [Option.some.injEq] at hm; subst hm
            simp only [Reps, Rep] at hargs
            obtain ⟨v1, us1, e1, rfl, v2, us2, rfl, rfl, rfl⟩ := hargs
            have hA : cl.args.map a.eval = #[.int k p, .int k' q] := by apply Array.toList_inj.1; simpa using e1
            refine wp_value (v := .int k (if q > p then q else p)) (w' := w) ?_ (hK _ _ _ (pure1 (by simp only [Rep])))
            simp [execOp, Sem.run_bind, resolve, hcal, invoke, builtin, hA, Builtin.max_, Builtin.max2]
          · cases hm
        · cases hx
      · cases hx
    · rename_i fo hcal
      split at hx
      · rename_i d1 ds he hds
        have hargs := evs_ok (w := w) (B := Bd Z h live) (h := h) (a := a) (fun x hxm d hd => hv x (by simp [Op.operands, Call.operands, hcal]; right; simpa using hxm) d hd) hds
        have hfv := hv fo (by simp [Op.operands, Call.operands, hcal]) _ he
        unfold absFuncCall at hx
        split at hx
        · rename_i f caps
          simp only [Rep] at hfv
          obtain ⟨vs, hfe, hcaps⟩ := hfv
          obtain ⟨hent, hcall⟩ := absCall_ok c hf hx hps (hargs.append hcaps)
          refine wp_calls (f := f) (args := (cl.args.toList.map a.eval ++ vs).toArray) ?_ (hcall.mono fun e w' ⟨v, he, hres⟩ => ⟨v, he, hK _ _ _ hres⟩)
          have e1 : cl.args.map a.eval ++ vs.toArray = (cl.args.toList.map a.eval ++ vs).toArray := by simp [← Array.toList_inj]
          simp [execOp, resolve, hcal, hfe, Deferred.ofValue, invoke, e1, hent]
        · cases hx
      · cases hx
    · rename_i ro name hcal
      split at hx
      · rename_i v0 ds he hds
        have hargs := evs_ok (w := w) (B := Bd Z h live) (h := h) (a := a) (fun x hxm d hd => hv x (by simp [Op.operands, Call.operands, hcal]; right; simpa using hxm) d hd) hds
        have hfv := hv ro (by simp [Op.operands, Call.operands, hcal]) _ he
        simp only [Rep] at hfv
        split at hx
        · rename_i f d1 hm
          obtain ⟨r, hr, hmeth⟩ := methD_ok (w := w) (Z := Z) (h := h) (live := live) hm (cl.args.map a.eval)
          obtain ⟨hent, hcall⟩ := absCall_ok c hf hx hps (by simp only [Reps]; exact ⟨r, _, rfl, hr, hargs⟩)
          refine wp_calls (f := f) (args := (r :: cl.args.toList.map a.eval).toArray) ?_ (hcall.mono fun e w' ⟨v, he, hres⟩ => ⟨v, he, hK _ _ _ hres⟩)
          have e1 : #[r] ++ cl.args.map a.eval = (r :: cl.args.toList.map a.eval).toArray := by simp [← Array.toList_inj]
          have e2 : (#[v0] ++ cl.args.map a.eval)[0]? = some v0 := by rw [Array.getElem?_append_left (by simp)]; rfl
          have e3 : (#[v0] ++ cl.args.map a.eval).extract 1 (#[v0] ++ cl.args.map a.eval).size = cl.args.map a.eval := by
            apply Array.toList_inj.1
            rw [Array.toList_extract]
            simp
            exact List.take_of_length_le (by simp)
          simp only [execOp, resolve, hcal, hfv, Sem.run_bind, Sem.run_pure, Result.andThen_ok, invoke, e2, e3, hmeth, e1, hent]
        · cases hx
      · cases hx
  | _ => simp [absOp] at hx
end
end Go.Proofs.Ytpblkjjafdfjkaa.V
