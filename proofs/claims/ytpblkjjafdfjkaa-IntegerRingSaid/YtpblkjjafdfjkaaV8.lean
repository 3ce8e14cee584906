/- What one operation does: the proofs, third part (stores, addresses, new slices). -/
import Derived.Test.YtpblkjjafdfjkaaV7
namespace Go.Proofs.Ytpblkjjafdfjkaa.V
open Go.RowKit
set_option linter.unusedVariables false
set_option linter.unusedSimpArgs false

section
variable {P : Program} {w w' : World} {Z : Nat → Prop} {h : Hist} {live : Nat → Prop} {boxes : Boxes} {id : Nat} {u : Upd} {d : D} {v : Value}

theorem agree_put {live' : Nat → Prop} {g b : Nat} {hb : Hb} {cs : Array Value} (hl : live g) (hg : h g = some hb) (hblk : hb.blk = some b) (hd : ∀ i, live' i → live i) : Agree w (w.setRow b cs) (Bd Z h live) (Bd Z h live') := fun k hk hlt =>
  ⟨hk.less hd, setRow_other w b k cs (fun e => hk.2 g hb hl hg (by rw [hblk, e]))⟩
theorem sizeIs_ok {T : TypeId} {n : Nat} (hs : sizeIs P T n = true) : ∃ i, P.info? T = some i ∧ i.size = n := by
  unfold sizeIs at hs
  split at hs
  · rename_i i hi
    exact ⟨i, hi, Nat.eq_of_beq_eq_true hs⟩
  · cases hs
theorem seg_row {cur vs : List Value} {k j sz L : Nat} (h1 : k + sz ≤ L) (h2 : L ≤ cur.length) (h3 : j + vs.length ≤ sz) :
    (cur.take (k + j) ++ vs ++ cur.drop (k + j + vs.length)).take L = (cur.take L).take k ++ (((cur.drop k).take sz).take j ++ vs ++ ((cur.drop k).take sz).drop (j + vs.length)) ++ (cur.take L).drop (k + sz) := by
  have e1 : cur.take (k + j) ++ vs ++ cur.drop (k + j + vs.length) = (cur.take k ++ (((cur.drop k).take sz).take j ++ vs ++ ((cur.drop k).take sz).drop (j + vs.length))) ++ cur.drop (k + sz) := by
    rw [put_seg2 (a := k) (b := cur.length - k) (by omega) (by omega), Nat.add_sub_cancel_left, put_seg (us := cur.drop k) (a := sz) (b := cur.length - k - sz) (by rw [List.length_drop]; omega) h3, List.drop_drop]
    simp only [List.append_assoc]
  have hl : (cur.take k ++ (((cur.drop k).take sz).take j ++ vs ++ ((cur.drop k).take sz).drop (j + vs.length))).length = k + sz := by
    simp only [List.length_append, List.length_take, List.length_drop]; omega
  have e2 : (cur.take L).take k = cur.take k := by rw [List.take_take, Nat.min_eq_left (by omega)]
  have e3 : (cur.take L).drop (k + sz) = (cur.drop (k + sz)).take (L - (k + sz)) := List.drop_take
  rw [e1, List.take_append, hl, List.take_of_length_le (by omega), e2, e3]
theorem store_rel (c : Ctx w Z h live boxes) (hf : h id = none) {g e j : Nat} {T T0 : TypeId} {t : Ty} {l : List t.den} {y : t.den} {cons : List Nat} {va vx : Value} (hg : boxes g = some (.row T0 t l)) (hr : Rep w (Bd Z h live) h (.rel g t.size e j) va)
    (hsz : sizeIs P T vx.cells.size = true) (hj : j + vx.cells.size ≤ t.size) (hc : ∀ g ∈ cons, live g) (hgc : g ∉ cons) (h1 : ∀ u ∈ vx.cells.toList, u.oneCell' = true)
    (hy : ∀ us, RepT w (Bd Z h live) t (l.getD e t.zero) us → ∀ live', Dead live live' cons → RepT w (Bd Z h live') t y (us.take j ++ vx.cells.toList ++ us.drop (j + vx.cells.toList.length))) :
    ∃ w', (Instr.storeAt T va vx).run P w = .ok () w' ∧ Res w w' Z h h live id ((g, some (.row T0 t (l.set e y))) :: dropU cons) (.val undef) undef := by
  obtain ⟨hb, b, cur, he, hblk, rfl, hcell, hlt, hlen, hcs, hlc, hcm, hrl, hel, _⟩ := row_elem c hg hr
  obtain ⟨i, hi, his⟩ := sizeIs_ok hsz
  have hin : e * t.size + t.size ≤ l.length * t.size := by
    have : (e + 1) * t.size ≤ l.length * t.size := Nat.mul_le_mul_right _ hlt
    rw [Nat.add_mul, Nat.one_mul] at this; exact this
  have hcl : l.length * t.size ≤ cur.size := by rw [hcs, hlen]; exact Nat.mul_le_mul_right _ hlc
  have hst := run_storeCells_at P b (e * t.size + j) T0 vx.cells.toList 0 cur w hcell (by simp only [Array.length_toList]; omega) h1
  refine ⟨w.setRow b (cur.toList.take (e * t.size + j + 0) ++ vx.cells.toList ++ cur.toList.drop (e * t.size + j + 0 + vx.cells.toList.length)).toArray, ?_, ?_⟩
  rotate_left
  · refine res_put c.hh hf (cs := (cur.toList.take (e * t.size + j + 0) ++ vx.cells.toList ++ cur.toList.drop (e * t.size + j + 0 + vx.cells.toList.length)).toArray) he hblk (c.hl _ _ hg) hc hgc (by simp only [Rep]) ?_
    have hdead : Dead live (liveU live ((g, some (.row T0 t (l.set e y))) :: dropU cons)) cons := ⟨fun i hi => by
        rcases (liveU_new (live := live) _ cons i).1 hi with h1 | h1
        · rw [h1]; exact c.hl _ _ hg
        · exact h1.1,
      fun g' hg' hl' => by
        rcases (liveU_new (live := live) _ cons g').1 hl' with h1 | h1
        · exact hgc (by rw [← h1]; exact hg')
        · exact h1.2 hg'⟩
    refine ⟨by rw [List.length_set]; exact hlen, .inr ⟨b, _, hblk, setRow_heap w b cur _ T0 (0, 0) hcell, ?_, hlc, hcm, ?_⟩⟩
    · simp only [List.size_toArray, List.length_append, List.length_take, List.length_drop, Array.length_toList]; omega
    · have hset := RepL.set e y _ (RepL.step (Agree.mono fun k hk => hk.less hdead.1) hrl) hlt (hy _ hel _ hdead)
      have hseg := seg_row (cur := cur.toList) (vs := vx.cells.toList) (k := e * t.size) (j := j) (sz := t.size) (L := l.length * t.size) hin (by simpa using hcl) (by simpa using hj)
      simp only [Nat.add_zero]
      rw [← hlen, hseg]
      refine RepL.step ?_ hset
      intro k hk hlt
      refine ⟨hk, setRow_other w b k _ (fun e1 => hk.2 g hb ?_ he (by rw [hblk, e1]))⟩
      exact (liveU_new (live := live) _ cons g).2 (.inl rfl)
  · simp only [Instr.storeAt, Instr.sureAddr, storeVar, sizeOf, typeInfo]
    simp [hi, his, hst]

theorem store_ok (c : Ctx w Z h live boxes) (hf : h id = none) {T : TypeId} {a x : D} {ps : List Prop} {va vx : Value} (hx : absStore P boxes T a x = some (ps, u)) (hps : ∀ p ∈ ps, p) (hra : Rep w (Bd Z h live) h a va) (hrx : Rep w (Bd Z h live) h x vx) :
    ∃ w', (Instr.storeAt T va vx).run P w = .ok () w' ∧ Res w w' Z h h live id u (.val undef) undef := by
  unfold absStore at hx
  split at hx
  · rename_i g off
    split at hx
    · rename_i T0 cs hg
      split at hx
      · rename_i hc
        obtain ⟨hc1, hc2, hc3⟩ := hc
        simp only [Option.some.injEq, Prod.mk.injEq] at hx
        obtain ⟨rfl, rfl⟩ := hx
        have hkn : x.known = true := by
          cases x with
          | any => simp [D.cells, D.one] at hc3
          | _ => rfl
        obtain ⟨hb, he, b, cells, hblk, hcell, hrs⟩ := c.hb g _ hg
        simp only [Rep] at hra
        obtain ⟨hb', b', he', hblk', rfl⟩ := hra
        rw [he] at he'; injection he' with he'; subst he'
        rw [hblk] at hblk'; injection hblk' with hblk'; subst hblk'
        have hrc := cells_ok hkn hrx
        have hl1 : vx.cells.size = x.cells.length := by have := hrc.length; simpa using this
        have hl2 : cells.size = cs.length := by have := hrs.length; simpa using this
        obtain ⟨i, hi, his⟩ := sizeIs_ok hc1
        have hst := run_storeCells_at P b off T0 vx.cells.toList 0 cells w hcell (by simp only [Array.length_toList]; omega) (ones_ok hrc hc3)
        refine ⟨w.setRow b (cells.toList.take (off + 0) ++ vx.cells.toList ++ cells.toList.drop (off + 0 + vx.cells.toList.length)).toArray, ?_, res_put c.hh hf (cons := []) he hblk (c.hl _ _ hg) (fun _ hg => by cases hg) (by simp) (by simp only [Rep]) ⟨b, _, hblk, setRow_heap w b cells _ T0 (0, 0) hcell, ?_⟩⟩
        rotate_left
        · have := Reps.step (agree_put (w := w) (live' := liveU live ((g, some (.cells T0 (setAt cs off x.cells))) :: dropU [])) (cs := (cells.toList.take (off + 0) ++ vx.cells.toList ++ cells.toList.drop (off + 0 + vx.cells.toList.length)).toArray) (c.hl _ _ hg) he hblk (fun i hi => by
            rcases (liveU_new (live := live) _ [] i).1 hi with h1 | h1
            · rw [h1]; exact c.hl _ _ hg
            · exact h1.1)) (Ext.refl h) _ _ (setAt_ok off hrs hrc)
          simpa using this
        · simp only [Instr.storeAt, Instr.sureAddr, storeVar, sizeOf, typeInfo]
          simp [hi, his, hl1, hst]
      · cases hx
    · cases hx
  · rename_i g sz e j
    split at hx
    · rename_i T0 t l hg
      split at hx
      · rename_i t' l'
        split at hx
        · rename_i n t2 l2
          split at hx
          · rename_i he
            subst he
            split at hx
            · rename_i hc
              obtain ⟨hc1, hc2, hc3⟩ := hc
              simp only [Option.some.injEq, Prod.mk.injEq] at hx
              obtain ⟨rfl, rfl⟩ := hx
              have hln : l'.length = n := hps _ (by simp)
              simp only [Rep] at hrx
              obtain ⟨vs, rfl, hv⟩ := hrx
              have hvl := RepL.length (w := w) hv
              have hvs : (Value.agg vs.toArray).cells.size = n * t'.size := by simp [Value.cells, hvl, hln]
              subst hc2
              subst hc3
              refine store_rel c hf (cons := []) (T0 := T0) (t := .arr n t') hg hra (by rw [hvs]; exact hc1) (by rw [hvs]; simp [Ty.size]) (fun _ hg => by cases hg) (by simp) (by simpa [Value.cells] using RepLs.all (fun x us hx => RepT.one hx) hv) fun us hus live' hd => ?_
              have hul := hus.length
              have e1 : (Value.agg vs.toArray).cells.toList = vs := by simp [Value.cells]
              rw [e1, List.take_zero, List.nil_append, Nat.zero_add, List.drop_eq_nil_of_le (by rw [hul, hvl, hln]; exact Nat.le_refl _), List.append_nil]
              simp only [RepT]
              exact ⟨hln, RepLs.imp (fun x us hx => RepT.step (Agree.mono fun k hk => hk.less hd.1) hx) hv⟩
            · cases hx
          · cases hx
        · cases hx
      · split at hx
        · rename_i hc
          split at hx
          · rename_i y cons hy
            split at hx
            · cases hx
            · rename_i hgc
              simp only [Option.some.injEq, Prod.mk.injEq] at hx
              obtain ⟨rfl, rfl⟩ := hx
              have hgc : g ∉ cons := fun hm => hgc (has_iff.2 hm)
              have hkn := hc.2.2
              have hrc := cells_ok hkn hrx
              have hl1 : vx.cells.size = x.cells.length := by have := hrc.length; simpa using this
              have hsz := hc.2.1
              subst hsz
              obtain ⟨hb, b, cur, _, _, _, _, _, _, _, _, _, _, hel, _⟩ := row_elem c hg hra
              obtain ⟨b1, b2, b3, _⟩ := putDen_ok c hy hps hel hrc
              exact store_rel c hf hg hra (by rw [hl1]; exact hc.1) (by simpa using b1) b2 hgc b3 fun us hus live' hd => (putDen_ok c hy hps hus hrc).2.2.2 live' hd
          · cases hx
        · cases hx
    · cases hx
  · cases hx
end
end Go.Proofs.Ytpblkjjafdfjkaa.V
