/- What one operation does: the proofs, fourth part (addresses, slices, make, append). -/
import Derived.Test.YtpblkjjafdfjkaaV8
import Derived.Laws.BytesString
import Derived.Laws.Slices
namespace Go.Proofs.Ytpblkjjafdfjkaa.V
open Go.RowKit
set_option linter.unusedVariables false
set_option linter.unusedSimpArgs false

section
variable {P : Program} {w w' : World} {Z : Nat → Prop} {h : Hist} {live : Nat → Prop} {boxes : Boxes} {id : Nat} {u : Upd} {d : D} {v : Value}

theorem run_sizeOf {T : TypeId} {n : Nat} (hs : sizeIs P T n = true) : (sizeOf T).run P w = .ok n w := by
  obtain ⟨i, hi, rfl⟩ := sizeIs_ok hs
  simp [sizeOf, typeInfo, hi]
theorem slice_row {B : Nat → Prop} {t : Ty} {l : List t.den} {u : Value} (hr : RepT w B (.slice t) l [u]) :
    ∃ A c us, u = .slice A l.length c ∧ l.length ≤ c ∧ l.length ≤ maxLen ∧ RepL w B t l us ∧ (l ≠ [] → ∃ ad, A = some ad ∧ B ad.block ∧ ad.block < w.heap.size ∧ CellsAt w ad us) := by
  simp only [RepT] at hr
  obtain ⟨A, c, he, h1, h2, h3⟩ := hr
  injection he with he _
  by_cases hl : l = []
  · subst hl
    exact ⟨A, c, [], he, h1, h2, by simp only [RepL, RepLs], fun h0 => absurd rfl h0⟩
  · obtain ⟨x, l', rfl⟩ := List.exists_cons_of_ne_nil hl
    obtain ⟨ad, vs, rfl, hB, hlt, _, _⟩ := h3 0 x (by simp)
    obtain ⟨us, h4, h5⟩ := repT_slice_row (w := w) (B := B) (t := t) (l := x :: l') (ad := ad) (fun i y hy => by
      obtain ⟨ad', vs, e, _, _, h6, h7⟩ := h3 i y hy
      injection e with e; subst e
      exact ⟨vs, h6, h7⟩)
    exact ⟨some ad, c, us, he, h1, h2, h4, fun _ => ⟨ad, rfl, hB, hlt, h5⟩⟩

theorem fieldAddr_ok {s : TypeId} {f : Nat} {d d' : D} {B : Nat → Prop} (hx : absFieldAddr P s d f = some d') (hr : Rep w B h d v) : ∃ u, (Instr.fieldAt s v f).run P w = .ok u w ∧ Rep w B h d' u := by
  unfold absFieldAddr at hx
  split at hx
  · rename_i fields hu
    split at hx
    · rename_i fl hfl
      split at hx
      · rename_i i hi
        split at hx
        · cases hx
        · rename_i hsz
          have hsz : i.size ≠ 0 := Nat.ne_of_beq_eq_false hsz
          have key : ∀ ad : Addr, v = .pointer (some ad) → (Instr.fieldAt s v f).run P w = .ok (.pointer (some (ad.add fl.offset))) w := fun ad hv => by
            subst hv
            simp [Instr.fieldAt, run_underlying hu, hfl, Instr.sureAddr, fieldPlace, sizeOf, typeInfo, hi, hsz]
          split at hx
          · simp only [Option.some.injEq] at hx; subst hx
            simp only [Rep] at hr
            obtain ⟨hb, b, h1, h2, rfl⟩ := hr
            exact ⟨_, key _ rfl, by simp only [Rep]; exact ⟨hb, b, h1, h2, by rw [add_at]⟩⟩
          · simp only [Option.some.injEq] at hx; subst hx
            simp only [Rep] at hr
            obtain ⟨hb, b, h1, h2, h3, rfl⟩ := hr
            exact ⟨_, key _ rfl, by simp only [Rep]; exact ⟨hb, b, h1, h2, h3, by rw [add_at, Nat.add_assoc]⟩⟩
          · simp only [Option.some.injEq] at hx; subst hx
            simp only [Rep] at hr
            obtain ⟨ad, vs, x, rfl, h1⟩ := hr
            exact ⟨_, key _ rfl, by simp only [Rep]; exact ⟨ad, vs, x, by rw [add_add], h1⟩⟩
          · simp only [Option.some.injEq] at hx; subst hx
            simp only [Rep] at hr
            obtain ⟨b, cells, T, rfl, h1⟩ := hr
            exact ⟨_, key _ rfl, by simp only [Rep]; exact ⟨b, cells, T, by rw [add_at], h1⟩⟩
          · cases hx
      · cases hx
    · cases hx
  · cases hx

theorem run_indexAt_sl {T e : TypeId} {sz : Nat} {k : IntKind} {n : Int} {ad : Addr} {len cap : Nat} (hu : P.underlying T = some (.slice e)) (hs : sizeIs P e sz = true) (h0 : 0 ≤ n) (h1 : n < len) :
    (Instr.indexAt T (.slice (some ad) len cap) (.int k n)).run P w = .ok (.pointer (some (ad.add (n.toNat * sz)))) w := by
  simp [Instr.indexAt, run_underlying hu, asIntOf, h0, h1, run_sizeOf hs]
theorem run_indexAt_arr {T e : TypeId} {sz m : Nat} {k : IntKind} {n : Int} {ad : Addr} (hu : P.underlying T = some (.array m e)) (hs : sizeIs P e sz = true) (h0 : 0 ≤ n) (h1 : n < m) :
    (Instr.indexAt T (.pointer (some ad)) (.int k n)).run P w = .ok (.pointer (some (ad.add (n.toNat * sz)))) w := by
  simp [Instr.indexAt, run_underlying hu, asIntOf, h0, h1, run_sizeOf hs, Instr.sureAddr]
theorem indexAddr_ok (c : Ctx w Z h live boxes) {T : TypeId} {d d' : D} {k : IntKind} {n : Int} {ps : List Prop} (hx : absIndexAddr P boxes T d n = some (ps, d')) (hps : ∀ p ∈ ps, p) (hr : Rep w (Bd Z h live) h d v) :
    ∃ u, (Instr.indexAt T v (.int k n)).run P w = .ok u w ∧ Rep w (Bd Z h live) h d' u := by
  unfold absIndexAddr at hx
  split at hx
  · rename_i e hu
    split at hx
    · rename_i t l
      split at hx
      · rename_i hs
        simp only [Option.some.injEq, Prod.mk.injEq] at hx
        obtain ⟨rfl, rfl⟩ := hx
        obtain ⟨h0, h1⟩ := hps _ (List.mem_singleton.2 rfl)
        simp only [Rep, RepT] at hr
        obtain ⟨A, cp, he, h2, h3, h4⟩ := hr
        injection he with he _; subst he
        have hlt : n.toNat < l.length := by omega
        obtain ⟨ad, vs, rfl, hB, hbl, h5, h6⟩ := h4 n.toNat _ (List.getElem?_eq_getElem hlt)
        refine ⟨_, run_indexAt_sl hu hs h0 h1, ?_⟩
        simp only [Rep]
        exact ⟨ad.add (n.toNat * t.size), vs, _, by rw [add_add, Nat.add_zero], by rw [add_block]; exact hB, by rw [add_block]; exact hbl, List.getElem?_eq_getElem hlt, h5, h6⟩
      · cases hx
    · rename_i g
      split at hx
      · rename_i T0 t l hg
        split at hx
        · rename_i hs
          simp only [Option.some.injEq, Prod.mk.injEq] at hx
          obtain ⟨rfl, rfl⟩ := hx
          obtain ⟨h0, h1⟩ := hps _ (List.mem_singleton.2 rfl)
          simp only [Rep] at hr
          obtain ⟨hb, he, hr⟩ := hr
          obtain ⟨hb', he', hlen, _⟩ := c.hb g _ hg
          rw [he] at he'; injection he' with he'; subst he'
          rcases hr with ⟨_, h2, _⟩ | ⟨b, hblk, rfl⟩
          · omega
          · refine ⟨_, run_indexAt_sl hu hs h0 (by omega), ?_⟩
            simp only [Rep]
            exact ⟨hb, b, he, hblk, by omega, by rw [add_at, Nat.zero_add, Nat.add_zero]⟩
        · cases hx
      · cases hx
    · rename_i g sz off m
      split at hx
      · rename_i hs
        simp only [Option.some.injEq, Prod.mk.injEq] at hx
        obtain ⟨rfl, rfl⟩ := hx
        obtain ⟨h0, h1⟩ := hps _ (List.mem_singleton.2 rfl)
        simp only [Rep] at hr
        obtain ⟨hb, a, he, h2, _, rfl, h3⟩ := hr
        obtain ⟨b, hblk, rfl⟩ := h3 (by omega)
        refine ⟨_, run_indexAt_sl hu hs h0 h1, ?_⟩
        simp only [Rep]
        exact ⟨hb, b, he, hblk, by omega, by rw [add_at, Nat.add_mul, Nat.add_zero]⟩
      · cases hx
    · cases hx
  · rename_i m e hu
    split at hx
    · rename_i g sz e0 j
      split at hx
      · rename_i hc
        obtain ⟨hs, rfl, rfl⟩ := hc
        split at hx
        · rename_i T0 t l hg
          simp only [Option.some.injEq, Prod.mk.injEq] at hx
          obtain ⟨rfl, rfl⟩ := hx
          obtain ⟨h0, h1⟩ := hps (0 ≤ n ∧ n < m) (by simp)
          have h2 := hps (m ≤ l.length) (by simp)
          simp only [Rep] at hr
          obtain ⟨hb, b, he, hblk, h3, rfl⟩ := hr
          obtain ⟨hb', he', hlen, _⟩ := c.hb g _ hg
          rw [he] at he'; injection he' with he'; subst he'
          refine ⟨_, run_indexAt_arr hu hs h0 h1, ?_⟩
          simp only [Rep]
          exact ⟨hb, b, he, hblk, by omega, by rw [add_at]; simp⟩
        · cases hx
      · split at hx
        · rename_i hc
          obtain ⟨hs, rfl⟩ := hc
          simp only [Option.some.injEq, Prod.mk.injEq] at hx
          obtain ⟨rfl, rfl⟩ := hx
          obtain ⟨h0, h1⟩ := hps _ (List.mem_singleton.2 rfl)
          simp only [Rep] at hr
          obtain ⟨hb, b, he, hblk, h3, rfl⟩ := hr
          refine ⟨_, run_indexAt_arr hu hs h0 h1, ?_⟩
          simp only [Rep]
          exact ⟨hb, b, he, hblk, h3, by rw [add_at, Nat.mul_one, Nat.add_zero]⟩
        · cases hx
    · rename_i t l i j
      split at hx
      · rename_i hc
        obtain ⟨hs, rfl⟩ := hc
        simp only [Option.some.injEq, Prod.mk.injEq] at hx
        obtain ⟨rfl, rfl⟩ := hx
        obtain ⟨h0, h1⟩ := hps _ (List.mem_singleton.2 rfl)
        simp only [Rep] at hr
        obtain ⟨ad, vs, x, rfl, h3⟩ := hr
        refine ⟨_, run_indexAt_arr hu hs h0 h1, ?_⟩
        simp only [Rep]
        exact ⟨ad, vs, x, by rw [add_add, Nat.mul_one, Nat.zero_add], h3⟩
      · cases hx
    · cases hx
  · cases hx

theorem build_ok {T : TypeId} {B : Nat → Prop} {ps : List (Nat × D)} {vs : Array (Nat × Value)} {d : D} (hx : absBuild P T ps = some d) (hp : Parts w B h ps vs.toList) : ∃ u, (Instr.build T vs).run P w = .ok u w ∧ Rep w B h d u := by
  have hz : ∀ z : Value, Reps w B h (z.cells.toList.map D.val) z.cells.toList := fun z => reps_vals B _
  unfold absBuild at hx
  split at hx
  · rename_i it fields hi hu
    split at hx
    · rename_i z places hzz hpl
      split at hx
      · rename_i cs hf
        simp only [Option.some.injEq] at hx; subst hx
        obtain ⟨cells', hfill, hr⟩ := fill_ok (places.toArray[·]?) hp (hz z) hf
        have hb : P.built T vs.toList = some cells' := by
          unfold Program.built
          simp only [hi, hu, hzz, hpl]
          exact hfill
        exact ⟨_, run_build (P := P) w T vs cells' hb, by simp only [Rep]; exact ⟨cells'.toList, by simp, hr⟩⟩
      · cases hx
    · cases hx
  · rename_i it n e hi hu
    split at hx
    · rename_i z ie hzz hie
      split at hx
      · rename_i cs hf
        simp only [Option.some.injEq] at hx; subst hx
        obtain ⟨cells', hfill, hr⟩ := fill_ok (fun i => some (i * ie.size, ie.size)) hp (hz z) hf
        have hb : P.built T vs.toList = some cells' := by
          unfold Program.built
          simp only [hi, hu, hzz, hie]
          exact hfill
        exact ⟨_, run_build (P := P) w T vs cells' hb, by simp only [Rep]; exact ⟨cells'.toList, by simp, hr⟩⟩
      · cases hx
    · cases hx
  · cases hx

theorem repL_replicate {B : Nat → Prop} {t : Ty} {x : t.den} {zs : List Value} (hr : RepT w B t x zs) : ∀ n : Nat, RepL w B t (List.replicate n x) (List.replicate n zs).flatten
  | 0 => by simp [RepL, RepLs]
  | n + 1 => by
    simp only [List.replicate_succ, List.flatten_cons, RepL, RepLs]
    exact ⟨_, _, rfl, hr, repL_replicate hr n⟩
theorem range_chunks {zs : Array Value} : ∀ n : Nat, ((List.range (n * zs.size)).map (fun i => zs[i % zs.size]!)) = (List.replicate n zs.toList).flatten
  | 0 => by simp
  | n + 1 => by
    rw [Nat.add_mul, Nat.one_mul, Nat.add_comm, List.range_add, List.map_append, List.replicate_succ, List.flatten_cons, ← range_chunks n, List.map_map]
    congr 1
    · apply List.ext_getElem
      · simp
      · intro i h1 h2
        simp only [List.length_map, List.length_range] at h1
        simp [Nat.mod_eq_of_lt h1, h1]
    · apply List.map_congr_left
      intro i _
      simp only [Function.comp, Nat.add_mod_left]
theorem madeCells_list (z : Array Value) (n : Nat) : (madeCells z (n * z.size)).toList = (List.replicate n z.toList).flatten := by
  unfold madeCells
  rw [Array.toList_map, Array.toList_range]
  exact range_chunks n

theorem buildSlice_ok (c : Ctx w Z h live boxes) (hf : h id = none) {T : TypeId} {n : Nat} {ps : List (Nat × D)} {vs : Array (Nat × Value)} {d : D} (hx : absBuildSlice P boxes id T n ps = some (d, u)) (hp : Parts w (Bd Z h live) h ps vs.toList) :
    ∃ v w' h', (Instr.buildSlice T n vs).run P w = .ok v w' ∧ Res w w' Z h h' live id u d v := by
  unfold absBuildSlice at hx
  split at hx
  · rename_i e hu
    split at hx
    · rename_i t x b he
      obtain ⟨i, z, hi, hz, his, hzs, hib, hx0⟩ := elemTy_ok he
      split at hx
      · rename_i hn
        simp only [Bool.and_eq_true] at hn
        have hn1 := Nat.le_of_ble_eq_true hn.2
        have hn := Nat.le_of_ble_eq_true hn.1
        split at hx
        · rename_i cs hfd
          split at hx
          · rename_i l cons hl
            simp only [Option.some.injEq, Prod.mk.injEq] at hx
            obtain ⟨rfl, rfl⟩ := hx
            obtain ⟨m, hm⟩ : ∃ m, m = n * t.size := ⟨_, rfl⟩
            have hcells0 : ((Array.range (n * t.size)).map fun x => z.cells[x % z.cells.size]!).toList = (List.replicate n z.cells.toList).flatten := by
              rw [Array.toList_map, Array.toList_range, ← hzs]; exact range_chunks n
            have h0 : Reps w (Bd Z h live) h (List.replicate n (cellsOf t x)).flatten ((Array.range (n * t.size)).map fun x => z.cells[x % z.cells.size]!).toList := by
              rw [hcells0, ← List.map_replicate]
              exact RepLs.reps (fun x us hx => reps_cellsOf hx) (repL_replicate (hx0 w _) n)
            obtain ⟨cells', hfill, hr⟩ := fill_ok (fun i => some (i * t.size, t.size)) hp h0 hfd
            obtain ⟨a1, a2, a3⟩ := toList_ok c hl hr
            have hrl := a3 _ (bd_dead (c := .cells 0 []))
            have hlen := RepL.length hrl
            have hcs : cells'.size = n * t.size := by rw [← Array.length_toList, hlen, a2]
            have hnl : n ≤ maxLen := by unfold maxLen; omega
            refine ⟨.slice (some ⟨w.heap.size, 0, none⟩) n n, _, _, ?_, row_new c hf (cur := cells') (cap := n) a1 (by omega) hnl hcs ?_ (by rw [a2]; exact rep_own_new)⟩
            · have hlim : ¬ (n * t.size > 2 ^ 24) := by omega
              have hso : (sizeOf e).run P w = .ok t.size w := by simp [sizeOf, typeInfo, hi, his]
              by_cases hne : n * t.size = 0
              · rw [hne] at hfill
                have e0 : Array.range 0 = #[] := rfl
                have hfill : Instr.fill (fun i => some (i * t.size, t.size)) #[] vs.toList = some cells' := by simpa [e0] using hfill
                simp only [Instr.buildSlice, Sem.run_bind, run_underlying hu, Result.andThen_ok, hso]
                simp [hne, newRow, e0, hfill]
              · simp only [Instr.buildSlice, Sem.run_bind, run_underlying hu, Result.andThen_ok, hso]
                rw [if_neg hlim, if_neg hne]
                simp [zeroValue, typeInfo, hi, hz, newRow, hfill]
            · rw [a2, ← hcs, ← Array.length_toList, List.take_length]
              exact hrl
          · cases hx
        · cases hx
      · cases hx
    · cases hx
  · cases hx
end
end Go.Proofs.Ytpblkjjafdfjkaa.V
