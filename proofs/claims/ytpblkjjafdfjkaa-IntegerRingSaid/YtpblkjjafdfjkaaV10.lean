/- What one operation does: the proofs, fifth part (make, slicing, conversions, append). -/
import Derived.Test.YtpblkjjafdfjkaaV9
namespace Go.Proofs.Ytpblkjjafdfjkaa.V
open Go.RowKit
set_option linter.unusedVariables false
set_option linter.unusedSimpArgs false

section
variable {P : Program} {w w' : World} {Z : Nat → Prop} {h : Hist} {live : Nat → Prop} {boxes : Boxes} {id : Nat} {u : Upd} {d : D} {v : Value}

theorem make_ok (c : Ctx w Z h live boxes) (hf : h id = none) {T : TypeId} {n m : Int} {ps : List Prop} {d : D} (hx : absMake P id T n m = some (ps, d, u)) (hps : ∀ p ∈ ps, p) :
    ∃ v w' h', (Instr.makeSlice T (.int .i64 n) (.int .i64 m)).run P w = .ok v w' ∧ Res w w' Z h h' live id u d v := by
  unfold absMake at hx
  split at hx
  · rename_i e hu
    split at hx
    · rename_i t x b he
      simp only [Option.some.injEq, Prod.mk.injEq] at hx
      obtain ⟨rfl, rfl, rfl⟩ := hx
      obtain ⟨h0, h1, h2, h3⟩ := hps _ (List.mem_singleton.2 rfl)
      obtain ⟨i, z, hi, hz, his, hzs, hib, hx0⟩ := elemTy_ok he
      have hrun := run_make (P := P) w T e i z hu hi hz .i64 .i64 n m h0 h1 (by rw [hib, Int.mul_comm]; omega) (by omega)
      have hcs : (madeCells z.cells (m.toNat * i.size)).size = m.toNat * t.size := by rw [size_madeCells, his]
      have hlen : (List.replicate n.toNat x).length = n.toNat := List.length_replicate
      have key := row_new c hf (T := e) (t := t) (l := List.replicate n.toNat x) (cur := madeCells z.cells (m.toNat * i.size)) (cap := m.toNat) (cons := []) (d := .own id) (v := .slice (some ⟨w.heap.size, 0, none⟩) n.toNat m.toNat) (fun _ hg => by cases hg) (by rw [hlen]; omega) (by unfold maxLen; omega) hcs ?_ (by rw [hlen]; exact rep_own_new)
      · exact ⟨_, _, _, hrun, key⟩
      · rw [his, ← hzs, madeCells_list]
        have hr := RepL.take n.toNat (repL_replicate (hx0 w (Bd Z h fun i => live i ∧ i ∉ [])) m.toNat)
        rw [List.take_replicate, Nat.min_eq_left (by omega)] at hr
        rw [hlen, hzs]
        exact hr
    · cases hx
  · cases hx

def optV (o : Option (IntKind × Int)) : Option Value := o.map (fun p => Value.int p.1 p.2)
def loI (lo : Option (IntKind × Int)) : Int := (lo.map (fun p => p.2)).getD 0
def hiI (hi : Option (IntKind × Int)) (n : Nat) : Int := (hi.map (fun p => p.2)).getD (n : Int)
theorem run_bounds {isS : Bool} {len cap : Nat} {lo hi : Option (IntKind × Int)} (h0 : 0 ≤ loI lo) (h1 : loI lo ≤ hiI hi len) (h2 : hiI hi len ≤ len) (h3 : len ≤ cap) :
    (Instr.sliceBounds isS len cap (optV lo) (optV hi) none).run P w = .ok ((loI lo).toNat, (hiI hi len).toNat, cap) w := by
  unfold loI hiI at *
  cases hi with
  | none =>
    cases lo with
    | none => simp [Instr.sliceBounds, optV]
    | some p =>
      simp only [Option.map_some, Option.getD_some, Option.map_none, Option.getD_none] at *
      simp [Instr.sliceBounds, optV, run_sliceBound, h0, h1]
  | some q =>
    have hq : (q.2.toNat : Int) = q.2 := Int.toNat_of_nonneg (by simp only [Option.map_some, Option.getD_some] at h1; omega)
    cases lo with
    | none =>
      simp only [Option.map_some, Option.getD_some, Option.map_none, Option.getD_none] at *
      have h4 : q.2 ≤ (cap : Int) := by omega
      simp [Instr.sliceBounds, optV, run_sliceBound, h1, h4]
    | some p =>
      simp only [Option.map_some, Option.getD_some] at *
      have h4 : q.2 ≤ (cap : Int) := by omega
      have h5 : 0 ≤ q.2 := by omega
      simp [Instr.sliceBounds, optV, run_sliceBound, h0, h1, h4, h5, hq]
theorem run_slice_gen {T e : TypeId} {sz len cap : Nat} {A : Option Addr} {lo hi : Option (IntKind × Int)} (hu : P.underlying T = some (.slice e)) (hs : ∃ sz', (sizeOf e).run P w = .ok sz' w ∧ sz' = sz) (h0 : 0 ≤ loI lo) (h1 : loI lo ≤ hiI hi len) (h2 : hiI hi len ≤ len) (h3 : len ≤ cap) :
    (Instr.sliceAt T (.slice A len cap) (optV lo) (optV hi) none).run P w = .ok (.slice (if cap = (loI lo).toNat then A else A.map (·.add ((loI lo).toNat * sz))) ((hiI hi len).toNat - (loI lo).toNat) (cap - (loI lo).toNat)) w := by
  obtain ⟨sz', hs, rfl⟩ := hs
  simp only [Instr.sliceAt, Sem.run_bind, run_underlying hu, Result.andThen_ok, Instr.slice, run_bounds h0 h1 h2 h3, hs, Sem.run_pure]
theorem slice_ok (c : Ctx w Z h live boxes) (hf : h id = none) {T : TypeId} {x d : D} {lo hi : Option (IntKind × Int)} {mx : Option Int} {mv : Option (IntKind × Int)} (hmv : mx = mv.map (fun p => p.2)) {ps : List Prop}
    (hx : absSlice P boxes id T x (lo.map (fun p => p.2)) (hi.map (fun p => p.2)) mx = some (ps, d, u)) (hps : ∀ p ∈ ps, p) (hr : Rep w (Bd Z h live) h x v) :
    ∃ v' h', (Instr.sliceAt T v (optV lo) (optV hi) (optV mv)).run P w = .ok v' w ∧ Res w w Z h h' live id u d v' := by
  unfold absSlice at hx
  split at hx
  · rename_i hu
    split at hx
    · rename_i s
      have hmv : mv = none := by cases mv; rfl; cases hmv
      subst hmv
      simp only [Option.some.injEq, Prod.mk.injEq] at hx
      obtain ⟨rfl, rfl, rfl⟩ := hx
      obtain ⟨h0, h1, h2⟩ := hps _ (List.mem_singleton.2 rfl)
      have h0 : 0 ≤ loI lo := h0
      have h1 : loI lo ≤ hiI hi s.size := h1
      have h2 : hiI hi s.size ≤ s.size := h2
      simp only [Rep] at hr
      subst hr
      refine ⟨.string (s.extract (loI lo).toNat (hiI hi s.size).toNat), h, ?_, res_pure c.hh (by simp only [Rep]; rfl)⟩
      have e0 : optV none = none := rfl
      simp only [Instr.sliceAt, Sem.run_bind, run_underlying hu, Result.andThen_ok, Instr.slice, e0]
      simp [run_bounds h0 h1 h2 (Nat.le_refl _)]
    · cases hx
  · rename_i e hu
    split at hx
    · -- [:0:0]
      have key : ∀ {t : Ty} {x0 : t.den} {b : Nat} {n : Nat}, (lo.map (fun p => p.2) = some 0 ∨ lo.map (fun p => p.2) = none) → hi.map (fun p => p.2) = some 0 → elemTy P e = some ⟨t, x0, b⟩ → lenD boxes x = some n →
          ∃ v' h', (Instr.sliceAt T v (optV lo) (optV hi) (optV mv)).run P w = .ok v' w ∧ Res w w Z h h' live id [(id, some (.row e t []))] (.own id) v' := by
        intro t x0 b n hlo hhi he hn
        obtain ⟨i, z, hie, hz, his, hzs, hib, hx0⟩ := elemTy_ok he
        obtain ⟨A, len, cap, hv⟩ : ∃ A len cap, v = .slice A len cap := by
          unfold lenD at hn
          split at hn
          · simp only [Rep, RepT] at hr; obtain ⟨A, cp, he, _⟩ := hr; injection he with he _; exact ⟨_, _, _, he⟩
          · simp only [Rep] at hr; obtain ⟨_, _, hr⟩ := hr; rcases hr with ⟨_, _, a, rfl⟩ | ⟨b, _, rfl⟩ <;> exact ⟨_, _, _, rfl⟩
          · simp only [Rep] at hr; obtain ⟨_, _, _, _, _, rfl, _⟩ := hr; exact ⟨_, _, _, rfl⟩
          · simp only [Rep] at hr; exact ⟨_, _, _, hr⟩
          · cases hn
        subst hv
        have hm : ∃ k, mv = some (k, 0) := by
          cases mv with
          | none => cases hmv
          | some p => simp only [Option.map_some, Option.some.injEq] at hmv; exact ⟨p.1, by rw [hmv]⟩
        obtain ⟨km, rfl⟩ := hm
        have hh2 : ∃ k, hi = some (k, 0) := by
          cases hi with
          | none => cases hhi
          | some p => simp only [Option.map_some, Option.some.injEq] at hhi; exact ⟨p.1, by rw [← hhi]⟩
        obtain ⟨kh, rfl⟩ := hh2
        have hbd : (Instr.sliceBounds true len cap (optV lo) (optV (some (kh, 0))) (optV (some (km, 0)))).run P w = .ok (0, 0, 0) w := by
          cases lo with
          | none => simp [Instr.sliceBounds, optV, run_sliceBound]
          | some p =>
            have hp : p.2 = 0 := by rcases hlo with hlo | hlo <;> simp_all
            simp [Instr.sliceBounds, optV, run_sliceBound, hp]
        have hso : (sizeOf e).run P w = .ok t.size w := by simp [sizeOf, typeInfo, hie, his]
        refine ⟨.slice A 0 0, setH h id ⟨none, 0, 0⟩, ?_, res_none c.hh hf rfl ?_ ⟨rfl, .inl ⟨rfl, rfl, rfl⟩⟩⟩
        · simp only [Instr.sliceAt, Sem.run_bind, run_underlying hu, Result.andThen_ok, Instr.slice, hbd, hso]
          simp
        · simp only [Rep]
          exact ⟨_, setH_same h id _, .inl ⟨rfl, rfl, A, rfl⟩⟩
      split at hx
      · rename_i h1 h2 h3 h4
        simp only [Option.some.injEq, Prod.mk.injEq] at hx
        obtain ⟨rfl, rfl, rfl⟩ := hx
        exact key (.inl h1) h2 h3 h4
      · rename_i h1 h2 h3 h4
        simp only [Option.some.injEq, Prod.mk.injEq] at hx
        obtain ⟨rfl, rfl, rfl⟩ := hx
        exact key (.inr h1) h2 h3 h4
      · cases hx
    · cases hx
    · have hmv : mv = none := by cases mv; rfl; cases hmv
      subst hmv
      split at hx
      · rename_i t l
        split at hx
        · rename_i hs
          simp only [Option.some.injEq, Prod.mk.injEq] at hx
          obtain ⟨rfl, rfl, rfl⟩ := hx
          obtain ⟨h0, h1, h2⟩ := hps _ (List.mem_singleton.2 rfl)
          have h0 : 0 ≤ loI lo := h0
          have h1 : loI lo ≤ hiI hi l.length := h1
          have h2 : hiI hi l.length ≤ l.length := h2
          simp only [Rep] at hr
          obtain ⟨A, cp, us, hv, hc1, hc2, hrl, hne⟩ := slice_row hr
          subst hv
          refine ⟨_, h, run_slice_gen hu ⟨_, run_sizeOf hs, rfl⟩ h0 h1 h2 hc1, res_pure c.hh ?_⟩
          show Rep w (Bd Z h live) h (.sl t (win l (loI lo).toNat (hiI hi l.length - loI lo).toNat)) _
          generalize loI lo = L at *
          generalize hiI hi l.length = H at *
          have e1 : (H - L).toNat = H.toNat - L.toNat := by omega
          have hw : (win l L.toNat (H.toNat - L.toNat)).length = H.toNat - L.toNat := win_length (by omega)
          simp only [Rep]
          rw [e1]
          by_cases h00 : H.toNat - L.toNat = 0
          · have : win l L.toNat (H.toNat - L.toNat) = [] := List.eq_nil_of_length_eq_zero (by rw [hw]; exact h00)
            rw [this, h00]
            exact repT_nil _
          · obtain ⟨ad, rfl, hB, hlt, hca⟩ := hne (fun e => by rw [e] at h2; simp at h2; omega)
            rw [if_neg (by omega)]
            have hrow := (hrl.drop L.toNat).take (H.toNat - L.toNat)
            have := repT_of_row (ad := ad.add (L.toNat * t.size)) (c := cp - L.toNat) hrow (by rw [add_block]; exact hB) (by rw [add_block]; exact hlt) (by show (win l L.toNat (H.toNat - L.toNat)).length ≤ _; omega) (by show (win l L.toNat (H.toNat - L.toNat)).length ≤ _; omega) (fun j y hy => by
              rw [add_add]
              rw [List.getElem?_take] at hy
              split at hy
              · rw [List.getElem?_drop] at hy; exact hca _ y hy
              · cases hy)
            have e2 : ((l.drop L.toNat).take (H.toNat - L.toNat)).length = H.toNat - L.toNat := hw
            rw [e2] at this
            exact this
        · cases hx
      · rename_i g
        split at hx
        · rename_i T0 t l hg
          split at hx
          · rename_i hs
            simp only [Option.some.injEq, Prod.mk.injEq] at hx
            obtain ⟨rfl, rfl, rfl⟩ := hx
            obtain ⟨h0, h1, h2⟩ := hps _ (List.mem_singleton.2 rfl)
            have h0 : 0 ≤ loI lo := h0
            have h1 : loI lo ≤ hiI hi l.length := h1
            have h2 : hiI hi l.length ≤ l.length := h2
            simp only [Rep] at hr
            obtain ⟨hb, he, hr⟩ := hr
            obtain ⟨hb', he', hlen, hok⟩ := c.hb g _ hg
            rw [he] at he'; injection he' with he'; subst he'
            rcases hr with ⟨hblk, hl0, a, rfl⟩ | ⟨b, hblk, rfl⟩
            · have hlo : l.length = 0 := by omega
              rw [hlo] at h1 h2
              have hcap : hb.cap = 0 := by
                rcases hok with ⟨_, _, h3⟩ | ⟨b', _, h3, _⟩
                · exact h3
                · rw [hblk] at h3; cases h3
              refine ⟨_, h, run_slice_gen hu ⟨_, run_sizeOf hs, rfl⟩ h0 h1 h2 (Nat.le_refl _), res_pure c.hh ?_⟩
              show Rep w (Bd Z h live) h (.win g t.size (loI lo).toNat (hiI hi l.length - loI lo).toNat) _
              rw [hlo]
              generalize loI lo = L at *
              generalize hiI hi 0 = H at *
              simp only [Rep]
              refine ⟨hb, _, he, by omega, by omega, by rw [hcap]; congr 1; omega, fun hn => absurd (by omega) hn⟩
            · have hcap : hb.len ≤ hb.cap := by
                rcases hok with ⟨h3, _⟩ | ⟨b', cur, h3, h4, h5, h6, _⟩
                · rw [hblk] at h3; cases h3
                · exact h6
              rw [hlen] at h1 h2
              refine ⟨_, h, run_slice_gen hu ⟨_, run_sizeOf hs, rfl⟩ h0 h1 h2 hcap, res_pure c.hh ?_⟩
              show Rep w (Bd Z h live) h (.win g t.size (loI lo).toNat (hiI hi l.length - loI lo).toNat) _
              rw [hlen]
              generalize loI lo = L at *
              generalize hiI hi hb.len = H at *
              simp only [Rep]
              refine ⟨hb, _, he, by omega, by omega, by congr 1; omega, fun hn => ⟨b, hblk, ?_⟩⟩
              rw [if_neg (by omega), Option.map_some, add_at, Nat.zero_add]
          · cases hx
        · cases hx
      · rename_i g sz off n
        split at hx
        · rename_i hs
          simp only [Option.some.injEq, Prod.mk.injEq] at hx
          obtain ⟨rfl, rfl, rfl⟩ := hx
          obtain ⟨h0, h1, h2⟩ := hps _ (List.mem_singleton.2 rfl)
          have h0 : 0 ≤ loI lo := h0
          have h1 : loI lo ≤ hiI hi n := h1
          have h2 : hiI hi n ≤ n := h2
          simp only [Rep] at hr
          obtain ⟨hb, a, he, hle, hcl, rfl, hn⟩ := hr
          have hcl : n ≤ hb.cap - off := by omega
          refine ⟨_, h, run_slice_gen hu ⟨_, run_sizeOf hs, rfl⟩ h0 h1 h2 hcl, res_pure c.hh ?_⟩
          show Rep w (Bd Z h live) h (.win g sz (off + (loI lo).toNat) (hiI hi n - loI lo).toNat) _
          generalize loI lo = L at *
          generalize hiI hi n = H at *
          simp only [Rep]
          refine ⟨hb, _, he, by omega, by omega, by rw [Nat.sub_sub]; congr 1; omega, fun hn' => ?_⟩
          obtain ⟨b, hblk, rfl⟩ := hn (by omega)
          refine ⟨b, hblk, ?_⟩
          rw [if_neg (by omega), Option.map_some, add_at, Nat.add_mul]
        · cases hx
      · split at hx
        · rename_i hso
          simp only [Option.some.injEq, Prod.mk.injEq] at hx
          obtain ⟨rfl, rfl, rfl⟩ := hx
          obtain ⟨h1, h2⟩ := hps _ (List.mem_singleton.2 rfl)
          have h1 : 0 = loI lo := h1
          have h2 : hiI hi 0 = 0 := h2
          simp only [Rep] at hr
          subst hr
          obtain ⟨i, hi0⟩ := Option.isSome_iff_exists.1 hso
          refine ⟨_, h, run_slice_gen hu ⟨i.size, by simp [sizeOf, typeInfo, hi0], rfl⟩ (by omega) (by omega) (by omega) (Nat.le_refl _), res_pure c.hh ?_⟩
          simp only [Rep]
          rw [← h1, h2]
          simp
        · cases hx
      · cases hx
  · cases hx

theorem repL_ints {B : Nat → Prop} {k : IntKind} : ∀ {l : List Int} {us : List Value}, RepL w B (.int k) l us → us = l.map (Value.int k)
  | [], us, hr => by simp only [RepL, RepLs] at hr; subst hr; rfl
  | n :: l, us, hr => by
    simp only [RepL, RepLs] at hr
    obtain ⟨u1, u2, rfl, h1, h2⟩ := hr
    have h1 : u1 = [.int k n] := by simpa only [RepT] using h1
    rw [h1, repL_ints (B := B) (l := l) h2]; rfl
theorem bytesOf_fold (l : List Int) : l.foldl (fun r n => r.push (UInt8.ofNat n.toNat)) ByteArray.empty = bytesOf l := by
  have hp : ∀ (r : ByteArray) (x : UInt8), (r.push x).data = r.data.push x := fun r x => by cases r; rfl
  have h0 : ∀ (l : List Int) (r : ByteArray), (l.foldl (fun r n => r.push (UInt8.ofNat n.toNat)) r).data = r.data ++ (l.map (fun n => UInt8.ofNat n.toNat)).toArray := by
    intro l
    induction l with
    | nil => intro r; simp
    | cons n l ih =>
      intro r
      rw [List.foldl_cons, ih, hp]
      apply Array.ext'
      simp
  have h1 := h0 l ByteArray.empty
  have he : ByteArray.empty.data = #[] := rfl
  rw [he, Array.empty_append] at h1
  unfold bytesOf
  rw [← h1]
theorem dead_none {cons : List Nat} : Dead live (fun _ => False) cons := ⟨fun _ f => f.elim, fun _ _ f => f⟩
theorem convert_ok (c : Ctx w Z h live boxes) {src dst : TypeId} {x d : D} (hx : absConvert P boxes src dst x = some d) (hr : Rep w (Bd Z h live) h x v) :
    ∃ u, (convert src dst v).run P w = .ok u w ∧ Rep w (Bd Z h live) h d u := by
  unfold absConvert at hx
  split at hx
  · rename_i td k k0 n hs hd
    simp only [Option.some.injEq] at hx; subst hx
    simp only [Rep] at hr; subst hr
    refine ⟨.int k (k.wrap n), ?_, by simp only [Rep]⟩
    have hik : P.intKind dst = k := by simp [Program.intKind, hd]
    have := run_convert_int (P := P) w src dst k0 n (by simp [hs]) (by rw [hik]; exact hd)
    rw [hik] at this
    exact this
  · rename_i td s hs hd
    simp only [Option.some.injEq] at hx; subst hx
    simp only [Rep] at hr; subst hr
    refine ⟨.string s, ?_, by simp only [Rep]⟩
    simp [convert, run_underlying hs, run_underlying hd]
  · rename_i e x hs hd hne
    split at hx
    · rename_i he
      split at hx
      · rename_i l cons hl
        simp only [Option.some.injEq] at hx; subst hx
        have hrt := (dSl_ok c hl hr).2 _ dead_none
        obtain ⟨A, cp, us, rfl, h1, h2, h3, h4⟩ := slice_row hrt
        have hus := repL_ints h3
        refine ⟨.string (bytesOf l), ?_, by simp only [Rep]⟩
        have hc : (convert src dst (.slice A l.length cp)).run P w = (Conv.bytesToString (.slice A l.length cp)).run P w := by
          simp [convert, run_underlying hs, run_underlying hd, run_underlying he]
        rw [hc]
        cases A with
        | none =>
          have : l = [] := by
            cases l with
            | nil => rfl
            | cons a l => obtain ⟨ad, e, _⟩ := h4 (by simp); cases e
          subst this
          have he : bytesOf [] = ByteArray.empty := rfl
          rw [he]
          simp only [Conv.bytesToString, Sem.run_pure]
        | some ad =>
          rw [← bytesOf_fold]
          refine run_bytesToString w ad l.length cp l ?_
          have hca : CellsAt w ad us := by
            by_cases hl0 : l = []
            · subst hl0; rw [hus]; intro j u hu; simp at hu
            · obtain ⟨ad', e, _, _, hca⟩ := h4 hl0; injection e with e; subst e; exact hca
          have := run_loadCells_list (P := P) w ad us hca
          rw [hus] at this
          simpa using this
      · cases hx
    · cases hx
  · cases hx

/-! ### append -/
theorem run_first {A : Option Addr} {n len cap size : Nat} {us : List Value} (hl : us.length = n * size) (hne : us ≠ [] → ∃ ad, A = some ad ∧ CellsAt w ad us) : (Builtin.firstCells size n (.slice A len cap)).run P w = .ok us.toArray w := by
  by_cases h0 : us = []
  · subst h0
    have h0 : n * size = 0 := by simpa using hl.symm
    cases A with
    | none => simp [Builtin.firstCells]
    | some ad => simp [Builtin.firstCells, h0, loadCells, loadCellsFrom]
  · obtain ⟨ad, rfl, hc⟩ := hne h0
    exact run_firstCells_some w size n ad len cap us hl hc
structure AppOk (P : Program) (T U e : TypeId) (i : TypeInfo) (z : Value) : Prop where
  t : P.underlying T = some (.slice e)
  u : ∃ e', P.underlying U = some (.slice e')
  info : P.info? e = some i
  zero : i.zero = some z
theorem CellsAt.drew {ad : Addr} {us : List Value} (hc : CellsAt w ad us) : CellsAt w.drew ad us := hc
theorem run_append_more {T U e ty : TypeId} {i : TypeInfo} {z : Value} (ha : AppOk P T U e i z) {A B : Option Addr} {n cap m c : Nat} {olds news : List Value} (hlo : olds.length = n * i.size) (ho : olds ≠ [] → ∃ ad, A = some ad ∧ CellsAt w ad olds)
    (hln : news.length = m * i.size) (hn : news ≠ [] → ∃ ad, B = some ad ∧ CellsAt w ad news) (hg : cap < n + m) (hb : (n + m) * i.bytes ≤ 140737488355328) (h63 : n + m ≤ 140737488355328) :
    (Builtin.append_ #[T, U] ty #[.slice A n cap, .slice B m c]).run P w = .ok (.slice (some ⟨w.heap.size, 0, none⟩) (n + m) (grownCap w (n + m) cap e))
      (w.drew.alloc (.cells (olds.toArray ++ news.toArray ++ Builtin.zeroCells z.cells (grownCap w (n + m) cap e - (n + m))) e)) := by
  obtain ⟨e', hu⟩ := ha.u
  have hng : ¬ (n + m ≤ cap) := by omega
  have h63' : ¬ (9223372036854775807 < ((n : Int) + (m : Int))) := by omega
  have h48' : ¬ (281474976710656 < Builtin.nextslicecap (n + m) cap * i.bytes) := by have := growslice_fits hg hb; omega
  have hf := run_first (P := P) (w := w.drew) (len := m) (cap := c) hln (fun h0 => (hn h0).imp fun ad h1 => ⟨h1.1, h1.2.drew⟩)
  have hfo := run_first (P := P) (w := w.drew) (len := n) (cap := cap) hlo (fun h0 => (ho h0).imp fun ad h1 => ⟨h1.1, h1.2.drew⟩)
  simp [Builtin.append_, run_underlying ha.t, run_underlying hu, sizeOf, typeInfo, zeroValue, ha.info, ha.zero, Builtin.lenOf, hng, h63', h48', Question.forced, hf, hfo, newRow, grownCap]
  congr 2
  apply Array.ext'
  simp [List.append_assoc]
theorem run_append_zero {T U e ty : TypeId} {i : TypeInfo} {z : Value} (ha : AppOk P T U e i z) {A B : Option Addr} {n cap c : Nat} (hg : n ≤ cap) :
    (Builtin.append_ #[T, U] ty #[.slice A n cap, .slice B 0 c]).run P w = .ok (.slice A n cap) w := by
  obtain ⟨e', hu⟩ := ha.u
  have hf := run_first (P := P) (w := w) (A := B) (n := 0) (len := 0) (cap := c) (size := i.size) (us := []) (by simp) (fun h0 => absurd rfl h0)
  cases A <;> simp [Builtin.append_, run_underlying ha.t, run_underlying hu, sizeOf, typeInfo, ha.info, Builtin.lenOf, hg, hf, storeCells]
theorem run_append_fit {T U e ty : TypeId} {i : TypeInfo} {z : Value} (ha : AppOk P T U e i z) {B : Option Addr} {b n cap m c : Nat} {cur : Array Value} {news : List Value} (hcur : w.heap[b]? = some (.cells cur e (0, 0)))
    (hln : news.length = m * i.size) (hn : news ≠ [] → ∃ ad, B = some ad ∧ CellsAt w ad news) (h1 : ∀ u ∈ news, u.oneCell' = true) (hg : n + m ≤ cap) (hfit : n * i.size + news.length ≤ cur.size) :
    (Builtin.append_ #[T, U] ty #[.slice (some ⟨b, 0, none⟩) n cap, .slice B m c]).run P w =
      .ok (.slice (some ⟨b, 0, none⟩) (n + m) cap) (w.setRow b (cur.toList.take (n * i.size) ++ news ++ cur.toList.drop (n * i.size + news.length)).toArray) := by
  obtain ⟨e', hu⟩ := ha.u
  have hf := run_first (P := P) (w := w) (len := m) (cap := c) hln hn
  have hst := run_storeCells_at P b (n * i.size) e news 0 cur w hcur (by simpa using hfit) h1
  simp only [Nat.add_zero] at hst
  simp [Builtin.append_, run_underlying ha.t, run_underlying hu, sizeOf, typeInfo, ha.info, Builtin.lenOf, hg, hf, add_at, hst]

/-- A new box in the place of others. -/
theorem res_gen {w' : World} (hh : Heap w Z h live) (hf : h id = none) {c : BoxC} {hb : Hb} {u : Upd} (hu : lookU u id = some (some c)) (hot : ∀ g c', g ≠ id → lookU u g = some c' → c' = none ∧ live g)
    (hk : Keeps w w' (fun k => ∃ g hb, (lookU u g).isSome = true ∧ live g ∧ h g = some hb ∧ hb.blk = some k))
    (hnew : ∀ b, hb.blk = some b → b < w'.heap.size ∧ ¬ Z b ∧ (w.heap.size ≤ b ∨ ∃ g hb', lookU u g = some none ∧ live g ∧ h g = some hb' ∧ hb'.blk = some b))
    (hr : Rep w' (Bd Z (setH h id hb) (liveU live u)) (setH h id hb) d v) (hok : BoxOk1 w' (Bd Z (setH h id hb) (liveU live u)) (setH h id hb) hb c) :
    Res w w' Z h (setH h id hb) live id u d v := by
  have hlive : ∀ i, liveU live u i → i ≠ id → live i ∧ lookU u i = none := by
    intro i hi hid
    unfold liveU at hi
    split at hi
    · rename_i c' hc
      have := (hot i _ hid hc).1
      cases this
    · exact hi.elim
    · rename_i hn; exact ⟨hi, hn⟩
  have hcase : ∀ i hi b, liveU live u i → setH h id hb i = some hi → hi.blk = some b → (i = id ∧ hb.blk = some b) ∨ (i ≠ id ∧ live i ∧ lookU u i = none ∧ h i = some hi) := by
    intro i hi b hl he hbl
    by_cases hid : i = id
    · subst hid
      rw [setH_same] at he
      injection he with he
      subst he
      exact .inl ⟨rfl, hbl⟩
    · rw [setH_ne h hb hid] at he
      exact .inr ⟨hid, (hlive i hl hid).1, (hlive i hl hid).2, he⟩
  have hclash : ∀ j hj b, live j → lookU u j = none → h j = some hj → hj.blk = some b → hb.blk = some b → False := by
    intro j hj b h1 h2 h3 h4 h5
    rcases (hnew b h5).2.2 with h6 | ⟨g, hb', h6, h7, h8, h9⟩
    · have := hh.lt j hj b h3 h4; omega
    · have := hh.inj j g hj hb' b h1 h7 h3 h8 h4 h9
      subst this
      rw [h2] at h6; cases h6
  refine ⟨setH_ext hb hf, fun i hi => setH_ne h hb hi, ⟨?_, ?_, ?_, fun k hk' => Nat.lt_of_lt_of_le (hh.zlt k hk') hk.size⟩, hr, ?_, ?_, hk, ?_⟩
  · intro i j hi hj b h1 h2 h3 h4 h5 h6
    rcases hcase i hi b h1 h3 h5 with ⟨h7, h8⟩ | ⟨h7, h8, h9, h10⟩ <;> rcases hcase j hj b h2 h4 h6 with ⟨k7, k8⟩ | ⟨k7, k8, k9, k10⟩
    · rw [h7, k7]
    · exact (hclash j hj b k8 k9 k10 h6 h8).elim
    · exact (hclash i hi b h8 h9 h10 h5 k8).elim
    · exact hh.inj i j hi hj b h8 k8 h10 k10 h5 h6
  · intro i hi b he hbl
    by_cases hid : i = id
    · subst hid
      rw [setH_same] at he
      injection he with he
      subst he
      exact (hnew b hbl).1
    · rw [setH_ne h hb hid] at he
      exact Nat.lt_of_lt_of_le (hh.lt i hi b he hbl) hk.size
  · intro i hi b h1 h2 h3
    rcases hcase i hi b h1 h2 h3 with ⟨_, h8⟩ | ⟨_, h8, _, h9⟩
    · exact (hnew b h8).2.1
    · exact hh.nz i hi b h8 h9 h3
  · intro g c' hg
    by_cases hid : g = id
    · subst hid
      rw [hu] at hg
      injection hg with hg; injection hg with hg
      subst hg
      exact ⟨hb, setH_same h _ hb, hok⟩
    · have := (hot g _ hid hg).1
      cases this
  · intro g c' hg hne
    exact (hot g _ hne hg).2
  · intro hb' b _ he hbl
    rw [setH_same] at he
    injection he with he
    subst he
    rcases (hnew b hbl).2.2 with h1 | ⟨g, hb', h6, h7, h8, h9⟩
    · exact .inl h1
    · exact .inr ⟨g, hb', h7, h8, h9⟩
end
end Go.Proofs.Ytpblkjjafdfjkaa.V
