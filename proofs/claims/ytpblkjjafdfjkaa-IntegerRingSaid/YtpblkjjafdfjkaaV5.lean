/- Reading data out of values, and back: the proofs. -/
import Derived.Test.YtpblkjjafdfjkaaV4
namespace Go.Proofs.Ytpblkjjafdfjkaa.V
open Go.RowKit
set_option linter.unusedVariables false
set_option linter.unusedSimpArgs false

structure Ctx (w : World) (Z : Nat → Prop) (h : Hist) (live : Nat → Prop) (boxes : Boxes) : Prop where
  hh : Heap w Z h live
  hl : ∀ g c, boxes g = some c → live g
  hb : BoxesOk w (Bd Z h live) h boxes
def Dead (live live' : Nat → Prop) (cons : List Nat) : Prop := (∀ i, live' i → live i) ∧ ∀ g ∈ cons, ¬ live' g
theorem Dead.left {live live' : Nat → Prop} {a b : List Nat} (h : Dead live live' (a ++ b)) : Dead live live' a := ⟨h.1, fun g hg => h.2 g (List.mem_append_left _ hg)⟩
theorem Dead.right {live live' : Nat → Prop} {a b : List Nat} (h : Dead live live' (a ++ b)) : Dead live live' b := ⟨h.1, fun g hg => h.2 g (List.mem_append_right _ hg)⟩

section
variable {P : Program} {w : World} {Z : Nat → Prop} {h : Hist} {live : Nat → Prop} {boxes : Boxes}

theorem Ctx.bd (c : Ctx w Z h live boxes) {live' : Nat → Prop} {g : Nat} {hb : Hb} {b : Nat} (hl : live g) (hg : h g = some hb) (hblk : hb.blk = some b) (hd : ∀ i, live' i → live i) (hn : ¬ live' g) : Bd Z h live' b :=
  ⟨c.hh.nz g hb b hl hg hblk, fun i hi h1 h2 h3 => hn (by
    have := c.hh.inj i g hi hb b (hd i h1) hl h2 hg h3 hblk
    rwa [← this])⟩
theorem castL_length {t' t : Ty} (e : t' = t) (l : List t'.den) : (castL e l).length = l.length := by subst e; rfl

theorem own_slice (c : Ctx w Z h live boxes) {g : Nat} {T : TypeId} {t : Ty} {l : List t.den} {u : Value} (hg : boxes g = some (.row T t l)) (hr : Rep w (Bd Z h live) h (.own g) u) {live' : Nat → Prop} (hd : Dead live live' [g]) : RepT w (Bd Z h live') (.slice t) l [u] := by
  simp only [Rep] at hr
  obtain ⟨hb, he, hr⟩ := hr
  obtain ⟨hb', he', hlen, hok⟩ := c.hb g _ hg
  rw [he] at he'; injection he' with he'; subst he'
  rcases hr with ⟨h1, h2, a, rfl⟩ | ⟨b, h1, rfl⟩
  · have : l = [] := List.eq_nil_of_length_eq_zero (by omega)
    subst this
    exact repT_nil a
  · rcases hok with ⟨h3, _⟩ | ⟨b', cur, h3, h4, h5, h6, h7, h8⟩
    · rw [h1] at h3; cases h3
    · rw [h1] at h3; injection h3 with h3; subst h3
      rw [← hlen]
      refine repT_of_row (ad := ⟨b, 0, none⟩) (h8.step (Agree.mono fun k hk => hk.less hd.1)) (c.bd (c.hl g _ hg) he h1 hd.1 (hd.2 g (List.mem_singleton.2 rfl))) (c.hh.lt g hb b he h1) (by omega) (by omega) fun j v hv => ?_
      rw [add_at, cell_of_row w b (0 + j) cur T (0, 0) h4]
      rw [List.getElem?_take] at hv
      split at hv
      · simpa using hv
      · cases hv
theorem win_slice (c : Ctx w Z h live boxes) {g sz off n : Nat} {T : TypeId} {t : Ty} {l : List t.den} {u : Value} (hg : boxes g = some (.row T t l)) (hsz : sz = t.size) (hr : Rep w (Bd Z h live) h (.win g sz off n) u) {live' : Nat → Prop} (hd : Dead live live' [g]) : RepT w (Bd Z h live') (.slice t) (win l off n) [u] := by
  simp only [Rep] at hr
  obtain ⟨hb, a, he, hle, _, rfl, hn⟩ := hr
  obtain ⟨hb', he', hlen, hok⟩ := c.hb g _ hg
  rw [he] at he'; injection he' with he'; subst he'
  subst hsz
  have hcap : hb.len ≤ hb.cap ∧ hb.cap ≤ maxLen := by
    rcases hok with ⟨_, h3, h4⟩ | ⟨_, _, _, _, _, h6, h7, _⟩
    · exact ⟨by omega, by rw [h4]; exact Nat.zero_le _⟩
    · exact ⟨h6, h7⟩
  by_cases h0 : n = 0
  · subst h0
    have : win l off 0 = [] := by unfold win; simp
    rw [this]
    exact repT_nil a
  · obtain ⟨b, h1, rfl⟩ := hn h0
    rcases hok with ⟨h3, _⟩ | ⟨b', cur, h3, h4, h5, h6, h7, h8⟩
    · rw [h1] at h3; cases h3
    · rw [h1] at h3; injection h3 with h3; subst h3
      have hw : (win l off n).length = n := win_length (by omega)
      have hrow := ((h8.step (Agree.mono fun k hk => hk.less hd.1)).drop off).take n
      have key := repT_of_row (w := w) (ad := ⟨b, off * t.size, none⟩) (c := hb.cap - off) hrow (c.bd (c.hl g _ hg) he h1 hd.1 (hd.2 g (List.mem_singleton.2 rfl))) (c.hh.lt g hb b he h1) (by show (win l off n).length ≤ _; omega) (by show (win l off n).length ≤ _; omega) (fun j v hv => by
        rw [add_at, cell_of_row w b _ cur T (0, 0) h4]
        rw [List.getElem?_take] at hv
        split at hv
        · rw [List.getElem?_drop, List.getElem?_take] at hv
          split at hv
          · simpa using hv
          · cases hv
        · cases hv)
      have : ((l.drop off).take n).length = n := hw
      rw [this] at key
      exact key

theorem dSl_ok (c : Ctx w Z h live boxes) {t : Ty} {d : D} {u : Value} {l : List t.den} {cons : List Nat} (hd : dSl boxes t d = some (l, cons)) (hr : Rep w (Bd Z h live) h d u) :
    (∀ g ∈ cons, live g) ∧ ∀ live', Dead live live' cons → RepT w (Bd Z h live') (.slice t) l [u] := by
  unfold dSl at hd
  split at hd
  · split at hd
    · rename_i t' l' e
      subst e
      simp only [Option.some.injEq, Prod.mk.injEq] at hd
      obtain ⟨rfl, rfl⟩ := hd
      simp only [Rep] at hr
      exact ⟨fun g hg => (by cases hg), fun live' hd => RepT.step (Agree.mono fun k hk => hk.less hd.1) hr⟩
    · cases hd
  · split at hd
    · simp only [Option.some.injEq, Prod.mk.injEq] at hd
      obtain ⟨rfl, rfl⟩ := hd
      simp only [Rep] at hr
      subst hr
      exact ⟨fun g hg => (by cases hg), fun live' hd => repT_nil _⟩
    · cases hd
  · rename_i g
    split at hd
    · rename_i T t' l' hg
      split at hd
      · rename_i e
        subst e
        simp only [Option.some.injEq, Prod.mk.injEq] at hd
        obtain ⟨rfl, rfl⟩ := hd
        exact ⟨fun g' hg' => by simp at hg'; subst hg'; exact c.hl _ _ hg, fun live' hd => own_slice c hg hr hd⟩
      · cases hd
    · cases hd
  · rename_i g sz off n
    split at hd
    · rename_i T t' l' hg
      split at hd
      · rename_i e
        subst e
        split at hd
        · rename_i hsz
          simp only [Option.some.injEq, Prod.mk.injEq] at hd
          obtain ⟨rfl, rfl⟩ := hd
          exact ⟨fun g' hg' => by simp at hg'; subst hg'; exact c.hl _ _ hg, fun live' hd => win_slice c hg hsz hr hd⟩
        · cases hd
      · cases hd
    · cases hd
  · cases hd

theorem Reps.split {B : Nat → Prop} {ds : List D} {us : List Value} (n : Nat) (hr : Reps w B h ds us) : us = us.take n ++ us.drop n ∧ Reps w B h (ds.take n) (us.take n) ∧ Reps w B h (ds.drop n) (us.drop n) :=
  ⟨(List.take_append_drop n us).symm, hr.take n, hr.drop n⟩
theorem chunks_ok {α : Type} {f : List D → Option (α × List Nat)} {p : (Nat → Prop) → α → List Value → Prop} {B : Nat → Prop}
    (hf : ∀ ds us x cons, f ds = some (x, cons) → Reps w B h ds us → (∀ g ∈ cons, live g) ∧ ∀ live', Dead live live' cons → p live' x us) (sz : Nat) :
    ∀ (n : Nat) (ds : List D) (us : List Value) (l : List α) (cons : List Nat), chunks f sz n ds = some (l, cons) → Reps w B h ds us → (∀ g ∈ cons, live g) ∧ l.length = n ∧ ∀ live', Dead live live' cons → RepLs (p live') l us
  | 0, ds, us, l, cons, hc, hr => by
    cases ds with
    | nil =>
      simp only [chunks, Option.some.injEq, Prod.mk.injEq] at hc
      obtain ⟨rfl, rfl⟩ := hc
      simp only [Reps] at hr
      subst hr
      exact ⟨fun g hg => (by cases hg), rfl, fun _ _ => by simp only [RepLs]⟩
    | cons d ds => simp [chunks] at hc
  | n + 1, ds, us, l, cons, hc, hr => by
    simp only [chunks] at hc
    split at hc
    · rename_i x u l' v h1 h2
      simp only [Option.some.injEq, Prod.mk.injEq] at hc
      obtain ⟨rfl, rfl⟩ := hc
      obtain ⟨he, hr1, hr2⟩ := Reps.split sz hr
      obtain ⟨a1, a2⟩ := hf _ _ _ _ h1 hr1
      obtain ⟨b1, b2, b3⟩ := chunks_ok hf sz n _ _ _ _ h2 hr2
      refine ⟨fun g hg => (List.mem_append.1 hg).elim (a1 g) (b1 g), by simp [b2], fun live' hd => ?_⟩
      simp only [RepLs]
      exact ⟨_, _, he, a2 live' hd.left, b3 live' hd.right⟩
    · cases hc

theorem toDen_ok (c : Ctx w Z h live boxes) : ∀ {t : Ty} {ds : List D} {us : List Value} {x : t.den} {cons : List Nat}, toDen boxes t ds = some (x, cons) → Reps w (Bd Z h live) h ds us →
    (∀ g ∈ cons, live g) ∧ ∀ live', Dead live live' cons → RepT w (Bd Z h live') t x us
  | .int k, ds, us, x, cons, hd, hr => by
    simp only [toDen] at hd
    split at hd
    · split at hd
      · rename_i k' n e
        subst e
        simp only [Option.some.injEq, Prod.mk.injEq] at hd
        obtain ⟨rfl, rfl⟩ := hd
        simp only [Reps, Rep] at hr
        obtain ⟨u, us', rfl, rfl, rfl⟩ := hr
        exact ⟨fun g hg => (by cases hg), fun _ _ => by simp only [RepT]⟩
      · cases hd
    · cases hd
  | .bool, ds, us, x, cons, hd, hr => by
    simp only [toDen] at hd
    split at hd
    · simp only [Option.some.injEq, Prod.mk.injEq] at hd
      obtain ⟨rfl, rfl⟩ := hd
      simp only [Reps, Rep] at hr
      obtain ⟨u, us', rfl, rfl, rfl⟩ := hr
      exact ⟨fun g hg => (by cases hg), fun _ _ => by simp only [RepT]⟩
    · cases hd
  | .str, ds, us, x, cons, hd, hr => by
    simp only [toDen] at hd
    split at hd
    · simp only [Option.some.injEq, Prod.mk.injEq] at hd
      obtain ⟨rfl, rfl⟩ := hd
      simp only [Reps, Rep] at hr
      obtain ⟨u, us', rfl, rfl, rfl⟩ := hr
      exact ⟨fun g hg => (by cases hg), fun _ _ => by simp only [RepT]⟩
    · cases hd
  | .val, ds, us, x, cons, hd, hr => by
    simp only [toDen] at hd
    split at hd
    · split at hd
      · rename_i v hv
        simp only [Option.some.injEq, Prod.mk.injEq] at hd
        obtain ⟨rfl, rfl⟩ := hd
        simp only [Reps, Rep] at hr
        obtain ⟨u, us', rfl, rfl, rfl⟩ := hr
        exact ⟨fun g hg => (by cases hg), fun _ _ => by simp [RepT, hv]⟩
      · cases hd
    · cases hd
  | .slice t, ds, us, x, cons, hd, hr => by
    simp only [toDen] at hd
    split at hd
    · simp only [Reps] at hr
      obtain ⟨u, us', rfl, h1, rfl⟩ := hr
      exact dSl_ok c hd h1
    · cases hd
  | .pair a b, ds, us, x, cons, hd, hr => by
    simp only [toDen] at hd
    split at hd
    · rename_i x u y v h1 h2
      simp only [Option.some.injEq, Prod.mk.injEq] at hd
      obtain ⟨rfl, rfl⟩ := hd
      obtain ⟨he, hr1, hr2⟩ := Reps.split a.size hr
      obtain ⟨a1, a2⟩ := toDen_ok c h1 hr1
      obtain ⟨b1, b2⟩ := toDen_ok c h2 hr2
      refine ⟨fun g hg => (List.mem_append.1 hg).elim (a1 g) (b1 g), fun live' hd => ?_⟩
      simp only [RepT]
      exact ⟨_, _, he, a2 live' hd.left, b2 live' hd.right⟩
    · cases hd
  | .arr n t, ds, us, x, cons, hd, hr => by
    simp only [toDen] at hd
    obtain ⟨a1, a2, a3⟩ := chunks_ok (p := fun live' x us => RepT w (Bd Z h live') t x us) (fun ds us x cons h1 h2 => toDen_ok c h1 h2) t.size n ds us x cons hd hr
    exact ⟨a1, fun live' hd => by simp only [RepT]; exact ⟨a2, a3 live' hd⟩⟩
theorem toList_ok (c : Ctx w Z h live boxes) {t : Ty} {n : Nat} {ds : List D} {us : List Value} {l : List t.den} {cons : List Nat} (hd : toList boxes t n ds = some (l, cons)) (hr : Reps w (Bd Z h live) h ds us) :
    (∀ g ∈ cons, live g) ∧ l.length = n ∧ ∀ live', Dead live live' cons → RepL w (Bd Z h live') t l us :=
  chunks_ok (p := fun live' x us => RepT w (Bd Z h live') t x us) (fun ds us x cons h1 h2 => toDen_ok c h1 h2) t.size n ds us l cons hd hr

theorem chunksC_ok {α : Type} {f : List Value → Option (α × List Nat)} {p : α → List Value → Prop} (hf : ∀ us x cons, f us = some (x, cons) → p x us) (sz : Nat) :
    ∀ (n : Nat) (us : List Value) (l : List α) (cons : List Nat), chunks f sz n us = some (l, cons) → l.length = n ∧ RepLs p l us
  | 0, us, l, cons, hc => by
    cases us with
    | nil =>
      simp only [chunks, Option.some.injEq, Prod.mk.injEq] at hc
      obtain ⟨rfl, rfl⟩ := hc
      exact ⟨rfl, by simp only [RepLs]⟩
    | cons d ds => simp [chunks] at hc
  | n + 1, us, l, cons, hc => by
    simp only [chunks] at hc
    split at hc
    · rename_i x u l' v h1 h2
      simp only [Option.some.injEq, Prod.mk.injEq] at hc
      obtain ⟨rfl, rfl⟩ := hc
      obtain ⟨b2, b3⟩ := chunksC_ok hf sz n _ _ _ h2
      refine ⟨by simp [b2], ?_⟩
      simp only [RepLs]
      exact ⟨_, _, (List.take_append_drop sz us).symm, hf _ _ _ h1, b3⟩
    · cases hc
theorem constDen_ok {B : Nat → Prop} : ∀ {t : Ty} {us : List Value} {x : t.den}, constDen t us = some x → RepT w B t x us
  | .int k, us, x, hd => by
    simp only [constDen] at hd
    split at hd
    · split at hd
      · rename_i e; subst e; simp only [Option.some.injEq] at hd; subst hd; simp only [RepT]
      · cases hd
    · cases hd
  | .bool, us, x, hd => by
    simp only [constDen] at hd
    split at hd
    · simp only [Option.some.injEq] at hd; subst hd; simp only [RepT]
    · cases hd
  | .str, us, x, hd => by
    simp only [constDen] at hd
    split at hd
    · simp only [Option.some.injEq] at hd; subst hd; simp only [RepT]
    · cases hd
  | .val, us, x, hd => by
    simp only [constDen] at hd
    split at hd
    · split at hd
      · rename_i hv; simp only [Option.some.injEq] at hd; subst hd; simp [RepT, hv]
      · cases hd
    · cases hd
  | .slice t, us, x, hd => by
    simp only [constDen] at hd
    split at hd
    · simp only [Option.some.injEq] at hd; subst hd; exact repT_nil none
    · cases hd
  | .pair a b, us, x, hd => by
    simp only [constDen] at hd
    split at hd
    · rename_i x y h1 h2
      simp only [Option.some.injEq] at hd; subst hd
      simp only [RepT]
      exact ⟨_, _, (List.take_append_drop a.size us).symm, constDen_ok h1, constDen_ok h2⟩
    · cases hd
  | .arr n t, us, x, hd => by
    simp only [constDen] at hd
    split at hd
    · rename_i l cons hc
      simp only [Option.some.injEq] at hd; subst hd
      simp only [RepT]
      refine chunksC_ok (p := RepT w B t) (fun us x cons h1 => ?_) t.size n us _ cons hc
      split at h1
      · rename_i y hy
        simp only [Option.some.injEq, Prod.mk.injEq] at h1
        obtain ⟨rfl, _⟩ := h1
        exact constDen_ok hy
      · cases h1
    · cases hd
structure ElemOk (P : Program) (e : TypeId) (t : Ty) (x : t.den) (b : Nat) : Prop where
  info : ∃ i z, P.info? e = some i ∧ i.zero = some z ∧ i.size = t.size ∧ z.cells.size = t.size ∧ i.bytes = b ∧ ∀ w B, RepT w B t x z.cells.toList
theorem elemTy_ok {e : TypeId} {t : Ty} {x : t.den} {b : Nat} (hd : elemTy P e = some ⟨t, x, b⟩) : ElemOk P e t x b := by
  unfold elemTy at hd
  split at hd
  · rename_i i t' hi ht
    split at hd
    · rename_i z hz
      split at hd
      · rename_i hs
        split at hd
        · rename_i x' hx
          simp only [Option.some.injEq] at hd
          injection hd with h1 h2
          subst h1
          have h2 := eq_of_heq h2
          simp only [Prod.mk.injEq] at h2
          obtain ⟨rfl, rfl⟩ := h2
          exact ⟨i, z, hi, hz, hs.1, hs.2, rfl, fun w B => constDen_ok hx⟩
        · cases hd
      · cases hd
    · cases hd
  · cases hd

/-! ### Loads -/
theorem run_isAgg {T : TypeId} {td : TypeDesc} (hu : P.underlying T = some td) : (isAgg T).run P w = .ok (aggT P T) w := by
  unfold isAgg aggT
  rw [Sem.run_bind, run_underlying hu w, hu]
  cases td <;> simp
theorem run_load_at {B : Nat → Prop} {T : TypeId} {ad : Addr} {off : Nat} {cs : List D} {us : List Value} {d : D} (hc : CellsAt w ad us) (hr : Reps w B h cs us) (hd : ofCells P T off cs = some d) :
    ∃ u, (loadVar T (ad.add off)).run P w = .ok u w ∧ Rep w B h d u := by
  unfold ofCells at hd
  split at hd
  · rename_i i td hi hu
    have hA := run_isAgg (w := w) hu
    split at hd
    · rename_i hagg
      split at hd
      · rename_i hle
        have hle := Nat.le_of_ble_eq_true hle
        simp only [Option.some.injEq] at hd
        subst hd
        have hlen := hr.length
        have hr2 := (hr.drop off).take i.size
        have hl : ((us.drop off).take i.size).length = i.size := by rw [List.length_take, List.length_drop]; omega
        have hload := run_loadCells_list (P := P) w (ad.add off) ((us.drop off).take i.size) (fun j v hv => by
          rw [add_add]
          rw [List.getElem?_take] at hv
          split at hv
          · rw [List.getElem?_drop] at hv; exact hc _ v hv
          · simp at hv)
        rw [hl] at hload
        refine ⟨.agg ((us.drop off).take i.size).toArray, ?_, ?_⟩
        · simp only [loadVar, Sem.run_bind, hA, hagg, Result.andThen_ok, if_true, sizeOf, typeInfo]
          simp [hi, hload]
        · simp only [Rep]; exact ⟨_, rfl, hr2⟩
      · cases hd
    · rename_i hagg
      obtain ⟨u, hu2, hr2⟩ := hr.get off d hd
      refine ⟨u, ?_, hr2⟩
      have hcell := hc off u hu2
      simp only [loadVar, Sem.run_bind, hA, hagg, Result.andThen_ok, Bool.false_eq_true, if_false]
      simp [hcell]
  · cases hd
theorem run_getT {B : Nat → Prop} {T : TypeId} {ad : Addr} {t : Ty} {x : t.den} {j : Nat} {us : List Value} {d : D} (hc : CellsAt w ad us) (hr : RepT w B t x us) (hd : getT P T t x j = some d) (hp : ∀ p ∈ inT t j, p) :
    ∃ u, (loadVar T (ad.add j)).run P w = .ok u w ∧ Rep w B h d u := by
  have other : ofCells P T j (cellsOf t x) = some d → ∃ u, (loadVar T (ad.add j)).run P w = .ok u w ∧ Rep w B h d u := fun hd => run_load_at hc (reps_cellsOf hr) hd
  cases t with
  | arr n t =>
    have hjn : j < n := hp _ (by simp [inT])
    simp only [RepT] at hr
    obtain ⟨hlen, hrl⟩ := hr
    simp only [getT] at hd
    split at hd
    · rename_i hagg
      split at hd
      · rename_i m e hu
        split at hd
        · rename_i hm
          obtain ⟨rfl, hs⟩ := hm
          simp only [Option.some.injEq] at hd
          subst hd
          have hA := run_isAgg (w := w) hu
          have hus := RepLs.length (fun x us hx => RepT.length hx) hrl
          unfold sizeIs at hs
          split at hs
          · rename_i i hi
            have hs := Nat.eq_of_beq_eq_true hs
            have hload := run_loadCells_list (P := P) w (ad.add 0) us (fun j v hv => by rw [add_add, Nat.zero_add]; exact hc j v hv)
            rw [hus, hlen, ← hs] at hload
            refine ⟨.agg us.toArray, ?_, by simp only [Rep]; exact ⟨us, rfl, hrl⟩⟩
            simp only [loadVar, Sem.run_bind, hA, hagg, Result.andThen_ok, if_true, sizeOf, typeInfo]
            simp [hi, hload]
          · cases hs
        · cases hd
      · cases hd
    · rename_i hagg
      split at hd
      · rename_i td hu
        split at hd
        · rename_i h1
          have hlt : j < List.length x := by rw [hlen]; exact hjn
          obtain ⟨vs, hv, hcv⟩ := RepL.get (w := w) (B := B) hrl j _ (List.getElem?_eq_getElem hlt)
          have hx : List.getD x j t.zero = x[j] := by simp [List.getD, List.getElem?_eq_getElem hlt]
          rw [hx] at hd
          obtain ⟨u, hu2, hr2⟩ := (reps_cellsOf (h := h) hv).get 0 d hd
          have hcell := hc _ u (hcv 0 u hu2)
          rw [h1, Nat.mul_one, Nat.add_zero] at hcell
          have hA := run_isAgg (w := w) hu
          refine ⟨u, ?_, hr2⟩
          simp only [loadVar, Sem.run_bind, hA, hagg, Result.andThen_ok, Bool.false_eq_true, if_false]
          simp [hcell]
        · cases hd
      · cases hd
  | _ => exact other (by simpa only [getT] using hd)
end
end Go.Proofs.Ytpblkjjafdfjkaa.V
