/- What one operation does: the proofs, second part (new variables, loads, stores). -/
import Derived.Test.YtpblkjjafdfjkaaV6
namespace Go.Proofs.Ytpblkjjafdfjkaa.V
open Go.RowKit
set_option linter.unusedVariables false
set_option linter.unusedSimpArgs false

section
variable {P : Program} {w w' : World} {Z : Nat → Prop} {h : Hist} {live : Nat → Prop} {boxes : Boxes} {id : Nat} {u : Upd} {d : D} {v : Value}

theorem bd_new {live' : Nat → Prop} {hb : Hb} (hd : ∀ i, live' i → i = id ∨ live i) {w : World} (hblk : ∀ b, hb.blk = some b → w.heap.size ≤ b) {k : Nat} (hlt : k < w.heap.size) (hk : Bd Z h live k) : Bd Z (setH h id hb) live' k := by
  refine ⟨hk.1, fun i hb' hl he hbl => ?_⟩
  by_cases hid : i = id
  · subst hid
    rw [setH_same] at he
    injection he with he
    subst he
    have := hblk _ hbl
    omega
  · rw [setH_ne h hb hid] at he
    rcases hd i hl with h1 | h1
    · exact hid h1
    · exact hk.2 i hb' h1 he hbl
theorem agree_new {o : Obj} {c : BoxC} {hb : Hb} {cons : List Nat} (hblk : hb.blk = some w.heap.size) : Agree w (w.alloc o) (Bd Z h live) (Bd Z (setH h id hb) (liveU live ((id, some c) :: dropU cons))) := fun k hk hlt =>
  ⟨bd_new (w := w) (fun i hi => ((liveU_new c cons i).1 hi).imp (fun e => e) (fun e => e.1)) (fun b hb' => by rw [hblk] at hb'; injection hb' with hb'; omega) hlt hk, Below.heap_alloc w o k hlt⟩
theorem bd_dead {cons : List Nat} {c : BoxC} : Dead live (fun i => live i ∧ i ∉ cons) cons := ⟨fun i hi => hi.1, fun g hg hi => hi.2 hg⟩
/-- The blocks of boxes that are given up are nobody's, behind a new box. -/
theorem agree_new_dead {o : Obj} {c : BoxC} {hb : Hb} {cons : List Nat} (hblk : hb.blk = some w.heap.size) : Agree w (w.alloc o) (Bd Z h (fun i => live i ∧ i ∉ cons)) (Bd Z (setH h id hb) (liveU live ((id, some c) :: dropU cons))) := fun k hk hlt =>
  ⟨bd_new (w := w) (live := fun i => live i ∧ i ∉ cons) (fun i hi => (liveU_new c cons i).1 hi) (fun b hb' => by rw [hblk] at hb'; injection hb' with hb'; omega) hlt hk, Below.heap_alloc w o k hlt⟩

/-- A new row. -/
theorem row_new (c : Ctx w Z h live boxes) (hf : h id = none) {T : TypeId} {t : Ty} {l : List t.den} {cur : Array Value} {cap : Nat} {cons : List Nat} {d : D} {v : Value} (hc : ∀ g ∈ cons, live g) (hlen : l.length ≤ cap) (hcap : cap ≤ maxLen) (hsz : cur.size = cap * t.size)
    (hr : RepL w (Bd Z h (fun i => live i ∧ i ∉ cons)) t l (cur.toList.take (l.length * t.size)))
    (hd : Rep (w.alloc (.cells cur T)) (Bd Z (setH h id ⟨some w.heap.size, l.length, cap⟩) (liveU live ((id, some (.row T t l)) :: dropU cons))) (setH h id ⟨some w.heap.size, l.length, cap⟩) d v) :
    Res w (w.alloc (.cells cur T)) Z h (setH h id ⟨some w.heap.size, l.length, cap⟩) live id ((id, some (.row T t l)) :: dropU cons) d v :=
  res_new c.hh hf rfl hc hd ⟨rfl, .inr ⟨w.heap.size, cur, rfl, heap_alloc_new w _, hsz, hlen, hcap, hr.step (agree_new_dead rfl)⟩⟩
theorem rep_own_new {w' : World} {B : Nat → Prop} {n cap b : Nat} : Rep w' B (setH h id ⟨some b, n, cap⟩) (.own id) (.slice (some ⟨b, 0, none⟩) n cap) := by
  simp only [Rep]
  exact ⟨_, setH_same h id _, .inr ⟨b, rfl, rfl⟩⟩
theorem rep_rel_new {w' : World} {B : Nat → Prop} {n cap b sz : Nat} (hn : 0 < n) : Rep w' B (setH h id ⟨some b, n, cap⟩) (.rel id sz 0 0) (.pointer (some ⟨b, 0, none⟩)) := by
  simp only [Rep]
  exact ⟨_, b, setH_same h id _, rfl, hn, by simp⟩

theorem new_ok (c : Ctx w Z h live boxes) (hf : h id = none) {T : TypeId} {d d' : D} {ps : List Prop} (hx : absNew P boxes id T d = some (ps, d', u)) (hps : ∀ p ∈ ps, p) (hr : Rep w (Bd Z h live) h d v) :
    ∃ h', Res w (w.alloc (.cells v.cells T)) Z h h' live id u d' (.pointer (some ⟨w.heap.size, 0, none⟩)) := by
  unfold absNew at hx
  split at hx
  · rename_i n e hu
    split at hx
    · rename_i t x b he
      split at hx
      · rename_i t' l
        split at hx
        · rename_i e'
          subst e'
          simp only [Option.some.injEq, Prod.mk.injEq] at hx
          obtain ⟨rfl, rfl, rfl⟩ := hx
          have h1 := hps (0 < l.length) (by simp)
          have h2 := hps (l.length ≤ 1000000) (by simp)
          simp only [Rep] at hr
          obtain ⟨vs, rfl, hv⟩ := hr
          have hlen := RepL.length (w := w) hv
          refine ⟨_, row_new c hf (cons := []) (cap := l.length) (fun _ hg => by cases hg) (Nat.le_refl _) (by unfold maxLen; show l.length ≤ _; omega) (by simpa [Value.cells] using hlen) ?_ (rep_rel_new h1)⟩
          have e1 : (Value.agg vs.toArray).cells.toList.take ((castL rfl l).length * t'.size) = vs := by
            show vs.take (l.length * t'.size) = vs
            rw [← hlen]; exact List.take_length
          rw [e1]
          exact RepL.step (Agree.mono fun k hk => hk.less fun i hi => hi.1) hv
        · cases hx
      · rename_i hne
        split at hx
        · rename_i l cons hl
          split at hx
          · rename_i hk h1 h2
            simp only [Option.some.injEq, Prod.mk.injEq] at hx
            obtain ⟨rfl, rfl, rfl⟩ := hx
            obtain ⟨a1, a2, a3⟩ := toList_ok c hl (cells_ok hk hr)
            have hrl := a3 _ (bd_dead (c := .cells 0 []))
            have hlen := RepL.length hrl
            have h1 := Nat.le_of_ble_eq_true h1
            have h2 := Nat.le_of_ble_eq_true h2
            refine ⟨_, row_new c hf (cap := l.length) a1 (Nat.le_refl _) (by unfold maxLen; omega) (by simpa using hlen) ?_ (rep_rel_new (by omega))⟩
            rw [← hlen, List.take_length]
            exact hrl
          · cases hx
        · cases hx
    · cases hx
  · split at hx
    · rename_i hk
      simp only [Option.some.injEq, Prod.mk.injEq] at hx
      obtain ⟨rfl, rfl, rfl⟩ := hx
      refine ⟨setH h id ⟨some w.heap.size, 0, 0⟩, res_new c.hh hf (cons := []) rfl (fun _ hg => by cases hg) ?_ ⟨w.heap.size, v.cells, rfl, heap_alloc_new w _, Reps.step (agree_new rfl) (setH_ext _ hf) _ _ (cells_ok hk hr)⟩⟩
      simp only [Rep]
      exact ⟨_, w.heap.size, setH_same h id _, rfl, rfl⟩
    · cases hx
  · cases hx

/-! ### Loads -/
theorem RepL.elem {B : Nat → Prop} {t : Ty} {l : List t.den} {us : List Value} (hr : RepL w B t l us) {i : Nat} {x : t.den} (hi : l[i]? = some x) : RepT w B t x ((us.drop (i * t.size)).take t.size) := by
  have h1 := hr.drop i
  have hlt := (List.getElem?_eq_some_iff.1 hi).1
  have hx := (List.getElem?_eq_some_iff.1 hi).2
  rw [List.drop_eq_getElem_cons hlt, hx] at h1
  simp only [RepL, RepLs] at h1
  obtain ⟨u1, u2, he, h2, h3⟩ := h1
  rw [he, ← h2.length, List.take_left]
  exact h2
theorem row_elem (c : Ctx w Z h live boxes) {g sz e j : Nat} {T : TypeId} {t : Ty} {l : List t.den} (hg : boxes g = some (.row T t l)) (hr : Rep w (Bd Z h live) h (.rel g sz e j) v) :
    ∃ hb b cur, h g = some hb ∧ hb.blk = some b ∧ v = .pointer (some ⟨b, e * sz + j, none⟩) ∧ w.heap[b]? = some (.cells cur T (0, 0)) ∧ e < l.length ∧ l.length = hb.len ∧ cur.size = hb.cap * t.size ∧ hb.len ≤ hb.cap ∧ hb.cap ≤ maxLen ∧
      RepL w (Bd Z h live) t l (cur.toList.take (l.length * t.size)) ∧ RepT w (Bd Z h live) t (l.getD e t.zero) ((cur.toList.drop (e * t.size)).take t.size) ∧ CellsAt w ⟨b, e * t.size, none⟩ ((cur.toList.drop (e * t.size)).take t.size) := by
  simp only [Rep] at hr
  obtain ⟨hb, b, he, hblk, hlt, rfl⟩ := hr
  obtain ⟨hb', he', hlen, hok⟩ := c.hb g _ hg
  rw [he] at he'; injection he' with he'; subst he'
  rcases hok with ⟨h3, _⟩ | ⟨b', cur, h3, h4, h5, h6, h7, h8⟩
  · rw [hblk] at h3; cases h3
  · rw [hblk] at h3; injection h3 with h3; subst h3
    rw [← hlen] at h8
    have hlt' : e < l.length := by omega
    have hel := h8.elem (List.getElem?_eq_getElem hlt')
    have hin : e * t.size + t.size ≤ l.length * t.size := by
      have : (e + 1) * t.size ≤ l.length * t.size := Nat.mul_le_mul_right _ hlt'
      rw [Nat.add_mul, Nat.one_mul] at this; exact this
    have heq : ((cur.toList.take (l.length * t.size)).drop (e * t.size)).take t.size = (cur.toList.drop (e * t.size)).take t.size := by
      rw [List.drop_take, List.take_take, Nat.min_eq_left (by omega)]
    rw [heq] at hel
    have hx : l.getD e t.zero = l[e] := by simp [List.getD, List.getElem?_eq_getElem hlt']
    refine ⟨hb, b, cur, he, hblk, rfl, h4, hlt', hlen, h5, h6, h7, h8, by rw [hx]; exact hel, fun k u hu => ?_⟩
    rw [add_at, cell_of_row w b _ cur T (0, 0) h4]
    rw [List.getElem?_take] at hu
    split at hu
    · rw [List.getElem?_drop] at hu; simpa using hu
    · cases hu

theorem load_ok (c : Ctx w Z h live boxes) {T : TypeId} {d d' : D} {ps : List Prop} (hx : absLoad P boxes T d = some (ps, d')) (hps : ∀ p ∈ ps, p) (hr : Rep w (Bd Z h live) h d v) :
    ∃ u, (Instr.loadAt T v).run P w = .ok u w ∧ Rep w (Bd Z h live) h d' u := by
  unfold absLoad at hx
  split at hx
  · rename_i g off
    split at hx
    · rename_i T0 cs hg
      split at hx
      · rename_i d1 hd
        simp only [Option.some.injEq, Prod.mk.injEq] at hx
        obtain ⟨rfl, rfl⟩ := hx
        obtain ⟨hb, he, b, cells, hblk, hcell, hrs⟩ := c.hb g _ hg
        simp only [Rep] at hr
        obtain ⟨hb', b', he', hblk', rfl⟩ := hr
        rw [he] at he'; injection he' with he'; subst he'
        rw [hblk] at hblk'; injection hblk' with hblk'; subst hblk'
        obtain ⟨u, hu, hru⟩ := run_load_at (P := P) (T := T) (ad := ⟨b, 0, none⟩) (off := off) (fun j v hv => by rw [add_at, cell_of_row w b _ cells T0 (0, 0) hcell]; simpa using hv) hrs hd
        rw [add_at, Nat.zero_add] at hu
        exact ⟨u, by simp [Instr.loadAt, Instr.sureAddr, hu], hru⟩
      · cases hx
    · cases hx
  · rename_i g sz e j
    split at hx
    · rename_i T0 t l hg
      split at hx
      · rename_i hsz
        split at hx
        · rename_i d1 hd
          simp only [Option.some.injEq, Prod.mk.injEq] at hx
          obtain ⟨rfl, rfl⟩ := hx
          obtain ⟨hb, b, cur, _, _, rfl, hcell, _, _, _, _, _, _, hel, hca⟩ := row_elem c hg hr
          subst hsz
          obtain ⟨u, hu, hru⟩ := run_getT (P := P) (T := T) (h := h) hca hel hd hps
          rw [add_at] at hu
          exact ⟨u, by simp [Instr.loadAt, Instr.sureAddr, hu], hru⟩
        · cases hx
      · cases hx
    · cases hx
  · rename_i t l i j
    split at hx
    · rename_i d1 hd
      simp only [Option.some.injEq, Prod.mk.injEq] at hx
      obtain ⟨rfl, rfl⟩ := hx
      simp only [Rep] at hr
      obtain ⟨ad, vs, x, rfl, hB, hlt, hi, hrx, hca⟩ := hr
      have hx : l.getD i t.zero = x := by simp [List.getD, hi]
      rw [hx] at hd
      obtain ⟨u, hu, hru⟩ := run_getT (P := P) (T := T) (h := h) hca hrx hd hps
      exact ⟨u, by simp [Instr.loadAt, Instr.sureAddr, hu], hru⟩
    · cases hx
  · rename_i cs off
    split at hx
    · rename_i d1 hd
      simp only [Option.some.injEq, Prod.mk.injEq] at hx
      obtain ⟨rfl, rfl⟩ := hx
      simp only [Rep] at hr
      obtain ⟨b, cells, T0, rfl, hB, hcell, hrs⟩ := hr
      obtain ⟨u, hu, hru⟩ := run_load_at (P := P) (T := T) (ad := ⟨b, 0, none⟩) (off := off) (fun j v hv => by rw [add_at, cell_of_row w b _ cells T0 (0, 0) hcell]; simpa using hv) hrs hd
      rw [add_at, Nat.zero_add] at hu
      exact ⟨u, by simp [Instr.loadAt, Instr.sureAddr, hu], hru⟩
    · cases hx
  · cases hx

/-! ### Stores -/
theorem one_ok {B : Nat → Prop} {d : D} {u : Value} (hr : Rep w B h d u) (ho : d.one = true) : u.oneCell' = true := by
  cases d with
  | val v => simp only [Rep] at hr; subst hr; exact ho
  | agg cs => cases ho
  | tup cs => cases ho
  | arr t l => cases ho
  | any => cases ho
  | sl t l => simp only [Rep, RepT] at hr; obtain ⟨A, c, he, _⟩ := hr; injection he with he _; subst he; rfl
  | box g off => simp only [Rep] at hr; obtain ⟨_, _, _, _, rfl⟩ := hr; rfl
  | own g => simp only [Rep] at hr; obtain ⟨_, _, hr⟩ := hr; rcases hr with ⟨_, _, a, rfl⟩ | ⟨b, _, rfl⟩ <;> rfl
  | win g sz off n => simp only [Rep] at hr; obtain ⟨_, _, _, _, _, rfl, _⟩ := hr; rfl
  | rel g sz e j => simp only [Rep] at hr; obtain ⟨_, _, _, _, _, rfl⟩ := hr; rfl
  | elt t l i j => simp only [Rep] at hr; obtain ⟨_, _, _, rfl, _⟩ := hr; rfl
  | ptr cs off => simp only [Rep] at hr; obtain ⟨_, _, _, rfl, _⟩ := hr; rfl
  | clo f caps => simp only [Rep] at hr; obtain ⟨_, rfl, _⟩ := hr; rfl
theorem ones_ok {B : Nat → Prop} : ∀ {ds : List D} {us : List Value}, Reps w B h ds us → ds.all D.one = true → ∀ v ∈ us, v.oneCell' = true
  | [], us, hr, _, v, hv => by simp only [Reps] at hr; subst hr; simp at hv
  | d :: ds, us, hr, ho, v, hv => by
    simp only [Reps] at hr
    obtain ⟨u, us', rfl, h1, h2⟩ := hr
    simp only [List.all_cons, Bool.and_eq_true] at ho
    rcases List.mem_cons.1 hv with rfl | hv
    · exact one_ok h1 ho.1
    · exact ones_ok h2 ho.2 v hv

theorem put_seg {us vs : List Value} {a b j : Nat} (hl : us.length = a + b) (h1 : j + vs.length ≤ a) : us.take j ++ vs ++ us.drop (j + vs.length) = ((us.take a).take j ++ vs ++ (us.take a).drop (j + vs.length)) ++ us.drop a := by
  rw [List.take_take, Nat.min_eq_left (by omega), List.append_assoc _ _ (us.drop a)]
  congr 1
  rw [List.drop_take]
  conv => lhs; rw [← List.take_append_drop (a - (j + vs.length)) (us.drop (j + vs.length))]
  congr 1
  rw [List.drop_drop]
  congr 1
  omega
theorem put_seg2 {us vs : List Value} {a b j : Nat} (hl : us.length = a + b) (h1 : a ≤ j) : us.take j ++ vs ++ us.drop (j + vs.length) = us.take a ++ ((us.drop a).take (j - a) ++ vs ++ (us.drop a).drop (j - a + vs.length)) := by
  rw [List.drop_drop, ← List.append_assoc, ← List.append_assoc]
  congr 1
  · congr 1
    conv => lhs; rw [show j = a + (j - a) by omega]
    rw [List.take_add]
  · congr 1; omega
theorem putDen_ok (c : Ctx w Z h live boxes) : ∀ {t : Ty} {x y : t.den} {j : Nat} {ds : List D} {us vs : List Value} {cons : List Nat}, putDen boxes t x j ds = some (y, cons) → (∀ p ∈ inT t j, p) → RepT w (Bd Z h live) t x us → Reps w (Bd Z h live) h ds vs →
    j + vs.length ≤ t.size ∧ (∀ g ∈ cons, live g) ∧ (∀ u ∈ vs, u.oneCell' = true) ∧ ∀ live', Dead live live' cons → RepT w (Bd Z h live') t y (us.take j ++ vs ++ us.drop (j + vs.length)) := by
  have base : ∀ {t : Ty} {y : t.den} {ds : List D} {us vs : List Value} {cons : List Nat} {x : t.den}, toDen boxes t ds = some (y, cons) → RepT w (Bd Z h live) t x us → Reps w (Bd Z h live) h ds vs →
      0 + vs.length ≤ t.size ∧ (∀ g ∈ cons, live g) ∧ (∀ u ∈ vs, u.oneCell' = true) ∧ ∀ live', Dead live live' cons → RepT w (Bd Z h live') t y (us.take 0 ++ vs ++ us.drop (0 + vs.length)) := by
    intro t y ds us vs cons x hd hu hv
    obtain ⟨a1, a2⟩ := toDen_ok c hd hv
    have hr := a2 _ (bd_dead (c := .cells 0 []))
    have hl := hr.length
    refine ⟨by omega, a1, hr.one, fun live' hdd => ?_⟩
    have hu' := hu.length
    rw [List.take_zero, List.nil_append, Nat.zero_add, List.drop_eq_nil_of_le (by omega), List.append_nil]
    exact a2 live' hdd
  intro t
  induction t with
  | pair a b iha ihb =>
    intro x y j ds us vs cons hd hin hu hv
    have hlv := hv.length
    simp only [putDen] at hd
    have hul := hu.length
    have hpair := hu
    simp only [RepT] at hu
    obtain ⟨u1, u2, rfl, hu1, hu2⟩ := hu
    have hl1 := hu1.length
    have hl2 := hu2.length
    split at hd
    · rename_i hble0
      have hble := Nat.le_of_ble_eq_true hble0
      split at hd
      · rename_i y' cons' hy
        simp only [Option.some.injEq, Prod.mk.injEq] at hd
        obtain ⟨rfl, rfl⟩ := hd
        have hin' : ∀ p ∈ inT b (j - a.size), p := fun p hp => hin p (by simp only [inT]; rw [hble0]; exact hp)
        obtain ⟨b1, b2, b3, b4⟩ := ihb hy hin' hu2 hv
        refine ⟨by simp only [Ty.size]; omega, b2, b3, fun live' hdd => ?_⟩
        rw [put_seg2 (a := a.size) (b := b.size) (by rw [List.length_append, hl1, hl2]) hble]
        simp only [RepT]
        refine ⟨_, _, rfl, ?_, ?_⟩
        · rw [← hl1, List.take_left]; exact RepT.step (Agree.mono fun k hk => hk.less hdd.1) hu1
        · rw [← hl1, List.drop_left, hl1]; exact b4 live' hdd
      · cases hd
    · rename_i hble0
      split at hd
      · split at hd
        · rename_i y' cons' hy
          simp only [Option.some.injEq, Prod.mk.injEq] at hd
          obtain ⟨rfl, rfl⟩ := hd
          have hin' : ∀ p ∈ inT a j, p := fun p hp => hin p (by simp only [inT]; rw [hble0]; exact hp)
          obtain ⟨b1, b2, b3, b4⟩ := iha hy hin' hu1 hv
          refine ⟨by simp only [Ty.size]; omega, b2, b3, fun live' hdd => ?_⟩
          rw [put_seg (a := a.size) (b := b.size) (by rw [List.length_append, hl1, hl2]) b1]
          simp only [RepT]
          refine ⟨_, _, rfl, ?_, ?_⟩
          · rw [← hl1, List.take_left]; exact b4 live' hdd
          · rw [← hl1, List.drop_left]; exact RepT.step (Agree.mono fun k hk => hk.less hdd.1) hu2
        · cases hd
      · split at hd
        · exact base hd hpair hv
        · cases hd
  | arr n t ih =>
    intro x y j ds us vs cons hd hin hu hv
    have hjn : j < n := hin _ (by simp [inT])
    simp only [putDen] at hd
    split at hd
    · rename_i h1
      split at hd
      · rename_i y' cons' hy
        simp only [Option.some.injEq, Prod.mk.injEq] at hd
        obtain ⟨rfl, rfl⟩ := hd
        simp only [RepT] at hu
        obtain ⟨hlen, hrl⟩ := hu
        obtain ⟨a1, a2⟩ := toDen_ok c hy hv
        have hr := a2 _ (bd_dead (c := .cells 0 []))
        have hl := hr.length
        refine ⟨by simp only [Ty.size]; rw [h1.1]; omega, a1, hr.one, fun live' hdd => ?_⟩
        simp only [RepT]
        refine ⟨by rw [List.length_set]; exact hlen, ?_⟩
        have key := RepL.set j y' vs (RepL.step (Agree.mono fun k hk => hk.less hdd.1) hrl) (by rw [hlen]; exact hjn) (a2 live' hdd)
        rw [h1.1, Nat.mul_one] at key
        rw [hl, h1.1]
        exact key
      · cases hd
    · cases hd
  | _ =>
    intro x y j ds us vs cons hd hin hu hv
    simp only [putDen] at hd
    split at hd
    · exact base hd hu hv
    · cases hd
end
end Go.Proofs.Ytpblkjjafdfjkaa.V
