/- Boxes of the call's own, which blocks are nobody's to write, and what one operation leaves ('Res'). -/
import Derived.Test.YtpblkjjafdfjkaaV1
namespace Go.Proofs.Ytpblkjjafdfjkaa.V
open Go.RowKit
set_option linter.unusedVariables false
set_option linter.unusedSimpArgs false

/-- A box: some cells; or a row of elements of one type, with room behind them. -/
inductive BoxC where
  | cells (T : TypeId) (cs : List D)
  | row (T : TypeId) (t : Ty) (l : List t.den)
abbrev Boxes := Nat → Option BoxC
abbrev Env := Nat → D
abbrev Upd := List (Nat × Option BoxC)

def BoxOk1 (w : World) (B : Nat → Prop) (h : Hist) (hb : Hb) : BoxC → Prop
  | .cells T cs => ∃ b cells, hb.blk = some b ∧ w.heap[b]? = some (.cells cells T (0, 0)) ∧ Reps w B h cs cells.toList
  | .row T t l => l.length = hb.len ∧ ((hb.blk = none ∧ hb.len = 0 ∧ hb.cap = 0) ∨
      ∃ b cur, hb.blk = some b ∧ w.heap[b]? = some (.cells cur T (0, 0)) ∧ cur.size = hb.cap * t.size ∧ hb.len ≤ hb.cap ∧ hb.cap ≤ maxLen ∧ RepL w B t l (cur.toList.take (hb.len * t.size)))
def BoxesOk (w : World) (B : Nat → Prop) (h : Hist) (boxes : Boxes) : Prop := ∀ g c, boxes g = some c → ∃ hb, h g = some hb ∧ BoxOk1 w B h hb c

/-- The blocks that nobody writes: not in Z, and no live box. -/
def Bd (Z : Nat → Prop) (h : Hist) (live : Nat → Prop) : Nat → Prop := fun k => ¬ Z k ∧ ∀ i hb, live i → h i = some hb → hb.blk ≠ some k
structure Heap (w : World) (Z : Nat → Prop) (h : Hist) (live : Nat → Prop) : Prop where
  inj : ∀ i j hi hj b, live i → live j → h i = some hi → h j = some hj → hi.blk = some b → hj.blk = some b → i = j
  lt : ∀ i hb b, h i = some hb → hb.blk = some b → b < w.heap.size
  nz : ∀ i hb b, live i → h i = some hb → hb.blk = some b → ¬ Z b
  zlt : ∀ k, Z k → k < w.heap.size
/-- All old blocks but those in O are as they were. -/
structure Keeps (w w' : World) (O : Nat → Prop) : Prop where
  os : w'.os = w.os
  tape : w'.tape = w.tape
  output : w'.output = w.output
  size : w.heap.size ≤ w'.heap.size
  block : ∀ k, k < w.heap.size → ¬ O k → w'.heap[k]? = w.heap[k]?
theorem Keeps.refl (w : World) (O : Nat → Prop) : Keeps w w O := ⟨rfl, rfl, rfl, Nat.le_refl _, fun _ _ _ => rfl⟩
theorem Keeps.of_below {w w' : World} (O : Nat → Prop) (h : Below w.heap.size w w') : Keeps w w' O := ⟨h.os, h.tape, h.output, h.size, fun k hk _ => h.block k hk⟩
theorem Keeps.below {w w' : World} (h : Keeps w w' (fun _ => False)) : Below w.heap.size w w' := ⟨h.os, h.tape, h.output, h.size, fun k hk => h.block k hk (fun f => f)⟩
theorem Keeps.mono {w w' : World} {O O' : Nat → Prop} (h : Keeps w w' O) (ho : ∀ k, k < w.heap.size → O k → O' k) : Keeps w w' O' := ⟨h.os, h.tape, h.output, h.size, fun k hk hn => h.block k hk (fun hk2 => hn (ho k hk hk2))⟩
theorem Keeps.alloc (w : World) (o : Obj) (O : Nat → Prop) : Keeps w (w.alloc o) O := ⟨rfl, rfl, rfl, by simp, fun k hk _ => heap_alloc_old w o k hk⟩
theorem Keeps.setRow (w : World) (b : Nat) (cs : Array Value) (O : Nat → Prop) (hO : O b) : Keeps w (w.setRow b cs) O := ⟨rfl, rfl, rfl, by simp [World.setRow], fun k hk hn => setRow_other w b k cs (fun e => hn (e ▸ hO))⟩
theorem Keeps.trans {w w' w'' : World} {O : Nat → Prop} (h : Keeps w w' O) (h' : Keeps w' w'' O) : Keeps w w'' O :=
  ⟨h'.os.trans h.os, h'.tape.trans h.tape, h'.output.trans h.output, Nat.le_trans h.size h'.size, fun k hk hn => (h'.block k (Nat.lt_of_lt_of_le hk h.size) hn).trans (h.block k hk hn)⟩

def has (l : List Nat) (i : Nat) : Bool := l.any (fun j => Nat.beq j i)
theorem has_iff {l : List Nat} {i : Nat} : has l i = true ↔ i ∈ l := by
  unfold has
  rw [List.any_eq_true]
  exact ⟨fun ⟨x, hx, he⟩ => by rw [← Nat.eq_of_beq_eq_true he]; exact hx, fun h => ⟨i, h, by simp⟩⟩
def lookU : Upd → Nat → Option (Option BoxC)
  | [], _ => none
  | (g, c) :: u, i => match Nat.beq g i with | true => some c | false => lookU u i
def applyU (boxes : Boxes) (u : Upd) : Boxes := fun g => match lookU u g with | some c => c | none => boxes g
def liveU (live : Nat → Prop) (u : Upd) : Nat → Prop := fun i => match lookU u i with | some (some _) => True | some none => False | none => live i
def dropU (cons : List Nat) : Upd := cons.map (fun g => (g, none))
theorem lookU_drop (cons : List Nat) (i : Nat) : lookU (dropU cons) i = if i ∈ cons then some none else none := by
  induction cons with
  | nil => rfl
  | cons g l ih =>
    show (match Nat.beq g i with | true => some none | false => lookU (dropU l) i) = _
    cases hb : Nat.beq g i with
    | true => simp [Nat.eq_of_beq_eq_true hb]
    | false =>
      have hne : g ≠ i := Nat.ne_of_beq_eq_false hb
      simp only [ih, List.mem_cons, Ne.symm hne, false_or]
theorem lookU_cons (g : Nat) (c : Option BoxC) (u : Upd) (i : Nat) : lookU ((g, c) :: u) i = if g = i then some c else lookU u i := by
  show (match Nat.beq g i with | true => some c | false => lookU u i) = _
  cases hb : Nat.beq g i with
  | true => simp [Nat.eq_of_beq_eq_true hb]
  | false => simp [Nat.ne_of_beq_eq_false hb]

/-- What an operation leaves. id: the number that a new box takes. -/
structure Res (w w' : World) (Z : Nat → Prop) (h h' : Hist) (live : Nat → Prop) (id : Nat) (u : Upd) (d : D) (v : Value) : Prop where
  ext : Ext h h'
  only : ∀ i, i ≠ id → h' i = h i
  heap : Heap w' Z h' (liveU live u)
  rep : Rep w' (Bd Z h' (liveU live u)) h' d v
  ok : ∀ g c, lookU u g = some (some c) → ∃ hb, h' g = some hb ∧ BoxOk1 w' (Bd Z h' (liveU live u)) h' hb c
  upd : ∀ g c, lookU u g = some c → g ≠ id → live g
  keeps : Keeps w w' (fun k => ∃ g hb, (lookU u g).isSome = true ∧ live g ∧ h g = some hb ∧ hb.blk = some k)
  new : ∀ hb b, liveU live u id → h' id = some hb → hb.blk = some b → w.heap.size ≤ b ∨ ∃ g hb', live g ∧ h g = some hb' ∧ hb'.blk = some b

section
variable {w w' : World} {Z : Nat → Prop} {h h' : Hist} {live : Nat → Prop} {id : Nat} {u : Upd} {d : D} {v : Value}

theorem Res.agree (r : Res w w' Z h h' live id u d v) : Agree w w' (Bd Z h live) (Bd Z h' (liveU live u)) := by
  intro k hk hlt
  refine ⟨⟨hk.1, fun i hb hl he hblk => ?_⟩, r.keeps.block k hlt (fun ⟨g, hb, _, hl, he, hblk⟩ => hk.2 g hb hl he hblk)⟩
  by_cases hid : i = id
  · subst hid
    rcases r.new hb k hl he hblk with h1 | ⟨g, hb', h1, h2, h3⟩
    · omega
    · exact hk.2 g hb' h1 h2 h3
  · rw [r.only i hid] at he
    have hli : live i := by
      unfold liveU at hl
      split at hl
      · rename_i c hc; exact r.upd i _ hc hid
      · exact hl.elim
      · exact hl
    exact hk.2 i hb hli he hblk
theorem BoxOk1.step {w w' : World} {B B' : Nat → Prop} {h h' : Hist} (ha : Agree w w' B B') (hx : Ext h h') {hb : Hb} {c : BoxC} (hk : ∀ b, hb.blk = some b → w'.heap[b]? = w.heap[b]?) (hr : BoxOk1 w B h hb c) : BoxOk1 w' B' h' hb c := by
  cases c with
  | cells T cs =>
    obtain ⟨b, cells, h1, h2, h3⟩ := hr
    exact ⟨b, cells, h1, (hk b h1).trans h2, Reps.step ha hx _ _ h3⟩
  | row T t l =>
    obtain ⟨h1, h2⟩ := hr
    refine ⟨h1, ?_⟩
    rcases h2 with h2 | ⟨b, cur, h2, h3, h4, h5, h6, h7⟩
    · exact .inl h2
    · exact .inr ⟨b, cur, h2, (hk b h2).trans h3, h4, h5, h6, h7.step ha⟩
/-- The boxes behind an operation. -/
theorem Res.boxes (r : Res w w' Z h h' live id u d v) (hh : Heap w Z h live) {boxes : Boxes} (hl : ∀ g c, boxes g = some c → live g) (hb : BoxesOk w (Bd Z h live) h boxes) : BoxesOk w' (Bd Z h' (liveU live u)) h' (applyU boxes u) := by
  intro g c hg
  unfold applyU at hg
  split at hg
  · rename_i c' hc
    subst hg
    exact r.ok g c hc
  · rename_i hn
    obtain ⟨hb1, he, hok⟩ := hb g c hg
    refine ⟨hb1, r.ext g hb1 he, hok.step r.agree r.ext fun b hblk => ?_⟩
    refine r.keeps.block b (hh.lt g hb1 b he hblk) (fun ⟨g', hb', hs, hl', he', hblk'⟩ => ?_)
    have := hh.inj g g' hb1 hb' b (hl g c hg) hl' he he' hblk hblk'
    subst this
    rw [hn] at hs; cases hs
theorem Heap.size {w w' : World} (hh : Heap w Z h live) (hs : w.heap.size ≤ w'.heap.size) : Heap w' Z h live :=
  ⟨hh.inj, fun i hb b h1 h2 => Nat.lt_of_lt_of_le (hh.lt i hb b h1 h2) hs, hh.nz, fun k hk => Nat.lt_of_lt_of_le (hh.zlt k hk) hs⟩
theorem Heap.less {live' : Nat → Prop} (hh : Heap w Z h live) (hl : ∀ i, live' i → live i) : Heap w Z h live' :=
  ⟨fun i j hi hj b h1 h2 => hh.inj i j hi hj b (hl i h1) (hl j h2), hh.lt, fun i hb b h1 => hh.nz i hb b (hl i h1), hh.zlt⟩
theorem liveU_nil : liveU live [] = live := rfl
theorem liveU_drop (cons : List Nat) (i : Nat) : liveU live (dropU cons) i ↔ live i ∧ i ∉ cons := by
  unfold liveU
  rw [lookU_drop]
  by_cases hi : i ∈ cons <;> simp [hi]
theorem liveU_new (c : BoxC) (cons : List Nat) (i : Nat) : liveU live ((id, some c) :: dropU cons) i ↔ i = id ∨ (live i ∧ i ∉ cons) := by
  unfold liveU
  rw [lookU_cons, lookU_drop]
  by_cases hi : id = i
  · simp [hi]
  · by_cases hc : i ∈ cons <;> simp [hi, hc, Ne.symm hi]
theorem Bd.less {live' : Nat → Prop} (hl : ∀ i, live' i → live i) {k : Nat} (hk : Bd Z h live k) : Bd Z h live' k := ⟨hk.1, fun i hb h1 => hk.2 i hb (hl i h1)⟩

/-- Nothing is written: boxes may be given up. -/
theorem res_drop (hh : Heap w Z h live) {cons : List Nat} (hc : ∀ g ∈ cons, live g) (hr : Rep w (Bd Z h (liveU live (dropU cons))) h d v) : Res w w Z h h live id (dropU cons) d v := by
  have hl : ∀ i, liveU live (dropU cons) i → live i := fun i hi => ((liveU_drop cons i).1 hi).1
  refine ⟨Ext.refl h, fun _ _ => rfl, hh.less hl, hr, fun g c hg => ?_, fun g c hg _ => ?_, Keeps.refl _ _, fun hb b hlid he hblk => .inr ⟨id, hb, hl id hlid, he, hblk⟩⟩
  · rw [lookU_drop] at hg
    split at hg
    · injection hg with hg; cases hg
    · cases hg
  · rw [lookU_drop] at hg
    split at hg
    · rename_i hm; exact hc g hm
    · cases hg
theorem res_pure (hh : Heap w Z h live) (hr : Rep w (Bd Z h live) h d v) : Res w w Z h h live id [] d v := res_drop (cons := []) hh (fun _ hg => by cases hg) hr
/-- A world with more blocks, nothing else. -/
theorem res_more (hh : Heap w Z h live) (hk : Keeps w w' (fun _ => False)) {cons : List Nat} (hc : ∀ g ∈ cons, live g) (hr : Rep w' (Bd Z h (liveU live (dropU cons))) h d v) : Res w w' Z h h live id (dropU cons) d v := by
  have hl : ∀ i, liveU live (dropU cons) i → live i := fun i hi => ((liveU_drop cons i).1 hi).1
  refine ⟨Ext.refl h, fun _ _ => rfl, (hh.less hl).size hk.size, hr, fun g c hg => ?_, fun g c hg _ => ?_, hk.mono (fun _ _ f => f.elim), fun hb b hlid he hblk => .inr ⟨id, hb, hl id hlid, he, hblk⟩⟩
  · rw [lookU_drop] at hg
    split at hg
    · injection hg with hg; cases hg
    · cases hg
  · rw [lookU_drop] at hg
    split at hg
    · rename_i hm; exact hc g hm
    · cases hg

def setH (h : Hist) (id : Nat) (hb : Hb) : Hist := fun i => match Nat.beq i id with | true => some hb | false => h i
theorem setH_same (h : Hist) (id : Nat) (hb : Hb) : setH h id hb id = some hb := by unfold setH; simp
theorem setH_ne (h : Hist) {id i : Nat} (hb : Hb) (hi : i ≠ id) : setH h id hb i = h i := by
  unfold setH
  cases e : Nat.beq i id with
  | true => exact absurd (Nat.eq_of_beq_eq_true e) hi
  | false => rfl
theorem setH_ext {h : Hist} {id : Nat} (hb : Hb) (hf : h id = none) : Ext h (setH h id hb) := fun g c hg => by
  rw [setH_ne h hb (fun e => by rw [e, hf] at hg; cases hg)]; exact hg

/-- A new box; others may be given up. -/
theorem res_new (hh : Heap w Z h live) (hf : h id = none) {o : Obj} {c : BoxC} {hb : Hb} {cons : List Nat} (hblk : hb.blk = some w.heap.size) (hc : ∀ g ∈ cons, live g)
    (hr : Rep (w.alloc o) (Bd Z (setH h id hb) (liveU live ((id, some c) :: dropU cons))) (setH h id hb) d v)
    (hok : BoxOk1 (w.alloc o) (Bd Z (setH h id hb) (liveU live ((id, some c) :: dropU cons))) (setH h id hb) hb c) :
    Res w (w.alloc o) Z h (setH h id hb) live id ((id, some c) :: dropU cons) d v := by
  have hsz : (w.alloc o).heap.size = w.heap.size + 1 := by simp
  have hcase : ∀ i hi b, liveU live ((id, some c) :: dropU cons) i → setH h id hb i = some hi → hi.blk = some b → (i = id ∧ b = w.heap.size) ∨ (i ≠ id ∧ live i ∧ h i = some hi ∧ b < w.heap.size) := by
    intro i hi b hl he hbl
    by_cases hid : i = id
    · subst hid
      rw [setH_same] at he
      injection he with he
      subst he
      rw [hblk] at hbl
      injection hbl with hbl
      exact .inl ⟨rfl, hbl.symm⟩
    · rw [setH_ne h hb hid] at he
      rcases (liveU_new c cons i).1 hl with h1 | h1
      · exact absurd h1 hid
      · exact .inr ⟨hid, h1.1, he, hh.lt i hi b he hbl⟩
  refine ⟨setH_ext hb hf, fun i hi => setH_ne h hb hi, ⟨?_, ?_, ?_, fun k hk => by have := hh.zlt k hk; omega⟩, hr, ?_, ?_, Keeps.alloc _ _ _, ?_⟩
  · intro i j hi hj b h1 h2 h3 h4 h5 h6
    rcases hcase i hi b h1 h3 h5 with ⟨h7, h8⟩ | ⟨h7, h8, h9, h10⟩ <;> rcases hcase j hj b h2 h4 h6 with ⟨k7, k8⟩ | ⟨k7, k8, k9, k10⟩
    · rw [h7, k7]
    · omega
    · omega
    · exact hh.inj i j hi hj b h8 k8 h9 k9 h5 h6
  · intro i hi b he hbl
    by_cases hid : i = id
    · subst hid
      rw [setH_same] at he
      injection he with he
      subst he
      rw [hblk] at hbl
      injection hbl with hbl
      omega
    · rw [setH_ne h hb hid] at he
      have := hh.lt i hi b he hbl
      omega
  · intro i hi b h1 h2 h3 hz
    rcases hcase i hi b h1 h2 h3 with ⟨_, h8⟩ | ⟨_, h8, h9, _⟩
    · have := hh.zlt b hz; omega
    · exact hh.nz i hi b h8 h9 h3 hz
  · intro g c' hg
    rw [lookU_cons, lookU_drop] at hg
    split at hg
    · rename_i hid
      injection hg with hg; injection hg with hg
      subst hg; subst hid
      exact ⟨hb, setH_same h _ hb, hok⟩
    · split at hg
      · injection hg with hg; cases hg
      · cases hg
  · intro g c' hg hne
    rw [lookU_cons, lookU_drop, if_neg (Ne.symm hne)] at hg
    split at hg
    · rename_i hm; exact hc g hm
    · cases hg
  · intro hb' b _ he hbl
    rw [setH_same] at he
    injection he with he
    subst he
    rw [hblk] at hbl
    injection hbl with hbl
    exact .inl (by omega)
/-- A new box that has no block (an empty slice). -/
theorem res_none (hh : Heap w Z h live) (hf : h id = none) {c : BoxC} {hb : Hb} (hblk : hb.blk = none)
    (hr : Rep w (Bd Z (setH h id hb) (liveU live [(id, some c)])) (setH h id hb) d v)
    (hok : BoxOk1 w (Bd Z (setH h id hb) (liveU live [(id, some c)])) (setH h id hb) hb c) :
    Res w w Z h (setH h id hb) live id [(id, some c)] d v := by
  have hcase : ∀ i hi b, liveU live [(id, some c)] i → setH h id hb i = some hi → hi.blk = some b → (i ≠ id ∧ live i ∧ h i = some hi) := by
    intro i hi b hl he hbl
    by_cases hid : i = id
    · subst hid
      rw [setH_same] at he
      injection he with he
      subst he
      rw [hblk] at hbl
      cases hbl
    · rw [setH_ne h hb hid] at he
      rcases (liveU_new c [] i).1 hl with h1 | h1
      · exact absurd h1 hid
      · exact ⟨hid, h1.1, he⟩
  refine ⟨setH_ext hb hf, fun i hi => setH_ne h hb hi, ⟨?_, ?_, ?_, hh.zlt⟩, hr, ?_, ?_, Keeps.refl _ _, ?_⟩
  · intro i j hi hj b h1 h2 h3 h4 h5 h6
    obtain ⟨h7, h8, h9⟩ := hcase i hi b h1 h3 h5
    obtain ⟨k7, k8, k9⟩ := hcase j hj b h2 h4 h6
    exact hh.inj i j hi hj b h8 k8 h9 k9 h5 h6
  · intro i hi b he hbl
    by_cases hid : i = id
    · subst hid
      rw [setH_same] at he
      injection he with he
      subst he
      rw [hblk] at hbl
      cases hbl
    · rw [setH_ne h hb hid] at he
      exact hh.lt i hi b he hbl
  · intro i hi b h1 h2 h3 hz
    obtain ⟨_, h8, h9⟩ := hcase i hi b h1 h2 h3
    exact hh.nz i hi b h8 h9 h3 hz
  · intro g c' hg
    rw [lookU_cons] at hg
    split at hg
    · rename_i hid
      injection hg with hg; injection hg with hg
      subst hg; subst hid
      exact ⟨hb, setH_same h _ hb, hok⟩
    · cases hg
  · intro g c' hg hne
    rw [lookU_cons, if_neg (Ne.symm hne)] at hg
    cases hg
  · intro hb' b _ he hbl
    rw [setH_same] at he
    injection he with he
    subst he
    rw [hblk] at hbl
    cases hbl
/-- A store into a box; others may be given up. -/
theorem res_put (hh : Heap w Z h live) (hid : h id = none) {g b : Nat} {c : BoxC} {hb : Hb} {cons : List Nat} {cs : Array Value} (hg : h g = some hb) (hblk : hb.blk = some b) (hl : live g) (hc : ∀ g ∈ cons, live g) (hgc : g ∉ cons)
    (hr : Rep (w.setRow b cs) (Bd Z h (liveU live ((g, some c) :: dropU cons))) h d v)
    (hok : BoxOk1 (w.setRow b cs) (Bd Z h (liveU live ((g, some c) :: dropU cons))) h hb c) :
    Res w (w.setRow b cs) Z h h live id ((g, some c) :: dropU cons) d v := by
  have hl' : ∀ i, liveU live ((g, some c) :: dropU cons) i → live i := fun i hi => by
    rcases (liveU_new c cons i).1 hi with h1 | h1
    · rw [h1]; exact hl
    · exact h1.1
  have hsz : (w.setRow b cs).heap.size = w.heap.size := by simp [World.setRow]
  refine ⟨Ext.refl h, fun _ _ => rfl, (hh.less hl').size (by omega), hr, ?_, ?_, Keeps.setRow _ _ _ _ ⟨g, hb, by rw [lookU_cons, if_pos rfl]; rfl, hl, hg, hblk⟩, fun hb' b' h1 h2 h3 => .inr ⟨id, hb', hl' id h1, h2, h3⟩⟩
  · intro g' c' hg'
    rw [lookU_cons, lookU_drop] at hg'
    split at hg'
    · rename_i he
      injection hg' with hg'; injection hg' with hg'
      subst hg'; subst he
      exact ⟨hb, hg, hok⟩
    · split at hg'
      · injection hg' with hg'; cases hg'
      · cases hg'
  · intro g' c' hg' _
    rw [lookU_cons, lookU_drop] at hg'
    split at hg'
    · rename_i he; subst he; exact hl
    · split at hg'
      · rename_i hm; exact hc g' hm
      · cases hg'
end
end Go.Proofs.Ytpblkjjafdfjkaa.V
