/- Data that Go values stand for (numbers, strings, lists, structs, pointers into boxes of the call's own), how a value reads as a datum in a world, and what keeps it reading so. Plain: no program in it. -/
import Derived.Orders
import Derived.Laws.Tables
import Derived.Laws.Rows
import Derived.Laws.Cells
import Derived.Below
namespace Go.Proofs.Ytpblkjjafdfjkaa.V
set_option linter.unusedVariables false
open Go.RowKit

/-- Types of data: what one row of memory holds again and again. -/
inductive Ty where
  | int (k : IntKind)
  | bool
  | str
  | val
  | slice (t : Ty)
  | pair (a b : Ty)
  | arr (n : Nat) (t : Ty)
  deriving DecidableEq
@[reducible] def Ty.den : Ty → Type
  | .int _ => Int
  | .bool => Bool
  | .str => ByteArray
  | .val => Value
  | .slice t => List t.den
  | .pair a b => a.den × b.den
  | .arr _ t => List t.den
def Ty.size : Ty → Nat
  | .pair a b => a.size + b.size
  | .arr n t => n * t.size
  | _ => 1
def Ty.zero : (t : Ty) → t.den
  | .int _ => (0 : Int)
  | .bool => false
  | .str => ByteArray.empty
  | .val => Value.nilIface
  | .slice _ => []
  | .pair a b => (a.zero, b.zero)
  | .arr n t => List.replicate n t.zero
/-- A datum. -/
inductive D where
  | any
  | val (v : Value)
  | sl (t : Ty) (l : List t.den)
  | agg (cs : List D)
  | tup (cs : List D)
  | box (g off : Nat)
  | own (g : Nat)
  | win (g sz off n : Nat)
  | rel (g sz e j : Nat)
  | elt (t : Ty) (l : List t.den) (i j : Nat)
  | ptr (cs : List D) (off : Nat)
  | clo (f : FuncId) (caps : List D)
  | arr (t : Ty) (l : List t.den)

/-- Where a box of the call's own lies: its block (none: an empty slice), how many elements it has and has room for. -/
structure Hb where
  blk : Option Nat
  len : Nat
  cap : Nat
abbrev Hist := Nat → Option Hb

def CellsAt (w : World) (ad : Addr) (us : List Value) : Prop := ∀ j u, us[j]? = some u → w.cell? (ad.add j) = some u

/-- One after another. -/
def RepLs {α : Type} (p : α → List Value → Prop) : List α → List Value → Prop
  | [], us => us = []
  | x :: l, us => ∃ u1 u2, us = u1 ++ u2 ∧ p x u1 ∧ RepLs p l u2
def RepT (w : World) (B : Nat → Prop) : (t : Ty) → t.den → List Value → Prop
  | .int k, n, us => us = [.int k n]
  | .bool, b, us => us = [.bool b]
  | .str, s, us => us = [.string s]
  | .val, v, us => us = [v] ∧ v.oneCell' = true
  | .slice t, l, us => ∃ A c, us = [.slice A l.length c] ∧ l.length ≤ c ∧ l.length ≤ maxLen ∧
      ∀ i x, l[i]? = some x → ∃ ad vs, A = some ad ∧ B ad.block ∧ ad.block < w.heap.size ∧ RepT w B t x vs ∧ CellsAt w (ad.add (i * t.size)) vs
  | .pair a b, x, us => ∃ u1 u2, us = u1 ++ u2 ∧ RepT w B a x.1 u1 ∧ RepT w B b x.2 u2
  | .arr n t, l, us => l.length = n ∧ RepLs (RepT w B t) l us

mutual
def Rep (w : World) (B : Nat → Prop) (h : Hist) : D → Value → Prop
  | .any, _ => True
  | .val v, u => u = v
  | .sl t l, u => RepT w B (.slice t) l [u]
  | .agg cs, u => ∃ vs : List Value, u = .agg vs.toArray ∧ Reps w B h cs vs
  | .tup cs, u => ∃ vs : List Value, u = .tuple vs.toArray ∧ Reps w B h cs vs
  | .box g off, u => ∃ hb b, h g = some hb ∧ hb.blk = some b ∧ u = .pointer (some ⟨b, off, none⟩)
  | .own g, u => ∃ hb, h g = some hb ∧ ((hb.blk = none ∧ hb.len = 0 ∧ ∃ a, u = .slice a 0 0) ∨ ∃ b, hb.blk = some b ∧ u = .slice (some ⟨b, 0, none⟩) hb.len hb.cap)
  | .win g sz off n, u => ∃ hb a, h g = some hb ∧ off + n ≤ hb.len ∧ off + n ≤ hb.cap ∧ u = .slice a n (hb.cap - off) ∧ (n ≠ 0 → ∃ b, hb.blk = some b ∧ a = some ⟨b, off * sz, none⟩)
  | .rel g sz e j, u => ∃ hb b, h g = some hb ∧ hb.blk = some b ∧ e < hb.len ∧ u = .pointer (some ⟨b, e * sz + j, none⟩)
  | .elt t l i j, u => ∃ ad vs x, u = .pointer (some (ad.add j)) ∧ B ad.block ∧ ad.block < w.heap.size ∧ l[i]? = some x ∧ RepT w B t x vs ∧ CellsAt w ad vs
  | .ptr cs off, u => ∃ b cells T, u = .pointer (some ⟨b, off, none⟩) ∧ B b ∧ w.heap[b]? = some (.cells cells T (0, 0)) ∧ Reps w B h cs cells.toList
  | .clo f caps, u => ∃ vs : List Value, u = .func (.func f) #[] vs.toArray ∧ Reps w B h caps vs
  | .arr t l, u => ∃ vs : List Value, u = .agg vs.toArray ∧ RepLs (RepT w B t) l vs
def Reps (w : World) (B : Nat → Prop) (h : Hist) : List D → List Value → Prop
  | [], vs => vs = []
  | d :: ds, vs => ∃ u us, vs = u :: us ∧ Rep w B h d u ∧ Reps w B h ds us
end

/-- What B holds of w is so in w', and B' holds it. -/
def Agree (w w' : World) (B B' : Nat → Prop) : Prop := ∀ k, B k → k < w.heap.size → B' k ∧ w'.heap[k]? = w.heap[k]?
def Ext (h h' : Hist) : Prop := ∀ g hb, h g = some hb → h' g = some hb
theorem Ext.refl (h : Hist) : Ext h h := fun _ _ e => e
theorem Agree.refl (w : World) (B : Nat → Prop) : Agree w w B B := fun _ h _ => ⟨h, rfl⟩
theorem Agree.mono {w : World} {B B' : Nat → Prop} (h : ∀ k, B k → B' k) : Agree w w B B' := fun k hk _ => ⟨h k hk, rfl⟩

theorem RepLs.length {α : Type} {p : α → List Value → Prop} {n : Nat} (hp : ∀ x us, p x us → us.length = n) : ∀ {l : List α} {us : List Value}, RepLs p l us → us.length = l.length * n
  | [], _, hr => by simp only [RepLs] at hr; subst hr; simp
  | x :: l, us, hr => by
    simp only [RepLs] at hr
    obtain ⟨u1, u2, rfl, h1, h2⟩ := hr
    rw [List.length_append, hp _ _ h1, RepLs.length hp h2, List.length_cons, Nat.add_mul, Nat.one_mul, Nat.add_comm]
theorem RepLs.imp {α : Type} {p q : α → List Value → Prop} (hp : ∀ x us, p x us → q x us) : ∀ {l : List α} {us : List Value}, RepLs p l us → RepLs q l us
  | [], _, hr => by simpa only [RepLs] using hr
  | x :: l, us, hr => by
    simp only [RepLs] at hr ⊢
    obtain ⟨u1, u2, rfl, h1, h2⟩ := hr
    exact ⟨u1, u2, rfl, hp _ _ h1, h2.imp hp⟩
theorem RepLs.all {α : Type} {p : α → List Value → Prop} {r : Value → Prop} (hp : ∀ x us, p x us → ∀ u ∈ us, r u) : ∀ {l : List α} {us : List Value}, RepLs p l us → ∀ u ∈ us, r u
  | [], _, hr => by simp only [RepLs] at hr; subst hr; simp
  | x :: l, us, hr => by
    simp only [RepLs] at hr
    obtain ⟨u1, u2, rfl, h1, h2⟩ := hr
    intro u hu
    rcases List.mem_append.1 hu with hu | hu
    · exact hp _ _ h1 u hu
    · exact RepLs.all hp h2 u hu
theorem RepT.length {w : World} {B : Nat → Prop} : ∀ {t : Ty} {x : t.den} {us : List Value}, RepT w B t x us → us.length = t.size
  | .int _, _, _, h => by simp only [RepT] at h; subst h; rfl
  | .bool, _, _, h => by simp only [RepT] at h; subst h; rfl
  | .str, _, _, h => by simp only [RepT] at h; subst h; rfl
  | .val, _, _, h => by simp only [RepT] at h; obtain ⟨rfl, _⟩ := h; rfl
  | .slice _, _, _, h => by simp only [RepT] at h; obtain ⟨A, c, rfl, _⟩ := h; rfl
  | .pair a b, x, us, h => by
    simp only [RepT] at h
    obtain ⟨u1, u2, rfl, h1, h2⟩ := h
    rw [List.length_append, h1.length, h2.length]; rfl
  | .arr n t, l, us, h => by
    simp only [RepT] at h
    rw [RepLs.length (fun x us hx => RepT.length hx) h.2, h.1]; rfl
theorem RepT.one {w : World} {B : Nat → Prop} : ∀ {t : Ty} {x : t.den} {us : List Value}, RepT w B t x us → ∀ u ∈ us, u.oneCell' = true
  | .int _, _, _, h => by simp only [RepT] at h; subst h; simp [Value.oneCell']
  | .bool, _, _, h => by simp only [RepT] at h; subst h; simp [Value.oneCell']
  | .str, _, _, h => by simp only [RepT] at h; subst h; simp [Value.oneCell']
  | .val, _, _, h => by simp only [RepT] at h; obtain ⟨rfl, h1⟩ := h; simpa using h1
  | .slice _, _, _, h => by simp only [RepT] at h; obtain ⟨A, c, rfl, _⟩ := h; simp [Value.oneCell']
  | .pair a b, x, us, h => by
    simp only [RepT] at h
    obtain ⟨u1, u2, rfl, h1, h2⟩ := h
    intro u hu
    rcases List.mem_append.1 hu with hu | hu
    · exact h1.one u hu
    · exact h2.one u hu
  | .arr n t, l, us, h => by
    simp only [RepT] at h
    exact RepLs.all (fun x us hx => RepT.one hx) h.2
theorem add_block (a : Addr) (n : Nat) : (a.add n).block = a.block := by unfold Addr.add; split <;> rfl
theorem add_add (a : Addr) (m n : Nat) : (a.add m).add n = a.add (m + n) := by
  unfold Addr.add
  by_cases hm : m = 0
  · subst hm; simp
  · by_cases hn : n = 0
    · subst hn; simp
    · rw [if_neg hm, if_neg hn, if_neg (by omega)]
      simp [Nat.add_assoc]
theorem add_at (b off n : Nat) : (⟨b, off, none⟩ : Addr).add n = ⟨b, off + n, none⟩ := by unfold Addr.add; split <;> simp_all
theorem cell_lt {w : World} {a : Addr} {u : Value} (h : w.cell? a = some u) : a.block < w.heap.size := by
  unfold World.cell? at h
  by_cases hlt : a.block < w.heap.size
  · exact hlt
  · rw [Array.getElem?_eq_none (by omega)] at h; simp at h
theorem cell_agree {w w' : World} {a : Addr} (h : w'.heap[a.block]? = w.heap[a.block]?) : w'.cell? a = w.cell? a := by unfold World.cell?; rw [h]
theorem lt_agree {w w' : World} {k : Nat} (h : k < w.heap.size) (he : w'.heap[k]? = w.heap[k]?) : k < w'.heap.size := by
  rw [Array.getElem?_eq_getElem h] at he
  exact (Array.getElem?_eq_some_iff.1 he).1
theorem CellsAt.agree {w w' : World} {ad : Addr} {vs : List Value} (h : w'.heap[ad.block]? = w.heap[ad.block]?) (hc : CellsAt w ad vs) : CellsAt w' ad vs :=
  fun j u hu => (cell_agree (by rw [add_block]; exact h)).trans (hc j u hu)

theorem RepT.step {w w' : World} {B B' : Nat → Prop} (ha : Agree w w' B B') : ∀ {t : Ty} {x : t.den} {us : List Value}, RepT w B t x us → RepT w' B' t x us
  | .int _, _, _, h => h
  | .bool, _, _, h => h
  | .str, _, _, h => h
  | .val, _, _, h => h
  | .slice t, l, us, h => by
    simp only [RepT] at h ⊢
    obtain ⟨A, c, rfl, h1, h2, h3⟩ := h
    refine ⟨A, c, rfl, h1, h2, fun i x hx => ?_⟩
    obtain ⟨ad, vs, rfl, hb, hlt, hr, hc⟩ := h3 i x hx
    obtain ⟨hb', he⟩ := ha _ hb hlt
    exact ⟨ad, vs, rfl, hb', lt_agree hlt he, hr.step ha, hc.agree (by rw [add_block]; exact he)⟩
  | .pair a b, x, us, h => by
    simp only [RepT] at h ⊢
    obtain ⟨u1, u2, rfl, h1, h2⟩ := h
    exact ⟨u1, u2, rfl, h1.step ha, h2.step ha⟩
  | .arr n t, l, us, h => by
    simp only [RepT] at h ⊢
    exact ⟨h.1, h.2.imp (fun x us hx => RepT.step ha hx)⟩

mutual
theorem Rep.step {w w' : World} {B B' : Nat → Prop} {h h' : Hist} (ha : Agree w w' B B') (hx : Ext h h') : ∀ (d : D) (u : Value), Rep w B h d u → Rep w' B' h' d u
  | .any, _, _ => by simp only [Rep]
  | .val _, _, hr => by simpa only [Rep] using hr
  | .sl t l, u, hr => by simp only [Rep] at hr ⊢; exact RepT.step ha hr
  | .agg cs, u, hr => by simp only [Rep] at hr ⊢; obtain ⟨vs, rfl, hv⟩ := hr; exact ⟨vs, rfl, Reps.step ha hx cs vs hv⟩
  | .tup cs, u, hr => by simp only [Rep] at hr ⊢; obtain ⟨vs, rfl, hv⟩ := hr; exact ⟨vs, rfl, Reps.step ha hx cs vs hv⟩
  | .box g off, u, hr => by simp only [Rep] at hr ⊢; obtain ⟨hb, b, h1, h2, rfl⟩ := hr; exact ⟨hb, b, hx _ _ h1, h2, rfl⟩
  | .own g, u, hr => by simp only [Rep] at hr ⊢; obtain ⟨hb, h1, h2⟩ := hr; exact ⟨hb, hx _ _ h1, h2⟩
  | .win g sz off n, u, hr => by simp only [Rep] at hr ⊢; obtain ⟨hb, a, h1, h2⟩ := hr; exact ⟨hb, a, hx _ _ h1, h2⟩
  | .rel g sz e j, u, hr => by simp only [Rep] at hr ⊢; obtain ⟨hb, b, h1, h2⟩ := hr; exact ⟨hb, b, hx _ _ h1, h2⟩
  | .elt t l i j, u, hr => by
    simp only [Rep] at hr ⊢
    obtain ⟨ad, vs, x, rfl, hb, hlt, hi, hr, hc⟩ := hr
    obtain ⟨hb', he⟩ := ha _ hb hlt
    exact ⟨ad, vs, x, rfl, hb', lt_agree hlt he, hi, hr.step ha, hc.agree he⟩
  | .ptr cs off, u, hr => by
    simp only [Rep] at hr ⊢
    obtain ⟨b, cells, T, rfl, hb, hc, hr⟩ := hr
    obtain ⟨hb', he⟩ := ha _ hb (Array.getElem?_eq_some_iff.1 hc).1
    exact ⟨b, cells, T, rfl, hb', he.trans hc, Reps.step ha hx cs _ hr⟩
  | .clo f caps, u, hr => by simp only [Rep] at hr ⊢; obtain ⟨vs, rfl, hv⟩ := hr; exact ⟨vs, rfl, Reps.step ha hx caps vs hv⟩
  | .arr t l, u, hr => by simp only [Rep] at hr ⊢; obtain ⟨vs, rfl, hv⟩ := hr; exact ⟨vs, rfl, hv.imp (fun x us hx => RepT.step ha hx)⟩
theorem Reps.step {w w' : World} {B B' : Nat → Prop} {h h' : Hist} (ha : Agree w w' B B') (hx : Ext h h') : ∀ (ds : List D) (us : List Value), Reps w B h ds us → Reps w' B' h' ds us
  | [], _, hr => by simpa only [Reps] using hr
  | d :: ds, us, hr => by
    simp only [Reps] at hr ⊢
    obtain ⟨u, us', rfl, h1, h2⟩ := hr
    exact ⟨u, us', rfl, Rep.step ha hx d u h1, Reps.step ha hx ds us' h2⟩
end

/-- The boxes' numbers that stand in a datum are in p; they are renamed by f. -/
def D.within (p : Nat → Bool) : D → Bool
  | .box g _ => p g
  | .own g => p g
  | .win g _ _ _ => p g
  | .rel g _ _ _ => p g
  | .agg cs => withins p cs
  | .tup cs => withins p cs
  | .ptr cs _ => withins p cs
  | .clo _ cs => withins p cs
  | _ => true
where withins (p : Nat → Bool) : List D → Bool
  | [] => true
  | d :: ds => D.within p d && withins p ds
def D.ren (f : Nat → Nat) : D → D
  | .box g off => .box (f g) off
  | .own g => .own (f g)
  | .win g sz off n => .win (f g) sz off n
  | .rel g sz e j => .rel (f g) sz e j
  | .agg cs => .agg (rens f cs)
  | .tup cs => .tup (rens f cs)
  | .ptr cs off => .ptr (rens f cs) off
  | .clo g cs => .clo g (rens f cs)
  | d => d
where rens (f : Nat → Nat) : List D → List D
  | [] => []
  | d :: ds => D.ren f d :: rens f ds
mutual
theorem Rep.ren {w : World} {B : Nat → Prop} {h h' : Hist} {p : Nat → Bool} {f : Nat → Nat} (hp : ∀ g, p g = true → h' (f g) = h g) : ∀ (d : D) (u : Value), d.within p = true → Rep w B h d u → Rep w B h' (d.ren f) u
  | .any, _, _, _ => by simp only [D.ren, Rep]
  | .val _, _, _, hr => by simpa only [D.ren, Rep] using hr
  | .sl t l, u, _, hr => by simpa only [D.ren, Rep] using hr
  | .agg cs, u, hd, hr => by simp only [D.ren, Rep] at hr ⊢; obtain ⟨vs, rfl, hv⟩ := hr; exact ⟨vs, rfl, Reps.ren hp cs vs (by simpa [D.within] using hd) hv⟩
  | .tup cs, u, hd, hr => by simp only [D.ren, Rep] at hr ⊢; obtain ⟨vs, rfl, hv⟩ := hr; exact ⟨vs, rfl, Reps.ren hp cs vs (by simpa [D.within] using hd) hv⟩
  | .box g off, u, hd, hr => by simp only [D.ren, Rep] at hr ⊢; obtain ⟨hb, b, h1, h2⟩ := hr; exact ⟨hb, b, (hp g (by simpa [D.within] using hd)).trans h1, h2⟩
  | .own g, u, hd, hr => by simp only [D.ren, Rep] at hr ⊢; obtain ⟨hb, h1, h2⟩ := hr; exact ⟨hb, (hp g (by simpa [D.within] using hd)).trans h1, h2⟩
  | .win g sz off n, u, hd, hr => by simp only [D.ren, Rep] at hr ⊢; obtain ⟨hb, a, h1, h2⟩ := hr; exact ⟨hb, a, (hp g (by simpa [D.within] using hd)).trans h1, h2⟩
  | .rel g sz e j, u, hd, hr => by simp only [D.ren, Rep] at hr ⊢; obtain ⟨hb, b, h1, h2⟩ := hr; exact ⟨hb, b, (hp g (by simpa [D.within] using hd)).trans h1, h2⟩
  | .elt t l i j, u, _, hr => by simpa only [D.ren, Rep] using hr
  | .ptr cs off, u, hd, hr => by simp only [D.ren, Rep] at hr ⊢; obtain ⟨b, cells, T, rfl, hb, hc, hr⟩ := hr; exact ⟨b, cells, T, rfl, hb, hc, Reps.ren hp cs _ (by simpa [D.within] using hd) hr⟩
  | .clo g cs, u, hd, hr => by simp only [D.ren, Rep] at hr ⊢; obtain ⟨vs, rfl, hv⟩ := hr; exact ⟨vs, rfl, Reps.ren hp cs vs (by simpa [D.within] using hd) hv⟩
  | .arr t l, u, _, hr => by simpa only [D.ren, Rep] using hr
theorem Reps.ren {w : World} {B : Nat → Prop} {h h' : Hist} {p : Nat → Bool} {f : Nat → Nat} (hp : ∀ g, p g = true → h' (f g) = h g) : ∀ (ds : List D) (us : List Value), D.within.withins p ds = true → Reps w B h ds us → Reps w B h' (D.ren.rens f ds) us
  | [], _, _, hr => by simpa only [D.ren.rens, Reps] using hr
  | d :: ds, us, hd, hr => by
    simp only [D.within.withins, Bool.and_eq_true] at hd
    simp only [D.ren.rens, Reps] at hr ⊢
    obtain ⟨u, us', rfl, h1, h2⟩ := hr
    exact ⟨u, us', rfl, Rep.ren hp d u hd.1 h1, Reps.ren hp ds us' hd.2 h2⟩
end
mutual
theorem D.ren_id : ∀ d : D, d.ren (fun g => g) = d
  | .any | .val _ | .sl _ _ | .box _ _ | .own _ | .win _ _ _ _ | .rel _ _ _ _ | .elt _ _ _ _ | .arr _ _ => rfl
  | .agg cs => by simp only [D.ren, D.rens_id cs]
  | .tup cs => by simp only [D.ren, D.rens_id cs]
  | .ptr cs _ => by simp only [D.ren, D.rens_id cs]
  | .clo _ cs => by simp only [D.ren, D.rens_id cs]
theorem D.rens_id : ∀ ds : List D, D.ren.rens (fun g => g) ds = ds
  | [] => rfl
  | d :: ds => by simp only [D.ren.rens, D.ren_id d, D.rens_id ds]
end
/-- To another history, where both say the same of the boxes that stand in the datum. -/
theorem Rep.hist {w : World} {B : Nat → Prop} {h h' : Hist} {p : Nat → Bool} (hp : ∀ g, p g = true → h' g = h g) (d : D) (u : Value) (hd : d.within p = true) (hr : Rep w B h d u) : Rep w B h' d u := by
  have := Rep.ren (f := fun g => g) hp d u hd hr
  rwa [D.ren_id] at this
theorem Reps.hist {w : World} {B : Nat → Prop} {h h' : Hist} {p : Nat → Bool} (hp : ∀ g, p g = true → h' g = h g) (ds : List D) (us : List Value) (hd : D.within.withins p ds = true) (hr : Reps w B h ds us) : Reps w B h' ds us := by
  have := Reps.ren (f := fun g => g) hp ds us hd hr
  rwa [D.rens_id] at this
abbrev D.free (d : D) : Bool := d.within (fun _ => false)
abbrev D.frees (ds : List D) : Bool := D.within.withins (fun _ => false) ds

section
variable {w : World} {B : Nat → Prop} {h : Hist}
theorem Reps.length : ∀ {ds : List D} {us : List Value}, Reps w B h ds us → us.length = ds.length
  | [], _, hr => by simp only [Reps] at hr; simp [hr]
  | d :: ds, us, hr => by
    simp only [Reps] at hr
    obtain ⟨u, us', rfl, _, h2⟩ := hr
    simp [Reps.length h2]
theorem Reps.get : ∀ {ds : List D} {us : List Value}, Reps w B h ds us → ∀ (i : Nat) (d : D), ds[i]? = some d → ∃ u, us[i]? = some u ∧ Rep w B h d u
  | [], _, _, i, d, hi => by simp at hi
  | d0 :: ds, us, hr, i, d, hi => by
    simp only [Reps] at hr
    obtain ⟨u, us', rfl, h1, h2⟩ := hr
    cases i with
    | zero => simp at hi; subst hi; exact ⟨u, by simp, h1⟩
    | succ i => obtain ⟨u', hu, hr⟩ := Reps.get h2 i d (by simpa using hi); exact ⟨u', by simpa using hu, hr⟩
theorem Reps.of_get : ∀ {ds : List D} {us : List Value}, us.length = ds.length → (∀ (i : Nat) (d : D) (u : Value), ds[i]? = some d → us[i]? = some u → Rep w B h d u) → Reps w B h ds us
  | [], us, hl, _ => by simp only [Reps]; exact List.eq_nil_of_length_eq_zero (by simpa using hl)
  | d :: ds, us, hl, hr => by
    match us, hl with
    | u :: us, hl =>
      simp only [Reps]
      exact ⟨u, us, rfl, hr 0 d u (by simp) (by simp), Reps.of_get (by simpa using hl) fun i d' u' h1 h2 => hr (i + 1) d' u' (by simpa using h1) (by simpa using h2)⟩
theorem Reps.append : ∀ {ds es : List D} {us vs : List Value}, Reps w B h ds us → Reps w B h es vs → Reps w B h (ds ++ es) (us ++ vs)
  | [], es, us, vs, hr, h' => by simp only [Reps] at hr; subst hr; simpa using h'
  | d :: ds, es, us, vs, hr, h' => by
    simp only [Reps] at hr
    obtain ⟨u, us', rfl, h1, h2⟩ := hr
    simp only [List.cons_append, Reps]
    exact ⟨u, us' ++ vs, rfl, h1, Reps.append h2 h'⟩
theorem Reps.append_inv : ∀ {ds es : List D} {us : List Value}, Reps w B h (ds ++ es) us → ∃ u1 u2, us = u1 ++ u2 ∧ Reps w B h ds u1 ∧ Reps w B h es u2
  | [], es, us, hr => ⟨[], us, rfl, by simp only [Reps], by simpa using hr⟩
  | d :: ds, es, us, hr => by
    simp only [List.cons_append, Reps] at hr
    obtain ⟨u, us', rfl, h1, h2⟩ := hr
    obtain ⟨u1, u2, rfl, h3, h4⟩ := Reps.append_inv h2
    exact ⟨u :: u1, u2, rfl, by simp only [Reps]; exact ⟨u, u1, rfl, h1, h3⟩, h4⟩
theorem Reps.take : ∀ {ds : List D} {us : List Value} (n : Nat), Reps w B h ds us → Reps w B h (ds.take n) (us.take n)
  | [], us, n, hr => by simp only [Reps] at hr; subst hr; simp [Reps]
  | d :: ds, us, 0, hr => by simp [Reps]
  | d :: ds, us, n + 1, hr => by
    simp only [Reps] at hr
    obtain ⟨u, us', rfl, h1, h2⟩ := hr
    simp only [List.take_succ_cons, Reps]
    exact ⟨u, us'.take n, rfl, h1, Reps.take n h2⟩
theorem Reps.drop : ∀ {ds : List D} {us : List Value} (n : Nat), Reps w B h ds us → Reps w B h (ds.drop n) (us.drop n)
  | [], us, n, hr => by simp only [Reps] at hr; subst hr; simp [Reps]
  | d :: ds, us, 0, hr => by simpa using hr
  | d :: ds, us, n + 1, hr => by
    simp only [Reps] at hr
    obtain ⟨u, us', rfl, h1, h2⟩ := hr
    simpa using Reps.drop n h2

/-- The cells of a datum of a type. -/
def cellsOf : (t : Ty) → t.den → List D
  | .int k, n => [.val (.int k n)]
  | .bool, b => [.val (.bool b)]
  | .str, s => [.val (.string s)]
  | .val, v => [.val v]
  | .slice t, l => [.sl t l]
  | .pair a b, x => cellsOf a x.1 ++ cellsOf b x.2
  | .arr _ t, l => (l.map (cellsOf t)).flatten
theorem RepLs.reps {α : Type} {p : α → List Value → Prop} {f : α → List D} (hp : ∀ x us, p x us → Reps w B h (f x) us) : ∀ {l : List α} {us : List Value}, RepLs p l us → Reps w B h (l.map f).flatten us
  | [], _, hr => by simp only [RepLs] at hr; subst hr; simp [Reps]
  | x :: l, us, hr => by
    simp only [RepLs] at hr
    obtain ⟨u1, u2, rfl, h1, h2⟩ := hr
    simp only [List.map_cons, List.flatten_cons]
    exact Reps.append (hp _ _ h1) (RepLs.reps hp h2)
theorem reps_cellsOf : ∀ {t : Ty} {x : t.den} {us : List Value}, RepT w B t x us → Reps w B h (cellsOf t x) us
  | .int _, _, _, hr => by simp only [RepT] at hr; subst hr; simp [cellsOf, Reps, Rep]
  | .bool, _, _, hr => by simp only [RepT] at hr; subst hr; simp [cellsOf, Reps, Rep]
  | .str, _, _, hr => by simp only [RepT] at hr; subst hr; simp [cellsOf, Reps, Rep]
  | .val, _, _, hr => by simp only [RepT] at hr; obtain ⟨rfl, _⟩ := hr; simp [cellsOf, Reps, Rep]
  | .slice t, l, _, hr => by
    have h0 := hr
    simp only [RepT] at hr; obtain ⟨A, c, rfl, _⟩ := hr
    simp only [cellsOf, Reps, Rep]; exact ⟨_, [], rfl, h0, rfl⟩
  | .pair a b, x, us, hr => by
    simp only [RepT] at hr
    obtain ⟨u1, u2, rfl, h1, h2⟩ := hr
    simp only [cellsOf]
    exact Reps.append (reps_cellsOf h1) (reps_cellsOf h2)
  | .arr n t, l, us, hr => by
    simp only [RepT] at hr
    simp only [cellsOf]
    exact RepLs.reps (fun x us hx => reps_cellsOf hx) hr.2
/-- Lists of elements in one row. -/
abbrev RepL (w : World) (B : Nat → Prop) (t : Ty) : List t.den → List Value → Prop := RepLs (RepT w B t)
theorem RepL.length {t : Ty} {l : List t.den} {us : List Value} (hr : RepL w B t l us) : us.length = l.length * t.size := RepLs.length (fun _ _ hx => hx.length) hr
theorem RepL.step {w' : World} {B' : Nat → Prop} (ha : Agree w w' B B') {t : Ty} {l : List t.den} {us : List Value} (hr : RepL w B t l us) : RepL w' B' t l us := RepLs.imp (fun _ _ hx => hx.step ha) hr
theorem RepL.append {t : Ty} : ∀ {l m : List t.den} {us vs : List Value}, RepL w B t l us → RepL w B t m vs → RepL w B t (l ++ m) (us ++ vs)
  | [], m, us, vs, hr, h' => by simp only [RepL, RepLs] at hr; subst hr; simpa using h'
  | x :: l, m, us, vs, hr, h' => by
    simp only [RepL, RepLs] at hr
    obtain ⟨u1, u2, rfl, h1, h2⟩ := hr
    simp only [List.cons_append, RepL, RepLs, List.append_assoc]
    exact ⟨u1, u2 ++ vs, rfl, h1, RepL.append h2 h'⟩
theorem RepL.get {t : Ty} : ∀ {l : List t.den} {us : List Value}, RepL w B t l us → ∀ (i : Nat) (x : t.den), l[i]? = some x → ∃ vs, RepT w B t x vs ∧ ∀ j u, vs[j]? = some u → us[i * t.size + j]? = some u
  | [], _, _, i, x, hi => by simp at hi
  | y :: l, us, hr, i, x, hi => by
    simp only [RepL, RepLs] at hr
    obtain ⟨u1, u2, rfl, h1, h2⟩ := hr
    cases i with
    | zero =>
      simp at hi; subst hi
      refine ⟨u1, h1, fun j u hu => ?_⟩
      rw [Nat.zero_mul, Nat.zero_add, List.getElem?_append_left (List.getElem?_eq_some_iff.1 hu).1]; exact hu
    | succ i =>
      obtain ⟨vs, hv, hc⟩ := RepL.get h2 i x (by simpa using hi)
      refine ⟨vs, hv, fun j u hu => ?_⟩
      have := hc j u hu
      rw [List.getElem?_append_right (by rw [h1.length, Nat.add_mul]; omega), h1.length]
      rw [← this]; congr 1; rw [Nat.add_mul]; omega
theorem RepL.set {t : Ty} : ∀ {l : List t.den} {us : List Value} (i : Nat) (x : t.den) (vs : List Value), RepL w B t l us → i < l.length → RepT w B t x vs →
    RepL w B t (l.set i x) (us.take (i * t.size) ++ vs ++ us.drop (i * t.size + t.size))
  | [], us, i, x, vs, _, hi, _ => by simp at hi
  | y :: l, us, 0, x, vs, hr, hi, hv => by
    simp only [RepL, RepLs] at hr
    obtain ⟨u1, u2, rfl, h1, h2⟩ := hr
    simp only [List.set_cons_zero, RepL, RepLs, Nat.zero_mul, List.take_zero, List.nil_append, Nat.zero_add]
    refine ⟨vs, u2, ?_, hv, h2⟩
    rw [List.drop_append_of_le_length (by rw [h1.length]; exact Nat.le_refl _)]
    simp [← h1.length]
  | y :: l, us, i + 1, x, vs, hr, hi, hv => by
    simp only [RepL, RepLs] at hr
    obtain ⟨u1, u2, rfl, h1, h2⟩ := hr
    have ih := RepL.set i x vs h2 (by simpa using hi) hv
    simp only [List.set_cons_succ, RepL, RepLs]
    refine ⟨u1, _, ?_, h1, ih⟩
    have e : (i + 1) * t.size = u1.length + i * t.size := by rw [h1.length, Nat.add_mul]; omega
    rw [e, List.take_length_add_append, Nat.add_assoc, List.drop_length_add_append]
    simp
theorem RepL.get_list {t : Ty} {l : List t.den} {us : List Value} (hr : RepL w B t l us) : ∀ (i : Nat) (x : t.den), l[i]? = some x → ∃ vs, RepT w B t x vs ∧ vs.length = t.size ∧ ∀ j u, vs[j]? = some u → us[i * t.size + j]? = some u := fun i x hx => by
  obtain ⟨vs, h1, h2⟩ := hr.get i x hx
  exact ⟨vs, h1, h1.length, h2⟩
theorem RepL.drop {t : Ty} : ∀ {l : List t.den} {us : List Value} (n : Nat), RepL w B t l us → RepL w B t (l.drop n) (us.drop (n * t.size))
  | [], us, n, hr => by simp only [RepL, RepLs] at hr; subst hr; simp [RepL, RepLs]
  | x :: l, us, 0, hr => by simpa using hr
  | x :: l, us, n + 1, hr => by
    simp only [RepL, RepLs] at hr
    obtain ⟨u1, u2, rfl, h1, h2⟩ := hr
    have e : (n + 1) * t.size = u1.length + n * t.size := by rw [h1.length, Nat.add_mul]; omega
    rw [e, List.drop_length_add_append]
    simpa using RepL.drop n h2
theorem RepL.take {t : Ty} : ∀ {l : List t.den} {us : List Value} (n : Nat), RepL w B t l us → RepL w B t (l.take n) (us.take (n * t.size))
  | [], us, n, hr => by simp only [RepL, RepLs] at hr; subst hr; simp [RepL, RepLs]
  | x :: l, us, 0, hr => by simp [RepL, RepLs]
  | x :: l, us, n + 1, hr => by
    simp only [RepL, RepLs] at hr
    obtain ⟨u1, u2, rfl, h1, h2⟩ := hr
    have e : (n + 1) * t.size = u1.length + n * t.size := by rw [h1.length, Nat.add_mul]; omega
    rw [e, List.take_length_add_append]
    simp only [List.take_succ_cons, RepL, RepLs]
    exact ⟨u1, _, rfl, h1, RepL.take n h2⟩

/-- A row whose cells lie at an address reads as a slice. -/
theorem repT_of_row {t : Ty} {l : List t.den} {us : List Value} {ad : Addr} {c : Nat} (hr : RepL w B t l us) (hB : B ad.block) (hlt : ad.block < w.heap.size) (hc : l.length ≤ c) (hm : l.length ≤ maxLen) (hcells : CellsAt w ad us) : RepT w B (.slice t) l [.slice (some ad) l.length c] := by
  simp only [RepT]
  refine ⟨some ad, c, rfl, hc, hm, fun i x hx => ?_⟩
  obtain ⟨vs, h1, h2⟩ := hr.get i x hx
  exact ⟨ad, vs, rfl, hB, hlt, h1, fun j u hu => by rw [add_add]; exact hcells _ u (h2 j u hu)⟩
theorem repT_nil {t : Ty} (A : Option Addr) {c : Nat} : RepT w B (.slice t) [] [.slice A 0 c] := by
  simp only [RepT]
  exact ⟨A, c, rfl, Nat.zero_le _, Nat.zero_le _, fun i x hx => by simp at hx⟩
/-- The slice's elements as one row of cells. -/
theorem repT_slice_row {t : Ty} : ∀ {l : List t.den} {ad : Addr}, (∀ i x, l[i]? = some x → ∃ vs, RepT w B t x vs ∧ CellsAt w (ad.add (i * t.size)) vs) → ∃ us, RepL w B t l us ∧ CellsAt w ad us
  | [], ad, _ => ⟨[], by simp only [RepL, RepLs], fun j u hu => by simp at hu⟩
  | x :: l, ad, hi => by
    obtain ⟨vs, h1, h2⟩ := hi 0 x (by simp)
    obtain ⟨us, h3, h4⟩ := repT_slice_row (l := l) (ad := ad.add t.size) (fun i y hy => by
      obtain ⟨vs, h5, h6⟩ := hi (i + 1) y (by simpa using hy)
      refine ⟨vs, h5, ?_⟩
      rw [add_add]
      have e : t.size + i * t.size = (i + 1) * t.size := by rw [Nat.add_mul]; omega
      rw [e]; exact h6)
    refine ⟨vs ++ us, by simp only [RepL, RepLs]; exact ⟨vs, us, rfl, h1, h3⟩, fun j u hu => ?_⟩
    by_cases hj : j < vs.length
    · rw [List.getElem?_append_left hj] at hu
      have := h2 j u hu
      rwa [add_add, Nat.zero_mul, Nat.zero_add] at this
    · rw [List.getElem?_append_right (by omega)] at hu
      have := h4 _ u hu
      rw [add_add, h1.length] at this
      rw [← this]; congr 2; rw [← h1.length]; omega
end
end Go.Proofs.Ytpblkjjafdfjkaa.V
