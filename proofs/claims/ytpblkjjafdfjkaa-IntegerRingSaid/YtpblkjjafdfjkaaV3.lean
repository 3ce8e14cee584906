/- What one operation does to data: 'absOp'. -/
import Derived.Test.YtpblkjjafdfjkaaV2
import Derived.Laws.CopyRow
import Derived.WalkKit
import Derived.Maps.AppendAt
import Derived.Laws.MakeOwn
namespace Go.Proofs.Ytpblkjjafdfjkaa.V
open Go.RowKit
set_option linter.unusedVariables false
set_option linter.unusedSimpArgs false

/-- A piece of a list. -/
def win {α : Type} (l : List α) (off n : Nat) : List α := (l.drop off).take n
theorem win_length {α : Type} {l : List α} {off n : Nat} (h : off + n ≤ l.length) : (win l off n).length = n := by unfold win; simp; omega
theorem win_all {α : Type} (l : List α) : win l 0 l.length = l := by unfold win; simp

def castL {t' t : Ty} (h : t' = t) (l : List t'.den) : List t.den := h ▸ l
/-- A slice as a list, and which boxes are given up by it. -/
def dSl (boxes : Boxes) (t : Ty) : D → Option (List t.den × List Nat)
  | .sl t' l => if h : t' = t then some (castL h l, []) else none
  | .val (.slice _ n _) => (match n with | 0 => some ([], []) | _ => none)
  | .own g => match boxes g with
    | some (.row _ t' l) => if h : t' = t then some (castL h l, [g]) else none
    | _ => none
  | .win g sz off n => match boxes g with
    | some (.row _ t' l) => if h : t' = t then (if sz = t'.size then some (win (castL h l) off n, [g]) else none) else none
    | _ => none
  | _ => none
/-- Chunk by chunk. -/
def chunks {α β : Type} (f : List β → Option (α × List Nat)) (sz : Nat) : Nat → List β → Option (List α × List Nat)
  | 0, ds => match ds with | [] => some ([], []) | _ => none
  | n + 1, ds => match f (ds.take sz), chunks f sz n (ds.drop sz) with
    | some (x, u), some (l, v) => some (x :: l, u ++ v)
    | _, _ => none
/-- Cells as an element of a type. -/
def toDen (boxes : Boxes) : (t : Ty) → List D → Option (t.den × List Nat)
  | .int k, ds => match ds with
    | [.val (.int k' n)] => if k' = k then some (n, []) else none
    | _ => none
  | .bool, ds => match ds with
    | [.val (.bool b)] => some (b, [])
    | _ => none
  | .str, ds => match ds with
    | [.val (.string s)] => some (s, [])
    | _ => none
  | .val, ds => match ds with
    | [.val v] => if v.oneCell' = true then some (v, []) else none
    | _ => none
  | .slice t, ds => match ds with
    | [d] => dSl boxes t d
    | _ => none
  | .pair a b, ds => match toDen boxes a (ds.take a.size), toDen boxes b (ds.drop a.size) with
    | some (x, u), some (y, v) => some ((x, y), u ++ v)
    | _, _ => none
  | .arr n t, ds => chunks (toDen boxes t) t.size n ds
/-- A list of cells, element by element. -/
def toList (boxes : Boxes) (t : Ty) : Nat → List D → Option (List t.den × List Nat) := chunks (toDen boxes t) t.size
/-- A part of an element's cells is stored. -/
def putDen (boxes : Boxes) : (t : Ty) → t.den → Nat → List D → Option (t.den × List Nat)
  | .pair a b, x, j, ds =>
    match Nat.ble a.size j with
    | true => (match putDen boxes b x.2 (j - a.size) ds with | some (y, u) => some ((x.1, y), u) | none => none)
    | false => match Nat.ble (j + ds.length) a.size with
      | true => (match putDen boxes a x.1 j ds with | some (y, u) => some ((y, x.2), u) | none => none)
      | false => match j with
        | 0 => toDen boxes (.pair a b) ds
        | _ => none
  | .arr n t, x, j, ds => if t.size = 1 ∧ ds.length = 1 then (match toDen boxes t ds with | some (y, u) => some (x.set j y, u) | none => none) else none
  | t, _, j, ds => match j with
    | 0 => toDen boxes t ds
    | _ => none
/-- Constants as elements: zero values. -/
def constDen : (t : Ty) → List Value → Option t.den
  | .int k, vs => match vs with | [.int k' n] => if k' = k then some n else none | _ => none
  | .bool, vs => match vs with | [.bool b] => some b | _ => none
  | .str, vs => match vs with | [.string s] => some s | _ => none
  | .val, vs => match vs with | [v] => if v.oneCell' = true then some v else none | _ => none
  | .slice t, vs => match vs with | [.slice none 0 0] => some [] | _ => none
  | .pair a b, vs => match constDen a (vs.take a.size), constDen b (vs.drop a.size) with
    | some x, some y => some (x, y)
    | _, _ => none
  | .arr n t, vs => match chunks (fun us => match constDen t us with | some x => some (x, []) | none => none) t.size n vs with
    | some (l, _) => some l
    | none => none

def joinTy : List (Option Ty) → Option Ty
  | [] => none
  | x :: xs => match xs with
    | [] => x
    | _ => match x, joinTy xs with
      | some a, some b => some (.pair a b)
      | _, _ => none
def tyOf (P : Program) : Nat → TypeId → Option Ty
  | 0, _ => none
  | f + 1, T => match P.underlying T with
    | some (.int k) => some (.int k)
    | some .bool => some .bool
    | some .string => some .str
    | some (.slice e) => (match tyOf P f e with | some t => some (.slice t) | none => none)
    | some (.struct fs) => joinTy (fs.toList.map (fun x => tyOf P f x.type))
    | some (.interface _) => some .val
    | some (.func _ _ _) => some .val
    | some (.array n e) => (match tyOf P f e with | some t => some (.arr n t) | none => none)
    | _ => none
/-- An element type: its data type, zero, size in bytes; all as the program's table has it. -/
def elemTy (P : Program) (e : TypeId) : Option ((t : Ty) × (t.den × Nat)) :=
  match P.info? e, tyOf P 20 e with
  | some i, some t => match i.zero with
    | some z => if i.size = t.size ∧ z.cells.size = t.size then (match constDen t z.cells.toList with | some x => some ⟨t, x, i.bytes⟩ | none => none) else none
    | none => none
  | _, _ => none

def toD : Value → D
  | .agg cs => .agg (cs.toList.map D.val)
  | v => .val v
def ev (env : Env) : Operand → Option D
  | .tmp t => some (env t)
  | .const v => some (toD v)
  | .func f => some (.clo f [])
  | _ => none
def evs (env : Env) : List Operand → Option (List D)
  | [] => some []
  | x :: xs => match ev env x, evs env xs with
    | some d, some ds => some (d :: ds)
    | _, _ => none
def evParts (env : Env) : List (Nat × Operand) → Option (List (Nat × D))
  | [] => some []
  | (i, x) :: xs => match ev env x, evParts env xs with
    | some d, some ds => some ((i, d) :: ds)
    | _, _ => none

def D.cells : D → List D
  | .agg cs => cs
  | .arr t l => (l.map (cellsOf t)).flatten
  | .val (.agg cs) => cs.toList.map D.val
  | d => [d]
def D.known : D → Bool
  | .any => false
  | _ => true
def D.one : D → Bool
  | .val v => v.oneCell'
  | .agg _ | .tup _ | .any | .arr _ _ => false
  | _ => true
def aggT (P : Program) (t : TypeId) : Bool := match P.underlying t with | some (.struct _) | some (.array _ _) => true | _ => false
def ofCells (P : Program) (t : TypeId) (off : Nat) (cs : List D) : Option D :=
  match P.info? t, P.underlying t with
  | some i, some _ => match aggT P t with
    | true => (match Nat.ble (off + i.size) cs.length with | true => some (.agg ((cs.drop off).take i.size)) | false => none)
    | false => cs[off]?
  | _, _ => none
def setAt (cells : List D) (off : Nat) (ds : List D) : List D := cells.take off ++ ds ++ cells.drop (off + ds.length)
def fillD (place : Nat → Option (Nat × Nat)) (cells : List D) : List (Nat × D) → Option (List D)
  | [] => some cells
  | (i, d) :: rest => match place i with
    | none => none
    | some (off, size) => if d.known = false ∨ d.cells.length ≠ size ∨ off + d.cells.length > cells.length then none else fillD place (setAt cells off d.cells) rest
def allVals : List D → Option (List Value)
  | [] => some []
  | .val v :: ds => (match allVals ds with | some vs => some (v :: vs) | none => none)
  | _ => none

/-- Two exact values. -/
def scal (op : BinOp) : Value → Value → Option (List Prop × Value)
  | .int k a, .int k' b =>
    match op with
    | .shl => some ([0 ≤ b], .int k (k.wrap (a * 2 ^ min b.toNat k.bits)))
    | .shr => some ([0 ≤ b], .int k (a.fdiv (2 ^ min b.toNat k.bits)))
    | _ => if k = k' then match op with
      | .add => some ([], .int k (k.wrap (a + b)))
      | .sub => some ([], .int k (k.wrap (a - b)))
      | .mul => some ([], .int k (k.wrap (a * b)))
      | .quo => some ([b ≠ 0], .int k (k.wrap (a.tdiv b)))
      | .rem => some ([b ≠ 0], .int k (a.tmod b))
      | .eql => some ([], .bool (a == b))
      | .neq => some ([], .bool (a != b))
      | .lss => some ([], .bool (a < b))
      | .leq => some ([], .bool (a ≤ b))
      | .gtr => some ([], .bool (a > b))
      | .geq => some ([], .bool (a ≥ b))
      | .or => some ([], .int k (bits .or k a b))
      | .and => some ([], .int k (bits .and k a b))
      | _ => none
      else none
  | .string a, .string b =>
    match op with
    | .eql => some ([], .bool (a.toList == b.toList))
    | .neq => some ([], .bool !(a.toList == b.toList))
    | .add => some ([a.size + b.size ≤ 9223372036854775807], .string (a ++ b))
    | _ => none
  | _, _ => none
/-- '==' and '!=' of two Bools at a type of that kind. -/
def boolEq (P : Program) (op : BinOp) (t : TypeId) : Value → Value → Option Value
  | .bool a, .bool b => match P.underlying t, op with
    | some .bool, .eql => some (.bool (a == b))
    | some .bool, .neq => some (.bool !(a == b))
    | _, _ => none
  | _, _ => none

/-- A function: from data and boxes to what must hold, the result, the boxes behind it. -/
def GCt (P : Program) (f : FuncId) (bx : List BoxC) (ds : List D) (d : D) (bx' : List BoxC) : Prop :=
  ∀ (w : World) (Z : Nat → Prop) (h : Hist) (us : List Value), Heap w Z h (fun i => i < bx.length) → (∀ i, bx.length ≤ i → h i = none) →
    BoxesOk w (Bd Z h (fun i => i < bx.length)) h (fun i => bx[i]?) → Reps w (Bd Z h (fun i => i < bx.length)) h ds us →
    Calls P f us.toArray w fun e w' => ∃ v, e = .returned v ∧ Rep w' (Bd Z h (fun i => i < bx.length)) h d v ∧ bx'.length = bx.length ∧
      BoxesOk w' (Bd Z h (fun i => i < bx.length)) h (fun i => bx'[i]?) ∧ Keeps w w' (fun k => ∃ i hb, i < bx.length ∧ h i = some hb ∧ hb.blk = some k)
abbrev Ct (P : Program) (f : FuncId) (ds : List D) (d : D) : Prop := GCt P f [] ds d []
structure Spec (P : Program) where
  f : FuncId
  fn : List D → List BoxC → Option (Prop × D × List BoxC)
  enters : ∀ (args : Array Value) (w : World), (callFunc f args).run P w = .ok (.enter f args) w
  ok : ∀ ds bx pre d bx', fn ds bx = some (pre, d, bx') → pre → GCt P f bx ds d bx'

/-- Boxes read as plain data. -/
def dataD (boxes : Boxes) : D → Option (D × List Nat)
  | .own g => (match boxes g with | some (.row _ t l) => some (.sl t l, [g]) | _ => none)
  | .win g sz off n => (match boxes g with | some (.row _ t l) => if sz = t.size then some (.sl t (win l off n), [g]) else none | _ => none)
  | .agg cs => (match datas cs with | some (cs', u) => some (.agg cs', u) | none => none)
  | .tup cs => (match datas cs with | some (cs', u) => some (.tup cs', u) | none => none)
  | .box _ _ => none
  | .rel _ _ _ _ => none
  | .ptr cs off => (match D.frees cs with | true => some (.ptr cs off, []) | false => none)
  | .clo f cs => (match D.frees cs with | true => some (.clo f cs, []) | false => none)
  | d => some (d, [])
where datas : List D → Option (List D × List Nat)
  | [] => some ([], [])
  | d :: ds => match dataD boxes d, datas ds with
    | some (d', u), some (ds', v) => some (d' :: ds', u ++ v)
    | _, _ => none
/-- No memory behind it. -/
def D.flat : D → Bool
  | .val _ => true
  | .agg cs => flats cs
  | .tup cs => flats cs
  | _ => false
where flats : List D → Bool
  | [] => true
  | d :: ds => D.flat d && flats ds
/-- The boxes that stand in a datum. -/
def D.ids : D → List Nat
  | .box g _ => [g]
  | .own g => [g]
  | .win g _ _ _ => [g]
  | .rel g _ _ _ => [g]
  | .agg cs => idss cs
  | .tup cs => idss cs
  | .ptr cs _ => idss cs
  | .clo _ cs => idss cs
  | _ => []
where idss : List D → List Nat
  | [] => []
  | d :: ds => D.ids d ++ idss ds
def dedup : List Nat → List Nat
  | [] => []
  | g :: l => match has (dedup l) g with | true => dedup l | false => g :: dedup l
def idxOf : List Nat → Nat → Nat
  | [], _ => 0
  | g :: l, i => match Nat.beq g i with | true => 0 | false => idxOf l i + 1
def boxesOf (boxes : Boxes) : List Nat → Option (List BoxC)
  | [] => some []
  | g :: l => match boxes g, boxesOf boxes l with
    | some c, some cs => some (c :: cs)
    | _, _ => none
def sizeIs (P : Program) (T : TypeId) (n : Nat) : Bool := match P.info? T with | some i => Nat.beq i.size n | none => false
/-- The cell number j on of an element, at a type. -/
def getT (P : Program) (T : TypeId) : (t : Ty) → t.den → Nat → Option D
  | .arr n t, x, j => match aggT P T with
    | true => (match j, P.underlying T with
      | 0, some (.array m _) => if m = n ∧ sizeIs P T (n * t.size) = true then some (.arr t x) else none
      | _, _ => none)
    | false => (match P.underlying T with
      | some _ => if t.size = 1 then (cellsOf t (x.getD j t.zero))[0]? else none
      | none => none)
  | t, x, j => ofCells P T j (cellsOf t x)
def absCall1 (P : Program) (f : FuncId) (ds : List D) (bx : List BoxC) : List (Spec P) → Option (Prop × D × List BoxC)
  | [] => none
  | s :: S => match Nat.beq s.f f with
    | true => (match s.fn ds bx with | some r => some r | none => absCall1 P f ds bx S)
    | false => absCall1 P f ds bx S
/-- The boxes' contents in another's numbers are not renamed: only boxes of plain cells and rows are lent. -/
def BoxC.plain : BoxC → Bool
  | .cells _ cs => D.frees cs
  | .row _ _ _ => true
def callPlain (P : Program) (S : List (Spec P)) (boxes : Boxes) (f : FuncId) (ds : List D) : Option (List Prop × D × Upd) :=
  match dataD.datas boxes ds with
  | some (ds', cons) => match absCall1 P f ds' [] S with
    | some (pre, d, _) => match d.free with
      | true => some ([pre], d, match d.flat with | true => [] | false => dropU cons)
      | false => none
    | none => none
  | none => none
def zipU : List Nat → List BoxC → Upd
  | g :: l, c :: cs => (g, some c) :: zipU l cs
  | _, _ => []
def callOwn (P : Program) (S : List (Spec P)) (boxes : Boxes) (f : FuncId) (ds : List D) (ids : List Nat) : Option (List Prop × D × Upd) :=
  match boxesOf boxes ids with
  | some bx => match bx.all BoxC.plain with
    | true => (match absCall1 P f (D.ren.rens (idxOf ids) ds) bx S with
      | some (pre, d, bx') => match d.within (fun g => Nat.blt g ids.length), bx'.all BoxC.plain with
        | true, true => some ([pre], d.ren (fun i => ids.getD i 0), zipU ids bx')
        | _, _ => none
      | none => none)
    | false => none
  | none => none
def absCall (P : Program) (S : List (Spec P)) (boxes : Boxes) (f : FuncId) (ds : List D) : Option (List Prop × D × Upd) :=
  match dedup (D.ids.idss ds) with
  | [] => callPlain P S boxes f ds
  | ids => match callOwn P S boxes f ds ids with
    | some r => some r
    | none => callPlain P S boxes f ds
end Go.Proofs.Ytpblkjjafdfjkaa.V
