/- 'absOp': what one operation does to data. -/
import Derived.Test.YtpblkjjafdfjkaaV3
namespace Go.Proofs.Ytpblkjjafdfjkaa.V
open Go.RowKit
set_option linter.unusedVariables false
set_option linter.unusedSimpArgs false

/-- Where the cell number j of an element is asked for: is it inside? -/
def inT : Ty → Nat → List Prop
  | .arr n _, j => [j < n]
  | .pair a b, j => (match Nat.ble a.size j with | true => inT b (j - a.size) | false => inT a j)
  | _, _ => []
def absLoad (P : Program) (boxes : Boxes) (T : TypeId) : D → Option (List Prop × D)
  | .box g off => match boxes g with
    | some (.cells _ cs) => (match ofCells P T off cs with | some d => some ([], d) | none => none)
    | _ => none
  | .rel g sz e j => match boxes g with
    | some (.row _ t l) => if sz = t.size then (match getT P T t (l.getD e t.zero) j with | some d => some (inT t j, d) | none => none) else none
    | _ => none
  | .elt t l i j => (match getT P T t (l.getD i t.zero) j with | some d => some (inT t j, d) | none => none)
  | .ptr cs off => (match ofCells P T off cs with | some d => some ([], d) | none => none)
  | _ => none
def absStore (P : Program) (boxes : Boxes) (T : TypeId) (a x : D) : Option (List Prop × Upd) :=
  match a with
  | .box g off => match boxes g with
    | some (.cells T0 cs) => if sizeIs P T x.cells.length = true ∧ off + x.cells.length ≤ cs.length ∧ x.cells.all D.one = true then some ([], [(g, some (.cells T0 (setAt cs off x.cells)))]) else none
    | _ => none
  | .rel g sz e j => match boxes g with
    | some (.row T0 t l) => match x with
      | .arr t' l' => (match t, l with
        | .arr n t2, l2 => if h : t' = t2 then if sizeIs P T (n * t2.size) = true ∧ sz = n * t2.size ∧ j = 0 then some ([l'.length = n], [(g, some (.row T0 (.arr n t2) (l2.set e (castL h l'))))]) else none else none
        | _, _ => none)
      | _ => if sizeIs P T x.cells.length = true ∧ sz = t.size ∧ x.known = true then (match putDen boxes t (l.getD e t.zero) j x.cells with
        | some (y, cons) => if has cons g then none else some (inT t j, (g, some (.row T0 t (l.set e y))) :: dropU cons)
        | none => none) else none
    | _ => none
  | _ => none
def absFieldAddr (P : Program) (s : TypeId) (d : D) (f : Nat) : Option D :=
  match P.underlying s with
  | some (.struct fields) => match fields[f]? with
    | some fl => match P.info? fl.type with
      | some i => (match Nat.beq i.size 0 with
        | true => none
        | false => (match d with
          | .box g off => some (.box g (off + fl.offset))
          | .rel g sz e j => some (.rel g sz e (j + fl.offset))
          | .elt t l i j => some (.elt t l i (j + fl.offset))
          | .ptr cs off => some (.ptr cs (off + fl.offset))
          | _ => none))
      | none => none
    | none => none
  | _ => none
/-- The length of what is a slice. -/
def lenD (boxes : Boxes) : D → Option Nat
  | .sl _ l => some l.length
  | .own g => (match boxes g with | some (.row _ _ l) => some l.length | _ => none)
  | .win _ _ _ n => some n
  | .val (.slice _ n _) => some n
  | _ => none
def absIndexAddr (P : Program) (boxes : Boxes) (T : TypeId) (x : D) (n : Int) : Option (List Prop × D) :=
  match P.underlying T with
  | some (.slice e) => match x with
    | .sl t l => if sizeIs P e t.size = true then some ([0 ≤ n ∧ n < l.length], .elt t l n.toNat 0) else none
    | .own g => (match boxes g with
      | some (.row _ t l) => if sizeIs P e t.size = true then some ([0 ≤ n ∧ n < l.length], .rel g t.size n.toNat 0) else none
      | _ => none)
    | .win g sz off k => if sizeIs P e sz = true then some ([0 ≤ n ∧ n < k], .rel g sz (off + n.toNat) 0) else none
    | _ => none
  | some (.array m e) => match x with
    | .rel g sz e0 j => if sizeIs P e sz = true ∧ e0 = 0 ∧ j = 0 then (match boxes g with
        | some (.row _ t l) => some ([0 ≤ n ∧ n < m, m ≤ l.length], .rel g sz n.toNat 0)
        | _ => none)
      else if sizeIs P e 1 = true ∧ j = 0 then some ([0 ≤ n ∧ n < m], .rel g sz e0 n.toNat) else none
    | .elt t l i j => if sizeIs P e 1 = true ∧ j = 0 then some ([0 ≤ n ∧ n < m], .elt t l i n.toNat) else none
    | _ => none
  | _ => none
def chunkTo (boxes : Boxes) (t : Ty) (n : Nat) (ds : List D) : Option (List t.den × List Nat) := toList boxes t n ds
/-- A new variable of a type, with that value: an array lies as a row. -/
def absNew (P : Program) (boxes : Boxes) (id : Nat) (T : TypeId) (d : D) : Option (List Prop × D × Upd) :=
  match P.underlying T with
  | some (.array n e) => match elemTy P e with
    | some ⟨t, x, _⟩ => match d with
      | .arr t' l => if h : t' = t then some ([0 < l.length, l.length ≤ 1000000], .rel id t.size 0 0, [(id, some (.row T t (castL h l)))]) else none
      | d => match toList boxes t n d.cells with
        | some (l, cons) => (match d.known, Nat.ble 1 n, Nat.ble n 1000000 with | true, true, true => some ([], .rel id t.size 0 0, (id, some (.row T t l)) :: dropU cons) | _, _, _ => none)
        | none => none
    | none => none
  | some _ => (match d.known with | true => some ([], .box id 0, [(id, some (.cells T d.cells))]) | false => none)
  | none => none
def absAlloc (P : Program) (boxes : Boxes) (id : Nat) (T : TypeId) : Option (List Prop × D × Upd) :=
  match P.info? T with
  | some i => match i.zero with
    | some z => absNew P boxes id T (toD z)
    | none => none
  | none => none
def absBuild (P : Program) (T : TypeId) (ps : List (Nat × D)) : Option D :=
  match P.info? T, P.underlying T with
  | some it, some (.struct fields) => match it.zero, fields.toList.mapM (fun f => (P.info? f.type).map fun i => (f.offset, i.size)) with
    | some z, some places => (match fillD (places.toArray[·]?) (z.cells.toList.map D.val) ps with | some cs => some (.agg cs) | none => none)
    | _, _ => none
  | some it, some (.array n e) => match it.zero, P.info? e with
    | some z, some ie => (match fillD (fun i => some (i * ie.size, ie.size)) (z.cells.toList.map D.val) ps with | some cs => some (.agg cs) | none => none)
    | _, _ => none
  | _, _ => none
def absBuildSlice (P : Program) (boxes : Boxes) (id : Nat) (T : TypeId) (n : Nat) (ps : List (Nat × D)) : Option (D × Upd) :=
  match P.underlying T with
  | some (.slice e) => match elemTy P e with
    | some ⟨t, x, _⟩ => match (Nat.ble (n * t.size) 1000).and (Nat.ble n 1000) with
      | true => (match fillD (fun i => some (i * t.size, t.size)) (List.replicate n (cellsOf t x)).flatten ps with
        | some cs => (match toList boxes t n cs with
          | some (l, cons) => some (.own id, (id, some (.row e t l)) :: dropU cons)
          | none => none)
        | none => none)
      | false => none
    | none => none
  | _ => none
def absMake (P : Program) (id : Nat) (T : TypeId) (n c : Int) : Option (List Prop × D × Upd) :=
  match P.underlying T with
  | some (.slice e) => match elemTy P e with
    | some ⟨t, x, b⟩ => some ([0 ≤ n ∧ n ≤ c ∧ c * b ≤ 140737488355328 ∧ c ≤ 140737488355328], .own id, [(id, some (.row e t (List.replicate n.toNat x)))])
    | none => none
  | _ => none
/-- A bound of a slice expression. -/
def bndD (env : Env) : Option Operand → Option (Option Int)
  | none => some none
  | some x => match ev env x with
    | some (.val (.int _ n)) => some (some n)
    | _ => none
def absSlice (P : Program) (boxes : Boxes) (id : Nat) (T : TypeId) (x : D) (lo hi mx : Option Int) : Option (List Prop × D × Upd) :=
  match P.underlying T with
  | some .string => match x, mx with
    | .val (.string s), none => some ([0 ≤ lo.getD 0 ∧ lo.getD 0 ≤ hi.getD s.size ∧ hi.getD s.size ≤ s.size], .val (.string (s.extract (lo.getD 0).toNat (hi.getD s.size).toNat)), [])
    | _, _ => none
  | some (.slice e) => match mx with
    | some 0 => (match lo, hi, elemTy P e, lenD boxes x with
      | some 0, some 0, some ⟨t, _, _⟩, some _ => some ([], .own id, [(id, some (.row e t []))])
      | none, some 0, some ⟨t, _, _⟩, some _ => some ([], .own id, [(id, some (.row e t []))])
      | _, _, _, _ => none)
    | some _ => none
    | none => (match x with
      | .sl t l => if sizeIs P e t.size = true then some ([0 ≤ lo.getD 0 ∧ lo.getD 0 ≤ hi.getD l.length ∧ hi.getD l.length ≤ l.length], .sl t (win l (lo.getD 0).toNat (hi.getD l.length - lo.getD 0).toNat), []) else none
      | .own g => (match boxes g with
        | some (.row _ t l) => if sizeIs P e t.size = true then some ([0 ≤ lo.getD 0 ∧ lo.getD 0 ≤ hi.getD l.length ∧ hi.getD l.length ≤ l.length], .win g t.size (lo.getD 0).toNat (hi.getD l.length - lo.getD 0).toNat, []) else none
        | _ => none)
      | .win g sz off n => if sizeIs P e sz = true then some ([0 ≤ lo.getD 0 ∧ lo.getD 0 ≤ hi.getD n ∧ hi.getD n ≤ n], .win g sz (off + (lo.getD 0).toNat) (hi.getD n - lo.getD 0).toNat, []) else none
      | .val (.slice none 0 0) => if (P.info? e).isSome = true then some ([0 = lo.getD 0 ∧ hi.getD 0 = 0], .val (.slice none 0 0), []) else none
      | _ => none)
  | _ => none
def bytesOf (l : List Int) : ByteArray := ⟨(l.map (fun n => UInt8.ofNat n.toNat)).toArray⟩
def absConvert (P : Program) (boxes : Boxes) (src dst : TypeId) (x : D) : Option D :=
  match P.underlying src, P.underlying dst, x with
  | some _, some (.int k), .val (.int _ n) => some (.val (.int k (k.wrap n)))
  | some _, some .string, .val (.string s) => some (.val (.string s))
  | some (.slice e), some .string, x => match P.underlying e with
    | some (.int .u8) => (match dSl boxes (.int .u8) x with
      | some (l, _) => some (.val (.string (bytesOf l)))
      | none => none)
    | _ => none
  | _, _, _ => none
/-- append: what comes behind. -/
def newsD (boxes : Boxes) (t : Ty) (x : D) : Option (List t.den) := match dSl boxes t x with | some (l, _) => some l | none => none
def bytesInts (s : ByteArray) : List Int := s.data.toList.map (fun b => (b.toNat : Int))
def absAppend (P : Program) (boxes : Boxes) (id : Nat) (ts : List TypeId) (x y : D) : Option (List Prop × D × Upd) :=
  match ts with
  | [T, U] => match P.underlying T with
    | some (.slice e) => match elemTy P e with
      | some ⟨t, _, b⟩ => match (match P.underlying U with
          | some (.slice _) => newsD boxes t y
          | _ => none) with
        | some m => (match x with
          | .val (.slice none 0 0) => some ([m.length * b ≤ 140737488355328, m.length ≤ 140737488355328], .own id, [(id, some (.row e t m))])
          | .own g => (match boxes g with
            | some (.row e' t' l) => if h : t' = t then if e' = e then some ([(l.length + m.length) * b ≤ 140737488355328, l.length + m.length ≤ 140737488355328], .own id, [(id, some (.row e t (castL h l ++ m))), (g, none)]) else none else none
            | _ => none)
          | _ => none)
        | none => none
      | none => none
    | _ => none
  | _ => none
/-- Which function a method of a plain value is, and the receiver. -/
def methD (P : Program) (v : Value) (name : String) : Option (FuncId × D) :=
  match v with
  | .iface T v => match P.info? T with
    | some i => match i.methods.find? (·.name == name) with
      | some m => (match m.path.toList, m.func, P.underlying T with
        | [], some (f, false), some (.pointer _) => none
        | [], some (f, false), some _ => some (f, toD v)
        | _, _, _ => none)
      | none => none
    | none => none
  | _ => none
def absFuncCall (P : Program) (S : List (Spec P)) (boxes : Boxes) (d : D) (ds : List D) : Option (List Prop × D × Upd) :=
  match d with
  | .clo f caps => absCall P S boxes f (ds ++ caps)
  | _ => none
/-- '==' or '!='. -/
def eqOp : BinOp → Option Bool
  | .eql => some true
  | .neq => some false
  | _ => none
def minmax (isMax : Bool) : List D → Option D
  | [.val (.int k x), .val (.int _ y)] => some (.val (.int k (match isMax with | true => if y > x then y else x | false => if y < x then y else x)))
  | _ => none

def absOp (P : Program) (S : List (Spec P)) (env : Env) (boxes : Boxes) (id : Nat) (op : Op) : Option (List Prop × D × Upd) :=
  match op with
  | .move x => match ev env x with | some d => some ([], d, []) | none => none
  | .assign x => match ev env x with | some d => some ([], d, []) | none => none
  | .pick c a b => match ev env c with
    | some (.val (.bool t)) => match t with
      | true => (match ev env a with | some d => some ([], d, []) | none => none)
      | false => (match ev env b with | some d => some ([], d, []) | none => none)
    | _ => none
  | .alloc T => absAlloc P boxes id T
  | .box T x => match ev env x with
    | some d => absNew P boxes id T d
    | none => none
  | .load T a => match ev env a with
    | some d => (match absLoad P boxes T d with | some (ps, d) => some (ps, d, []) | none => none)
    | none => none
  | .store T a x => match ev env a, ev env x with
    | some d, some y => (match absStore P boxes T d y with | some (ps, u) => some (ps, .val undef, u) | none => none)
    | _, _ => none
  | .fieldAddr s a f => match ev env a with
    | some d => (match absFieldAddr P s d f with | some d => some ([], d, []) | none => none)
    | none => none
  | .field T x f => match P.underlying T, ev env x with
    | some (.struct fields), some (.agg cs) => match fields[f]? with
      | some fl => (match ofCells P fl.type fl.offset cs with | some d => some ([], d, []) | none => none)
      | none => none
    | _, _ => none
  | .unOp op _ x => match op, ev env x with
    | .not, some (.val (.bool b)) => some ([], .val (.bool !b), [])
    | .neg, some (.val (.int k n)) => some ([], .val (.int k (k.wrap (0 - n))), [])
    | _, _ => none
  | .binOp op T x y _ => match ev env x, ev env y with
    | some (.val (.slice A _ _)), some (.val (.slice none 0 0)) => (match eqOp op, P.underlying T with | some t, some (.slice _) => some ([], .val (.bool (A.isNone == t)), []) | _, _ => none)
    | some (.sl _ l), some (.val (.slice none 0 0)) => (match eqOp op, P.underlying T with | some t, some (.slice _) => some ([0 < l.length], .val (.bool (false == t)), []) | _, _ => none)
    | some (.own g), some (.val (.slice none 0 0)) => (match eqOp op, P.underlying T, boxes g with | some t, some (.slice _), some (.row _ _ l) => some ([0 < l.length], .val (.bool (false == t)), []) | _, _, _ => none)
    | some (.val a), some (.val b) => match scal op a b with
      | some (ps, v) => some (ps, .val v, [])
      | none => match boolEq P op T a b with
        | some v => some ([], .val v, [])
        | none => none
    | _, _ => none
  | .convert src dst x => match ev env x with
    | some d => (match absConvert P boxes src dst d with | some d => some ([], d, []) | none => none)
    | none => none
  | .extract x i => match ev env x with
    | some (.tup ds) => (match ds[i]? with | some d => some ([], d, []) | none => none)
    | _ => none
  | .build T parts => match evParts env parts.toList with
    | some ps => (match absBuild P T ps with | some d => some ([], d, []) | none => none)
    | none => none
  | .buildSlice T n parts => match evParts env parts.toList with
    | some ps => (match absBuildSlice P boxes id T n ps with | some (d, u) => some ([], d, u) | none => none)
    | none => none
  | .makeSlice T l c => match ev env l, ev env c with
    | some (.val (.int .i64 n)), some (.val (.int .i64 m)) => absMake P id T n m
    | _, _ => none
  | .slice T x lo hi mx => match ev env x, bndD env lo, bndD env hi, bndD env mx with
    | some d, some l, some h, some m => absSlice P boxes id T d l h m
    | _, _, _, _ => none
  | .makeFunc fn first captured => match fn, first.toList, evs env captured.toList with
    | .func f, [], some ds => some ([], .clo f ds, [])
    | _, _, _ => none
  | .makeInterface T x => match ev env x, P.underlying T with
    | some _, some (.interface _) => none
    | some (.val v), some _ => some ([], .val (.iface T v), [])
    | some (.agg cs), some _ => (match allVals cs with | some vs => some ([], .val (.iface T (.agg vs.toArray)), []) | none => none)
    | _, _ => none
  | .nilCheck x => match ev env x with
    | some (.box g off) => some ([], .box g off, [])
    | some (.rel g sz e j) => some ([], .rel g sz e j, [])
    | some (.elt t l i j) => some ([], .elt t l i j, [])
    | some (.ptr cs off) => some ([], .ptr cs off, [])
    | _ => none
  | .indexAddr T x i => match ev env x, ev env i with
    | some d, some (.val (.int _ n)) => (match absIndexAddr P boxes T d n with | some (ps, d) => some (ps, d, []) | none => none)
    | _, _ => none
  | .index T x i => match P.underlying T, ev env x, ev env i with
    | some .string, some (.val (.string s)), some (.val (.int _ n)) => some ([0 ≤ n ∧ n < s.size], .val (.int .u8 (match s[n.toNat]? with | some b => b.toNat | none => 0)), [])
    | some (.array m e), some (.agg cs), some (.val (.int _ n)) => match P.info? e with
      | some ie => (match ofCells P e (n.toNat * ie.size) cs with | some d => some ([0 ≤ n ∧ n < m], d, []) | none => none)
      | none => none
    | _, _, _ => none
  | .call c => match c.callee with
    | .builtin b => match b, evs env c.args.toList with
      | .len, some [d] => (match c.argTypes.toList with
        | [t] => (match P.underlying t with
          | some (.slice _) => (match lenD boxes d with | some n => some ([], .val (.int .i64 n), []) | none => none)
          | some .string => (match d with | .val (.string s) => some ([], .val (.int .i64 s.size), []) | _ => none)
          | some (.array n _) => some ([], .val (.int .i64 n), [])
          | _ => none)
        | _ => none)
      | .append, some [x, y] => absAppend P boxes id c.argTypes.toList x y
      | .min, some ds => (match minmax false ds with | some d => some ([], d, []) | none => none)
      | .max, some ds => (match minmax true ds with | some d => some ([], d, []) | none => none)
      | _, _ => none
    | .value f => match ev env f, evs env c.args.toList with
      | some d, some ds => absFuncCall P S boxes d ds
      | _, _ => none
    | .invoke r name => match ev env r, evs env c.args.toList with
      | some (.val v), some ds => (match methD P v name with | some (f, d) => absCall P S boxes f (d :: ds) | none => none)
      | _, _ => none
  | _ => none
end Go.Proofs.Ytpblkjjafdfjkaa.V
