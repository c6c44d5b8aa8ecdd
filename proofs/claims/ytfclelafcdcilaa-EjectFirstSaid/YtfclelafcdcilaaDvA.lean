/- An evaluator with value semantics over the model's own code (first part). -/
import Derived.WalkKit
import Derived.Orders
import Derived.Deep.LoopGhost
import Derived.Below
import Derived.Deep.AppendSrc
import Derived.Laws.MakeOwn
import Derived.Lib.AppendZerosOnto
import Derived.Laws.StructEq
import Derived.Laws.BytesString
/- A functional evaluator over the model's own code, with slices as values: definitions alone. -/
set_option linter.unusedVariables false
namespace Go.Proofs.Ytfclelafcdcilaa.Dv
open Go

/-! ### values -/
inductive D where
  | undef | any
  | bool (b : Bool) | int (k : IntKind) (n : Int) | str (s : ByteArray)
  | nilp | nilfn
  | agg (ds : List D) | tup (ds : List D)
  | sl (full : Bool) (xs : List D)
  | ms (id off len cap : Nat) (ex : Bool)
  | ptr (id i j : Nat)
  | cpt (x : D) (j : Nat)
  | fn (f : FuncId) (first captured : List D)
  | mp (id : Nat) | nilmp
  | junk
  | nsl (b : Bool)
  deriving Inhabited

def D.cells : D → List D
  | .agg ds => ds
  | d => [d]
def D.isAgg : D → Bool
  | .agg _ => true
  | _ => false
/-- What may lie in one cell of memory. -/
def D.leaf : D → Bool
  | .undef | .any | .agg _ | .tup _ | .nsl _ => false
  | _ => true
/-- What may be an element of a row. -/
def D.elem : D → Bool
  | .agg ds => ds.all D.leaf
  | d => d.leaf
/-- Data without addresses of the evaluator's store. -/
def D.pleaf : D → Bool
  | .bool _ | .int .. | .str _ | .nilp | .nilfn | .sl .. | .nilmp => true
  | _ => false
def D.pure : D → Bool
  | .agg ds => ds.all D.pleaf
  | d => d.pleaf
/-- Data without any slice: what it says hangs on no memory. -/
def D.flatLeaf : D → Bool
  | .bool _ | .int .. | .str _ | .nilp | .nilfn | .nilmp => true
  | _ => false
def D.flat : D → Bool
  | .agg ds => ds.all D.flatLeaf
  | .tup ds => ds.all fun | .agg es => es.all D.flatLeaf | d => d.flatLeaf
  | d => d.flatLeaf
def D.pureR : D → Bool
  | .tup ds => ds.all D.pure
  | d => d.pure
/-- An argument that leads nowhere into the store. -/
def D.free : D → Bool
  | .fn _ as bs => as.isEmpty && bs.isEmpty
  | d => d.pure

/-- Whose an object is: the call's own, to be written; nobody's, never written any more; another's, to be read alone. -/
inductive St where
  | own | cst | shut
  deriving DecidableEq, Inhabited
inductive Ob where
  | row (st : St) (esz : Nat) (xs : List D)
  | map (st : St) (kvs : List (D × D))
  deriving Inhabited
abbrev Store := List (Option Ob)
abbrev Env := Nat → D
def Env.put (e : Env) (t : Nat) (v : D) : Env := fun i => if i = t then v else e i
def Store.obj (σ : Store) (id : Nat) : Option Ob := (σ[id]?).bind fun o => o
def Store.put (σ : Store) (id : Nat) (o : Option Ob) : Store := σ.set id o

/-! ### types -/
inductive TK where
  | bool | int (k : IntKind) | str | ptr (e : TypeId) | sl (e : TypeId) | arr (n : Nat) (e : TypeId) | st (fs : List (Nat × TypeId)) | mp (k e : TypeId) | fn | other
  deriving Inhabited, DecidableEq
def TK.known : TK → Bool
  | .other => false
  | _ => true
def TK.isAgg : TK → Bool
  | .arr .. | .st _ => true
  | _ => false
structure TI where
  k : TK
  sz : Nat
  bytes : Nat
  zero : D
  eqok : Bool
  deriving Inhabited

def ofLeaf : Value → D
  | .bool b => .bool b
  | .int k n => .int k n
  | .string s => .str s
  | .pointer none => .nilp
  | .nilFunc => .nilfn
  | .slice none 0 0 => .sl true []
  | .map none => .nilmp
  | .func (.func f) first captured => if first.isEmpty && captured.isEmpty then .fn f [] [] else .any
  | .tuple vs => if vs.isEmpty then .undef else .any
  | _ => .any
def ofValue : Value → D
  | .agg cs => if (cs.toList.map ofLeaf).all D.leaf then .agg (cs.toList.map ofLeaf) else .any
  | v => ofLeaf v

def tkOf : Option TypeDesc → TK
  | some .bool => .bool
  | some (.int k) => .int k
  | some .string => .str
  | some (.pointer e) => .ptr e
  | some (.slice e) => .sl e
  | some (.array n e) => .arr n e
  | some (.struct fs) => .st (fs.toList.map fun f => (f.offset, f.type))
  | some (.map k e) => .mp k e
  | some (.func ..) => .fn
  | _ => .other
def eqokOf (P : Program) (t : TypeId) : Bool :=
  !P.eqGuardType P.depth t && !P.stoodInHeld t && (match P.underlying t with | some (.struct fs) => fs.toList.all fun f => f.name != "_" | _ => true)
def ti (P : Program) (t : TypeId) : TI :=
  { k := tkOf (P.underlying t)
    sz := P.cellsOf t
    bytes := P.bytesOf t
    zero := match (P.info? t).bind (·.zero) with | some v => ofValue v | none => .any
    eqok := eqokOf P t }

/-! ### operations -/
inductive Foot where
  | none | rd (id : Nat) | wr (id : Nat) | new (id : Nat) | rdAll | wrAll | call (ids : List Nat) | app (r w : List Nat)
  deriving DecidableEq, Inhabited

def opnd (e : Env) : Operand → D
  | .tmp t => e t
  | .const v => ofValue v
  | .global _ => .any
  | .func f => .fn f [] []

def setRange (ds : List D) (j : Nat) (vs : List D) : List D := ds.take j ++ vs ++ ds.drop (j + vs.length)
/-- The part of an element at cell j, as a variable of the type. -/
def sub (T : TI) (x : D) (j : Nat) : Option D :=
  if T.k.known = false then Option.none
  else if j = 0 ∧ x.isAgg = T.k.isAgg ∧ x.cells.length = T.sz then some x
  else if T.k.isAgg then
    if j + T.sz ≤ x.cells.length then some (.agg ((x.cells.drop j).take T.sz)) else Option.none
  else if T.sz = 1 then x.cells[j]? else Option.none
def okVal (T : TI) (v : D) : Bool := T.k.known && v.elem && v.isAgg == T.k.isAgg && v.cells.length == T.sz
/-- An element with a part written. -/
def upd (x : D) (j : Nat) (v : D) : Option D :=
  if j = 0 ∧ x.isAgg = v.isAgg ∧ x.cells.length = v.cells.length then some v
  else match x with
    | .agg ds => if j + v.cells.length ≤ ds.length then some (.agg (setRange ds j v.cells)) else Option.none
    | _ => Option.none

def evLoad (T : TI) (a : D) (σ : Store) : Option (D × Foot) :=
  match a with
  | .ptr id i j => match σ.obj id with
    | some (.row _ _ xs) => match xs[i]? with
      | some x => (sub T x j).map fun v => (v, .rd id)
      | Option.none => Option.none
    | _ => Option.none
  | .cpt x j => (sub T x j).map fun v => (v, .none)
  | _ => Option.none
def evStore (T : TI) (a v : D) (σ : Store) : Option (Store × Foot) :=
  match a with
  | .ptr id i j => match σ.obj id with
    | some (.row .own esz xs) => match xs[i]? with
      | some x => if okVal T v then (upd x j v).map fun x' => (σ.put id (some (.row .own esz (xs.set i x'))), .wr id) else Option.none
      | Option.none => Option.none
    | _ => Option.none
  | _ => Option.none
def fillD (cells : List D) : List (Option (Nat × Nat) × D) → Option (List D)
  | [] => some cells
  | (Option.none, _) :: _ => Option.none
  | (some (off, size), v) :: rest =>
    if v.elem && v.cells.length == size && decide (off + size ≤ cells.length) then fillD (setRange cells off v.cells) rest else Option.none
def fillE (esz : Nat) (xs : List D) : List (Nat × D) → Option (List D)
  | [] => some xs
  | (i, v) :: rest => if v.elem && v.cells.length == esz && decide (i < xs.length) then fillE esz (xs.set i v) rest else Option.none
def evBuild (P : Program) (t : TypeId) (parts : List (Nat × D)) : Option D :=
  let T := ti P t
  match T.k, T.zero with
  | .st fs, .agg zs => if zs.all D.leaf && zs.length == T.sz && fs.all (fun f => (ti P f.2).k.known) then (fillD zs (parts.map fun p => ((fs[p.1]?).map fun f => (f.1, (ti P f.2).sz), p.2))).map .agg else Option.none
  | .arr _ e, .agg zs => if zs.all D.leaf && zs.length == T.sz && (ti P e).k.known then (fillD zs (parts.map fun p => (some (p.1 * (ti P e).sz, (ti P e).sz), p.2))).map .agg else Option.none
  | _, _ => Option.none
def evBuildSlice (P : Program) (t : TypeId) (len : Nat) (parts : List (Nat × D)) (aid : Nat) (σ : Store) : Option (D × Store × Foot) :=
  match (ti P t).k with
  | .sl e =>
    let E := ti P e
    if 0 < E.sz ∧ len * E.sz ≤ 16777216 ∧ E.zero.elem ∧ E.zero.cells.length = E.sz then
      (fillE E.sz (List.replicate len E.zero) parts).map fun xs => (.ms aid 0 len len true, σ.put aid (some (.row .own E.sz xs)), .new aid)
    else Option.none
  | _ => Option.none
def evMakeSlice (P : Program) (t : TypeId) (l c : D) (aid : Nat) (σ : Store) : Option (D × Store × Foot) :=
  match (ti P t).k, l, c with
  | .sl e, .int _ n, .int _ m =>
    let E := ti P e
    if 0 ≤ n ∧ n ≤ m ∧ m * E.bytes ≤ 140737488355328 ∧ m ≤ 140737488355328 ∧ 0 < E.sz ∧ E.zero.elem ∧ E.zero.cells.length = E.sz then
      some (.ms aid 0 n.toNat m.toNat true, σ.put aid (some (.row .own E.sz (List.replicate m.toNat E.zero))), .new aid)
    else Option.none
  | _, _, _ => Option.none
def evPart (P : Program) (t : TypeId) (x : D) (off : Nat) : Option D :=
  match x with
  | .agg _ => sub (ti P t) x off
  | _ => Option.none
def evField (P : Program) (t : TypeId) (x : D) (f : Nat) : Option D :=
  match (ti P t).k with
  | .st fs => match fs[f]? with
    | some (off, ft) => evPart P ft x off
    | Option.none => Option.none
  | _ => Option.none
def evFieldAddr (P : Program) (s : TypeId) (a : D) (f : Nat) : Option D :=
  match (ti P s).k with
  | .st fs => match fs[f]? with
    | some (off, ft) => if (ti P ft).sz = 0 then Option.none else match a with
      | .ptr id i j => some (.ptr id i (j + off))
      | .cpt x j => some (.cpt x (j + off))
      | _ => Option.none
    | Option.none => Option.none
  | _ => Option.none
/-- The size of an object's elements. -/
def Store.esz (σ : Store) (id : Nat) : Option Nat :=
  match σ.obj id with
  | some (.row _ esz _) => some esz
  | _ => Option.none
def evIndexAddr (P : Program) (t : TypeId) (x ix : D) (σ : Store) : Option (D × Foot) :=
  match (ti P t).k, x, ix with
  | .sl e, .sl _ xs, .int _ n => if 0 ≤ n then (match xs[n.toNat]? with | some y => if y.cells.length = (ti P e).sz ∧ 0 < (ti P e).sz then some (.cpt y 0, .none) else Option.none | Option.none => Option.none) else Option.none
  | .sl e, .ms id off len _ _, .int _ n => if 0 ≤ n ∧ n < len ∧ 0 < (ti P e).sz ∧ σ.esz id = some (ti P e).sz then some (.ptr id (off + n.toNat) 0, .rd id) else Option.none
  | .arr m e, .ptr id i j, .int _ n => if 0 ≤ n ∧ n < m ∧ 0 < (ti P e).sz then some (.ptr id i (j + n.toNat * (ti P e).sz), .none) else Option.none
  | .arr m e, .cpt y j, .int _ n => if 0 ≤ n ∧ n < m ∧ 0 < (ti P e).sz then some (.cpt y (j + n.toNat * (ti P e).sz), .none) else Option.none
  | _, _, _ => Option.none
def evIndex (P : Program) (t : TypeId) (x ix : D) : Option D :=
  match (ti P t).k, x, ix with
  | .arr m e, .agg ds, .int _ n => if 0 ≤ n ∧ n < m then evPart P e (.agg ds) (n.toNat * (ti P e).sz) else Option.none
  | .str, .str s, .int _ n => if 0 ≤ n then (match s[n.toNat]? with | some b => some (.int .u8 b.toNat) | Option.none => Option.none) else Option.none
  | _, _, _ => Option.none
/-- A bound: what is there by itself; what is typed. -/
def bnd (dflt : Nat) : Option D → Option Nat
  | Option.none => some dflt
  | some (.int _ n) => if 0 ≤ n then some n.toNat else Option.none
  | some _ => Option.none
def evSlice (P : Program) (t : TypeId) (x : D) (lo hi mx : Option D) (σ : Store) : Option (D × Foot) :=
  match (ti P t).k, x with
  | .str, .str s => if mx.isSome then Option.none else match bnd s.size hi, bnd 0 lo with
    | some h, some l => if l ≤ h ∧ h ≤ s.size then some (.str (s.extract l h), .none) else Option.none
    | _, _ => Option.none
  | .sl e, .sl full xs => match bnd xs.length mx, bnd xs.length hi, bnd 0 lo with
    | some m, some h, some l => if l ≤ h ∧ h ≤ m ∧ m ≤ xs.length ∧ (mx.isSome = true → hi.isSome = true) ∧ 0 < (ti P e).sz ∧ ((xs.take h).drop l).all (fun y => y.cells.length == (ti P e).sz) then
        some (.sl (if mx.isSome then decide (h = m) else full && decide (h = xs.length)) ((xs.take h).drop l), .none) else Option.none
    | _, _, _ => Option.none
  | .sl e, .ms id off len cap ex => match bnd cap mx, bnd len hi, bnd 0 lo with
    | some m, some h, some l => if l ≤ h ∧ h ≤ m ∧ m ≤ cap ∧ (mx.isSome = true → hi.isSome = true) ∧ 0 < (ti P e).sz ∧ σ.esz id = some (ti P e).sz then some (.ms id (off + l) (h - l) (m - l) (ex || mx.isSome), .rd id) else Option.none
    | _, _, _ => Option.none
  | _, _ => Option.none

def binInt (op : BinOp) (k : IntKind) (a b : Int) : Option D :=
  match op with
  | .add => some (.int k (k.wrap (a + b)))
  | .sub => some (.int k (k.wrap (a - b)))
  | .mul => some (.int k (k.wrap (a * b)))
  | .quo => if b = 0 then Option.none else some (.int k (k.wrap (a.tdiv b)))
  | .rem => if b = 0 then Option.none else some (.int k (a.tmod b))
  | .and => some (.int k (k.wrap (BitVec.ofInt k.bits a &&& BitVec.ofInt k.bits b).toNat))
  | .or => some (.int k (k.wrap (BitVec.ofInt k.bits a ||| BitVec.ofInt k.bits b).toNat))
  | .xor => some (.int k (k.wrap (BitVec.ofInt k.bits a ^^^ BitVec.ofInt k.bits b).toNat))
  | .eql => some (.bool (decide (a = b)))
  | .neq => some (.bool (decide (a ≠ b)))
  | .lss => some (.bool (decide (a < b)))
  | .leq => some (.bool (decide (a ≤ b)))
  | .gtr => some (.bool (decide (b < a)))
  | .geq => some (.bool (decide (b ≤ a)))
  | _ => Option.none
def shInt (op : BinOp) (k : IntKind) (a b : Int) : Option D :=
  if b < 0 then Option.none else match op with
    | .shl => some (.int k (k.wrap (a * 2 ^ (min b.toNat k.bits))))
    | .shr => some (.int k (a.fdiv (2 ^ (min b.toNat k.bits))))
    | _ => Option.none
def binStr (op : BinOp) (a b : ByteArray) : Option D :=
  match op with
  | .add => if a.size + b.size ≤ 4611686018427387904 then some (.str (a ++ b)) else Option.none
  | .eql => some (.bool (decide (a = b)))
  | .neq => some (.bool (decide (a ≠ b)))
  | .lss => some (.bool (Op.bytesLess a.data.toList b.data.toList))
  | .geq => some (.bool (!Op.bytesLess a.data.toList b.data.toList))
  | .gtr => some (.bool (!(Op.bytesLess a.data.toList b.data.toList || decide (a = b))))
  | .leq => some (.bool (Op.bytesLess a.data.toList b.data.toList || decide (a = b)))
  | _ => Option.none
/-- Pointers of which one is nil. -/
def nilEq : D → D → Option Bool
  | .nilp, .nilp => some true
  | .nilp, .ptr .. | .nilp, .cpt .. | .ptr .., .nilp | .cpt .., .nilp => some false
  | _, _ => Option.none
def deq (P : Program) : Nat → TypeId → D → D → Option Bool
  | 0, _, _, _ => Option.none
  | n + 1, t, x, y =>
    match (ti P t).k, x, y with
    | .bool, .bool a, .bool b => some (decide (a = b))
    | .int _, .int k a, .int k' b => if k = k' then some (decide (a = b)) else Option.none
    | .str, .str a, .str b => some (decide (a = b))
    | .st fs, .agg xs, .agg ys =>
      if (ti P t).eqok then
        (fs.mapM fun (f : Nat × TypeId) => match evPart P f.2 (.agg xs) f.1, evPart P f.2 (.agg ys) f.1 with
          | some a, some b => deq P n f.2 a b
          | _, _ => Option.none).map fun (l : List Bool) => l.all id
      else Option.none
    | .ptr _, x, y => nilEq x y
    | _, _, _ => Option.none
/-- Equality of what is neither numbers nor texts. -/
def deqTop (P : Program) (t : TypeId) : D → D → Option Bool
  | .bool a, .bool b => if (ti P t).k = .bool then some (decide (a = b)) else Option.none
  | .agg xs, .agg ys => deq P 5 t (.agg xs) (.agg ys)
  | x, y => match (ti P t).k with
    | .ptr _ => nilEq x y
    | _ => Option.none
def evBin (P : Program) (op : BinOp) (t : TypeId) (x y : D) : Option D :=
  match x, y with
  | .int k a, .int k' b => (match op with
    | .shl => shInt .shl k a b
    | .shr => shInt .shr k a b
    | op => if k = k' then binInt op k a b else Option.none)
  | .str a, .str b => binStr op a b
  | x, y => match op with
    | .eql => (deqTop P t x y).map .bool
    | .neq => (deqTop P t x y).map fun b => .bool !b
    | _ => Option.none
def evUn (op : UnOp) (x : D) : Option D :=
  match op, x with
  | .neg, .int k n => some (.int k (k.wrap (0 - n)))
  | .not, .bool b => some (.bool !b)
  | _, _ => Option.none
def byteOfD : D → Option UInt8
  | .int .u8 n => some (UInt8.ofNat n.toNat)
  | _ => Option.none
/-- A row's bytes. -/
def bytesD : List D → Option (List Int)
  | [] => some []
  | .int .u8 n :: r => (bytesD r).map fun l => n :: l
  | _ => Option.none
def pushAll (ns : List Int) : ByteArray := ns.foldl (fun r n => r.push (UInt8.ofNat n.toNat)) ByteArray.empty
def evConv (P : Program) (src dst : TypeId) (x : D) (σ : Store) : Option (D × Foot) :=
  if (ti P src).k.known = false then Option.none else
  match (ti P dst).k, x with
  | .int k, .int _ n => some (.int k (k.wrap n), .none)
  | .str, .str s => some (.str s, .none)
  | .str, .ms id off len _ _ => match (ti P src).k with
    | .sl e => match (ti P e).k, σ.obj id with
      | .int .u8, some (.row _ esz xs) => if esz = 1 ∧ off + len ≤ xs.length then (bytesD ((xs.drop off).take len)).map fun ns => (.str (pushAll ns), .rd id) else Option.none
      | _, _ => Option.none
    | _ => Option.none
  | _, _ => Option.none
/-- The elements of a slice, wherever they lie. -/
def elems (σ : Store) : D → Option (List D × Foot)
  | .sl _ xs => some (xs, .none)
  | .nsl _ => some ([], .none)
  | .ms id off len _ _ => match σ.obj id with
    | some (.row _ _ xs) => if off + len ≤ xs.length then some ((xs.drop off).take len, .rd id) else Option.none
    | _ => Option.none
  | _ => Option.none
def lenD : D → Option Nat
  | .sl _ xs => some xs.length
  | .ms _ _ len _ _ => some len
  | .str s => some s.size
  | _ => Option.none
/-- The room of a slice, where it is known. -/
def capD : D → Option Nat
  | .sl true xs => some xs.length
  | .ms _ _ _ cap true => some cap
  | _ => Option.none
/-- The row that a slice looks at. -/
def rowIds : D → List Nat
  | .ms id _ _ _ _ => [id]
  | _ => []
def evAppend (P : Program) (t : TypeId) (s x : D) (aid : Nat) (σ : Store) : Option (D × Store × Foot) :=
  match (ti P t).k with
  | .sl e =>
    let E := ti P e
    if 0 < E.sz ∧ E.zero.elem ∧ E.zero.cells.length = E.sz then
      match elems σ x with
      | some (news, _) =>
        if news.all (fun y => y.elem && y.cells.length == E.sz) then
          match s with
          | .sl full xs =>
            if news = [] then some (.sl full xs, σ, .app (rowIds x) [])
            else if full ∧ xs.all (fun y => y.elem && y.cells.length == E.sz) ∧ (xs.length + news.length) * max E.bytes 1 ≤ 140737488355328 then
              some (.ms aid 0 (xs.length + news.length) (xs.length + news.length) false, σ.put aid (some (.row .own E.sz (xs ++ news))), .app (rowIds x) [aid])
            else Option.none
          | .ms id off len cap ex => match σ.obj id with
            | some (.row .own esz xs) =>
              if esz = E.sz ∧ off + cap ≤ xs.length ∧ len ≤ cap ∧ (len + news.length) * max E.bytes 1 ≤ 140737488355328 then
                if len + news.length ≤ cap then
                  some (.ms id off (len + news.length) cap ex, σ.put id (some (.row .own esz (xs.take (off + len) ++ news ++ xs.drop (off + len + news.length)))), .app (id :: rowIds x) [id])
                else if ex then
                  some (.ms aid 0 (len + news.length) (len + news.length) false, σ.put aid (some (.row .own esz ((xs.drop off).take len ++ news))), .app (id :: rowIds x) [aid])
                else if off = 0 then
                  some (.ms aid 0 (len + news.length) (len + news.length) false, (σ.put id Option.none).put aid (some (.row .own esz (xs.take len ++ news))), .app (id :: rowIds x) [id, aid])
                else Option.none
              else Option.none
            | _ => Option.none
          | _ => Option.none
        else Option.none
      | Option.none => Option.none
    else Option.none
  | _ => Option.none
/-- So many zeros behind what stands, where there is no room for them. -/
def evAppendZ (P : Program) (t : TypeId) (s : D) (n : Int) (aid : Nat) (σ : Store) : Option (D × Store × Foot) :=
  match (ti P t).k, s with
  | .sl e, .ms id off len cap true =>
    let E := ti P e
    match σ.obj id with
    | some (.row _ esz xs) =>
      if (0 < E.sz ∧ E.zero.elem ∧ E.zero.cells.length = E.sz ∧ esz = E.sz) ∧ off + len ≤ xs.length ∧ cap < len + n.toNat ∧ (len + n.toNat) * max E.bytes 1 ≤ 140737488355328 then
        some (.ms aid 0 (len + n.toNat) (len + n.toNat) false, σ.put aid (some (.row .own E.sz ((xs.drop off).take len ++ List.replicate n.toNat E.zero))), .wrAll)
      else Option.none
    | _ => Option.none
  | .sl e, .sl true xs =>
    let E := ti P e
    if (0 < E.sz ∧ E.zero.elem ∧ E.zero.cells.length = E.sz) ∧ xs.all (fun y => y.elem && y.cells.length == E.sz) ∧ 0 < n ∧ (xs.length + n.toNat) * max E.bytes 1 ≤ 140737488355328 then
      some (.ms aid 0 (xs.length + n.toNat) (xs.length + n.toNat) false, σ.put aid (some (.row .own E.sz (xs ++ List.replicate n.toNat E.zero))), .wrAll)
    else Option.none
  | _, _ => Option.none
def evCopy (P : Program) (t : TypeId) (s x : D) (σ : Store) : Option (D × Store × Foot) :=
  match (ti P t).k, s, elems σ x with
  | .sl e, .ms id off len _ _, some (news, _) =>
    match σ.obj id with
    | some (.row .own esz xs) =>
      let m := min news.length len
      if esz = (ti P e).sz ∧ off + len ≤ xs.length ∧ (news.take m).all (fun y => y.elem && y.cells.length == esz) then
        some (.int .i64 m, σ.put id (some (.row .own esz (xs.take off ++ news.take m ++ xs.drop (off + m)))), .wrAll)
      else Option.none
    | _ => Option.none
  | _, _, _ => Option.none
def evClear (P : Program) (t : TypeId) (s : D) (σ : Store) : Option (D × Store × Foot) :=
  match (ti P t).k, s with
  | .sl e, .ms id off len _ _ =>
    let E := ti P e
    match σ.obj id with
    | some (.row .own esz xs) =>
      if esz = E.sz ∧ off + len ≤ xs.length ∧ E.zero.elem ∧ E.zero.cells.length = E.sz then
        some (.undef, σ.put id (some (.row .own esz (xs.take off ++ List.replicate len E.zero ++ xs.drop (off + len)))), .wrAll)
      else Option.none
    | _ => Option.none
  | _, _ => Option.none
def minmax (f : Int → Int → Int) : List D → Option D
  | [.int k a, .int k' b] => if k = k' then some (.int k (f a b)) else Option.none
  | [.int k a, .int k' b, .int k'' c] => if k = k' ∧ k = k'' then some (.int k (f (f a b) c)) else Option.none
  | .int k a :: .int k' b :: .int k'' c :: .int k3 d :: .int k4 e :: [.int k5 g] => if k = k' ∧ k = k'' ∧ k = k3 ∧ k = k4 ∧ k = k5 then some (.int k (f (f (f (f (f a b) c) d) e) g)) else Option.none
  | _ => Option.none
def evBuiltin (P : Program) (b : Builtin) (ats : List TypeId) (args : List D) (aid : Nat) (σ : Store) : Option (D × Store × Foot) :=
  match b, ats, args with
  | .len, [t], [x] => (match (ti P t).k with
    | .str => match x with | .str s => some (.int .i64 s.size, σ, .none) | _ => Option.none
    | .sl _ => match x with | .sl .. | .ms .. => (lenD x).map fun n => (.int .i64 n, σ, .none) | _ => Option.none
    | _ => Option.none)
  | .cap, [t], [x] => (match (ti P t).k with
    | .sl _ => (capD x).map fun (n : Nat) => (.int .i64 n, σ, .none)
    | _ => Option.none)
  | .append, [t, t2], [s, x] => (match (ti P t2).k with
    | .sl _ => evAppend P t s x aid σ
    | .int _ => match x with | .int _ n => evAppendZ P t s n aid σ | _ => Option.none
    | _ => Option.none)
  | .copy, [t, _], [s, x] => evCopy P t s x σ
  | .clear, [t], [s] => evClear P t s σ
  | .max, _, xs => (minmax max xs).map fun d => (d, σ, .none)
  | .min, _, xs => (minmax min xs).map fun d => (d, σ, .none)
  | _, _, _ => Option.none
/-- Is it nil? -/
def nilD : D → Option Bool
  | .sl _ (_ :: _) => some false
  | .ms _ _ (_ + 1) _ _ => some false
  | .nsl b => some b
  | _ => Option.none
def isNilS : Operand → Bool
  | .const (.slice Option.none 0 0) => true
  | _ => false
def nilBin (P : Program) (op : BinOp) (t : TypeId) (x : D) : Option D :=
  match (ti P t).k with
  | .sl _ => match op with
    | .eql => (nilD x).map fun b => .bool b
    | .neq => (nilD x).map fun b => .bool (!b)
    | _ => Option.none
  | _ => Option.none
def evBinO (P : Program) (op : BinOp) (t : TypeId) (x y : Operand) (e : Env) : Option D :=
  match isNilS y with
  | true => nilBin P op t (opnd e x)
  | false => evBin P op t (opnd e x) (opnd e y)
/-- Does the operation take a new place in the store? -/
def allocs (o : Oper) : Bool :=
  match o.op with
  | .alloc _ | .box .. | .buildSlice .. | .makeSlice .. => true
  | .call { callee := .builtin .append, .. } => true
  | _ => false
/-- An operation that is no call of a Go function. -/
def evOp (P : Program) (o : Oper) (e : Env) (aid : Nat) (σ : Store) : Option (D × Store × Foot) :=
  match o.op with
  | .move x | .assign x => some (opnd e x, σ, .none)
  | .pick c a b => match opnd e c with
    | .bool t => some (if t then opnd e a else opnd e b, σ, .none)
    | _ => Option.none
  | .alloc t => let T := ti P t
    if T.zero.elem ∧ T.zero.cells.length = T.sz ∧ 0 < T.sz then some (.ptr aid 0 0, σ.put aid (some (.row .own T.sz [T.zero])), .new aid) else Option.none
  | .box _ x => let v := opnd e x
    if v.elem ∧ 0 < v.cells.length then some (.ptr aid 0 0, σ.put aid (some (.row .own v.cells.length [v])), .new aid) else Option.none
  | .build t ps => (evBuild P t (ps.toList.map fun p => (p.1, opnd e p.2))).map fun d => (d, σ, .none)
  | .buildSlice t n ps => evBuildSlice P t n (ps.toList.map fun p => (p.1, opnd e p.2)) aid σ
  | .load t a => (evLoad (ti P t) (opnd e a) σ).map fun r => (r.1, σ, r.2)
  | .store t a x => (evStore (ti P t) (opnd e a) (opnd e x) σ).map fun r => (.undef, r.1, r.2)
  | .nilCheck x => match opnd e x with
    | .ptr id i j => some (.ptr id i j, σ, .none)
    | .cpt y j => some (.cpt y j, σ, .none)
    | .fn f as bs => some (.fn f as bs, σ, .none)
    | _ => Option.none
  | .binOp op t x y _ => (evBinO P op t x y e).map fun d => (d, σ, .none)
  | .unOp op _ x => (evUn op (opnd e x)).map fun d => (d, σ, .none)
  | .convert s t x => (evConv P s t (opnd e x) σ).map fun r => (r.1, σ, r.2)
  | .makeFunc (.func f) first caps => some (.fn f (first.toList.map (opnd e)) (caps.toList.map (opnd e)), σ, .none)
  | .makeSlice t l c => evMakeSlice P t (opnd e l) (opnd e c) aid σ
  | .slice t x lo hi mx => (evSlice P t (opnd e x) (lo.map (opnd e)) (hi.map (opnd e)) (mx.map (opnd e)) σ).map fun r => (r.1, σ, r.2)
  | .fieldAddr s x f => (evFieldAddr P s (opnd e x) f).map fun d => (d, σ, .none)
  | .field t x f => (evField P t (opnd e x) f).map fun d => (d, σ, .none)
  | .indexAddr t x ix => (evIndexAddr P t (opnd e x) (opnd e ix) σ).map fun r => (r.1, σ, r.2)
  | .index t x ix => (evIndex P t (opnd e x) (opnd e ix)).map fun d => (d, σ, .none)
  | .extract x ix => match opnd e x with
    | .tup ds => match ds[ix]? with | some d => some (d, σ, .none) | Option.none => Option.none
    | _ => Option.none
  | .call c => match c.callee with
    | .builtin b => evBuiltin P b c.argTypes.toList (c.args.toList.map (opnd e)) aid σ
    | _ => Option.none
  | _ => Option.none

/-! ### calls -/
abbrev CallF := FuncId → List D → Store → Option (D × Store)
/-- At a function's end, what is handed out becomes data. -/
def frzLeaf (base : Nat) (σ : Store) : D → Option D
  | .ms id off len cap ex => match σ.obj id with
    | some (.row st _ xs) => if st ≠ .shut ∧ off + len ≤ xs.length ∧ ((xs.drop off).take len).all D.pure then some (.sl (ex && decide (cap = len)) ((xs.drop off).take len)) else Option.none
    | _ => Option.none
  | d => if d.pleaf then some d else Option.none
def frzVal (base : Nat) (σ : Store) : D → Option D
  | .agg ds => (ds.mapM (frzLeaf base σ)).map .agg
  | d => frzLeaf base σ d
def frz (base : Nat) (σ : Store) : D → Option D
  | .tup ds => (ds.mapM (frzVal base σ)).map .tup
  | d => frzVal base σ d
/-- A slice of the caller's own, lent as data for one call. -/
def lendLeaf (σ : Store) : D → D × List Nat
  | .ms id off len cap ex => match σ.obj id with
    | some (.row _ _ xs) => if off + len ≤ xs.length ∧ ((xs.drop off).take len).all D.pure then (.sl (ex && decide (cap = len)) ((xs.drop off).take len), [id]) else (.ms id off len cap ex, [])
    | _ => (.ms id off len cap ex, [])
  | d => (d, [])
def lend (σ : Store) : D → D × List Nat
  | .agg ds => (.agg (ds.map fun d => (lendLeaf σ d).1), ds.flatMap fun d => (lendLeaf σ d).2)
  | d => lendLeaf σ d
/-- The store as a callee that may not write sees it. -/
def shutOb : Ob → Ob
  | .row .own e xs => .row .shut e xs
  | .map .own kvs => .map .shut kvs
  | o => o
def Store.shut (σ : Store) (lent : List Nat) : Store := σ.mapIdx fun i o => if lent.contains i then Option.none else o.map shutOb
def sealOb : Ob → Ob
  | .row .own e xs => .row .cst e xs
  | o => o
/-- What was lent is never written again. -/
def Store.sealed (σ : Store) (lent : List Nat) : Store := lent.foldl (fun σ i => match σ.obj i with | some o => σ.put i (some (sealOb o)) | Option.none => σ) σ
def Store.mayseal (σ : Store) (i : Nat) : Bool :=
  match σ.obj i with
  | some (.row .own ..) | some (.row .cst ..) => true
  | _ => false
/-- The caller's store behind a call that lent these. -/
def Store.behind (σ : Store) (lent : List Nat) (r : D) : Option Store :=
  if lent.isEmpty || r.flat then some σ
  else if lent.all σ.mayseal then some (σ.sealed lent) else Option.none
structure Modes where
  good : FuncId → Bool
  byref : FuncId → Bool
  ro : FuncId → Bool := fun _ => false
  /-- Is it looked whether one that reads alone has left all as it was? -/
  chk : Bool := false
  prim : FuncId → Option CallF
mutual
/-- Alike (computed). -/
def D.same : D → D → Bool
  | .undef, .undef | .any, .any | .nilp, .nilp | .nilfn, .nilfn | .nilmp, .nilmp | .junk, .junk => true
  | .bool a, .bool b => a == b
  | .int k n, .int l m => decide (k = l) && decide (n = m)
  | .str a, .str b => decide (a.data.toList = b.data.toList)
  | .agg a, .agg b => sameL a b
  | .sl f a, .sl g b => f == g && sameL a b
  | .ms i j k l e, .ms i' j' k' l' e' => decide (i = i') && decide (j = j') && decide (k = k') && decide (l = l') && e == e'
  | .ptr i j k, .ptr i' j' k' => decide (i = i') && decide (j = j') && decide (k = k')
  | .nsl a, .nsl b => a == b
  | _, _ => false
termination_by structural a => a
def sameL : List D → List D → Bool
  | [], [] => true
  | a :: r, b :: s => D.same a b && sameL r s
  | _, _ => false
termination_by structural a => a
end
def sameO : Option Ob → Option Ob → Bool
  | none, none => true
  | some (.row st e xs), some (.row st' e' xs') => decide (st = st') && decide (e = e') && sameL xs xs'
  | _, _ => false
/-- What was there is there still. -/
def sameS : Store → Store → Bool
  | [], _ => true
  | o :: r, o' :: r' => sameO o o' && sameS r r'
  | _, _ => false
def roEnd (chk : Bool) (σ : Store) (q : D × Store) : Option (D × Store) := if chk && !(q.1.flat && sameS σ q.2) then Option.none else some (q.1, σ)
def callD (M : Modes) (run : CallF) : CallF := fun f args σ =>
  match M.prim f with
  | some p => p f args σ
  | Option.none =>
    if M.byref f then (if M.ro f then (run f args σ).bind (roEnd M.chk σ) else run f args σ)
    else
      let args' := args.map fun d => (lend σ d).1
      let lent := args.flatMap fun d => (lend σ d).2
      if args'.all D.free then
        match run f args' [] with
        | some (r, τ) => match frz 0 τ r with
          | some r' => (σ.behind lent r').map fun σ' => (r', σ')
          | Option.none => Option.none
        | Option.none => Option.none
      else Option.none

def evCallee (e : Env) (c : Call) : Option (FuncId × List D) :=
  match c.callee with
  | .value f => match opnd e f with
    | .fn g first caps => some (g, first ++ (c.args.toList.map (opnd e) ++ caps))
    | _ => Option.none
  | _ => Option.none
def putO (e : Env) (dst : Option Nat) (v : D) : Env :=
  match dst with
  | some d => e.put d v
  | Option.none => e
/-- One operation, calls too. -/
def step (P : Program) (call : CallF) (o : Oper) (e : Env) (aid : Nat) (σ : Store) : Option (D × Store × Foot) :=
  match o.op with
  | .call { callee := .value f, args, argTypes } => match evCallee e { callee := .value f, args, argTypes } with
    | some (g, as) => match call g as σ with
      | some (r, σ') => some (r, σ', .call (as.flatMap fun d => (lend σ d).2))
      | Option.none => Option.none
    | Option.none => Option.none
  | _ => evOp P o e aid σ
/-- Is the operation to be carried out? -/
def wants (ops : Array Oper) (e : Env) (o : Oper) : Option Bool :=
  match o.guard with
  | Option.none => some true
  | some (g, want) => match (ops[g]?).bind (·.dst) with
    | some d => match e d with
      | .bool b => some (b == want)
      | .undef => some false
      | _ => Option.none
    | Option.none => Option.none
def evL (P : Program) (call : CallF) (ops : Array Oper) : List Oper → Nat → Env → Store → Option (Env × Store)
  | [], _, e, σ => some (e, σ)
  | o :: rest, aid, e, σ =>
    match wants ops e o with
    | some true => match step P call o e aid σ with
      | some (v, σ', _) => evL P call ops rest (if allocs o then aid + 1 else aid) (putO e o.dst v) σ'
      | Option.none => Option.none
    | some false => evL P call ops rest (if allocs o then aid + 1 else aid) (putO e o.dst .undef) σ
    | Option.none => Option.none
def nallocs (l : List Oper) : Nat := (l.filter allocs).length

/-! ### regions whose order is drawn -/
inductive Cls where
  | q | r | n | c (f : FuncId) | w
  deriving DecidableEq, Inhabited
def cls (o : Oper) : Cls :=
  match o.op with
  | .move _ | .assign _ | .pick .. | .build .. | .binOp .. | .unOp .. | .fieldAddr .. | .field .. | .index .. | .extract .. | .nilCheck _ | .makeFunc .. => .q
  | .load .. | .indexAddr .. | .slice .. | .convert .. => .r
  | .alloc _ | .box .. | .buildSlice .. | .makeSlice .. => .n
  | .call { callee := .value (.func f), .. } => .c f
  | .call { callee := .builtin .len, .. } | .call { callee := .builtin .cap, .. } | .call { callee := .builtin .max, .. } | .call { callee := .builtin .min, .. } => .q
  | _ => .w
def Cls.fits : Cls → Cls → Bool
  | .q, _ | _, .q | .r, .r | .n, .n | .r, .c _ | .c _, .r => true
  | _, _ => false
/-- What must stand ahead of each operation, as bits. -/
def masks (ops : Array Oper) : List Nat :=
  ops.toList.foldl (fun ms o => ms ++ [o.after.foldl (fun m ed => if Region.binds .any ed then m ||| (1 <<< ed.on) ||| ms.getD ed.on 0 else m) 0]) []
def free (ms : List Nat) (j i : Nat) : Bool := decide (j < i) && !(ms.getD i 0).testBit j
def pairOk (ops : Array Oper) (j i : Nat) : Bool :=
  match ops[j]?, ops[i]? with
  | some x, some y => x.apart ops y && (cls x).fits (cls y)
  | _, _ => true
/-- The pairs that are not in order and may not be alike in both. -/
def badPairs (ops : Array Oper) : List (Nat × Nat) :=
  let ms := masks ops
  (List.range ops.size).flatMap fun i => ((List.range i).filter fun j => free ms j i && !pairOk ops j i).map fun j => (j, i)
def Foot.fits : Foot → Foot → Bool
  | .none, _ | _, .none | .rd _, .rd _ => true
  | .rd a, .wr b | .wr b, .rd a | .rd a, .new b | .new b, .rd a | .wr a, .wr b | .wr a, .new b | .new a, .wr b | .new a, .new b => a != b
  | .rd a, .app _ w | .app _ w, .rd a => !w.contains a
  | .new a, .app r w | .app r w, .new a => !w.contains a && !r.contains a
  | .app r w, .app r' w' => (w.all fun a => !w'.contains a && !r'.contains a) && w'.all fun b => !r.contains b
  | _, _ => false
/-- A call that lends these, and a new place. -/
def Foot.apartC : Foot → Foot → Bool
  | .call ids, .new b | .new b, .call ids => !ids.contains b
  | _, _ => false
def isCN : Cls → Cls → Bool
  | .c _, .n | .n, .c _ => true
  | _, _ => false
def feetL (P : Program) (call : CallF) (ops : Array Oper) : List Oper → Nat → Env → Store → Option (List Foot)
  | [], _, _, _ => some []
  | o :: rest, aid, e, σ =>
    match wants ops e o with
    | some true => match step P call o e aid σ with
      | some (v, σ', f) => (feetL P call ops rest (if allocs o then aid + 1 else aid) (putO e o.dst v) σ').map fun fs => f :: fs
      | Option.none => Option.none
    | some false => (feetL P call ops rest (if allocs o then aid + 1 else aid) (putO e o.dst .undef) σ).map fun fs => .none :: fs
    | Option.none => Option.none
def feetOk (ops : Array Oper) (bad : List (Nat × Nat)) (fs : List Foot) : Bool :=
  bad.all fun p => match ops[p.1]?, ops[p.2]? with
    | some x, some y => x.apart ops y && ((fs.getD p.1 .wrAll).fits (fs.getD p.2 .wrAll) || (isCN (cls x) (cls y) && (fs.getD p.1 .wrAll).apartC (fs.getD p.2 .wrAll)))
    | _, _ => false
/-- May the operations come in any order that is drawn? -/
def drawOk (P : Program) (call : CallF) (ops : Array Oper) (draw : Bool) (e : Env) (σ : Store) : Bool :=
  if draw && !(badPairs ops).isEmpty then
    match feetL P call ops ops.toList σ.length e (σ ++ List.replicate (nallocs ops.toList) Option.none) with
    | some fs => feetOk ops (badPairs ops) fs
    | Option.none => false
  else true

inductive Ex where
  | normal | exit (id : Nat) | ret
  deriving DecidableEq, Inhabited
abbrev Res := Ex × Env × Store
abbrev LoopF := Code → Env → Store → Option Res
def evCode (P : Program) (call : CallF) (loop : LoopF) : Code → Env → Store → Option Res
  | .skip, e, σ => some (.normal, e, σ)
  | .label _, e, σ => some (.normal, e, σ)
  | .ret, e, σ => some (.ret, e, σ)
  | .exit id, e, σ => some (.exit id, e, σ)
  | .region _ ops draw, e, σ => if drawOk P call ops draw e σ then (evL P call ops ops.toList σ.length e (σ ++ List.replicate (nallocs ops.toList) Option.none)).map fun r => (.normal, r.1, r.2) else Option.none
  | .seq a b, e, σ => match evCode P call loop a e σ with
    | some (.normal, e', σ') => evCode P call loop b e' σ'
    | r => r
  | .cond c a b, e, σ => match opnd e c with
    | .bool true => evCode P call loop a e σ
    | .bool false => evCode P call loop b e σ
    | _ => Option.none
  | .block id c, e, σ => match evCode P call loop c e σ with
    | some (.exit id', e', σ') => if id' = id then some (.normal, e', σ') else some (.exit id', e', σ')
    | r => r
  | .loop c, e, σ => loop c e σ
  | .scope c, e, σ => evCode P call loop c e σ
  | _, _, _ => Option.none
/-- A loop's rounds. -/
def roundD (P : Program) (call : CallF) (loop : LoopF) (c : Code) (e : Env) (σ : Store) : Option Res :=
  match evCode P call loop c e σ with
  | some (.normal, e', σ') => loop c e' σ'
  | r => r
def resD (P : Program) (e : Env) (σ : Store) : ResultVar → Option D
  | .tmp t => some (e t)
  | .cell a t => (evLoad (ti P t) (e a) σ).map (·.1)
def resultsD (P : Program) (rs : List ResultVar) (e : Env) (σ : Store) : Option D :=
  match rs with
  | [r] => resD P e σ r
  | rs => (rs.mapM (resD P e σ)).map .tup
def entry (args : List D) : Env := fun t => (args[t]?).getD .undef
def bodyD (P : Program) (call : CallF) (loop : LoopF) (fn : Func) (args : List D) (σ : Store) : Option (D × Store) :=
  match fn.body with
  | some c => match evCode P call loop c (entry args) σ with
    | some (.normal, e, σ') | some (.ret, e, σ') => (resultsD P fn.results.toList e σ').map fun r => (r, σ')
    | _ => Option.none
  | Option.none => Option.none

inductive Task where
  | call (f : FuncId) (args : List D) (σ : Store)
  | loop (c : Code) (e : Env) (σ : Store)
/-- With so many rounds and calls nested in one another. -/
def runN (P : Program) (M : Modes) : Nat → (CallF × LoopF)
  | 0 => (fun _ _ _ => Option.none, fun _ _ _ => Option.none)
  | n + 1 =>
    let c := (runN P M n).1
    let l := (runN P M n).2
    (fun f args σ => if M.good f then (match P.funcs[f]? with
        | some fn => if args.length = fn.params.size + fn.nfree then bodyD P (callD M c) l fn args σ else Option.none
        | Option.none => Option.none) else Option.none,
     fun b e σ => roundD P (callD M c) l b e σ)

end Go.Proofs.Ytfclelafcdcilaa.Dv
/- The evaluator's limit: more rounds give the same answer; the equations of calls and loops. -/
set_option linter.unusedVariables false
set_option linter.unusedSimpArgs false
namespace Go.Proofs.Ytfclelafcdcilaa.Dv
open Go

def LeC (c c' : CallF) : Prop := ∀ f a s r, c f a s = some r → c' f a s = some r
def LeL (l l' : LoopF) : Prop := ∀ c e s r, l c e s = some r → l' c e s = some r

variable {P : Program} {M : Modes}

theorem callD_mono {c c' : CallF} (h : LeC c c') : LeC (callD M c) (callD M c') := by
  intro f a s r hr
  unfold callD at hr ⊢
  cases hp : M.prim f with
  | some p => simpa only [hp] using hr
  | none =>
    simp only [hp] at hr ⊢
    cases hm : M.byref f with
    | true =>
      simp only [hm, if_true] at hr ⊢
      split at hr
      · rename_i hro
        rw [if_pos hro]
        obtain ⟨q, hq, he⟩ := Option.bind_eq_some_iff.1 hr
        rw [h _ _ _ _ hq]; exact he
      · rename_i hro
        rw [if_neg hro]
        exact h _ _ _ _ hr
    | false =>
      simp only [hm, Bool.false_eq_true, if_false] at hr ⊢
      by_cases hf : (a.map fun d => (lend s d).1).all D.free = true
      · simp only [hf, if_true] at hr ⊢
        cases hc : c f (a.map fun d => (lend s d).1) [] with
        | none => simp [hc] at hr
        | some q => rw [hc] at hr; rw [h _ _ _ _ hc]; exact hr
      · simp only [hf, if_false] at hr; cases hr

/-- What a call of a Go function among the operations comes to. -/
def isGo (o : Oper) : Bool :=
  match o.op with
  | .call { callee := .value _, .. } => true
  | _ => false
theorem step_go {call : CallF} {o : Oper} {f : Operand} {as : Array Operand} {ts : Array TypeId} (h : o.op = .call { callee := .value f, args := as, argTypes := ts }) (e : Env) (aid : Nat) (σ : Store) :
    step P call o e aid σ = match evCallee e { callee := .value f, args := as, argTypes := ts } with
      | some (g, as) => match call g as σ with
        | some (r, σ') => some (r, σ', .call (as.flatMap fun d => (lend σ d).2))
        | none => none
      | none => none := by
  unfold step; simp only [h] <;> rfl
theorem step_other {call : CallF} {o : Oper} (h : isGo o = false) (e : Env) (aid : Nat) (σ : Store) : step P call o e aid σ = evOp P o e aid σ := by
  unfold step
  unfold isGo at h
  split
  · rename_i heq; rw [heq] at h; simp at h
  · rfl
theorem isGo_true {o : Oper} (h : isGo o = true) : ∃ f as ts, o.op = .call { callee := .value f, args := as, argTypes := ts } := by
  unfold isGo at h
  split at h
  · rename_i heq; exact ⟨_, _, _, heq⟩
  · cases h

theorem step_mono {c c' : CallF} (h : LeC c c') {o : Oper} {e : Env} {aid : Nat} {σ : Store} {r : D × Store × Foot} (hr : step P c o e aid σ = some r) : step P c' o e aid σ = some r := by
  cases hg : isGo o with
  | false => rw [step_other hg] at hr ⊢; exact hr
  | true =>
    obtain ⟨f, as, ts, ho⟩ := isGo_true hg
    rw [step_go ho] at hr ⊢
    cases hc : evCallee e { callee := .value f, args := as, argTypes := ts } with
    | none => simp [hc] at hr
    | some q =>
      obtain ⟨g, bs⟩ := q
      simp only [hc] at hr ⊢
      cases hq : c g bs σ with
      | none => simp [hq] at hr
      | some x => rw [hq] at hr; rw [h _ _ _ _ hq]; exact hr
theorem evL_mono {c c' : CallF} (h : LeC c c') {ops : Array Oper} : ∀ {l : List Oper} {aid : Nat} {e : Env} {σ : Store} {r : Env × Store}, evL P c ops l aid e σ = some r → evL P c' ops l aid e σ = some r
  | [], _, _, _, _, hr => hr
  | o :: l, aid, e, σ, r, hr => by
    unfold evL at hr ⊢
    cases hw : wants ops e o with
    | none => simp [hw] at hr
    | some b =>
      cases b with
      | false => simp only [hw] at hr ⊢; exact evL_mono h hr
      | true =>
        simp only [hw] at hr ⊢
        cases hs : step P c o e aid σ with
        | none => simp [hs] at hr
        | some q => obtain ⟨v, σ', ft⟩ := q; rw [hs] at hr; rw [step_mono h hs]; exact evL_mono h hr
theorem feetL_mono {c c' : CallF} (h : LeC c c') {ops : Array Oper} : ∀ {l : List Oper} {aid : Nat} {e : Env} {σ : Store} {r : List Foot}, feetL P c ops l aid e σ = some r → feetL P c' ops l aid e σ = some r
  | [], _, _, _, _, hr => hr
  | o :: l, aid, e, σ, r, hr => by
    unfold feetL at hr ⊢
    cases hw : wants ops e o with
    | none => simp [hw] at hr
    | some b =>
      cases b with
      | false =>
        simp only [hw] at hr ⊢
        obtain ⟨fs, hfs, rfl⟩ := Option.map_eq_some_iff.1 hr
        rw [feetL_mono h hfs]; rfl
      | true =>
        simp only [hw] at hr ⊢
        cases hs : step P c o e aid σ with
        | none => simp [hs] at hr
        | some q =>
          obtain ⟨v, σ', ft⟩ := q
          rw [hs] at hr
          rw [step_mono h hs]
          simp only at hr ⊢
          obtain ⟨fs, hfs, rfl⟩ := Option.map_eq_some_iff.1 hr
          rw [feetL_mono h hfs]; rfl
theorem drawOk_mono {c c' : CallF} (h : LeC c c') {ops : Array Oper} {dr : Bool} {e : Env} {σ : Store} (hr : drawOk P c ops dr e σ = true) : drawOk P c' ops dr e σ = true := by
  unfold drawOk at hr ⊢
  by_cases hb : (dr && !(badPairs ops).isEmpty) = true
  · rw [if_pos hb] at hr ⊢
    cases hf : feetL P c ops ops.toList σ.length e (σ ++ List.replicate (nallocs ops.toList) none) with
    | none => rw [hf] at hr; cases hr
    | some fs => rw [hf] at hr; rw [feetL_mono h hf]; exact hr
  · rw [if_neg hb]
theorem evCode_mono {c c' : CallF} {l l' : LoopF} (h : LeC c c') (hl : LeL l l') : ∀ {x : Code} {e : Env} {σ : Store} {r : Res}, evCode P c l x e σ = some r → evCode P c' l' x e σ = some r := by
  intro x
  induction x with
  | region id ops dr =>
    intro e σ r hr
    unfold evCode at hr ⊢
    by_cases hd : drawOk P c ops dr e σ = true
    case neg => rw [if_neg hd] at hr; cases hr
    rw [if_pos hd] at hr
    rw [if_pos (drawOk_mono h hd)]
    cases hq : evL P c ops ops.toList σ.length e (σ ++ List.replicate (nallocs ops.toList) none) with
    | none => simp [hq] at hr
    | some q => rw [hq] at hr; rw [evL_mono h hq]; exact hr
  | seq a b iha ihb =>
    intro e σ r hr
    unfold evCode at hr ⊢
    cases hq : evCode P c l a e σ with
    | none => simp [hq] at hr
    | some q =>
      obtain ⟨ex, e', σ'⟩ := q
      rw [iha hq]
      rw [hq] at hr
      cases ex with
      | normal => exact ihb hr
      | exit id => exact hr
      | ret => exact hr
  | cond cc a b iha ihb =>
    intro e σ r hr
    unfold evCode at hr ⊢
    split at hr
    · exact iha hr
    · exact ihb hr
    · cases hr
  | block id a ih =>
    intro e σ r hr
    unfold evCode at hr ⊢
    cases hq : evCode P c l a e σ with
    | none => simp [hq] at hr
    | some q => rw [ih hq]; rw [hq] at hr; exact hr
  | loop a _ => intro e σ r hr; unfold evCode at hr ⊢; exact hl _ _ _ _ hr
  | scope a ih => intro e σ r hr; unfold evCode at hr ⊢; exact ih hr
  | _ => intro e σ r hr; first | exact hr | (simp [evCode] at hr)
theorem roundD_mono {c c' : CallF} {l l' : LoopF} (h : LeC c c') (hl : LeL l l') {x : Code} {e : Env} {σ : Store} {r : Res} (hr : roundD P c l x e σ = some r) : roundD P c' l' x e σ = some r := by
  unfold roundD at hr ⊢
  cases hq : evCode P c l x e σ with
  | none => simp [hq] at hr
  | some q =>
    obtain ⟨ex, e', σ'⟩ := q
    rw [evCode_mono h hl hq]
    rw [hq] at hr
    cases ex with
    | normal => exact hl _ _ _ _ hr
    | exit id => exact hr
    | ret => exact hr
theorem bodyD_mono {c c' : CallF} {l l' : LoopF} (h : LeC c c') (hl : LeL l l') {fn : Func} {args : List D} {σ : Store} {r : D × Store} (hr : bodyD P c l fn args σ = some r) : bodyD P c' l' fn args σ = some r := by
  unfold bodyD at hr ⊢
  cases hb : fn.body with
  | none => simp [hb] at hr
  | some b =>
    simp only [hb] at hr ⊢
    cases hq : evCode P c l b (entry args) σ with
    | none => simp [hq] at hr
    | some q => rw [evCode_mono h hl hq]; rw [hq] at hr; exact hr

theorem runN_succ (n : Nat) : LeC (runN P M n).1 (runN P M (n + 1)).1 ∧ LeL (runN P M n).2 (runN P M (n + 1)).2 := by
  induction n with
  | zero => exact ⟨fun f a s r h => by simp [runN] at h, fun c e s r h => by simp [runN] at h⟩
  | succ n ih =>
    obtain ⟨h1, h2⟩ := ih
    constructor
    · intro f a s r h
      rw [runN] at h ⊢
      simp only at h ⊢
      cases hg : M.good f with
      | false => simp [hg] at h
      | true =>
        simp only [hg, if_true] at h ⊢
        cases hf : P.funcs[f]? with
        | none => simp [hf] at h
        | some fn =>
          simp only [hf] at h ⊢
          by_cases hl : a.length = fn.params.size + fn.nfree
          · simp only [hl, if_true] at h ⊢; exact bodyD_mono (callD_mono h1) h2 h
          · simp [hl] at h
    · intro c e s r h
      rw [runN] at h ⊢
      exact roundD_mono (callD_mono h1) h2 h
theorem runN_le {m n : Nat} (h : m ≤ n) : LeC (runN P M m).1 (runN P M n).1 ∧ LeL (runN P M m).2 (runN P M n).2 := by
  induction h with
  | refl => exact ⟨fun _ _ _ _ h => h, fun _ _ _ _ h => h⟩
  | step _ ih => exact ⟨fun f a s r h => (runN_succ _).1 f a s r (ih.1 f a s r h), fun c e s r h => (runN_succ _).2 c e s r (ih.2 c e s r h)⟩

/-! ### the limit -/
open Classical in
noncomputable def run (P : Program) (M : Modes) : CallF := fun f a s => if h : ∃ r n, (runN P M n).1 f a s = some r then some h.choose else none
open Classical in
noncomputable def loopR (P : Program) (M : Modes) : LoopF := fun c e s => if h : ∃ r n, (runN P M n).2 c e s = some r then some h.choose else none
theorem run_iff {f : FuncId} {a : List D} {s : Store} {r : D × Store} : run P M f a s = some r ↔ ∃ n, (runN P M n).1 f a s = some r := by
  unfold run
  constructor
  · intro h
    split at h
    · rename_i hx
      injection h with h
      subst h
      exact hx.choose_spec
    · cases h
  · rintro ⟨n, hn⟩
    have hx : ∃ r n, (runN P M n).1 f a s = some r := ⟨r, n, hn⟩
    rw [dif_pos hx]
    obtain ⟨m, hm⟩ := hx.choose_spec
    have h1 := (runN_le (Nat.le_max_left n m)).1 _ _ _ _ hn
    have h2 := (runN_le (Nat.le_max_right n m)).1 _ _ _ _ hm
    rw [h1] at h2
    injection h2 with h2
    rw [← h2]
theorem loopR_iff {c : Code} {e : Env} {s : Store} {r : Res} : loopR P M c e s = some r ↔ ∃ n, (runN P M n).2 c e s = some r := by
  unfold loopR
  constructor
  · intro h
    split at h
    · rename_i hx
      injection h with h
      subst h
      exact hx.choose_spec
    · cases h
  · rintro ⟨n, hn⟩
    have hx : ∃ r n, (runN P M n).2 c e s = some r := ⟨r, n, hn⟩
    rw [dif_pos hx]
    obtain ⟨m, hm⟩ := hx.choose_spec
    have h1 := (runN_le (Nat.le_max_left n m)).2 _ _ _ _ hn
    have h2 := (runN_le (Nat.le_max_right n m)).2 _ _ _ _ hm
    rw [h1] at h2
    injection h2 with h2
    rw [← h2]
theorem le_run (n : Nat) : LeC (runN P M n).1 (run P M) := fun _ _ _ _ h => run_iff.2 ⟨n, h⟩
theorem le_loopR (n : Nat) : LeL (runN P M n).2 (loopR P M) := fun _ _ _ _ h => loopR_iff.2 ⟨n, h⟩

/-! ### what is come to is come to at some number of rounds -/
theorem callD_cont {f : FuncId} {a : List D} {s : Store} {r : D × Store} (hr : callD M (run P M) f a s = some r) : ∃ n, callD M (runN P M n).1 f a s = some r := by
  unfold callD at hr ⊢
  cases hp : M.prim f with
  | some p => exact ⟨0, by simpa only [hp] using hr⟩
  | none =>
    simp only [hp] at hr ⊢
    cases hm : M.byref f with
    | true =>
      simp only [hm, if_true] at hr ⊢
      split at hr
      · rename_i hro
        obtain ⟨q, hq, he⟩ := Option.bind_eq_some_iff.1 hr
        obtain ⟨n, hn⟩ := run_iff.1 hq
        exact ⟨n, by rw [if_pos hro, hn]; exact he⟩
      · rename_i hro
        obtain ⟨n, hn⟩ := run_iff.1 hr
        exact ⟨n, by rw [if_neg hro]; exact hn⟩
    | false =>
      simp only [hm, Bool.false_eq_true, if_false] at hr ⊢
      by_cases hf : (a.map fun d => (lend s d).1).all D.free = true
      · simp only [hf, if_true] at hr ⊢
        cases hc : run P M f (a.map fun d => (lend s d).1) [] with
        | none => simp [hc] at hr
        | some q => obtain ⟨n, hn⟩ := run_iff.1 hc; rw [hc] at hr; exact ⟨n, by rw [hn]; exact hr⟩
      · simp only [hf, if_false] at hr; cases hr
abbrev CN (P : Program) (M : Modes) (n : Nat) : CallF := callD M (runN P M n).1
noncomputable abbrev CR (P : Program) (M : Modes) : CallF := callD M (run P M)
theorem CN_le {m n : Nat} (h : m ≤ n) : LeC (CN P M m) (CN P M n) := callD_mono (runN_le h).1
theorem step_cont {o : Oper} {e : Env} {aid : Nat} {σ : Store} {r : D × Store × Foot} (hr : step P (CR P M) o e aid σ = some r) : ∃ n, step P (CN P M n) o e aid σ = some r := by
  cases hg : isGo o with
  | false => rw [step_other hg] at hr; exact ⟨0, by rw [step_other hg]; exact hr⟩
  | true =>
    obtain ⟨f, as, ts, ho⟩ := isGo_true hg
    rw [step_go ho] at hr
    cases hc : evCallee e { callee := .value f, args := as, argTypes := ts } with
    | none => simp [hc] at hr
    | some q =>
      obtain ⟨g, bs⟩ := q
      simp only [hc] at hr
      cases hq : CR P M g bs σ with
      | none => simp [hq] at hr
      | some x => obtain ⟨n, hn⟩ := callD_cont hq; rw [hq] at hr; exact ⟨n, by rw [step_go ho, hc]; simp only [CN, hn]; exact hr⟩
theorem evL_cont {ops : Array Oper} : ∀ {l : List Oper} {aid : Nat} {e : Env} {σ : Store} {r : Env × Store}, evL P (CR P M) ops l aid e σ = some r → ∃ n, evL P (CN P M n) ops l aid e σ = some r
  | [], _, _, _, _, hr => ⟨0, hr⟩
  | o :: l, aid, e, σ, r, hr => by
    unfold evL at hr
    cases hw : wants ops e o with
    | none => simp [hw] at hr
    | some b =>
      cases b with
      | false => simp only [hw] at hr; obtain ⟨n, hn⟩ := evL_cont hr; exact ⟨n, by unfold evL; simp only [hw]; exact hn⟩
      | true =>
        simp only [hw] at hr
        cases hs : step P (CR P M) o e aid σ with
        | none => simp [hs] at hr
        | some q =>
          obtain ⟨v, σ', ft⟩ := q
          obtain ⟨n, hn⟩ := step_cont hs
          rw [hs] at hr
          obtain ⟨m, hm⟩ := evL_cont hr
          refine ⟨max n m, ?_⟩
          unfold evL
          simp only [hw, step_mono (CN_le (Nat.le_max_left n m)) hn]
          exact evL_mono (CN_le (Nat.le_max_right n m)) hm
theorem feetL_cont {ops : Array Oper} : ∀ {l : List Oper} {aid : Nat} {e : Env} {σ : Store} {r : List Foot}, feetL P (CR P M) ops l aid e σ = some r → ∃ n, feetL P (CN P M n) ops l aid e σ = some r
  | [], _, _, _, _, hr => ⟨0, hr⟩
  | o :: l, aid, e, σ, r, hr => by
    unfold feetL at hr
    cases hw : wants ops e o with
    | none => simp [hw] at hr
    | some b =>
      cases b with
      | false =>
        simp only [hw] at hr
        obtain ⟨fs, hfs, rfl⟩ := Option.map_eq_some_iff.1 hr
        obtain ⟨n, hn⟩ := feetL_cont hfs
        exact ⟨n, by unfold feetL; simp only [hw]; rw [hn]; rfl⟩
      | true =>
        simp only [hw] at hr
        cases hs : step P (CR P M) o e aid σ with
        | none => simp [hs] at hr
        | some q =>
          obtain ⟨v, σ', ft⟩ := q
          obtain ⟨n, hn⟩ := step_cont hs
          rw [hs] at hr
          simp only at hr
          obtain ⟨fs, hfs, rfl⟩ := Option.map_eq_some_iff.1 hr
          obtain ⟨m, hm⟩ := feetL_cont hfs
          refine ⟨max n m, ?_⟩
          unfold feetL
          simp only [hw, step_mono (CN_le (Nat.le_max_left n m)) hn]
          rw [feetL_mono (CN_le (Nat.le_max_right n m)) hm]; rfl
theorem drawOk_cont {ops : Array Oper} {dr : Bool} {e : Env} {σ : Store} (hr : drawOk P (CR P M) ops dr e σ = true) : ∃ n, drawOk P (CN P M n) ops dr e σ = true := by
  unfold drawOk at hr
  by_cases hb : (dr && !(badPairs ops).isEmpty) = true
  · rw [if_pos hb] at hr
    cases hf : feetL P (CR P M) ops ops.toList σ.length e (σ ++ List.replicate (nallocs ops.toList) none) with
    | none => rw [hf] at hr; cases hr
    | some fs =>
      rw [hf] at hr
      obtain ⟨n, hn⟩ := feetL_cont hf
      exact ⟨n, by unfold drawOk; rw [if_pos hb, hn]; exact hr⟩
  · exact ⟨0, by unfold drawOk; rw [if_neg hb]⟩
theorem evCode_up {m n : Nat} (h : m ≤ n) {x : Code} {e : Env} {σ : Store} {r : Res} (hr : evCode P (CN P M m) (runN P M m).2 x e σ = some r) : evCode P (CN P M n) (runN P M n).2 x e σ = some r :=
  evCode_mono (CN_le h) (runN_le h).2 hr
theorem evCode_cont : ∀ {x : Code} {e : Env} {σ : Store} {r : Res}, evCode P (CR P M) (loopR P M) x e σ = some r → ∃ n, evCode P (CN P M n) (runN P M n).2 x e σ = some r := by
  intro x
  induction x with
  | region id ops dr =>
    intro e σ r hr
    unfold evCode at hr
    by_cases hd : drawOk P (CR P M) ops dr e σ = true
    case neg => rw [if_neg hd] at hr; cases hr
    rw [if_pos hd] at hr
    cases hq : evL P (CR P M) ops ops.toList σ.length e (σ ++ List.replicate (nallocs ops.toList) none) with
    | none => simp [hq] at hr
    | some q =>
      obtain ⟨n, hn⟩ := evL_cont hq
      obtain ⟨m, hm⟩ := drawOk_cont hd
      rw [hq] at hr
      refine ⟨max n m, ?_⟩
      unfold evCode
      rw [if_pos (drawOk_mono (CN_le (Nat.le_max_right n m)) hm), evL_mono (CN_le (Nat.le_max_left n m)) hn]
      exact hr
  | seq a b iha ihb =>
    intro e σ r hr
    unfold evCode at hr
    cases hq : evCode P (CR P M) (loopR P M) a e σ with
    | none => simp [hq] at hr
    | some q =>
      obtain ⟨ex, e', σ'⟩ := q
      obtain ⟨n, hn⟩ := iha hq
      rw [hq] at hr
      cases ex with
      | normal =>
        obtain ⟨m, hm⟩ := ihb hr
        refine ⟨max n m, ?_⟩
        unfold evCode
        rw [evCode_up (Nat.le_max_left n m) hn]
        exact evCode_up (Nat.le_max_right n m) hm
      | exit id => exact ⟨n, by unfold evCode; rw [hn]; exact hr⟩
      | ret => exact ⟨n, by unfold evCode; rw [hn]; exact hr⟩
  | cond cc a b iha ihb =>
    intro e σ r hr
    unfold evCode at hr
    split at hr
    · rename_i h; obtain ⟨n, hn⟩ := iha hr; exact ⟨n, by unfold evCode; rw [h]; exact hn⟩
    · rename_i h; obtain ⟨n, hn⟩ := ihb hr; exact ⟨n, by unfold evCode; rw [h]; exact hn⟩
    · cases hr
  | block id a ih =>
    intro e σ r hr
    unfold evCode at hr
    cases hq : evCode P (CR P M) (loopR P M) a e σ with
    | none => simp [hq] at hr
    | some q => obtain ⟨n, hn⟩ := ih hq; rw [hq] at hr; exact ⟨n, by unfold evCode; rw [hn]; exact hr⟩
  | loop a _ => intro e σ r hr; unfold evCode at hr; obtain ⟨n, hn⟩ := loopR_iff.1 hr; exact ⟨n, by unfold evCode; exact hn⟩
  | scope a ih => intro e σ r hr; unfold evCode at hr; obtain ⟨n, hn⟩ := ih hr; exact ⟨n, by unfold evCode; exact hn⟩
  | _ => intro e σ r hr; first | exact ⟨0, hr⟩ | (simp [evCode] at hr)

/-! ### the equations -/
theorem opt_ext {α : Type} {a b : Option α} (h1 : ∀ r, a = some r → b = some r) (h2 : ∀ r, b = some r → a = some r) : a = b := by
  cases a with
  | some x => exact (h1 x rfl).symm
  | none => cases b with
    | none => rfl
    | some y => exact h2 y rfl
theorem run_eq {f : FuncId} {fn : Func} (hg : M.good f = true) (hf : P.funcs[f]? = some fn) {args : List D} (hl : args.length = fn.params.size + fn.nfree) (σ : Store) :
    run P M f args σ = bodyD P (CR P M) (loopR P M) fn args σ := by
  apply opt_ext
  · intro r hr
    obtain ⟨n, hn⟩ := run_iff.1 hr
    cases n with
    | zero => simp [runN] at hn
    | succ n =>
      rw [runN] at hn
      simp only [hg, if_true, hf, hl] at hn
      exact bodyD_mono (callD_mono (le_run n)) (le_loopR n) hn
  · intro r hr
    unfold bodyD at hr
    cases hb : fn.body with
    | none => simp [hb] at hr
    | some b =>
      simp only [hb] at hr
      cases hq : evCode P (CR P M) (loopR P M) b (entry args) σ with
      | none => simp [hq] at hr
      | some q =>
        obtain ⟨n, hn⟩ := evCode_cont hq
        refine run_iff.2 ⟨n + 1, ?_⟩
        rw [runN]
        simp only [hg, if_true, hf, hl]
        unfold bodyD
        simp only [hb]
        rw [hq] at hr
        rw [show callD M (runN P M n).1 = CN P M n from rfl, hn]
        exact hr
theorem loop_eq (c : Code) (e : Env) (σ : Store) : loopR P M c e σ = roundD P (CR P M) (loopR P M) c e σ := by
  apply opt_ext
  · intro r hr
    obtain ⟨n, hn⟩ := loopR_iff.1 hr
    cases n with
    | zero => simp [runN] at hn
    | succ n =>
      rw [runN] at hn
      exact roundD_mono (callD_mono (le_run n)) (le_loopR n) hn
  · intro r hr
    unfold roundD at hr
    cases hq : evCode P (CR P M) (loopR P M) c e σ with
    | none => simp [hq] at hr
    | some q =>
      obtain ⟨ex, e', σ'⟩ := q
      obtain ⟨n, hn⟩ := evCode_cont hq
      rw [hq] at hr
      cases ex with
      | normal =>
        obtain ⟨m, hm⟩ := loopR_iff.1 hr
        refine loopR_iff.2 ⟨max n m + 1, ?_⟩
        rw [runN]
        show roundD P (CN P M (max n m)) (runN P M (max n m)).2 c e σ = some r
        unfold roundD
        rw [evCode_up (Nat.le_max_left n m) hn]
        exact (runN_le (Nat.le_max_right n m)).2 _ _ _ _ hm
      | exit id => exact loopR_iff.2 ⟨n + 1, by rw [runN]; show roundD P (CN P M n) (runN P M n).2 c e σ = some r; unfold roundD; rw [hn]; exact hr⟩
      | ret => exact loopR_iff.2 ⟨n + 1, by rw [runN]; show roundD P (CN P M n) (runN P M n).2 c e σ = some r; unfold roundD; rw [hn]; exact hr⟩

end Go.Proofs.Ytfclelafcdcilaa.Dv
/- What the evaluator's values and store say of the machine's. -/
set_option linter.unusedVariables false
set_option linter.unusedSimpArgs false
namespace Go.Proofs.Ytfclelafcdcilaa.Dv
open Go

/-- C: blocks that are never written any more; A: the store's places that are taken; their blocks, the cells of an element, the cells of the block. -/
structure Ctx where
  C : Nat → Prop
  A : Nat → Prop
  ρ : Nat → Nat
  ez : Nat → Nat
  bs : Nat → Nat
def adr (Γ : Ctx) (id i j : Nat) : Addr := ⟨Γ.ρ id, i * Γ.ez id + j, none⟩
def atom (Γ : Ctx) : D → Value → Prop
  | .undef, v => v = Go.undef
  | .any, _ => True
  | .bool b, v => v = .bool b
  | .int k n, v => v = .int k n
  | .str s, v => v = .string s
  | .nilp, v => v = .pointer none
  | .nilfn, v => v = .nilFunc
  | .nilmp, v => v = .map none
  | .junk, v => v.oneCell' = true
  | .nsl true, v => ∃ c, v = .slice none 0 c ∧ c ≤ maxLen
  | .nsl false, v => ∃ a c, v = .slice (some a) 0 c ∧ c ≤ maxLen
  | .mp id, v => Γ.A id ∧ v = .map (some (Γ.ρ id))
  | .ptr id i j, v => Γ.A id ∧ v = .pointer (some (adr Γ id i j))
  | .ms id off len cap ex, v => Γ.A id ∧ ∃ a c, v = .slice a len c ∧ len ≤ c ∧ cap ≤ c ∧ (ex = true → c = cap) ∧ (c = 0 ∨ a = some (adr Γ id off 0)) ∧ (off + c) * Γ.ez id ≤ Γ.bs id ∧ c ≤ maxLen
  | _, _ => False
/-- none: each value by itself; some sz: elements of so many cells, one behind the other. -/
inductive R (Γ : Ctx) (w : World) : Option Nat → List D → List Value → Prop
  | nil (m : Option Nat) : R Γ w m [] []
  | atom {d : D} {v : Value} {ds : List D} {vs : List Value} (h : atom Γ d v) (t : R Γ w none ds vs) : R Γ w none (d :: ds) (v :: vs)
  | agg {es ds : List D} {us vs : List Value} (h : R Γ w none es us) (hl : es.all D.leaf = true) (t : R Γ w none ds vs) : R Γ w none (.agg es :: ds) (.agg us.toArray :: vs)
  | tup {es ds : List D} {us vs : List Value} (h : R Γ w none es us) (t : R Γ w none ds vs) : R Γ w none (.tup es :: ds) (.tuple us.toArray :: vs)
  | fn {f : FuncId} {fs cs ds : List D} {us ws vs : List Value} (h1 : R Γ w none fs us) (h2 : R Γ w none cs ws) (t : R Γ w none ds vs) : R Γ w none (.fn f fs cs :: ds) (.func (.func f) us.toArray ws.toArray :: vs)
  | sl {full : Bool} {xs ds : List D} {us vs : List Value} {a : Option Addr} {c sz : Nat} (hp : xs.all D.pure = true) (hn : xs.length ≤ c) (hc : c ≤ maxLen) (hf : full = true → c = xs.length) (h : R Γ w (some sz) xs us) (hz : 0 < sz)
      (ha : xs ≠ [] → ∃ b o, a = some ⟨b, o, none⟩ ∧ Γ.C b ∧ ∀ k u, us[k]? = some u → w.cell? ⟨b, o + k, none⟩ = some u) (t : R Γ w none ds vs) : R Γ w none (.sl full xs :: ds) (.slice a xs.length c :: vs)
  | cpt {x : D} {j : Nat} {ds : List D} {us vs : List Value} {b o : Nat} (hp : x.pure = true) (he : x.elem = true) (h : R Γ w none x.cells us) (hC : Γ.C b) (ha : ∀ k u, us[k]? = some u → w.cell? ⟨b, o + k, none⟩ = some u) (t : R Γ w none ds vs) :
      R Γ w none (.cpt x j :: ds) (.pointer (some ⟨b, o + j, none⟩) :: vs)
  | elem {sz : Nat} {x : D} {xs : List D} {us vs : List Value} (hx : x.elem = true) (h : R Γ w none x.cells us) (hl : us.length = sz) (t : R Γ w (some sz) xs vs) : R Γ w (some sz) (x :: xs) (us ++ vs)
abbrev R1 (Γ : Ctx) (w : World) (d : D) (v : Value) : Prop := R Γ w none [d] [v]

section
variable {Γ Γ' : Ctx} {w w' : World}
theorem R.length {ds : List D} {vs : List Value} (h : R Γ w none ds vs) : ds.length = vs.length := by
  generalize hm : (none : Option Nat) = m at h
  induction h <;> simp_all
theorem R.lengthE {sz : Nat} {xs : List D} {us : List Value} (h : R Γ w (some sz) xs us) : us.length = xs.length * sz := by
  generalize hm : (some sz : Option Nat) = m at h
  induction h with
  | nil m => simp
  | elem hx h hl t ih1 ih2 => injection hm with hm; subst hm; simp [hl, ih2 rfl, Nat.add_mul]; omega
  | _ => cases hm
theorem R.cons_inv {d : D} {ds : List D} {vs : List Value} (h : R Γ w none (d :: ds) vs) : ∃ v vs', vs = v :: vs' ∧ R1 Γ w d v ∧ R Γ w none ds vs' := by
  cases h with
  | atom h t => exact ⟨_, _, rfl, .atom h (.nil _), t⟩
  | agg h hl t => exact ⟨_, _, rfl, .agg h hl (.nil _), t⟩
  | tup h t => exact ⟨_, _, rfl, .tup h (.nil _), t⟩
  | fn h1 h2 t => exact ⟨_, _, rfl, .fn h1 h2 (.nil _), t⟩
  | sl hp hn hc hf h hz ha t => exact ⟨_, _, rfl, .sl hp hn hc hf h hz ha (.nil _), t⟩
  | cpt hp he h hC ha t => exact ⟨_, _, rfl, .cpt hp he h hC ha (.nil _), t⟩
theorem R.cons {d : D} {v : Value} {ds : List D} {vs : List Value} (h : R1 Γ w d v) (t : R Γ w none ds vs) : R Γ w none (d :: ds) (v :: vs) := by
  cases h with
  | atom h _ => exact .atom h t
  | agg h hl _ => exact .agg h hl t
  | tup h _ => exact .tup h t
  | fn h1 h2 _ => exact .fn h1 h2 t
  | sl hp hn hc hf h hz ha _ => exact .sl hp hn hc hf h hz ha t
  | cpt hp he h hC ha _ => exact .cpt hp he h hC ha t
theorem R.nil_inv {vs : List Value} {m : Option Nat} (h : R Γ w m [] vs) : vs = [] := by cases h; rfl
theorem R.append {ds es : List D} : ∀ {vs us : List Value}, R Γ w none ds vs → R Γ w none es us → R Γ w none (ds ++ es) (vs ++ us) := by
  induction ds with
  | nil => intro vs us h k; rw [h.nil_inv]; exact k
  | cons d ds ih => intro vs us h k; obtain ⟨v, vs', rfl, h1, h2⟩ := h.cons_inv; exact R.cons h1 (ih h2 k)
theorem R.get {ds : List D} : ∀ {vs : List Value} {i : Nat} {d : D}, R Γ w none ds vs → ds[i]? = some d → ∃ v, vs[i]? = some v ∧ R1 Γ w d v := by
  induction ds with
  | nil => intro vs i d _ h; simp at h
  | cons x ds ih =>
    intro vs i d h hd
    obtain ⟨v, vs', rfl, h1, h2⟩ := h.cons_inv
    cases i with
    | zero => simp at hd; subst hd; exact ⟨v, rfl, h1⟩
    | succ i => simpa using ih h2 (by simpa using hd)
theorem R.of_get {ds : List D} : ∀ {vs : List Value}, ds.length = vs.length → (∀ (i : Nat) (d : D) (v : Value), ds[i]? = some d → vs[i]? = some v → R1 Γ w d v) → R Γ w none ds vs := by
  induction ds with
  | nil => intro vs hl _; cases vs with
    | nil => exact .nil _
    | cons _ _ => simp at hl
  | cons x ds ih =>
    intro vs hl h
    cases vs with
    | nil => simp at hl
    | cons v vs => exact R.cons (h 0 x v rfl rfl) (ih (by simpa using hl) fun i d u hd hu => h (i + 1) d u (by simpa using hd) (by simpa using hu))
theorem R.take {ds : List D} {vs : List Value} (h : R Γ w none ds vs) (n : Nat) : R Γ w none (ds.take n) (vs.take n) := by
  refine .of_get (by simp [h.length]) fun i d v hd hv => ?_
  rw [List.getElem?_take] at hd hv
  split at hd
  · rename_i hlt
    rw [if_pos hlt] at hv
    obtain ⟨u, hu, hr⟩ := h.get hd
    rw [hv] at hu
    injection hu with hu
    exact hu ▸ hr
  · cases hd
theorem R.drop {ds : List D} {vs : List Value} (h : R Γ w none ds vs) (n : Nat) : R Γ w none (ds.drop n) (vs.drop n) := by
  refine .of_get (by simp [h.length]) fun i d v hd hv => ?_
  rw [List.getElem?_drop] at hd hv
  obtain ⟨u, hu, hr⟩ := h.get hd
  rw [hv] at hu
  injection hu with hu
  exact hu ▸ hr
/-- What a value is: by its kind. -/
def isAtom : D → Bool
  | .agg _ | .tup _ | .fn .. | .sl .. | .cpt .. => false
  | _ => true
theorem R1.atom_iff {d : D} {v : Value} (hd : isAtom d = true) : R1 Γ w d v ↔ Dv.atom Γ d v := by
  constructor
  · intro h
    cases h with
    | atom h _ => exact h
    | _ => cases hd
  · exact fun h => .atom h (.nil _)
theorem R1.int {k : IntKind} {n : Int} {v : Value} : R1 Γ w (.int k n) v ↔ v = .int k n := R1.atom_iff rfl
theorem R1.bool {b : Bool} {v : Value} : R1 Γ w (.bool b) v ↔ v = .bool b := R1.atom_iff rfl
theorem R1.str {s : ByteArray} {v : Value} : R1 Γ w (.str s) v ↔ v = .string s := R1.atom_iff rfl
theorem R1.undef {v : Value} : R1 Γ w .undef v ↔ v = Go.undef := R1.atom_iff rfl
theorem R1.any {v : Value} : R1 Γ w .any v := (R1.atom_iff rfl).2 trivial
theorem R1.nilp {v : Value} : R1 Γ w .nilp v ↔ v = .pointer none := R1.atom_iff rfl
theorem R1.nilfn {v : Value} : R1 Γ w .nilfn v ↔ v = .nilFunc := R1.atom_iff rfl
theorem R1.ptr {id i j : Nat} {v : Value} : R1 Γ w (.ptr id i j) v ↔ Γ.A id ∧ v = .pointer (some (adr Γ id i j)) := R1.atom_iff rfl
theorem R1.ms {id off len cap : Nat} {ex : Bool} {v : Value} : R1 Γ w (.ms id off len cap ex) v ↔ Γ.A id ∧ ∃ a c, v = .slice a len c ∧ len ≤ c ∧ cap ≤ c ∧ (ex = true → c = cap) ∧ (c = 0 ∨ a = some (adr Γ id off 0)) ∧ (off + c) * Γ.ez id ≤ Γ.bs id ∧ c ≤ maxLen := R1.atom_iff rfl
theorem R1.agg {es : List D} {v : Value} : R1 Γ w (.agg es) v ↔ ∃ us, v = .agg us.toArray ∧ R Γ w none es us ∧ es.all D.leaf = true := by
  constructor
  · intro h
    cases h with
    | agg h hl _ => exact ⟨_, rfl, h, hl⟩
    | atom h _ => exact h.elim
  · rintro ⟨us, rfl, h, hl⟩; exact R.agg h hl (.nil _)
theorem R1.tup {es : List D} {v : Value} : R1 Γ w (.tup es) v ↔ ∃ us, v = .tuple us.toArray ∧ R Γ w none es us := by
  constructor
  · intro h
    cases h with
    | tup h _ => exact ⟨_, rfl, h⟩
    | atom h _ => exact h.elim
  · rintro ⟨us, rfl, h⟩; exact R.tup h (.nil _)
theorem R1.fn {f : FuncId} {fs cs : List D} {v : Value} : R1 Γ w (.fn f fs cs) v ↔ ∃ us ws, v = .func (.func f) us.toArray ws.toArray ∧ R Γ w none fs us ∧ R Γ w none cs ws := by
  constructor
  · intro h
    cases h with
    | fn h1 h2 _ => exact ⟨_, _, rfl, h1, h2⟩
    | atom h _ => exact h.elim
  · rintro ⟨us, ws, rfl, h1, h2⟩; exact R.fn h1 h2 (.nil _)
def SlR (Γ : Ctx) (w : World) (full : Bool) (xs : List D) (v : Value) : Prop :=
  ∃ a c sz us, v = .slice a xs.length c ∧ xs.all D.pure = true ∧ xs.length ≤ c ∧ c ≤ maxLen ∧ (full = true → c = xs.length) ∧ R Γ w (some sz) xs us ∧ 0 < sz ∧
    (xs ≠ [] → ∃ b o, a = some ⟨b, o, none⟩ ∧ Γ.C b ∧ ∀ k u, us[k]? = some u → w.cell? ⟨b, o + k, none⟩ = some u)
theorem R1.sl {full : Bool} {xs : List D} {v : Value} : R1 Γ w (.sl full xs) v ↔ SlR Γ w full xs v := by
  constructor
  · intro h
    cases h with
    | sl hp hn hc hf h hz ha _ => exact ⟨_, _, _, _, rfl, hp, hn, hc, hf, h, hz, ha⟩
    | atom h _ => exact h.elim
  · rintro ⟨a, c, sz, us, rfl, hp, hn, hc, hf, h, hz, ha⟩; exact R.sl hp hn hc hf h hz ha (.nil _)
def CptR (Γ : Ctx) (w : World) (x : D) (j : Nat) (v : Value) : Prop :=
  ∃ us b o, v = .pointer (some ⟨b, o + j, none⟩) ∧ x.pure = true ∧ x.elem = true ∧ R Γ w none x.cells us ∧ Γ.C b ∧ ∀ k u, us[k]? = some u → w.cell? ⟨b, o + k, none⟩ = some u
theorem R1.cpt {x : D} {j : Nat} {v : Value} : R1 Γ w (.cpt x j) v ↔ CptR Γ w x j v := by
  constructor
  · intro h
    cases h with
    | cpt hp he h hC ha _ => exact ⟨_, _, _, rfl, hp, he, h, hC, ha⟩
    | atom h _ => exact h.elim
  · rintro ⟨us, b, o, rfl, hp, he, h, hC, ha⟩; exact R.cpt hp he h hC ha (.nil _)

theorem R1.oneCell {d : D} {v : Value} (h : R1 Γ w d v) (hl : d.leaf = true) : v.oneCell' = true := by
  cases h with
  | atom h _ =>
    cases d <;> simp only [D.leaf, Bool.false_eq_true] at hl <;> simp only [Dv.atom] at h
    case ms => obtain ⟨_, a, c, rfl, _⟩ := h; rfl
    case junk => exact h
    all_goals first | (subst h; rfl) | (obtain ⟨_, rfl⟩ := h; rfl) | exact h.elim
  | agg => cases hl
  | tup => cases hl
  | fn => rfl
  | sl => rfl
  | cpt => rfl
theorem cells_of_one {v : Value} (h : v.oneCell' = true) : v.cells = #[v] := by
  cases v <;> first | rfl | (simp [Value.oneCell'] at h)
/-- A value and its cells. -/
theorem R1.cells {d : D} {v : Value} (h : R1 Γ w d v) (he : d.elem = true) : R Γ w none d.cells v.cells.toList := by
  cases d with
  | agg es => obtain ⟨us, rfl, h, _⟩ := R1.agg.1 h; simpa [D.cells, Value.cells] using h
  | _ => rw [cells_of_one (h.oneCell he)]; exact h
theorem R1.cells_size {d : D} {v : Value} (h : R1 Γ w d v) (he : d.elem = true) : v.cells.size = d.cells.length := by
  have := (h.cells he).length
  simp at this
  omega
theorem all_oneCell {ds : List D} : ∀ {us : List Value}, R Γ w none ds us → ds.all D.leaf = true → ∀ u ∈ us, u.oneCell' = true := by
  induction ds with
  | nil => intro us h _ u hu; rw [h.nil_inv] at hu; cases hu
  | cons d ds ih =>
    intro us h hl u hu
    obtain ⟨v, vs, rfl, h1, h2⟩ := h.cons_inv
    simp only [List.all_cons, Bool.and_eq_true] at hl
    cases hu with
    | head => exact h1.oneCell hl.1
    | tail _ hu => exact ih h2 hl.2 u hu
theorem elem_cells {x : D} (h : x.elem = true) : x.cells.all D.leaf = true := by
  cases x <;> simp_all [D.elem, D.cells]

/-! ### rows -/
theorem R.consE_inv {sz : Nat} {x : D} {xs : List D} {us : List Value} (h : R Γ w (some sz) (x :: xs) us) : ∃ vs ws, us = vs ++ ws ∧ x.elem = true ∧ R Γ w none x.cells vs ∧ vs.length = sz ∧ R Γ w (some sz) xs ws := by
  cases h with
  | elem hx h hl t => exact ⟨_, _, rfl, hx, h, hl, t⟩
theorem R.appendE {sz : Nat} {xs ys : List D} : ∀ {us vs : List Value}, R Γ w (some sz) xs us → R Γ w (some sz) ys vs → R Γ w (some sz) (xs ++ ys) (us ++ vs) := by
  induction xs with
  | nil => intro us vs h k; rw [h.nil_inv]; exact k
  | cons x xs ih =>
    intro us vs h k
    obtain ⟨a, b, rfl, hx, h1, hl, h2⟩ := h.consE_inv
    rw [List.cons_append, List.append_assoc]
    exact .elem hx h1 hl (ih h2 k)
theorem R.splitE {sz : Nat} {xs ys : List D} : ∀ {us : List Value}, R Γ w (some sz) (xs ++ ys) us → ∃ a b, us = a ++ b ∧ R Γ w (some sz) xs a ∧ R Γ w (some sz) ys b := by
  induction xs with
  | nil => intro us h; exact ⟨[], us, rfl, .nil _, h⟩
  | cons x xs ih =>
    intro us h
    obtain ⟨a, b, rfl, hx, h1, hl, h2⟩ := R.consE_inv (by simpa using h)
    obtain ⟨c, d, rfl, h3, h4⟩ := ih h2
    exact ⟨a ++ c, d, by simp, .elem hx h1 hl h3, h4⟩
theorem R.takeE {sz : Nat} {xs : List D} {us : List Value} (h : R Γ w (some sz) xs us) (n : Nat) (hn : n ≤ xs.length) : R Γ w (some sz) (xs.take n) (us.take (n * sz)) ∧ R Γ w (some sz) (xs.drop n) (us.drop (n * sz)) := by
  rw [← List.take_append_drop n xs] at h
  obtain ⟨a, b, rfl, h1, h2⟩ := h.splitE
  have hl := h1.lengthE
  have hl' : a.length = n * sz := by rw [hl, List.length_take, Nat.min_eq_left hn]
  rw [← hl', List.take_left, List.drop_left]
  exact ⟨h1, h2⟩
theorem R.getE {sz : Nat} {xs : List D} {us : List Value} (h : R Γ w (some sz) xs us) {i : Nat} {x : D} (hx : xs[i]? = some x) :
    x.elem = true ∧ x.cells.length = sz ∧ R Γ w none x.cells ((us.drop (i * sz)).take sz) := by
  have hi : i < xs.length := (List.getElem?_eq_some_iff.1 hx).1
  have h2 := (h.takeE i (by omega)).2
  have hd : xs.drop i = x :: xs.drop (i + 1) := by
    rw [List.drop_eq_getElem_cons hi]
    simp [(List.getElem?_eq_some_iff.1 hx).2]
  rw [hd] at h2
  obtain ⟨a, b, e, he, h3, hl, h4⟩ := h2.consE_inv
  rw [e, ← hl, List.take_left]
  exact ⟨he, by rw [h3.length], h3⟩
theorem R.setE {sz : Nat} {xs : List D} {us : List Value} (h : R Γ w (some sz) xs us) {i : Nat} {x : D} {vs : List Value} (hi : i < xs.length) (hx : x.elem = true) (hv : R Γ w none x.cells vs) (hl : vs.length = sz) :
    R Γ w (some sz) (xs.set i x) (us.take (i * sz) ++ vs ++ us.drop (i * sz + sz)) := by
  have h1 := (h.takeE i (by omega)).1
  have h2 := (h.takeE (i + 1) (by omega)).2
  have he : xs.set i x = xs.take i ++ x :: xs.drop (i + 1) := by rw [List.set_eq_take_append_cons_drop, if_pos hi]
  rw [he, List.append_assoc]
  refine h1.appendE (.elem hx hv hl ?_)
  rw [Nat.add_mul, Nat.one_mul] at h2
  exact h2
theorem R.replicateE {sz : Nat} {x : D} {vs : List Value} (hx : x.elem = true) (hv : R Γ w none x.cells vs) (hl : vs.length = sz) : ∀ n, R Γ w (some sz) (List.replicate n x) (List.replicate n vs).flatten
  | 0 => .nil _
  | n + 1 => by
    rw [List.replicate_succ, List.replicate_succ, List.flatten_cons]
    exact .elem hx hv hl (replicateE hx hv hl n)
theorem R.elemE {sz : Nat} {xs : List D} : ∀ {us : List Value}, R Γ w (some sz) xs us → (∀ x ∈ xs, x.elem = true ∧ x.cells.length = sz) ∧ ∀ u ∈ us, u.oneCell' = true := by
  induction xs with
  | nil => intro us h; rw [h.nil_inv]; simp
  | cons x xs ih =>
    intro us h
    obtain ⟨a, b, rfl, hx, h1, hl, h2⟩ := h.consE_inv
    obtain ⟨k1, k2⟩ := ih h2
    refine ⟨fun y hy => ?_, fun u hu => ?_⟩
    · cases hy with
      | head => exact ⟨hx, by rw [h1.length, hl]⟩
      | tail _ hy => exact k1 y hy
    · rcases List.mem_append.1 hu with hu | hu
      · exact all_oneCell h1 (elem_cells hx) u hu
      · exact k2 u hu

/-! ### the relation goes along -/
structure Agree (Γ Γ' : Ctx) : Prop where
  C : ∀ b, Γ.C b → Γ'.C b
  A : ∀ id, Γ.A id → Γ'.A id
  ρ : ∀ id, Γ.A id → Γ'.ρ id = Γ.ρ id
  ez : ∀ id, Γ.A id → Γ'.ez id = Γ.ez id
  bs : ∀ id, Γ.A id → Γ'.bs id = Γ.bs id
theorem Agree.refl (Γ : Ctx) : Agree Γ Γ := ⟨fun _ h => h, fun _ h => h, fun _ _ => rfl, fun _ _ => rfl, fun _ _ => rfl⟩
theorem Agree.trans {Γ'' : Ctx} (h : Agree Γ Γ') (k : Agree Γ' Γ'') : Agree Γ Γ'' :=
  ⟨fun b hb => k.C b (h.C b hb), fun i hi => k.A i (h.A i hi), fun i hi => (k.ρ i (h.A i hi)).trans (h.ρ i hi), fun i hi => (k.ez i (h.A i hi)).trans (h.ez i hi), fun i hi => (k.bs i (h.A i hi)).trans (h.bs i hi)⟩
theorem Agree.adr (h : Agree Γ Γ') {id i j : Nat} (hA : Γ.A id) : adr Γ' id i j = adr Γ id i j := by simp [Dv.adr, h.ρ id hA, h.ez id hA]
theorem atom_mono (h : Agree Γ Γ') {d : D} {v : Value} (hd : atom Γ d v) : atom Γ' d v := by
  cases d <;> simp only [atom] at hd ⊢ <;> try exact hd
  case nsl b => cases b <;> exact hd
  case ms id off len cap ex =>
    obtain ⟨hA, a, c, hv, h1, h2, h3, h4, h5, h6⟩ := hd
    exact ⟨h.A _ hA, a, c, hv, h1, h2, h3, by rw [h.adr hA]; exact h4, by rw [h.ez _ hA, h.bs _ hA]; exact h5, h6⟩
  case ptr id i j => exact ⟨h.A _ hd.1, by rw [h.adr hd.1]; exact hd.2⟩
  case mp id => exact ⟨h.A _ hd.1, by rw [h.ρ _ hd.1]; exact hd.2⟩
/-- The blocks of C are as they were. -/
def SameC (Γ : Ctx) (w w' : World) : Prop := ∀ b, Γ.C b → w'.heap[b]? = w.heap[b]?
theorem SameC.cell (h : SameC Γ w w') {b o : Nat} (hb : Γ.C b) : w'.cell? ⟨b, o, none⟩ = w.cell? ⟨b, o, none⟩ := World.cell?_of_block (h b hb)
theorem R.mono (ha : Agree Γ Γ') (hs : SameC Γ w w') {m : Option Nat} {ds : List D} {vs : List Value} (h : R Γ w m ds vs) : R Γ' w' m ds vs := by
  induction h with
  | nil m => exact .nil m
  | atom h _ ih => exact .atom (atom_mono ha h) ih
  | agg _ hl _ ih1 ih2 => exact .agg ih1 hl ih2
  | tup _ _ ih1 ih2 => exact .tup ih1 ih2
  | fn _ _ _ ih1 ih2 ih3 => exact .fn ih1 ih2 ih3
  | sl hp hn hc hf _ hz had _ ih1 ih2 =>
    refine .sl hp hn hc hf ih1 hz (fun hne => ?_) ih2
    obtain ⟨b, o, e, hC, hk⟩ := had hne
    exact ⟨b, o, e, ha.C b hC, fun k u hu => (hs.cell hC).trans (hk k u hu)⟩
  | cpt hp he _ hC hk _ ih1 ih2 => exact .cpt hp he ih1 (ha.C _ hC) (fun k u hu => (hs.cell hC).trans (hk k u hu)) ih2
  | elem hx _ hl _ ih1 ih2 => exact .elem hx ih1 hl ih2
/-- Data hangs on C alone. -/
def freeM : Option Nat → D → Bool
  | none, d => d.free
  | some _, d => d.pure
theorem pleaf_free {d : D} (h : d.pleaf = true) : d.free = true := by cases d <;> first | (exact h) | (cases h)
theorem pure_cells {x : D} (h : x.pure = true) : x.cells.all D.free = true := by
  cases x with
  | agg ds => simp only [D.pure, List.all_eq_true] at h; simp only [D.cells, List.all_eq_true]; exact fun d hd => pleaf_free (h d hd)
  | fn => cases h
  | _ => simp_all [D.pure, D.cells, D.free]
theorem free_agg {es : List D} (h : (D.agg es).free = true) : es.all D.free = true := by
  simp only [D.free, D.pure, List.all_eq_true] at h ⊢
  exact fun d hd => pleaf_free (h d hd)
theorem atom_free {d : D} {v : Value} (hd : d.free = true) (h : atom Γ d v) : atom Γ' d v := by
  cases d <;> simp_all [D.free, D.pure, D.pleaf, atom]
theorem R.free (hC : ∀ b, Γ.C b → Γ'.C b) (hs : SameC Γ w w') {m : Option Nat} {ds : List D} {vs : List Value} (h : R Γ w m ds vs) (hd : ds.all (freeM m) = true) : R Γ' w' m ds vs := by
  induction h with
  | nil m => exact .nil m
  | atom h _ ih => simp only [List.all_cons, Bool.and_eq_true] at hd; exact .atom (atom_free hd.1 h) (ih hd.2)
  | agg _ hl _ ih1 ih2 => simp only [List.all_cons, Bool.and_eq_true] at hd; exact .agg (ih1 (free_agg hd.1)) hl (ih2 hd.2)
  | tup _ _ ih1 ih2 => simp [freeM, D.free, D.pure, D.pleaf] at hd
  | fn _ _ _ ih1 ih2 ih3 =>
    simp only [List.all_cons, Bool.and_eq_true, freeM, D.free, List.isEmpty_iff] at hd
    obtain ⟨⟨rfl, rfl⟩, h3⟩ := hd
    exact .fn (ih1 rfl) (ih2 rfl) (ih3 h3)
  | sl hp hn hc hf _ hz had _ ih1 ih2 =>
    simp only [List.all_cons, Bool.and_eq_true] at hd
    refine .sl hp hn hc hf (ih1 hp) hz (fun hne => ?_) (ih2 hd.2)
    obtain ⟨b, o, e, hb, hk⟩ := had hne
    exact ⟨b, o, e, hC b hb, fun k u hu => (hs.cell hb).trans (hk k u hu)⟩
  | cpt hp he _ hb hk _ ih1 ih2 => simp [freeM, D.free, D.pure, D.pleaf] at hd
  | elem hx _ hl _ ih1 ih2 =>
    simp only [List.all_cons, Bool.and_eq_true] at hd
    exact .elem hx (ih1 (pure_cells hd.1)) hl (ih2 hd.2)

/-! ### the store -/
def Own (Γ : Ctx) (σ : Store) (b : Nat) : Prop := ∃ id e xs, σ.obj id = some (.row .own e xs) ∧ Γ.ρ id = b
/-- A row's elements, and what lies behind them: some cells. -/
structure RE (Γ : Ctx) (w : World) (esz : Nat) (xs : List D) (us rest : List Value) : Prop where
  r : R Γ w (some esz) xs us
  one : ∀ u ∈ rest, u.oneCell' = true
theorem RE.mono {esz : Nat} {xs : List D} {us rest : List Value} (h : RE Γ w esz xs us rest) (ha : Agree Γ Γ') (hc : SameC Γ w w') : RE Γ' w' esz xs us rest := ⟨h.r.mono ha hc, h.one⟩
def RowR (Γ : Ctx) (w : World) (id : Nat) (esz : Nat) (xs : List D) : Prop :=
  esz = Γ.ez id ∧ 0 < esz ∧ ∃ c e us rest, w.heap[Γ.ρ id]? = some (.cells c e (0, 0)) ∧ c.size = Γ.bs id ∧ c.toList = us ++ rest ∧ RE Γ w esz xs us rest
structure SR (Γ : Ctx) (σ : Store) (w : World) : Prop where
  row : ∀ id st esz xs, σ.obj id = some (.row st esz xs) → RowR Γ w id esz xs ∧ (st = .own → ¬ Γ.C (Γ.ρ id)) ∧ (st = .cst → Γ.C (Γ.ρ id))
  nomap : ∀ id st kvs, σ.obj id ≠ some (.map st kvs)
  inj : ∀ id id' o o', σ.obj id = some o → σ.obj id' = some o' → Γ.ρ id = Γ.ρ id' → id = id'
  live : ∀ id o, σ.obj id = some o → Γ.A id
  old : ∀ b, Γ.C b → b < w.heap.size
  below : ∀ id, Γ.A id → id < σ.length
/-- From one state to a later one. -/
structure Tr (Γ : Ctx) (σ : Store) (w : World) (Γ' : Ctx) (σ' : Store) (w' : World) : Prop where
  agree : Agree Γ Γ'
  cnew : ∀ b, Γ'.C b → Γ.C b ∨ w.heap.size ≤ b ∨ Own Γ σ b
  own : ∀ b, Own Γ' σ' b → Own Γ σ b ∨ w.heap.size ≤ b
  kept : ∀ b, b < w.heap.size → ¬ Own Γ σ b → w'.heap[b]? = w.heap[b]?
  os : w'.os = w.os
  tape : w'.tape = w.tape
  output : w'.output = w.output
  size : w.heap.size ≤ w'.heap.size
  drawn : w.drawn ≤ w'.drawn
theorem Tr.refl (Γ : Ctx) (σ : Store) (w : World) : Tr Γ σ w Γ σ w := ⟨.refl _, fun _ h => .inl h, fun _ h => .inl h, fun _ _ _ => rfl, rfl, rfl, rfl, Nat.le_refl _, Nat.le_refl _⟩
theorem Tr.trans {Γ1 Γ2 Γ3 : Ctx} {σ1 σ2 σ3 : Store} {w1 w2 w3 : World} (h : Tr Γ1 σ1 w1 Γ2 σ2 w2) (k : Tr Γ2 σ2 w2 Γ3 σ3 w3) : Tr Γ1 σ1 w1 Γ3 σ3 w3 where
  agree := h.agree.trans k.agree
  cnew b hb := by
    rcases k.cnew b hb with hb | hb | hb
    · exact h.cnew b hb
    · exact .inr (.inl (Nat.le_trans h.size hb))
    · rcases h.own b hb with hb | hb
      · exact .inr (.inr hb)
      · exact .inr (.inl hb)
  own b hb := by
    rcases k.own b hb with hb | hb
    · exact h.own b hb
    · exact .inr (Nat.le_trans h.size hb)
  kept b hb hn := by
    refine (k.kept b (Nat.lt_of_lt_of_le hb h.size) fun ho => ?_).trans (h.kept b hb hn)
    rcases h.own b ho with ho | ho
    · exact hn ho
    · omega
  os := k.os.trans h.os
  tape := k.tape.trans h.tape
  output := k.output.trans h.output
  size := Nat.le_trans h.size k.size
  drawn := Nat.le_trans h.drawn k.drawn
theorem SR.notOwn {σ : Store} (h : SR Γ σ w) {b : Nat} (hb : Γ.C b) : ¬ Own Γ σ b := by
  rintro ⟨id, e, xs, ho, rfl⟩
  exact (h.row _ _ _ _ ho).2.1 rfl hb
theorem Tr.sameC {σ σ' : Store} (h : Tr Γ σ w Γ' σ' w') (hs : SR Γ σ w) : SameC Γ w w' := fun b hb => h.kept b (hs.old b hb) (hs.notOwn hb)
theorem Tr.R {σ σ' : Store} (h : Tr Γ σ w Γ' σ' w') (hs : SR Γ σ w) {m : Option Nat} {ds : List D} {vs : List Value} (hr : R Γ w m ds vs) : R Γ' w' m ds vs := hr.mono h.agree (h.sameC hs)
end
end Go.Proofs.Ytfclelafcdcilaa.Dv
/- Each operation of the evaluator is the machine's: reading. -/
set_option linter.unusedVariables false
set_option linter.unusedSimpArgs false
namespace Go.Proofs.Ytfclelafcdcilaa.Dv
open Go

section
variable {P : Program} {Γ Γ' : Ctx} {w w' : World} {σ σ' : Store}

/-! ### types -/
theorem tk_some {t : TypeId} (h : (ti P t).k.known = true) : ∃ d, P.underlying t = some d := by
  simp only [ti] at h
  cases hu : P.underlying t with
  | none => rw [hu] at h; cases h
  | some d => exact ⟨d, rfl⟩
theorem tk_sl {t e : TypeId} (h : (ti P t).k = .sl e) : P.underlying t = some (.slice e) := by
  simp only [ti] at h
  cases hu : P.underlying t with
  | none => rw [hu] at h; cases h
  | some d => rw [hu] at h; cases d <;> simp [tkOf] at h; rw [h]
theorem tk_str {t : TypeId} (h : (ti P t).k = .str) : P.underlying t = some .string := by
  simp only [ti] at h
  cases hu : P.underlying t with
  | none => rw [hu] at h; cases h
  | some d => rw [hu] at h; cases d <;> simp [tkOf] at h; rfl
theorem tk_bool {t : TypeId} (h : (ti P t).k = .bool) : P.underlying t = some .bool := by
  simp only [ti] at h
  cases hu : P.underlying t with
  | none => rw [hu] at h; cases h
  | some d => rw [hu] at h; cases d <;> simp [tkOf] at h; rfl
theorem tk_int {t : TypeId} {k : IntKind} (h : (ti P t).k = .int k) : P.underlying t = some (.int k) := by
  simp only [ti] at h
  cases hu : P.underlying t with
  | none => rw [hu] at h; cases h
  | some d => rw [hu] at h; cases d <;> simp [tkOf] at h; rw [h]
theorem tk_ptr {t e : TypeId} (h : (ti P t).k = .ptr e) : P.underlying t = some (.pointer e) := by
  simp only [ti] at h
  cases hu : P.underlying t with
  | none => rw [hu] at h; cases h
  | some d => rw [hu] at h; cases d <;> simp [tkOf] at h; rw [h]
theorem tk_arr {t e : TypeId} {n : Nat} (h : (ti P t).k = .arr n e) : P.underlying t = some (.array n e) := by
  simp only [ti] at h
  cases hu : P.underlying t with
  | none => rw [hu] at h; cases h
  | some d => rw [hu] at h; cases d <;> simp [tkOf] at h; rw [h.1, h.2]
theorem tk_st {t : TypeId} {fs : List (Nat × TypeId)} (h : (ti P t).k = .st fs) : ∃ fields : Array Field, P.underlying t = some (.struct fields) ∧ fs = fields.toList.map fun f => (f.offset, f.type) := by
  simp only [ti] at h
  cases hu : P.underlying t with
  | none => rw [hu] at h; cases h
  | some d => rw [hu] at h; cases d <;> simp [tkOf] at h; exact ⟨_, rfl, h.symm⟩
theorem tk_agg {t : TypeId} {d : TypeDesc} (h : P.underlying t = some d) : (ti P t).k.isAgg = (match d with | .struct _ | .array _ _ => true | _ => false) := by
  simp only [ti, h]
  cases d <;> rfl
theorem info_of {t : TypeId} {d : TypeDesc} (h : P.underlying t = some d) : ∃ i, P.info? t = some i := by
  unfold Program.underlying at h
  cases hi : P.info? t with
  | none => rw [hi] at h; cases h
  | some i => exact ⟨i, rfl⟩
theorem ti_sz {t : TypeId} {i : TypeInfo} (h : P.info? t = some i) : (ti P t).sz = i.size := by simp [ti, Program.cellsOf, h]
theorem ti_bytes {t : TypeId} {i : TypeInfo} (h : P.info? t = some i) : (ti P t).bytes = i.bytes := by simp [ti, Program.bytesOf, h]
theorem info_of_sz {t : TypeId} (h : 0 < (ti P t).sz) : ∃ i, P.info? t = some i := by
  cases hi : P.info? t with
  | none => simp [ti, Program.cellsOf, hi] at h
  | some i => exact ⟨i, rfl⟩
theorem ofLeaf_R1 (v : Value) : R1 Γ w (ofLeaf v) v := by
  cases v with
  | bool b => exact R1.bool.2 rfl
  | int k n => exact R1.int.2 rfl
  | string s => exact R1.str.2 rfl
  | pointer a => cases a with
    | none => exact R1.nilp.2 rfl
    | some a => exact R1.any
  | nilFunc => exact R1.nilfn.2 rfl
  | slice a n c =>
    unfold ofLeaf
    split <;> try exact R1.any
    all_goals (rename_i heq; cases heq)
    exact R1.sl.2 ⟨none, 0, 1, [], rfl, rfl, Nat.le_refl _, Nat.zero_le _, fun _ => rfl, .nil _, Nat.one_pos, fun h => absurd rfl h⟩
  | map r => cases r with
    | none => exact (R1.atom_iff rfl).2 rfl
    | some a => exact R1.any
  | func fn first captured =>
    unfold ofLeaf
    split <;> try exact R1.any
    all_goals (rename_i heq; try cases heq)
    all_goals first
      | (split
         · rename_i h
           simp only [Bool.and_eq_true, Array.isEmpty_iff] at h
           obtain ⟨rfl, rfl⟩ := h
           exact R1.fn.2 ⟨[], [], rfl, .nil _, .nil _⟩
         · exact R1.any)
      | exact R1.any
  | tuple vs =>
    unfold ofLeaf
    simp only
    split
    · rename_i h
      simp only [Array.isEmpty_iff] at h
      subst h
      exact R1.undef.2 rfl
    · exact R1.any
  | _ => exact R1.any
theorem ofLeaf_list : ∀ vs : List Value, R Γ w none (vs.map ofLeaf) vs
  | [] => .nil _
  | v :: vs => R.cons (ofLeaf_R1 v) (ofLeaf_list vs)
theorem ofValue_R1 (v : Value) : R1 Γ w (ofValue v) v := by
  cases v with
  | agg cs =>
    unfold ofValue
    simp only
    split
    · rename_i h
      exact R1.agg.2 ⟨cs.toList, by simp, ofLeaf_list _, h⟩
    · exact R1.any
  | _ => simp only [ofValue]; exact ofLeaf_R1 _
theorem zero_of {t : TypeId} {i : TypeInfo} (h : P.info? t = some i) (he : (ti P t).zero.elem = true) : ∃ z, i.zero = some z ∧ (ti P t).zero = ofValue z := by
  simp only [ti, h, Option.bind_some] at he ⊢
  cases hz : i.zero with
  | none => rw [hz] at he; cases he
  | some z => exact ⟨z, rfl, rfl⟩

/-! ### slots -/
def Slots (Γ : Ctx) (w : World) (e : Env) (a : Act) : Prop := ∀ t, R1 Γ w (e t) (a.tmps.getD t Go.undef)
theorem Slots.opnd {e : Env} {a : Act} (h : Slots Γ w e a) (x : Operand) : R1 Γ w (opnd e x) (a.eval x) := by
  cases x with
  | tmp t => exact h t
  | const v => exact ofValue_R1 v
  | global g => exact R1.any
  | func f => exact R1.fn.2 ⟨[], [], rfl, .nil _, .nil _⟩
theorem Slots.opnds {e : Env} {a : Act} (h : Slots Γ w e a) : ∀ xs : List Operand, R Γ w none (xs.map (Dv.opnd e)) (xs.map a.eval)
  | [] => .nil _
  | x :: xs => R.cons (h.opnd x) (h.opnds xs)

/-! ### what an operation comes to -/
def OpOk (Γ : Ctx) (σ : Store) (w : World) (r : Result Next) (v : D) (σ' : Store) (aid : Option Nat) : Prop :=
  ∃ nx w' Γ' u, r = .ok nx w' ∧ (nx = .value u ∨ (nx = .skip ∧ u = Go.undef)) ∧ R1 Γ' w' v u ∧ SR Γ' σ' w' ∧ Tr Γ σ w Γ' σ' w' ∧ ∀ id, Γ'.A id → Γ.A id ∨ some id = aid
theorem OpOk.same {r : Result Next} {v : D} {u : Value} {aid : Option Nat} (hs : SR Γ σ w) (hr : r = .ok (.value u) w) (h : R1 Γ w v u) : OpOk Γ σ w r v σ aid :=
  ⟨_, w, Γ, u, hr, .inl rfl, h, hs, .refl _ _ _, fun _ h => .inl h⟩
/-- The same, of an operation that yields a value. -/
def ValOk (Γ : Ctx) (σ : Store) (w : World) (r : Result Value) (v : D) (σ' : Store) (aid : Option Nat) : Prop :=
  ∃ w' Γ' u, r = .ok u w' ∧ R1 Γ' w' v u ∧ SR Γ' σ' w' ∧ Tr Γ σ w Γ' σ' w' ∧ ∀ id, Γ'.A id → Γ.A id ∨ some id = aid
theorem ValOk.same {r : Result Value} {v : D} {u : Value} {aid : Option Nat} (hs : SR Γ σ w) (hr : r = .ok u w) (h : R1 Γ w v u) : ValOk Γ σ w r v σ aid :=
  ⟨w, Γ, u, hr, h, hs, .refl _ _ _, fun _ h => .inl h⟩
theorem ValOk.op {s : Sem Value} {v : D} {aid : Option Nat} (h : ValOk Γ σ w (s.run P w) v σ' aid) : OpOk Γ σ w ((do pure (Next.value (← s)) : Sem Next).run P w) v σ' aid := by
  obtain ⟨w', Γ', u, hr, h1, h2, h3, h4⟩ := h
  exact ⟨_, w', Γ', u, by simp [hr], .inl rfl, h1, h2, h3, h4⟩

/-! ### reading a part of an element -/
theorem run_sizeOf {t : TypeId} {i : TypeInfo} (h : P.info? t = some i) (w : World) : (sizeOf t).run P w = .ok i.size w := by simp [sizeOf, typeInfo, h]
theorem run_isAgg {t : TypeId} (h : (ti P t).k.known = true) (w : World) : (isAgg t).run P w = .ok (ti P t).k.isAgg w := by
  obtain ⟨d, hd⟩ := tk_some h
  rw [tk_agg hd]
  unfold isAgg
  rw [Sem.run_bind, run_underlying hd w]
  cases d <;> rfl
/-- Where the cells of an element lie, a part of it reads as the evaluator says. -/
theorem sub_run {t : TypeId} {x v : D} {j b o : Nat} {us : List Value} (hsub : sub (ti P t) x j = some v) (he : x.elem = true) (h : R Γ w none x.cells us)
    (hc : ∀ k u, us[k]? = some u → w.cell? ⟨b, o + k, none⟩ = some u) :
    ∃ u, (loadVar t ⟨b, o + j, none⟩).run P w = .ok u w ∧ R1 Γ w v u := by
  have hlen := h.length
  have hleaf := elem_cells he
  unfold sub at hsub
  split at hsub
  · cases hsub
  rename_i hk
  have hk : (ti P t).k.known = true := by cases hq : (ti P t).k.known <;> simp_all
  obtain ⟨d, hd⟩ := tk_some hk
  obtain ⟨i, hi⟩ := info_of hd
  have hsz := ti_sz hi
  have hag := run_isAgg hk w
  have loads : ∀ (q : Nat) (vs : List Value), (∀ k u, vs[k]? = some u → us[q + k]? = some u) → (loadCells ⟨b, o + q, none⟩ vs.length).run P w = .ok vs.toArray w := fun q vs hv =>
    run_loadCells_list (P := P) w ⟨b, o + q, none⟩ vs fun k u hu => by
      rw [Addr.add_lit, Nat.add_assoc]
      exact hc _ _ (hv k u hu)
  split at hsub
  · rename_i h0
    obtain ⟨rfl, ha, hl⟩ := h0
    injection hsub with hsub
    subst hsub
    cases hA : (ti P t).k.isAgg with
    | true =>
      rw [hA] at ha
      cases x with
      | agg ds =>
        refine ⟨.agg us.toArray, ?_, R1.agg.2 ⟨us, rfl, h, hleaf⟩⟩
        have hl2 : us.length = i.size := by rw [← hsz, ← hl, ← hlen]
        have := loads 0 us (fun k u hu => by simpa using hu)
        rw [hl2, Nat.add_zero] at this
        simp [loadVar, hag, hA, run_sizeOf hi, this]
      | _ => cases ha
    | false =>
      rw [hA] at ha
      have hx : x.cells = [x] := by cases x <;> first | rfl | cases ha
      rw [hx] at h
      obtain ⟨u, vs, rfl, h1, h2⟩ := h.cons_inv
      refine ⟨u, ?_, h1⟩
      have := hc 0 u rfl
      rw [Nat.add_zero] at this
      simp [loadVar, hag, hA, this]
  · split at hsub
    · rename_i hA
      split at hsub
      · rename_i hle
        injection hsub with hsub
        subst hsub
        have hl2 : ((us.drop j).take (ti P t).sz).length = i.size := by rw [List.length_take, List.length_drop, ← hsz, ← hlen]; omega
        refine ⟨.agg ((us.drop j).take (ti P t).sz).toArray, ?_, R1.agg.2 ⟨_, rfl, (h.drop j).take _, ?_⟩⟩
        · have := loads j ((us.drop j).take (ti P t).sz) (fun k u hu => by
            rw [List.getElem?_take] at hu
            split at hu
            · simpa [List.getElem?_drop] using hu
            · cases hu)
          rw [hl2] at this
          simp [loadVar, hag, hA, run_sizeOf hi, this]
        · simp only [List.all_eq_true] at hleaf ⊢
          exact fun d hd => hleaf d (List.mem_of_mem_drop (List.mem_of_mem_take hd))
      · cases hsub
    · rename_i hA
      have hA : (ti P t).k.isAgg = false := by simpa using hA
      split at hsub
      · obtain ⟨u, hu, h1⟩ := h.get hsub
        have := hc j u hu
        exact ⟨u, by simp [loadVar, hag, hA, this], h1⟩
      · cases hsub
/-- The cells of an element of an object. -/
theorem row_cells {id esz : Nat} {xs : List D} (h : RowR Γ w id esz xs) {i : Nat} {x : D} (hx : xs[i]? = some x) :
    x.elem = true ∧ x.cells.length = esz ∧ ∃ us, R Γ w none x.cells us ∧ ∀ k u, us[k]? = some u → w.cell? ⟨Γ.ρ id, i * Γ.ez id + k, none⟩ = some u := by
  obtain ⟨he, hz, c, e, us, rest, hh, hb, hl, ⟨hr, _⟩⟩ := h
  obtain ⟨h1, h2, h3⟩ := hr.getE hx
  refine ⟨h1, h2, _, h3, fun k u hu => ?_⟩
  rw [cell_of_row w _ _ c e (0, 0) hh]
  rw [List.getElem?_take] at hu
  split at hu
  · rw [List.getElem?_drop] at hu
    have hk : (us ++ rest)[i * esz + k]? = some u := by rw [List.getElem?_append_left (List.getElem?_eq_some_iff.1 hu).1]; exact hu
    rw [← hl] at hk
    rw [← he]
    simpa using hk
  · cases hu
theorem load_ok {t : TypeId} {d : D} {u : Value} {r : D × Foot} (hs : SR Γ σ w) (hd : R1 Γ w d u) (h : evLoad (ti P t) d σ = some r) :
    ∃ v, (Instr.loadAt t u).run P w = .ok v w ∧ R1 Γ w r.1 v := by
  unfold evLoad at h
  split at h
  · rename_i id i j
    split at h
    · rename_i st esz xs ho
      split at h
      · rename_i x hx
        obtain ⟨hA, rfl⟩ := R1.ptr.1 hd
        obtain ⟨v, hv, rfl⟩ := Option.map_eq_some_iff.1 h
        obtain ⟨he, _, us, hu, hc⟩ := row_cells (hs.row _ _ _ _ ho).1 hx
        obtain ⟨z, hz, hr⟩ := sub_run hv he hu hc
        exact ⟨z, by simpa [Instr.loadAt, Instr.sureAddr, adr] using hz, hr⟩
      · cases h
    · cases h
  · rename_i x j
    obtain ⟨us, b, o, rfl, hp, he, hu, hC, hc⟩ := R1.cpt.1 hd
    obtain ⟨v, hv, rfl⟩ := Option.map_eq_some_iff.1 h
    obtain ⟨z, hz, hr⟩ := sub_run hv he hu hc
    exact ⟨z, by simpa [Instr.loadAt, Instr.sureAddr] using hz, hr⟩
  · cases h
end
end Go.Proofs.Ytfclelafcdcilaa.Dv
/- Each operation of the evaluator is the machine's: writing, new objects. -/
set_option linter.unusedVariables false
set_option linter.unusedSimpArgs false
namespace Go.Proofs.Ytfclelafcdcilaa.Dv
open Go

section
variable {P : Program} {Γ Γ' : Ctx} {w w' : World} {σ σ' : Store}

theorem seg {α : Type} (A X C rest zs : List α) (j : Nat) (hj : j + zs.length ≤ X.length) : ((A ++ X ++ C) ++ rest).take (A.length + j) ++ zs ++ ((A ++ X ++ C) ++ rest).drop (A.length + j + zs.length) = (A ++ (X.take j ++ zs ++ X.drop (j + zs.length)) ++ C) ++ rest := by
  have e1 : ((A ++ X ++ C) ++ rest).take (A.length + j) = A ++ X.take j := by
    rw [List.append_assoc, List.append_assoc, List.take_append, List.take_append, List.take_of_length_le (by omega : A.length ≤ A.length + j)]
    have h1 : A.length + j - A.length = j := by omega
    have h2 : j - X.length = 0 := by omega
    rw [h1, h2]
    simp
  have e2 : ((A ++ X ++ C) ++ rest).drop (A.length + j + zs.length) = X.drop (j + zs.length) ++ C ++ rest := by
    rw [List.append_assoc, List.append_assoc, List.drop_append, List.drop_append, List.drop_append]
    have h1 : A.length + j + zs.length - A.length - X.length = 0 := by omega
    have h2 : A.length + j + zs.length - A.length = j + zs.length := by omega
    rw [h1, h2]
    simp
    omega
  rw [e1, e2]
  simp [List.append_assoc]
theorem seg' {α : Type} (us rest zs : List α) (p e j : Nat) (h : p + e ≤ us.length) (hj : j + zs.length ≤ e) :
   (us ++ rest).take (p+j) ++ zs ++ (us++rest).drop (p+j+zs.length) = (us.take p ++ (((us.drop p).take e).take j ++ zs ++ ((us.drop p).take e).drop (j+zs.length)) ++ us.drop (p+e)) ++ rest := by
  have hu : us = us.take p ++ (us.drop p).take e ++ us.drop (p+e) := by
    rw [List.append_assoc, ← List.drop_drop, List.take_append_drop, List.take_append_drop]
  have hp : (us.take p).length = p := by rw [List.length_take]; omega
  have hx : ((us.drop p).take e).length = e := by rw [List.length_take, List.length_drop]; omega
  have := seg (us.take p) ((us.drop p).take e) (us.drop (p+e)) rest zs j (by omega)
  rw [← hu, hp] at this
  exact this

theorem obj_put (σ : Store) (id : Nat) (o : Option Ob) (k : Nat) : (σ.put id o).obj k = if k = id ∧ id < σ.length then o else σ.obj k := by
  unfold Store.put Store.obj
  rw [List.getElem?_set]
  by_cases h : id = k
  · subst h
    by_cases hl : id < σ.length <;> simp [hl]
  · have : ¬ k = id := fun e => h e.symm
    simp [h, this]
theorem obj_put_same {σ : Store} {id : Nat} (h : id < σ.length) (o : Option Ob) : (σ.put id o).obj id = o := by rw [obj_put, if_pos ⟨rfl, h⟩]
theorem obj_put_ne {σ : Store} {id k : Nat} (h : k ≠ id) (o : Option Ob) : (σ.put id o).obj k = σ.obj k := by rw [obj_put, if_neg fun e => h e.1]
theorem length_put (σ : Store) (id : Nat) (o : Option Ob) : (σ.put id o).length = σ.length := by simp [Store.put]
theorem obj_lt {σ : Store} {id : Nat} {o : Ob} (h : σ.obj id = some o) : id < σ.length := by
  unfold Store.obj at h
  cases hq : σ[id]? with
  | none => rw [hq] at h; cases h
  | some x => exact (List.getElem?_eq_some_iff.1 hq).1

/-- An own object written. -/
theorem SR.write (hs : SR Γ σ w) {id esz : Nat} {xs xs' : List D} (ho : σ.obj id = some (.row .own esz xs)) {c c' : Array Value} {e : TypeId} (hh : w.heap[Γ.ρ id]? = some (.cells c e (0, 0))) (hb : c'.size = Γ.bs id)
    {us rest : List Value} (hc : c'.toList = us ++ rest) (hr : RE Γ w esz xs' us rest) :
    SR Γ (σ.put id (some (.row .own esz xs'))) (w.setRow (Γ.ρ id) c') ∧ Tr Γ σ w Γ (σ.put id (some (.row .own esz xs'))) (w.setRow (Γ.ρ id) c') := by
  have hown : Own Γ σ (Γ.ρ id) := ⟨id, esz, xs, ho, rfl⟩
  obtain ⟨⟨he, hz, _⟩, hnC, _⟩ := hs.row _ _ _ _ ho
  have hid := obj_lt ho
  have hC : ∀ b, Γ.C b → b ≠ Γ.ρ id := fun b hb e => hnC rfl (e ▸ hb)
  have hsame : SameC Γ w (w.setRow (Γ.ρ id) c') := fun b hb => setRow_other w _ _ _ (hC b hb)
  constructor
  · refine ⟨fun k st ez ys hk => ?_, fun k st kvs hk => ?_, fun k k' o o' hk hk' hkk => ?_, fun k o hk => ?_, fun b hb => by simpa using hs.old b hb, fun k hk => by rw [length_put]; exact hs.below k hk⟩
    · by_cases hki : k = id
      · subst hki
        rw [obj_put_same hid] at hk
        injection hk with hk
        injection hk with h1 h2 h3
        subst h1 h2 h3
        exact ⟨⟨he, hz, c', e, us, rest, setRow_heap w _ c _ e _ hh, hb, hc, hr.mono (.refl _) hsame⟩, hnC, fun h => by cases h⟩
      · rw [obj_put_ne hki] at hk
        obtain ⟨⟨h1, h2, d, t, vs, rs, h3, h4, h5, h6⟩, h7, h8⟩ := hs.row _ _ _ _ hk
        have hne : Γ.ρ k ≠ Γ.ρ id := fun e => hki (hs.inj _ _ _ _ hk ho e)
        exact ⟨⟨h1, h2, d, t, vs, rs, by rw [setRow_other w _ _ _ hne]; exact h3, h4, h5, h6.mono (.refl _) hsame⟩, h7, h8⟩
    · by_cases hki : k = id
      · subst hki; rw [obj_put_same hid] at hk; cases hk
      · rw [obj_put_ne hki] at hk; exact hs.nomap _ _ _ hk
    · have hx : ∀ k o, (σ.put id (some (.row .own esz xs'))).obj k = some o → ∃ o', σ.obj k = some o' := fun k o hk => by
        by_cases hki : k = id
        · subst hki; exact ⟨_, ho⟩
        · rw [obj_put_ne hki] at hk; exact ⟨_, hk⟩
      obtain ⟨_, h1⟩ := hx _ _ hk
      obtain ⟨_, h2⟩ := hx _ _ hk'
      exact hs.inj _ _ _ _ h1 h2 hkk
    · by_cases hki : k = id
      · subst hki; exact hs.live _ _ ho
      · rw [obj_put_ne hki] at hk; exact hs.live _ _ hk
  · refine ⟨.refl _, fun b hb => .inl hb, fun b hb => ?_, fun b hb hn => setRow_other w _ _ _ (fun e => hn (e ▸ hown)), rfl, rfl, rfl, by simp, Nat.le_refl _⟩
    obtain ⟨k, ez, ys, hk, rfl⟩ := hb
    by_cases hki : k = id
    · subst hki; exact .inl hown
    · rw [obj_put_ne hki] at hk; exact .inl ⟨k, ez, ys, hk, rfl⟩
/-- An object let go. -/
theorem SR.retire (hs : SR Γ σ w) (id : Nat) : SR Γ (σ.put id none) w ∧ Tr Γ σ w Γ (σ.put id none) w := by
  have hx : ∀ {k o}, (σ.put id none).obj k = some o → σ.obj k = some o := fun {k o} hk => by
    rw [obj_put] at hk
    split at hk
    · cases hk
    · exact hk
  refine ⟨⟨fun k st ez ys hk => hs.row _ _ _ _ (hx hk), fun k st kvs hk => hs.nomap _ _ _ (hx hk), fun k k' o o' hk hk' => hs.inj _ _ _ _ (hx hk) (hx hk'), fun k o hk => hs.live _ _ (hx hk), hs.old, fun k hk => by rw [length_put]; exact hs.below k hk⟩,
    ⟨.refl _, fun b hb => .inl hb, fun b hb => ?_, fun _ _ _ => rfl, rfl, rfl, rfl, Nat.le_refl _, Nat.le_refl _⟩⟩
  obtain ⟨k, ez, ys, hk, rfl⟩ := hb
  exact .inl ⟨k, ez, ys, hx hk, rfl⟩
/-- A new object. -/
theorem SR.new (hs : SR Γ σ w) {aid : Nat} (hA : ¬ Γ.A aid) (hl : aid < σ.length) {c : Array Value} {e : TypeId} (hw : w'.heap = w.heap.push (.cells c e)) (hos : w'.os = w.os) (htp : w'.tape = w.tape) (hout : w'.output = w.output) (hdr : w.drawn ≤ w'.drawn)
    {esz : Nat} {xs : List D} {us rest : List Value} (hc : c.toList = us ++ rest) (hr : RE Γ w esz xs us rest) (hz : 0 < esz) :
    ∃ Γ', SR Γ' (σ.put aid (some (.row .own esz xs))) w' ∧ Tr Γ σ w Γ' (σ.put aid (some (.row .own esz xs))) w' ∧ Γ'.A aid ∧ Γ'.ρ aid = w.heap.size ∧ Γ'.ez aid = esz ∧ Γ'.bs aid = c.size ∧ ∀ id, Γ'.A id → Γ.A id ∨ id = aid := by
  let Γ' : Ctx := { C := Γ.C, A := fun id => Γ.A id ∨ id = aid, ρ := fun id => if id = aid then w.heap.size else Γ.ρ id, ez := fun id => if id = aid then esz else Γ.ez id, bs := fun id => if id = aid then c.size else Γ.bs id }
  have hne : ∀ id, Γ.A id → id ≠ aid := fun id h e => hA (e ▸ h)
  have hag : Agree Γ Γ' := ⟨fun _ h => h, fun _ h => .inl h, fun id h => if_neg (hne id h), fun id h => if_neg (hne id h), fun id h => if_neg (hne id h)⟩
  have hold : ∀ b, b < w.heap.size → w'.heap[b]? = w.heap[b]? := fun b hb => by rw [hw, Array.getElem?_push, if_neg (by omega)]
  have hnew : w'.heap[w.heap.size]? = some (.cells c e) := by rw [hw]; simp
  have hsz : w'.heap.size = w.heap.size + 1 := by rw [hw]; simp
  have hsame : SameC Γ w w' := fun b hb => hold b (hs.old b hb)
  have hlt : ∀ k o, σ.obj k = some o → Γ.ρ k < w.heap.size := fun k o hk => by
    cases o with
    | row st ez ys =>
      obtain ⟨⟨_, _, d, t, _, _, h3, _⟩, _⟩ := hs.row _ _ _ _ hk
      exact (Array.getElem?_eq_some_iff.1 h3).1
    | map st kvs => exact absurd hk (hs.nomap _ _ _)
  have hρ : Γ'.ρ aid = w.heap.size := if_pos rfl
  refine ⟨Γ', ⟨fun k st ez ys hk => ?_, fun k st kvs hk => ?_, fun k k' o o' hk hk' hkk => ?_, fun k o hk => ?_, fun b hb => by rw [hsz]; exact Nat.lt_succ_of_lt (hs.old b hb), fun k hk => ?_⟩,
    ⟨hag, fun b hb => .inl hb, fun b hb => ?_, fun b hb _ => hold b hb, hos, htp, hout, by omega, hdr⟩, .inr rfl, hρ, if_pos rfl, if_pos rfl, fun id h => h⟩
  · by_cases hki : k = aid
    · subst hki
      rw [obj_put_same hl] at hk
      injection hk with hk
      injection hk with h1 h2 h3
      subst h1 h2 h3
      refine ⟨⟨(if_pos rfl).symm, hz, c, e, us, rest, by rw [hρ]; exact hnew, (if_pos rfl).symm, hc, hr.mono hag hsame⟩, fun _ hC => ?_, fun h => by cases h⟩
      rw [hρ] at hC
      exact absurd (hs.old _ hC) (by omega)
    · rw [obj_put_ne hki] at hk
      obtain ⟨⟨h1, h2, d, t, vs, rs, h3, h4, h5, h6⟩, h7, h8⟩ := hs.row _ _ _ _ hk
      have hA' := hs.live _ _ hk
      refine ⟨⟨by rw [hag.ez _ hA']; exact h1, h2, d, t, vs, rs, by rw [hag.ρ _ hA', hold _ (hlt _ _ hk)]; exact h3, by rw [hag.bs _ hA']; exact h4, h5, h6.mono hag hsame⟩, ?_, ?_⟩
      · rw [hag.ρ _ hA']; exact h7
      · rw [hag.ρ _ hA']; exact h8
  · by_cases hki : k = aid
    · subst hki; rw [obj_put_same hl] at hk; cases hk
    · rw [obj_put_ne hki] at hk; exact hs.nomap _ _ _ hk
  · by_cases hki : k = aid <;> by_cases hki' : k' = aid
    · rw [hki, hki']
    · subst hki
      rw [obj_put_ne hki'] at hk'
      rw [hρ, hag.ρ _ (hs.live _ _ hk')] at hkk
      have := hlt _ _ hk'
      omega
    · subst hki'
      rw [obj_put_ne hki] at hk
      rw [hρ, hag.ρ _ (hs.live _ _ hk)] at hkk
      have := hlt _ _ hk
      omega
    · rw [obj_put_ne hki] at hk
      rw [obj_put_ne hki'] at hk'
      rw [hag.ρ _ (hs.live _ _ hk), hag.ρ _ (hs.live _ _ hk')] at hkk
      exact hs.inj _ _ _ _ hk hk' hkk
  · by_cases hki : k = aid
    · subst hki; exact .inr rfl
    · rw [obj_put_ne hki] at hk; exact .inl (hs.live _ _ hk)
  · rw [length_put]
    rcases hk with hk | hk
    · exact hs.below k hk
    · subst hk; exact hl
  · obtain ⟨k, ez, ys, hk, rfl⟩ := hb
    by_cases hki : k = aid
    · subst hki; rw [hρ]; exact .inr (Nat.le_refl _)
    · rw [obj_put_ne hki] at hk
      rw [hag.ρ _ (hs.live _ _ hk)]
      exact .inl ⟨k, ez, ys, hk, rfl⟩

/-! ### store -/
theorem run_store_row {b o : Nat} {c : Array Value} {e : TypeId} {vs : List Value} (hh : w.heap[b]? = some (.cells c e (0, 0))) (hl : o + vs.length ≤ c.size) (h1 : ∀ v ∈ vs, v.oneCell' = true) :
    (storeCells ⟨b, o, none⟩ vs).run P w = .ok () (w.setRow b (c.toList.take o ++ vs ++ c.toList.drop (o + vs.length)).toArray) := by
  have := run_storeCells_at P b o e vs 0 c w hh (by simpa using hl) h1
  simpa using this
theorem R.setRange {ds es : List D} {us vs : List Value} (h : R Γ w none ds us) (k : R Γ w none es vs) (j : Nat) : R Γ w none (setRange ds j es) (us.take j ++ vs ++ us.drop (j + vs.length)) := by
  unfold Dv.setRange
  rw [k.length]
  exact ((h.take j).append k).append (h.drop _)
theorem upd_elem {x v x' : D} {j : Nat} {us vs : List Value} (hu : upd x j v = some x') (hx : x.elem = true) (hv : v.elem = true) (h : R Γ w none x.cells us) (k : R Γ w none v.cells vs) :
    x'.elem = true ∧ j + vs.length ≤ us.length ∧ R Γ w none x'.cells (us.take j ++ vs ++ us.drop (j + vs.length)) := by
  have hl := h.length
  have hk := k.length
  unfold upd at hu
  split at hu
  · rename_i h0
    obtain ⟨rfl, ha, hlen⟩ := h0
    injection hu with hu
    subst hu
    have hul : us.length = vs.length := by omega
    refine ⟨hv, by omega, ?_⟩
    simp only [List.take_zero, List.nil_append, Nat.zero_add, ← hul, List.drop_length, List.append_nil]
    exact k
  · split at hu
    · rename_i ds
      split at hu
      · rename_i hle
        injection hu with hu
        subst hu
        simp only [D.cells] at hl h
        refine ⟨?_, by omega, h.setRange k j⟩
        have h1 := elem_cells hx
        have h2 := elem_cells hv
        simp only [D.elem, Dv.setRange, D.cells, List.all_append, Bool.and_eq_true, List.all_eq_true] at h1 h2 ⊢
        exact ⟨⟨fun d hd => h1 d (List.mem_of_mem_take hd), h2⟩, fun d hd => h1 d (List.mem_of_mem_drop hd)⟩
      · cases hu
    · cases hu
theorem store_ok {t : TypeId} {d v : D} {u z : Value} {r : Store × Foot} (hs : SR Γ σ w) (hd : R1 Γ w d u) (hv : R1 Γ w v z) (h : evStore (ti P t) d v σ = some r) :
    ∃ w', (Instr.storeAt t u z).run P w = .ok () w' ∧ SR Γ r.1 w' ∧ Tr Γ σ w Γ r.1 w' := by
  unfold evStore at h
  split at h
  · rename_i id i j
    split at h
    · rename_i esz xs ho
      split at h
      · rename_i x hx
        split at h
        · rename_i hok
          obtain ⟨x', hu, rfl⟩ := Option.map_eq_some_iff.1 h
          obtain ⟨hA, rfl⟩ := R1.ptr.1 hd
          simp only [okVal, Bool.and_eq_true, beq_iff_eq] at hok
          obtain ⟨⟨⟨hk, hve⟩, _⟩, hvl⟩ := hok
          obtain ⟨dd, hdd⟩ := tk_some hk
          obtain ⟨inf, hi⟩ := info_of hdd
          obtain ⟨⟨he, hz, c, e, us, rest, hh, hb, hc, ⟨hr, hone⟩⟩, _⟩ := hs.row _ _ _ _ ho
          obtain ⟨hxe, hxl, hxc⟩ := hr.getE hx
          have hvc := hv.cells hve
          have hzs : z.cells.toList.length = v.cells.length := hvc.length.symm
          obtain ⟨hxe', hle, hxc'⟩ := upd_elem hu hxe hve hxc hvc
          have hilt : i < xs.length := (List.getElem?_eq_some_iff.1 hx).1
          have hul := hr.lengthE
          have hblk : i * esz + esz ≤ us.length := by rw [hul, ← Nat.succ_mul]; exact Nat.mul_le_mul_right _ hilt
          have hexl : ((us.drop (i * esz)).take esz).length = esz := by rw [List.length_take, List.length_drop]; omega
          rw [hexl] at hle
          have hcl : c.toList.length = us.length + rest.length := by rw [hc, List.length_append]
          have hcs : c.size = us.length + rest.length := by simpa using hcl
          -- the row behind the store
          have hrow := run_store_row (P := P) (o := i * esz + j) (vs := z.cells.toList) hh (by rw [hzs]; omega) (all_oneCell hvc (elem_cells hve))
          have hw := hs.write (c' := (c.toList.take (i * esz + j) ++ z.cells.toList ++ c.toList.drop (i * esz + j + z.cells.toList.length)).toArray) (xs' := xs.set i x')
            (us := us.take (i * esz) ++ (((us.drop (i * esz)).take esz).take j ++ z.cells.toList ++ ((us.drop (i * esz)).take esz).drop (j + z.cells.toList.length)) ++ us.drop (i * esz + esz)) (rest := rest)
            ho hh (by rw [← hb]; simp only [List.size_toArray, List.length_append, List.length_take, List.length_drop]; omega) (by
              show c.toList.take (i * esz + j) ++ z.cells.toList ++ c.toList.drop (i * esz + j + z.cells.toList.length) = _
              rw [hc]
              exact seg' us rest z.cells.toList (i * esz) esz j hblk (by rw [hzs]; omega))
            ⟨hr.setE hilt hxe' hxc' (by simp only [List.length_append, List.length_take, List.length_drop]; omega), hone⟩
          refine ⟨_, ?_, hw.1, hw.2⟩
          have hsz : z.cells.size = inf.size := by rw [← ti_sz hi, ← hvl, ← hzs]; simp
          simp only [Instr.storeAt, Instr.sureAddr, adr, storeVar, ← he, Sem.run_bind, Sem.run_pure, Result.andThen_ok, run_sizeOf hi, hsz, ne_eq, not_true_eq_false, if_false, hrow]
        · cases h
      · cases h
    · cases h
  · cases h
end
end Go.Proofs.Ytfclelafcdcilaa.Dv
/- Each operation of the evaluator is the machine's: new objects, append, copy, clear. -/
set_option linter.unusedVariables false
set_option linter.unusedSimpArgs false
namespace Go.Proofs.Ytfclelafcdcilaa.Dv
open Go

section
variable {P : Program} {Γ Γ' : Ctx} {w w' : World} {σ σ' : Store}

/-- What a new object leaves. -/
theorem SR.newPtr (hs : SR Γ σ w) {aid : Nat} (hA : ¬ Γ.A aid) (hl : aid < σ.length) {t : TypeId} {v : D} {u : Value} (hv : R1 Γ w v u) (he : v.elem = true) (hz : 0 < v.cells.length) :
    ValOk Γ σ w (.ok (.pointer (some ⟨w.heap.size, 0, none⟩)) (w.alloc (.cells u.cells t))) (.ptr aid 0 0) (σ.put aid (some (.row .own v.cells.length [v]))) (some aid) := by
  have hc := hv.cells he
  have hr : R Γ w (some v.cells.length) [v] (u.cells.toList ++ []) := .elem he hc hc.length.symm (.nil _)
  rw [List.append_nil] at hr
  obtain ⟨Γ', h1, h2, h3, h4, h5, h6, h7⟩ := hs.new hA hl (w' := w.alloc (.cells u.cells t)) (c := u.cells) (e := t) rfl rfl rfl rfl (Nat.le_refl _) (us := u.cells.toList) (rest := []) (by simp) ⟨hr, by simp⟩ hz
  refine ⟨_, Γ', _, rfl, R1.ptr.2 ⟨h3, by simp [adr, h4]⟩, h1, h2, fun id hid => ?_⟩
  rcases h7 id hid with h | h
  · exact .inl h
  · exact .inr (by rw [h])
theorem alloc_ok (hs : SR Γ σ w) {aid : Nat} (hA : ¬ Γ.A aid) (hl : aid < σ.length) {t : TypeId} (h : (ti P t).zero.elem = true) (h2 : (ti P t).zero.cells.length = (ti P t).sz) (h3 : 0 < (ti P t).sz) :
    ValOk Γ σ w ((Instr.alloc t true (.tuple #[])).run P w) (.ptr aid 0 0) (σ.put aid (some (.row .own (ti P t).sz [(ti P t).zero]))) (some aid) := by
  obtain ⟨i, hi⟩ := info_of_sz h3
  obtain ⟨z, hz, hzz⟩ := zero_of hi h
  have hrun : (Instr.alloc t true (.tuple #[])).run P w = .ok (.pointer (some ⟨w.heap.size, 0, none⟩)) (w.alloc (.cells z.cells t)) := by
    simp [Instr.alloc, zeroValue, typeInfo, hi, hz, newVar, newRow]
  rw [hrun, ← h2]
  exact hs.newPtr hA hl (hzz ▸ ofValue_R1 z) h (by omega)
theorem box_ok (hs : SR Γ σ w) {aid : Nat} (hA : ¬ Γ.A aid) (hl : aid < σ.length) {t : TypeId} {v : D} {u : Value} (hv : R1 Γ w v u) (he : v.elem = true) (hz : 0 < v.cells.length) :
    ValOk Γ σ w ((Instr.box t u).run P w) (.ptr aid 0 0) (σ.put aid (some (.row .own v.cells.length [v]))) (some aid) := by
  have hrun : (Instr.box t u).run P w = .ok (.pointer (some ⟨w.heap.size, 0, none⟩)) (w.alloc (.cells u.cells t)) := by simp [Instr.box, newVar, newRow]
  rw [hrun]
  exact hs.newPtr hA hl hv he hz

/-! ### cells filled -/
theorem foldl_set (off : Nat) : ∀ (vs : List Value) (s : Nat) (cs : Array Value), off + s + vs.length ≤ cs.size →
    ((vs.zipIdx s).foldl (fun cs (x : Value × Nat) => cs.setIfInBounds (off + x.2) x.1) cs).toList = cs.toList.take (off + s) ++ vs ++ cs.toList.drop (off + s + vs.length)
  | [], s, cs, _ => by simp
  | v :: vs, s, cs, h => by
    have ih := foldl_set off vs (s + 1) (cs.setIfInBounds (off + s) v) (by simp at h ⊢; omega)
    simp only [List.zipIdx_cons, List.foldl_cons]
    rw [ih]
    have e := list_seg_step cs.toList (off + s) v vs (by simp at h ⊢; omega)
    simpa [Array.toList_setIfInBounds, Nat.add_assoc] using e
theorem fill_set (off : Nat) (v : Value) (cs : Array Value) (h : off + v.cells.size ≤ cs.size) :
    (v.cells.zipIdx.foldl (fun cs (c, j) => cs.setIfInBounds (off + j) c) cs).toList = cs.toList.take off ++ v.cells.toList ++ cs.toList.drop (off + v.cells.size) := by
  have := foldl_set off v.cells.toList 0 cs (by simpa using h)
  rw [← Array.foldl_toList, Array.toList_zipIdx]
  simpa using this
theorem fill_ok {place : Nat → Option (Nat × Nat)} : ∀ {parts : List (Nat × D)} {vals : List (Nat × Value)} {ds ds' : List D} {cs : Array Value},
    fillD ds (parts.map fun p => (place p.1, p.2)) = some ds' → parts.map (·.1) = vals.map (·.1) → R Γ w none (parts.map (·.2)) (vals.map (·.2)) → R Γ w none ds cs.toList → ds.all D.leaf = true →
    ∃ cs', Instr.fill place cs vals = some cs' ∧ R Γ w none ds' cs'.toList ∧ ds'.all D.leaf = true
  | [], vals, ds, ds', cs, h, hi, hv, hr, hl => by
    cases vals with
    | nil => simp only [List.map_nil, fillD, Option.some.injEq] at h; subst h; exact ⟨cs, rfl, hr, hl⟩
    | cons _ _ => simp at hi
  | p :: parts, vals, ds, ds', cs, h, hi, hv, hr, hl => by
    cases vals with
    | nil => simp at hi
    | cons q vals =>
      simp only [List.map_cons, List.cons.injEq] at hi
      obtain ⟨hi1, hi2⟩ := hi
      obtain ⟨v, vs', hvv, h1, h2⟩ := R.cons_inv (by simpa using hv)
      simp only [List.cons.injEq] at hvv
      obtain ⟨rfl, rfl⟩ := hvv
      simp only [List.map_cons] at h
      obtain ⟨i, d⟩ := p
      obtain ⟨i', z⟩ := q
      simp only at hi1 h1 h
      subst hi1
      cases hp : place i with
      | none => rw [hp] at h; simp [fillD] at h
      | some os =>
        obtain ⟨off, size⟩ := os
        rw [hp] at h
        simp only [fillD] at h
        split at h
        · rename_i hc
          simp only [Bool.and_eq_true, beq_iff_eq, decide_eq_true_eq] at hc
          obtain ⟨⟨he, hs⟩, hb⟩ := hc
          have hcz := h1.cells_size he
          have hcs : cs.size = ds.length := by simpa using hr.length.symm
          have hfs := fill_set off z cs (by omega)
          have hr' : R Γ w none (setRange ds off d.cells) (z.cells.zipIdx.foldl (fun cs (c, j) => cs.setIfInBounds (off + j) c) cs).toList := by
            rw [hfs]
            have := hr.setRange (h1.cells he) off
            simpa using this
          have hl' : (setRange ds off d.cells).all D.leaf = true := by
            have h2 := elem_cells he
            simp only [setRange, List.all_append, Bool.and_eq_true, List.all_eq_true] at hl h2 ⊢
            exact ⟨⟨fun x hx => hl x (List.mem_of_mem_take hx), h2⟩, fun x hx => hl x (List.mem_of_mem_drop hx)⟩
          obtain ⟨cs', h3, h4, h5⟩ := fill_ok h hi2 h2 hr' hl'
          refine ⟨cs', ?_, h4, h5⟩
          unfold Instr.fill
          simp only [hp]
          rw [if_neg (by simp; omega)]
          exact h3
        · cases h
theorem getElem?_flatten_replicate {α : Type} (l : List α) (hl : 0 < l.length) : ∀ (n k : Nat), (List.replicate n l).flatten[k]? = if k < n * l.length then l[k % l.length]? else none
  | 0, k => by simp
  | n + 1, k => by
    rw [List.replicate_succ, List.flatten_cons, List.getElem?_append]
    by_cases hk : k < l.length
    · rw [if_pos hk, Nat.mod_eq_of_lt hk, if_pos (by rw [Nat.add_mul]; omega)]
    · rw [if_neg hk, getElem?_flatten_replicate l hl n (k - l.length), ← Nat.mod_eq_sub_mod (by omega)]
      have : (k - l.length < n * l.length) ↔ (k < (n + 1) * l.length) := by rw [Nat.add_mul]; omega
      simp only [this]
theorem toList_madeCells (z : Array Value) (hz : 0 < z.size) (n : Nat) : (madeCells z (n * z.size)).toList = (List.replicate n z.toList).flatten := by
  apply List.ext_getElem?
  intro k
  rw [getElem?_flatten_replicate _ (by simpa using hz)]
  simp only [madeCells, Array.toList_map, Array.toList_range, List.getElem?_map, Array.length_toList, Array.getElem?_toList]
  by_cases hk : k < n * z.size
  · have hm : k % z.size < z.size := Nat.mod_lt _ hz
    rw [if_pos hk, List.getElem?_range hk]
    simp [hm, getElem!_pos]
  · rw [if_neg hk, List.getElem?_eq_none (by simpa using hk)]
    rfl
theorem fillE_ok {esz : Nat} (hz : 0 < esz) : ∀ {parts : List (Nat × D)} {vals : List (Nat × Value)} {xs xs' : List D} {cs : Array Value},
    fillE esz xs parts = some xs' → parts.map (·.1) = vals.map (·.1) → R Γ w none (parts.map (·.2)) (vals.map (·.2)) → R Γ w (some esz) xs cs.toList →
    ∃ cs', Instr.fill (fun i => some (i * esz, esz)) cs vals = some cs' ∧ R Γ w (some esz) xs' cs'.toList ∧ xs'.length = xs.length
  | [], vals, xs, xs', cs, h, hi, hv, hr => by
    cases vals with
    | nil => simp only [fillE, Option.some.injEq] at h; subst h; exact ⟨cs, rfl, hr, rfl⟩
    | cons _ _ => simp at hi
  | p :: parts, vals, xs, xs', cs, h, hi, hv, hr => by
    cases vals with
    | nil => simp at hi
    | cons q vals =>
      simp only [List.map_cons, List.cons.injEq] at hi
      obtain ⟨hi1, hi2⟩ := hi
      obtain ⟨v, vs', hvv, h1, h2⟩ := R.cons_inv (by simpa using hv)
      simp only [List.cons.injEq] at hvv
      obtain ⟨rfl, rfl⟩ := hvv
      obtain ⟨i, d⟩ := p
      obtain ⟨i', z⟩ := q
      simp only at hi1 h1
      subst hi1
      simp only [fillE] at h
      split at h
      · rename_i hc
        simp only [Bool.and_eq_true, beq_iff_eq, decide_eq_true_eq] at hc
        obtain ⟨⟨he, hs⟩, hb⟩ := hc
        have hcz := h1.cells_size he
        have hcs : cs.size = xs.length * esz := by simpa using hr.lengthE
        have hle : i * esz + esz ≤ xs.length * esz := by rw [← Nat.succ_mul]; exact Nat.mul_le_mul_right _ hb
        have hfs := fill_set (i * esz) z cs (by omega)
        have hr' : R Γ w (some esz) (xs.set i d) (z.cells.zipIdx.foldl (fun cs (c, j) => cs.setIfInBounds (i * esz + j) c) cs).toList := by
          rw [hfs, hcz, hs]
          exact hr.setE hb he (h1.cells he) (by simp; omega)
        obtain ⟨cs', h3, h4, h5⟩ := fillE_ok hz h hi2 h2 hr'
        refine ⟨cs', ?_, h4, by rw [h5, List.length_set]⟩
        unfold Instr.fill
        simp only
        rw [if_neg (by simp; omega)]
        exact h3
      · cases h
/-- A new row as a slice. -/
theorem SR.newMs (hs : SR Γ σ w) {aid : Nat} (hA : ¬ Γ.A aid) (hl : aid < σ.length) {c : Array Value} {e : TypeId} (hw : w'.heap = w.heap.push (.cells c e)) (hos : w'.os = w.os) (htp : w'.tape = w.tape) (hout : w'.output = w.output) (hdr : w.drawn ≤ w'.drawn)
    {esz : Nat} {xs : List D} {us rest : List Value} (hc : c.toList = us ++ rest) (hr : RE Γ w esz xs us rest) (hz : 0 < esz) (n cap c' : Nat) (ex : Bool) (h1 : n ≤ c') (h2 : cap ≤ c') (h3 : ex = true → c' = cap) (h4 : c' * esz ≤ c.size) (h5 : c' ≤ maxLen) :
    ValOk Γ σ w (.ok (.slice (some ⟨w.heap.size, 0, none⟩) n c') w') (.ms aid 0 n cap ex) (σ.put aid (some (.row .own esz xs))) (some aid) := by
  obtain ⟨Γ', k1, k2, k3, k4, k5, k6, k7⟩ := hs.new hA hl hw hos htp hout hdr hc hr hz
  refine ⟨_, Γ', _, rfl, R1.ms.2 ⟨k3, _, _, rfl, h1, h2, h3, .inr (by simp [adr, k4]), by rw [k5, k6]; simpa using h4, h5⟩, k1, k2, fun id hid => ?_⟩
  rcases k7 id hid with h | h
  · exact .inl h
  · exact .inr (by rw [h])
theorem buildSlice_ok (hs : SR Γ σ w) {aid : Nat} (hA : ¬ Γ.A aid) (hl : aid < σ.length) {t : TypeId} {n : Nat} {parts : List (Nat × D)} {vals : List (Nat × Value)} {r : D × Store × Foot}
    (hi : parts.map (·.1) = vals.map (·.1)) (hv : R Γ w none (parts.map (·.2)) (vals.map (·.2))) (h : evBuildSlice P t n parts aid σ = some r) :
    ValOk Γ σ w ((Instr.buildSlice t n vals.toArray).run P w) r.1 r.2.1 (some aid) := by
  unfold evBuildSlice at h
  split at h
  · rename_i e hk
    simp only at h
    split at h
    · rename_i hc
      obtain ⟨hz, hb, he, hl2⟩ := hc
      obtain ⟨xs, hx, rfl⟩ := Option.map_eq_some_iff.1 h
      have hu := tk_sl hk
      obtain ⟨i, hinf⟩ := info_of_sz hz
      obtain ⟨z, hzz, hzd⟩ := zero_of hinf he
      have hsz := ti_sz hinf
      have hr1 : R1 Γ w (ti P e).zero z := hzd ▸ ofValue_R1 z
      have hzc := hr1.cells_size he
      have hzs : z.cells.size = i.size := by omega
      have hrep : R Γ w (some (ti P e).sz) (List.replicate n (ti P e).zero) (madeCells z.cells (n * z.cells.size)).toList := by
        rw [toList_madeCells _ (by omega)]
        exact R.replicateE he (hr1.cells he) (by simp; omega) n
      obtain ⟨cs', h3, h4, h5⟩ := fillE_ok (Γ := Γ) (w := w) hz hx hi hv hrep
      have hmade : madeCells z.cells (n * z.cells.size) = (Array.range (n * i.size)).map (z.cells[· % z.cells.size]!) := by unfold madeCells; simp only [hzs]
      have hrun : (Instr.buildSlice t n vals.toArray).run P w = .ok (.slice (some ⟨w.heap.size, 0, none⟩) n n) (w.alloc (.cells cs' e)) := by
        rw [hmade, hsz] at h3
        have hb' : ¬ (16777216 < n * i.size) := by rw [hsz] at hb; omega
        by_cases h0 : n * i.size = 0
        · have hn : n = 0 := by rcases Nat.mul_eq_zero.1 h0 with h | h <;> omega
          subst hn
          have hr0 : Array.range 0 = #[] := rfl
          simp only [Nat.zero_mul, hr0, Array.map_empty] at h3
          simp [Instr.buildSlice, run_underlying hu, run_sizeOf hinf, hr0, h3, newRow]
        · simp [Instr.buildSlice, run_underlying hu, run_sizeOf hinf, hb', h0, zeroValue, typeInfo, hinf, hzz, h3, newRow]
      rw [hrun]
      have hlen := h4.lengthE
      rw [h5, List.length_replicate] at hlen
      refine hs.newMs hA hl (w' := w.alloc (.cells cs' e)) rfl rfl rfl rfl (Nat.le_refl _) (us := cs'.toList) (rest := []) (by simp) ⟨h4, by simp⟩ hz n n n true (Nat.le_refl _) (Nat.le_refl _) (fun _ => rfl) (by simp at hlen; omega) ?_
      have : n ≤ n * (ti P e).sz := Nat.le_mul_of_pos_right _ hz
      simp only [maxLen]
      omega
    · cases h
  · cases h
theorem makeSlice_ok (hs : SR Γ σ w) {aid : Nat} (hA : ¬ Γ.A aid) (hl : aid < σ.length) {t : TypeId} {l c : D} {ul uc : Value} {r : D × Store × Foot} (h1 : R1 Γ w l ul) (h2 : R1 Γ w c uc) (h : evMakeSlice P t l c aid σ = some r) :
    ValOk Γ σ w ((Instr.makeSlice t ul uc).run P w) r.1 r.2.1 (some aid) := by
  unfold evMakeSlice at h
  split at h
  · rename_i e kl n kc m hk
    simp only at h
    split at h
    · rename_i hc
      obtain ⟨h0, hnm, hbytes, hm, hz, he, hl2⟩ := hc
      injection h with h
      subst h
      rw [R1.int.1 h1, R1.int.1 h2]
      have hu := tk_sl hk
      obtain ⟨i, hinf⟩ := info_of_sz hz
      obtain ⟨z, hzz, hzd⟩ := zero_of hinf he
      have hsz := ti_sz hinf
      have hr1 : R1 Γ w (ti P e).zero z := hzd ▸ ofValue_R1 z
      have hzc := hr1.cells_size he
      have hzs : z.cells.size = i.size := by omega
      rw [ti_bytes hinf] at hbytes
      rw [run_make w t e i z hu hinf hzz kl kc n m h0 hnm (by rw [Int.mul_comm]; omega) (by omega)]
      have hrep : R Γ w (some (ti P e).sz) (List.replicate m.toNat (ti P e).zero) (madeCells z.cells (m.toNat * z.cells.size)).toList := by
        rw [toList_madeCells _ (by omega)]
        exact R.replicateE he (hr1.cells he) (by simp; omega) m.toNat
      rw [hzs] at hrep
      refine hs.newMs hA hl (w' := w.alloc (.cells (madeCells z.cells (m.toNat * i.size)) e)) rfl rfl rfl rfl (Nat.le_refl _) (us := (madeCells z.cells (m.toNat * i.size)).toList) (rest := []) (by simp) ⟨hrep, by simp⟩ hz n.toNat m.toNat m.toNat true (by omega) (Nat.le_refl _) (fun _ => rfl) ?_ ?_
      · rw [size_madeCells, hsz]; exact Nat.le_refl _
      · simp only [maxLen]; omega
    · cases h
  · cases h
end
end Go.Proofs.Ytfclelafcdcilaa.Dv
/- Each operation of the evaluator is the machine's: append, copy, clear. -/
set_option linter.unusedVariables false
set_option linter.unusedSimpArgs false
namespace Go.Proofs.Ytfclelafcdcilaa.Dv
open Go

section
variable {P : Program} {Γ Γ' : Ctx} {w w' : World} {σ σ' : Store}

theorem put_obj {σ : Store} {id : Nat} {o : Ob} (h : σ.obj id = some o) : σ.put id (some o) = σ := by
  have hl := obj_lt h
  unfold Store.put
  apply List.ext_getElem?
  intro k
  rw [List.getElem?_set]
  split
  · rename_i hk
    subst hk
    unfold Store.obj at h
    cases hq : σ[id]? with
    | none => rw [hq] at h; cases h
    | some x => rw [hq] at h; exact congrArg some h.symm
  · rfl
theorem put_put (σ : Store) (id : Nat) (a b : Option Ob) : (σ.put id a).put id b = σ.put id b := by simp [Store.put]
/-- An own object under another number. -/
theorem SR.rename (hs : SR Γ σ w) {id aid esz : Nat} {xs : List D} (ho : σ.obj id = some (.row .own esz xs)) (hA : ¬ Γ.A aid) (hl : aid < σ.length) :
    ∃ Γ', SR Γ' ((σ.put id none).put aid (some (.row .own esz xs))) w ∧ Tr Γ σ w Γ' ((σ.put id none).put aid (some (.row .own esz xs))) w ∧ Γ'.A aid ∧ Γ'.ρ aid = Γ.ρ id ∧ Γ'.ez aid = Γ.ez id ∧ Γ'.bs aid = Γ.bs id ∧ ∀ k, Γ'.A k → Γ.A k ∨ k = aid := by
  let Γ' : Ctx := { C := Γ.C, A := fun k => Γ.A k ∨ k = aid, ρ := fun k => if k = aid then Γ.ρ id else Γ.ρ k, ez := fun k => if k = aid then Γ.ez id else Γ.ez k, bs := fun k => if k = aid then Γ.bs id else Γ.bs k }
  have hne : ∀ k, Γ.A k → k ≠ aid := fun k h e => hA (e ▸ h)
  have hag : Agree Γ Γ' := ⟨fun _ h => h, fun _ h => .inl h, fun k h => if_neg (hne k h), fun k h => if_neg (hne k h), fun k h => if_neg (hne k h)⟩
  have hidA := hs.live _ _ ho
  have hsame : SameC Γ w w := fun _ _ => rfl
  have hl' : aid < (σ.put id none).length := by rw [length_put]; exact hl
  have hρ : Γ'.ρ aid = Γ.ρ id := if_pos rfl
  obtain ⟨⟨he, hz, c, e, us, rest, hh, hb, hc, hr⟩, hnC, _⟩ := hs.row _ _ _ _ ho
  have hx : ∀ {k o}, k ≠ aid → ((σ.put id none).put aid (some (.row .own esz xs))).obj k = some o → σ.obj k = some o ∧ k ≠ id := fun {k o} hk h => by
    rw [obj_put_ne hk, obj_put] at h
    split at h
    · cases h
    · rename_i hn; exact ⟨h, fun e => hn ⟨e, obj_lt ho⟩⟩
  refine ⟨Γ', ⟨fun k st ez ys hk => ?_, fun k st kvs hk => ?_, fun k k' o o' hk hk' hkk => ?_, fun k o hk => ?_, hs.old, fun k hk => ?_⟩,
    ⟨hag, fun b hb => .inl hb, fun b hb => ?_, fun _ _ _ => rfl, rfl, rfl, rfl, Nat.le_refl _, Nat.le_refl _⟩, .inr rfl, hρ, if_pos rfl, if_pos rfl, fun k h => h⟩
  · by_cases hki : k = aid
    · subst hki
      rw [obj_put_same hl'] at hk
      injection hk with hk
      injection hk with h1 h2 h3
      subst h1 h2 h3
      refine ⟨⟨by rw [he]; exact (if_pos rfl).symm, hz, c, e, us, rest, by rw [hρ]; exact hh, by rw [hb]; exact (if_pos rfl).symm, hc, hr.mono hag hsame⟩, ?_, fun h => by cases h⟩
      rw [hρ]; exact hnC
    · obtain ⟨hk, _⟩ := hx hki hk
      obtain ⟨⟨h1, h2, d, t, vs, rs, h3, h4, h5, h6⟩, h7, h8⟩ := hs.row _ _ _ _ hk
      have hA' := hs.live _ _ hk
      refine ⟨⟨by rw [hag.ez _ hA']; exact h1, h2, d, t, vs, rs, by rw [hag.ρ _ hA']; exact h3, by rw [hag.bs _ hA']; exact h4, h5, h6.mono hag hsame⟩, ?_, ?_⟩
      · rw [hag.ρ _ hA']; exact h7
      · rw [hag.ρ _ hA']; exact h8
  · by_cases hki : k = aid
    · subst hki; rw [obj_put_same hl'] at hk; cases hk
    · exact hs.nomap _ _ _ (hx hki hk).1
  · by_cases hki : k = aid <;> by_cases hki' : k' = aid
    · rw [hki, hki']
    · subst hki
      obtain ⟨hk', hn⟩ := hx hki' hk'
      rw [hρ, hag.ρ _ (hs.live _ _ hk')] at hkk
      exact absurd (hs.inj _ _ _ _ ho hk' hkk).symm hn
    · subst hki'
      obtain ⟨hk, hn⟩ := hx hki hk
      rw [hρ, hag.ρ _ (hs.live _ _ hk)] at hkk
      exact absurd (hs.inj _ _ _ _ hk ho hkk) hn
    · obtain ⟨hk, _⟩ := hx hki hk
      obtain ⟨hk', _⟩ := hx hki' hk'
      rw [hag.ρ _ (hs.live _ _ hk), hag.ρ _ (hs.live _ _ hk')] at hkk
      exact hs.inj _ _ _ _ hk hk' hkk
  · by_cases hki : k = aid
    · exact .inr hki
    · exact .inl (hs.live _ _ (hx hki hk).1)
  · rw [length_put, length_put]
    rcases hk with hk | hk
    · exact hs.below k hk
    · subst hk; exact hl
  · obtain ⟨k, ez, ys, hk, rfl⟩ := hb
    by_cases hki : k = aid
    · subst hki; rw [hρ]; exact .inl ⟨id, esz, xs, ho, rfl⟩
    · obtain ⟨hk, _⟩ := hx hki hk
      rw [hag.ρ _ (hs.live _ _ hk)]
      exact .inl ⟨k, ez, ys, hk, rfl⟩
theorem R.resize {sz sz' : Nat} {xs : List D} {us : List Value} (h : R Γ w (some sz) xs us) (hx : xs.all (fun y => y.elem && y.cells.length == sz') = true) : R Γ w (some sz') xs us := by
  cases xs with
  | nil => rw [h.nil_inv]; exact .nil _
  | cons x xs =>
    have h1 := (h.elemE.1 x (by simp)).2
    simp only [List.all_cons, Bool.and_eq_true, beq_iff_eq] at hx
    have : sz = sz' := by omega
    exact this ▸ h
/-- What is appended or copied. -/
theorem elems_src (hs : SR Γ σ w) {t2 e2 : TypeId} (hk : P.underlying t2 = some (.slice e2)) {x : D} {ux : Value} {news : List D} {ft : Foot} (hx : R1 Γ w x ux) (h : elems σ x = some (news, ft)) {sz : Nat}
    (ha : news.all (fun y => y.elem && y.cells.length == sz) = true) : ∃ vs, R Γ w (some sz) news vs ∧ Src P sz t2 ux news.length vs w := by
  unfold elems at h
  split at h
  · rename_i full xs
    injection h with h
    injection h with h _
    subst h
    obtain ⟨a, c, sz', us, rfl, hp, hn, hc, hf, hr, hz, had⟩ := R1.sl.1 hx
    have hr' := hr.resize ha
    refine ⟨us, hr', ?_⟩
    cases xs with
    | nil =>
      rw [hr'.nil_inv]
      cases a with
      | none => exact Src.ofNil w hk c
      | some a => exact Src.ofSlice w hk a 0 c [] (by simp) (by simp) (by simp)
    | cons y ys =>
      obtain ⟨b, o, rfl, _, hcell⟩ := had (by simp)
      exact Src.ofSlice w hk _ _ c us hr'.lengthE (fun j u hu => by rw [Addr.add_lit]; exact hcell j u hu) hr'.elemE.2
  · rename_i b
    injection h with h
    injection h with h _
    subst h
    refine ⟨[], .nil _, ?_⟩
    cases b with
    | true =>
      obtain ⟨c, rfl, _⟩ := (R1.atom_iff (d := .nsl true) rfl).1 hx
      exact Src.ofNil w hk c
    | false =>
      obtain ⟨a, c, rfl, _⟩ := (R1.atom_iff (d := .nsl false) rfl).1 hx
      exact Src.ofSlice w hk a 0 c [] (by simp) (by simp) (by simp)
  · rename_i id off len cap ex
    split at h
    · rename_i st esz xs ho
      split at h
      · rename_i hle
        injection h with h
        injection h with h _
        subst h
        obtain ⟨hA, a, c, rfl, h1, h2, h3, h4, h5, h6⟩ := R1.ms.1 hx
        obtain ⟨⟨he, hz, cc, e, us, rest, hh, hb, hc, ⟨hr, hone⟩⟩, _⟩ := hs.row _ _ _ _ ho
        have hr2 := ((hr.takeE off (by omega)).2.takeE len (by rw [List.length_drop]; omega)).1
        have hlen : ((xs.drop off).take len).length = len := by rw [List.length_take, List.length_drop]; omega
        have hr' := hr2.resize ha
        refine ⟨_, hr', ?_⟩
        rw [hlen]
        rcases h4 with h4 | h4
        · have hl0 : len = 0 := by omega
          subst hl0
          have hnil : (us.drop (off * esz)).take (0 * esz) = [] := by simp
          rw [hnil]
          cases a with
          | none => exact Src.ofNil w hk c
          | some a => exact Src.ofSlice w hk a 0 c [] (by simp) (by simp) (by simp)
        · subst h4
          refine Src.ofSlice w hk _ _ c _ (by rw [hr'.lengthE, hlen]) (fun j u hu => ?_) hr'.elemE.2
          rw [List.getElem?_take] at hu
          split at hu
          · rw [List.getElem?_drop] at hu
            simp only [adr, Nat.add_zero, Addr.add_lit, ← he]
            rw [cell_of_row w _ _ cc e (0, 0) hh]
            have hk' : (us ++ rest)[off * esz + j]? = some u := by rw [List.getElem?_append_left (List.getElem?_eq_some_iff.1 hu).1]; exact hu
            rw [← hc] at hk'
            simpa using hk'
          · cases hu
      · cases h
    · cases h
  · cases h
theorem zeroCells_one {z : Array Value} (h : ∀ u ∈ z.toList, u.oneCell' = true) (n : Nat) : ∀ u ∈ (Builtin.zeroCells z n).toList, u.oneCell' = true := by
  intro u hu
  unfold Builtin.zeroCells at hu
  rw [Array.toList_map, List.mem_map] at hu
  obtain ⟨i, hi, rfl⟩ := hu
  have hi' : i < n * z.size := by simpa using hi
  have hz : 0 < z.size := by
    rcases Nat.eq_zero_or_pos z.size with h0 | h0
    · rw [h0] at hi'; omega
    · exact h0
  have hm : i % z.size < z.size := Nat.mod_lt _ hz
  rw [getElem!_pos z (i % z.size) hm]
  exact h _ (by simp)
theorem run_append_none {t t2 ty e : TypeId} {i : TypeInfo} (ht : P.underlying t = some (.slice e)) (hi : P.info? e = some i) {base : Option Addr} {n c : Nat} {ux : Value} (hs : Src P i.size t2 ux 0 [] w) (h : n ≤ c) :
    (Builtin.append_ #[t, t2] ty #[.slice base n c, ux]).run P w = .ok (.slice base n c) w := by
  rcases hs.kind with ⟨e', hk⟩ | hk <;> cases base <;> simp [Builtin.append_, run_underlying ht, run_underlying hk, sizeOf, typeInfo, hi, hs.len, h, hs.cells, storeCells]
theorem run_append_into {t t2 ty e : TypeId} {i : TypeInfo} (ht : P.underlying t = some (.slice e)) (hi : P.info? e = some i) {b off n c m : Nat} {ux : Value} {news : List Value} (hs : Src P i.size t2 ux m news w) (h : n + m ≤ c)
    {cc : Array Value} {te : TypeId} (hh : w.heap[b]? = some (.cells cc te (0, 0))) (hfit : off + n * i.size + news.length ≤ cc.size) :
    (Builtin.append_ #[t, t2] ty #[.slice (some ⟨b, off, none⟩) n c, ux]).run P w = .ok (.slice (some ⟨b, off, none⟩) (n + m) c) (w.setRow b (cc.toList.take (off + n * i.size) ++ news ++ cc.toList.drop (off + n * i.size + news.length)).toArray) := by
  have hst := run_store_row (P := P) (o := off + n * i.size) (vs := news) hh hfit hs.one
  rcases hs.kind with ⟨e', hk⟩ | hk <;> simp [Builtin.append_, run_underlying ht, run_underlying hk, sizeOf, typeInfo, hi, hs.len, h, hs.cells, Addr.add_lit, hst]
/-- A row cut in two, something written between. -/
theorem R.splice {sz : Nat} {xs news : List D} {us vs : List Value} (h : R Γ w (some sz) xs us) (k : R Γ w (some sz) news vs) (p : Nat) (hp : p + news.length ≤ xs.length) :
    R Γ w (some sz) (xs.take p ++ news ++ xs.drop (p + news.length)) (us.take (p * sz) ++ vs ++ us.drop (p * sz + vs.length)) := by
  have h1 := (h.takeE p (by omega)).1
  have h2 := (h.takeE (p + news.length) hp).2
  rw [Nat.add_mul, ← k.lengthE] at h2
  exact (h1.appendE k).appendE h2
theorem grow_ok (hs : SR Γ σ w) {aid : Nat} (hA : ¬ Γ.A aid) (hl : aid < σ.length) {t t2 ty e : TypeId} (hk : (ti P t).k = .sl e) (hz : 0 < (ti P e).sz) (he : (ti P e).zero.elem = true) (hl2 : (ti P e).zero.cells.length = (ti P e).sz)
    {base : Option Addr} {c : Nat} {ux : Value} {olds news : List D} {vo vn : List Value} (ho : R Γ w (some (ti P e).sz) olds vo) (hn : R Γ w (some (ti P e).sz) news vn) (hsrc : Src P (ti P e).sz t2 ux news.length vn w)
    (hold : (Builtin.firstCells (ti P e).sz olds.length (.slice base olds.length c)).run P w.drew = .ok vo.toArray w.drew) (hg : c < olds.length + news.length) (hb : (olds.length + news.length) * max (ti P e).bytes 1 ≤ 140737488355328) :
    ValOk Γ σ w ((Builtin.append_ #[t, t2] ty #[.slice base olds.length c, ux]).run P w) (.ms aid 0 (olds.length + news.length) (olds.length + news.length) false) (σ.put aid (some (.row .own (ti P e).sz (olds ++ news)))) (some aid) := by
  have hu := tk_sl hk
  obtain ⟨i, hinf⟩ := info_of_sz hz
  obtain ⟨z, hzz, hzd⟩ := zero_of hinf he
  have hsz := ti_sz hinf
  have hr1 : R1 Γ w (ti P e).zero z := hzd ▸ ofValue_R1 z
  have hzc := hr1.cells_size he
  have hzs : z.cells.size = i.size := by omega
  rw [ti_bytes hinf] at hb
  have hneed : olds.length + news.length ≤ 140737488355328 := Nat.le_trans (Nat.le_mul_of_pos_right _ (by omega)) hb
  have hbb : (olds.length + news.length) * i.bytes ≤ 140737488355328 := Nat.le_trans (Nat.mul_le_mul_left _ (by omega)) hb
  rw [hsz] at hsrc hold
  rw [run_append_grow_src w t t2 ty e i z hu hinf hzz base olds.length c vo hold ux news.length vn hsrc hg (by omega) (growslice_fits hg hbb)]
  have hge := grownCap_ge w (olds.length + news.length) c e
  have hcm := grownCap_le_maxLen w (olds.length + news.length) c e (by simp only [maxLen]; omega)
  have hlo := ho.lengthE
  have hln := hn.lengthE
  refine hs.newMs hA hl (w' := w.drew.alloc _) (c := (vo ++ vn).toArray ++ Builtin.zeroCells z.cells (grownCap w (olds.length + news.length) c e - (olds.length + news.length))) rfl rfl rfl rfl (Nat.le_succ _) (us := vo ++ vn)
    (rest := (Builtin.zeroCells z.cells (grownCap w (olds.length + news.length) c e - (olds.length + news.length))).toList) (by simp) ⟨ho.appendE hn, zeroCells_one (all_oneCell (hr1.cells he) (elem_cells he)) _⟩ hz _ _ _ false hge hge (fun h => by cases h) ?_ hcm
  simp only [Array.size_append, List.size_toArray, List.length_append, size_zeroCells, hzs, hlo, hln, ← Nat.add_mul, ← hsz]
  exact Nat.mul_le_mul_right _ (by omega)
theorem append_ok (hs : SR Γ σ w) {aid : Nat} (hA : ¬ Γ.A aid) (hl : aid < σ.length) {t t2 ty e2 : TypeId} (hk2 : (ti P t2).k = .sl e2) {s x : D} {us ux : Value} {r : D × Store × Foot} (h1 : R1 Γ w s us) (h2 : R1 Γ w x ux) (h : evAppend P t s x aid σ = some r) :
    ValOk Γ σ w ((Builtin.append_ #[t, t2] ty #[us, ux]).run P w) r.1 r.2.1 (some aid) := by
  unfold evAppend at h
  split at h
  case h_2 => cases h
  rename_i e hk
  simp only at h
  split at h
  case isFalse => cases h
  rename_i hE
  obtain ⟨hz, he, hl2⟩ := hE
  split at h
  case h_2 => cases h
  rename_i news ft hel
  split at h
  case isFalse => cases h
  rename_i hall
  obtain ⟨vn, hvn, hsrc⟩ := elems_src hs (tk_sl hk2) h2 hel hall
  have hu := tk_sl hk
  obtain ⟨i, hinf⟩ := info_of_sz hz
  have hsz := ti_sz hinf
  split at h
  · -- a constant slice
    rename_i full xs
    obtain ⟨a, c, sz', vo, rfl, hp, hn, hc, hf, hr, hz', had⟩ := R1.sl.1 h1
    split at h
    · rename_i hnil
      subst hnil
      injection h with h
      subst h
      rw [hvn.nil_inv] at hsrc
      rw [hsz] at hsrc
      exact .same hs (run_append_none hu hinf hsrc hn) (R1.sl.2 ⟨a, c, sz', vo, rfl, hp, hn, hc, hf, hr, hz', had⟩)
    · rename_i hnil
      split at h
      · rename_i hcond
        obtain ⟨hfull, hall2, hb⟩ := hcond
        injection h with h
        subst h
        have hcx := hf hfull
        subst hcx
        have hvo := hr.resize hall2
        have hnl : 0 < news.length := by cases news with
          | nil => exact absurd rfl hnil
          | cons _ _ => simp
        refine grow_ok hs hA hl hk hz he hl2 hvo hvn hsrc ?_ (by omega) hb
        cases xs with
        | nil =>
          rw [hvo.nil_inv]
          cases a with
          | none => simp [Builtin.firstCells]
          | some a => exact run_firstCells_some w.drew _ 0 a 0 0 [] (by simp) (by simp)
        | cons y ys =>
          obtain ⟨b, o, rfl, _, hcell⟩ := had (by simp)
          exact run_firstCells_some w.drew _ _ _ _ _ vo hvo.lengthE (fun j u hu => by rw [Addr.add_lit]; exact hcell j u hu)
      · cases h
  · -- an object's slice
    rename_i id off len cap ex
    split at h
    case h_2 => cases h
    rename_i esz xs ho
    split at h
    case isFalse => cases h
    rename_i hcond
    obtain ⟨hez, hoc, hlc, hb⟩ := hcond
    subst hez
    obtain ⟨hAid, a, c, rfl, hc1, hc2, hc3, hc4, hc5, hc6⟩ := R1.ms.1 h1
    obtain ⟨⟨hee, _, cc, te, uo, rest, hh, hbs, hcc, ⟨hr, hone⟩⟩, _⟩ := hs.row _ _ _ _ ho
    have hcl : cc.size = uo.length + rest.length := by have := congrArg List.length hcc; simpa using this
    have hul := hr.lengthE
    by_cases hnil : news = []
    · subst hnil
      simp only [List.length_nil, Nat.add_zero, hlc, if_true, List.append_nil, List.take_append_drop, put_obj ho] at h
      injection h with h
      subst h
      rw [hvn.nil_inv] at hsrc
      rw [hsz] at hsrc
      exact .same hs (run_append_none hu hinf hsrc hc1) (R1.ms.2 ⟨hAid, a, c, rfl, hc1, hc2, hc3, hc4, hc5, hc6⟩)
    · have hnl : 0 < news.length := by cases news with
        | nil => exact absurd rfl hnil
        | cons _ _ => simp
      have hln := hvn.lengthE
      have hsrc' := hsrc
      rw [hsz] at hsrc'
      split at h
      · rename_i hroom
        injection h with h
        subst h
        have hc0 : c ≠ 0 := by omega
        have ha := hc4.resolve_left hc0
        subst ha
        have hfit0 : (off + len + news.length) * (ti P e).sz ≤ uo.length := by rw [hul]; exact Nat.mul_le_mul_right _ (by omega)
        have e1 : (off + len + news.length) * (ti P e).sz = off * (ti P e).sz + len * (ti P e).sz + news.length * (ti P e).sz := by rw [Nat.add_mul, Nat.add_mul]
        have hfit : off * (ti P e).sz + len * (ti P e).sz + vn.length ≤ uo.length := by rw [hln]; omega
        simp only [adr, Nat.add_zero, ← hee]
        rw [run_append_into hu hinf hsrc' (by omega) hh (by rw [← hsz]; omega)]
        have hw := hs.write (xs' := xs.take (off + len) ++ news ++ xs.drop (off + len + news.length)) (c' := (cc.toList.take (off * (ti P e).sz + len * i.size) ++ vn ++ cc.toList.drop (off * (ti P e).sz + len * i.size + vn.length)).toArray) (rest := rest)
          (us := uo.take ((off + len) * (ti P e).sz) ++ vn ++ uo.drop ((off + len) * (ti P e).sz + vn.length)) ho hh
          (by rw [← hbs, ← hsz]; simp only [List.size_toArray, List.length_append, List.length_take, List.length_drop, Array.length_toList]; omega)
          (by
            show cc.toList.take _ ++ vn ++ cc.toList.drop _ = _
            rw [hcc, ← hsz, Nat.add_mul, List.take_append_of_le_length (by omega), List.drop_append_of_le_length hfit]
            simp only [List.append_assoc])
          ⟨hr.splice hvn (off + len) (by omega), hone⟩
        exact ⟨_, Γ, _, rfl, R1.ms.2 ⟨hAid, _, c, rfl, by omega, hc2, hc3, .inr (by simp [adr, ← hee]), hc5, hc6⟩, hw.1, hw.2, fun k hk => .inl hk⟩
      · rename_i hroom
        split at h
        · -- there is no room: a new row, and the old one stays
          rename_i hex
          injection h with h
          subst h
          have hcc' := hc3 hex
          subst hcc'
          have hlen : ((xs.drop off).take len).length = len := by rw [List.length_take, List.length_drop]; omega
          have hvo := ((hr.takeE off (by omega)).2.takeE len (by rw [List.length_drop]; omega)).1
          have hfirst : (Builtin.firstCells (ti P e).sz ((xs.drop off).take len).length (.slice a ((xs.drop off).take len).length c)).run P w.drew = .ok ((uo.drop (off * (ti P e).sz)).take (len * (ti P e).sz)).toArray w.drew := by
            rw [hlen]
            rcases hc4 with hc4 | hc4
            · have : len = 0 := by omega
              subst this
              cases a with
              | none => simp [Builtin.firstCells]
              | some a => simpa using run_firstCells_some w.drew (ti P e).sz 0 a 0 c [] (by simp) (by simp)
            · subst hc4
              refine run_firstCells_some w.drew _ _ _ _ _ _ (by rw [hvo.lengthE, hlen]) (fun j u hu => ?_)
              rw [List.getElem?_take] at hu
              split at hu
              · rw [List.getElem?_drop] at hu
                simp only [adr, Nat.add_zero, Addr.add_lit, ← hee]
                show w.cell? _ = _
                rw [cell_of_row w _ _ cc te (0, 0) hh]
                have hk' : (uo ++ rest)[off * (ti P e).sz + j]? = some u := by rw [List.getElem?_append_left (List.getElem?_eq_some_iff.1 hu).1]; exact hu
                rw [← hcc] at hk'
                simpa using hk'
              · cases hu
          have hg := grow_ok hs hA hl hk hz he hl2 hvo hvn hsrc hfirst (t := t) (t2 := t2) (ty := ty) (by rw [hlen]; omega) (by rw [hlen]; exact hb)
          rw [hlen] at hg
          exact hg
        split at h
        case isFalse => cases h
        rename_i hoff
        subst hoff
        injection h with h
        subst h
        have hlen : (xs.take len).length = len := by rw [List.length_take]; omega
        have hvo := (hr.takeE len (by omega)).1
        by_cases hin : len + news.length ≤ c
        · -- in place
          have hc0 : c ≠ 0 := by omega
          have ha := hc4.resolve_left hc0
          subst ha
          have hblk : (len + news.length) * (ti P e).sz ≤ cc.size := by
            rw [hbs]
            refine Nat.le_trans ?_ hc5
            rw [← hee, Nat.zero_add]
            exact Nat.mul_le_mul_right _ hin
          have e1 : (len + news.length) * (ti P e).sz = len * (ti P e).sz + news.length * (ti P e).sz := Nat.add_mul _ _ _
          have hpu : len * (ti P e).sz ≤ uo.length := by rw [hul]; exact Nat.mul_le_mul_right _ (by omega)
          simp only [adr, Nat.zero_mul, Nat.add_zero]
          rw [run_append_into hu hinf hsrc' (by omega) hh (by rw [← hsz, hln]; omega)]
          rw [← hsz, Nat.zero_add]
          have hw := hs.write (xs' := xs.take len ++ news) (c' := (cc.toList.take (len * (ti P e).sz) ++ vn ++ cc.toList.drop (len * (ti P e).sz + vn.length)).toArray) (rest := cc.toList.drop (len * (ti P e).sz + vn.length))
            (us := uo.take (len * (ti P e).sz) ++ vn) ho hh
            (by rw [← hbs]; simp only [List.size_toArray, List.length_append, List.length_take, List.length_drop, Array.length_toList]; omega)
            (by
              show cc.toList.take _ ++ vn ++ cc.toList.drop _ = _
              rw [hcc, List.take_append_of_le_length hpu])
            ⟨hvo.appendE hvn, fun u hu => by
              have hu := List.mem_of_mem_drop hu
              rw [hcc] at hu
              rcases List.mem_append.1 hu with hu | hu
              · exact hr.elemE.2 u hu
              · exact hone u hu⟩
          obtain ⟨Γ', k1, k2, k3, k4, k5, k6, k7⟩ := hw.1.rename (obj_put_same (obj_lt ho) _) (aid := aid) hA (by rw [length_put]; exact hl)
          rw [put_put] at k1 k2
          refine ⟨_, Γ', _, rfl, R1.ms.2 ⟨k3, _, c, rfl, by omega, by omega, (fun h => by cases h), .inr (by simp [adr, k4]), by rw [k5, k6]; exact hc5, hc6⟩, k1, hw.2.trans k2, fun k hk => ?_⟩
          rcases k7 k hk with h | h
          · exact .inl h
          · exact .inr (by rw [h])
        · -- a new row
          obtain ⟨r1, r2⟩ := hs.retire id
          have hAl : aid < (σ.put id none).length := by rw [length_put]; exact hl
          have hfirst : (Builtin.firstCells (ti P e).sz (xs.take len).length (.slice a (xs.take len).length c)).run P w.drew = .ok (uo.take (len * (ti P e).sz)).toArray w.drew := by
            rcases hc4 with hc4 | hc4
            · have : len = 0 := by omega
              subst this
              cases a with
              | none => simp [Builtin.firstCells]
              | some a => simpa using run_firstCells_some w.drew (ti P e).sz 0 a 0 c [] (by simp) (by simp)
            · subst hc4
              refine run_firstCells_some w.drew _ _ _ _ _ _ hvo.lengthE (fun j u hu => ?_)
              rw [List.getElem?_take] at hu
              split at hu
              · simp only [adr, Nat.zero_mul, Nat.add_zero, Addr.add_lit, Nat.zero_add]
                show w.cell? _ = _
                rw [cell_of_row w _ _ cc te (0, 0) hh]
                have hk' : (uo ++ rest)[j]? = some u := by rw [List.getElem?_append_left (List.getElem?_eq_some_iff.1 hu).1]; exact hu
                rw [← hcc] at hk'
                simpa using hk'
              · cases hu
          have hg := grow_ok r1 hA hAl hk hz he hl2 hvo hvn hsrc hfirst (t := t) (t2 := t2) (ty := ty) (by rw [hlen]; omega) (by rw [hlen]; exact hb)
          rw [hlen] at hg
          obtain ⟨w1, Γ1, u1, g1, g2, g3, g4, g5⟩ := hg
          exact ⟨w1, Γ1, u1, g1, g2, g3, r2.trans g4, g5⟩
  · cases h
theorem growZ_ok (hs : SR Γ σ w) {aid : Nat} (hA : ¬ Γ.A aid) (hl : aid < σ.length) {t t2 ty e : TypeId} {kq kn : IntKind} (hk : (ti P t).k = .sl e) (hk2 : (ti P t2).k = .int kn) (hz : 0 < (ti P e).sz) (he : (ti P e).zero.elem = true) (hl2 : (ti P e).zero.cells.length = (ti P e).sz)
    {base : Option Addr} {c n : Nat} {olds : List D} {vo : List Value} (ho : R Γ w (some (ti P e).sz) olds vo)
    (hold : (Builtin.firstCells (ti P e).sz olds.length (.slice base olds.length c)).run P w.drew = .ok vo.toArray w.drew) (hg : c < olds.length + n) (h0 : 0 < n) (hb : (olds.length + n) * max (ti P e).bytes 1 ≤ 140737488355328) :
    ValOk Γ σ w ((Builtin.append_ #[t, t2] ty #[.slice base olds.length c, .int kq n]).run P w) (.ms aid 0 (olds.length + n) (olds.length + n) false) (σ.put aid (some (.row .own (ti P e).sz (olds ++ List.replicate n (ti P e).zero)))) (some aid) := by
  have hu := tk_sl hk
  obtain ⟨i, hinf⟩ := info_of_sz hz
  obtain ⟨z, hzz, hzd⟩ := zero_of hinf he
  have hsz := ti_sz hinf
  have hr1 : R1 Γ w (ti P e).zero z := hzd ▸ ofValue_R1 z
  have hzc := hr1.cells_size he
  have hzs : z.cells.size = i.size := by omega
  rw [ti_bytes hinf] at hb
  have hneed : olds.length + n ≤ 140737488355328 := Nat.le_trans (Nat.le_mul_of_pos_right _ (by omega)) hb
  have hbb : (olds.length + n) * i.bytes ≤ 140737488355328 := Nat.le_trans (Nat.mul_le_mul_left _ (by omega)) hb
  rw [hsz] at hold
  have hnb : n * i.bytes ≤ 281474976710656 := Nat.le_trans (Nat.mul_le_mul_right _ (Nat.le_add_left n olds.length)) (by omega)
  rw [Lib.run_append_grow_zeros w t t2 ty e i z kq kn hu (tk_int hk2) hinf hzz base olds.length c vo hold n h0 (by omega) hg (by omega) hnb (growslice_fits hg hbb)]
  have hge := grownCap_ge w (olds.length + n) c e
  have hcm := grownCap_le_maxLen w (olds.length + n) c e (by simp only [maxLen]; omega)
  have hlo := ho.lengthE
  have hrep : R Γ w (some (ti P e).sz) (List.replicate n (ti P e).zero) (Builtin.zeroCells z.cells n).toList := by
    have := toList_madeCells z.cells (by omega) n
    show R Γ w _ _ (madeCells z.cells (n * z.cells.size)).toList
    rw [this]
    exact R.replicateE he (hr1.cells he) (by simp; omega) n
  refine hs.newMs hA hl (w' := w.drew.alloc _) (c := vo.toArray ++ Builtin.zeroCells z.cells n ++ Builtin.zeroCells z.cells (grownCap w (olds.length + n) c e - (olds.length + n))) rfl rfl rfl rfl (Nat.le_succ _) (us := vo ++ (Builtin.zeroCells z.cells n).toList)
    (rest := (Builtin.zeroCells z.cells (grownCap w (olds.length + n) c e - (olds.length + n))).toList) (by simp) ⟨ho.appendE hrep, zeroCells_one (all_oneCell (hr1.cells he) (elem_cells he)) _⟩ hz _ _ _ false hge hge (fun h => by cases h) ?_ hcm
  simp only [Array.size_append, List.size_toArray, size_zeroCells, hzs, hlo, ← Nat.add_mul, ← hsz]
  exact Nat.mul_le_mul_right _ (by omega)
theorem appendZ_ok (hs : SR Γ σ w) {aid : Nat} (hA : ¬ Γ.A aid) (hl : aid < σ.length) {t t2 ty : TypeId} {kn kq : IntKind} (hk2 : (ti P t2).k = .int kn) {s : D} {n : Int} {us ux : Value} {r : D × Store × Foot} (h1 : R1 Γ w s us) (h2 : R1 Γ w (.int kq n) ux) (h : evAppendZ P t s n aid σ = some r) :
    ValOk Γ σ w ((Builtin.append_ #[t, t2] ty #[us, ux]).run P w) r.1 r.2.1 (some aid) := by
  obtain rfl := R1.int.1 h2
  unfold evAppendZ at h
  split at h
  · rename_i e id off len cap hk
    simp only at h
    split at h
    case h_2 => cases h
    rename_i st esz xs ho
    split at h
    case isFalse => cases h
    rename_i hcond
    obtain ⟨⟨hz, he, hl2, hee⟩, hoc, hlt, hb⟩ := hcond
    subst hee
    injection h with h
    subst h
    obtain ⟨hAid, a, c, rfl, hc1, hc2, hc3, hc4, hc5, hc6⟩ := R1.ms.1 h1
    have hcc' := hc3 rfl
    subst hcc'
    obtain ⟨⟨hee, _, cc, te, uo, rest, hh, hbs, hcc, ⟨hr, hone⟩⟩, _⟩ := hs.row _ _ _ _ ho
    have hlen : ((xs.drop off).take len).length = len := by rw [List.length_take, List.length_drop]; omega
    have hvo := ((hr.takeE off (by omega)).2.takeE len (by rw [List.length_drop]; omega)).1
    have hfirst : (Builtin.firstCells (ti P e).sz ((xs.drop off).take len).length (.slice a ((xs.drop off).take len).length c)).run P w.drew = .ok ((uo.drop (off * (ti P e).sz)).take (len * (ti P e).sz)).toArray w.drew := by
      rw [hlen]
      rcases hc4 with hc4 | hc4
      · have : len = 0 := by omega
        subst this
        cases a with
        | none => simp [Builtin.firstCells]
        | some a => simpa using run_firstCells_some w.drew (ti P e).sz 0 a 0 c [] (by simp) (by simp)
      · subst hc4
        refine run_firstCells_some w.drew _ _ _ _ _ _ (by rw [hvo.lengthE, hlen]) (fun j u hu => ?_)
        rw [List.getElem?_take] at hu
        split at hu
        · rw [List.getElem?_drop] at hu
          simp only [adr, Nat.add_zero, Addr.add_lit, ← hee]
          show w.cell? _ = _
          rw [cell_of_row w _ _ cc te (0, 0) hh]
          have hk' : (uo ++ rest)[off * (ti P e).sz + j]? = some u := by rw [List.getElem?_append_left (List.getElem?_eq_some_iff.1 hu).1]; exact hu
          rw [← hcc] at hk'
          simpa using hk'
        · cases hu
    have hn : n = (n.toNat : Int) := by omega
    have hg := growZ_ok hs hA hl hk hk2 hz he hl2 (kq := kq) hvo hfirst (n := n.toNat) (ty := ty) (by rw [hlen]; omega) (by omega) (by rw [hlen]; exact hb)
    rw [hlen, ← hn] at hg
    exact hg
  · rename_i e xs hk
    simp only at h
    split at h
    case isFalse => cases h
    rename_i hcond
    obtain ⟨⟨hz, he, hl2⟩, hall2, h0, hb⟩ := hcond
    injection h with h
    subst h
    obtain ⟨a, c, sz', vo, rfl, hp, hn, hc, hf, hr, hz', had⟩ := R1.sl.1 h1
    have hcx := hf rfl
    subst hcx
    have hvo := hr.resize hall2
    have hn' : n = (n.toNat : Int) := by omega
    have hg := growZ_ok hs hA hl hk hk2 hz he hl2 (kq := kq) (base := a) (c := xs.length) hvo ?_ (n := n.toNat) (ty := ty) (by omega) (by omega) hb
    · rw [← hn'] at hg
      exact hg
    · cases xs with
      | nil =>
        rw [hvo.nil_inv]
        cases a with
        | none => simp [Builtin.firstCells]
        | some a => exact run_firstCells_some w.drew _ 0 a 0 0 [] (by simp) (by simp)
      | cons y ys =>
        obtain ⟨b, o, rfl, _, hcell⟩ := had (by simp)
        exact run_firstCells_some w.drew _ _ _ _ _ vo hvo.lengthE (fun j u hu => by rw [Addr.add_lit]; exact hcell j u hu)
  · cases h
end
end Go.Proofs.Ytfclelafcdcilaa.Dv
/- Each operation of the evaluator is the machine's: those that compute, copy and clear. -/
set_option linter.unusedVariables false
set_option linter.unusedSimpArgs false
namespace Go.Proofs.Ytfclelafcdcilaa.Dv
open Go

section
variable {P : Program} {Γ Γ' : Ctx} {w w' : World} {σ σ' : Store}

/-! ### copy, clear -/
theorem elems_cells (hs : SR Γ σ w) {x : D} {ux : Value} {news : List D} {ft : Foot} (hx : R1 Γ w x ux) (h : elems σ x = some (news, ft)) :
    ∃ vs a c sz, ux = .slice a news.length c ∧ R Γ w (some sz) news vs ∧ (news ≠ [] → ∃ b o, a = some ⟨b, o, none⟩ ∧ ∀ k u, vs[k]? = some u → w.cell? ⟨b, o + k, none⟩ = some u) := by
  unfold elems at h
  split at h
  · rename_i full xs
    injection h with h
    injection h with h _
    subst h
    obtain ⟨a, c, sz', us, rfl, hp, hn, hc, hf, hr, hz, had⟩ := R1.sl.1 hx
    refine ⟨us, a, c, sz', rfl, hr, fun hne => ?_⟩
    obtain ⟨b, o, e, _, hcell⟩ := had hne
    exact ⟨b, o, e, hcell⟩
  · rename_i b
    injection h with h
    injection h with h _
    subst h
    cases b with
    | true =>
      obtain ⟨c, rfl, _⟩ := (R1.atom_iff (d := .nsl true) rfl).1 hx
      exact ⟨[], none, c, 1, rfl, .nil _, fun h => absurd rfl h⟩
    | false =>
      obtain ⟨a, c, rfl, _⟩ := (R1.atom_iff (d := .nsl false) rfl).1 hx
      exact ⟨[], some a, c, 1, rfl, .nil _, fun h => absurd rfl h⟩
  · rename_i id off len cap ex
    split at h
    · rename_i st esz xs ho
      split at h
      · rename_i hle
        injection h with h
        injection h with h _
        subst h
        obtain ⟨hA, a, c, rfl, h1, h2, h3, h4, h5, h6⟩ := R1.ms.1 hx
        obtain ⟨⟨he, hz, cc, e, us, rest, hh, hb, hc, ⟨hr, hone⟩⟩, _⟩ := hs.row _ _ _ _ ho
        have hr2 := ((hr.takeE off (by omega)).2.takeE len (by rw [List.length_drop]; omega)).1
        have hlen : ((xs.drop off).take len).length = len := by rw [List.length_take, List.length_drop]; omega
        refine ⟨_, a, c, esz, by rw [hlen], hr2, fun hne => ?_⟩
        have hl0 : 0 < len := by
          cases hq : (xs.drop off).take len with
          | nil => exact absurd hq hne
          | cons _ _ => rw [hq] at hlen; simp at hlen; omega
        have ha := h4.resolve_left (by omega)
        refine ⟨Γ.ρ id, off * Γ.ez id, by rw [ha]; simp [adr], fun j u hu => ?_⟩
        rw [List.getElem?_take] at hu
        split at hu
        · rw [List.getElem?_drop] at hu
          rw [← he, cell_of_row w _ _ cc e (0, 0) hh]
          have hk' : (us ++ rest)[off * esz + j]? = some u := by rw [List.getElem?_append_left (List.getElem?_eq_some_iff.1 hu).1]; exact hu
          rw [← hc] at hk'
          simpa using hk'
        · cases hu
      · cases h
    · cases h
  · cases h
/-- A stretch of an own object written. -/
theorem write_stretch (hs : SR Γ σ w) {id esz : Nat} {xs news : List D} {vn : List Value} {p : Nat} (ho : σ.obj id = some (.row .own esz xs)) (hp : p + news.length ≤ xs.length) (hn : R Γ w (some esz) news vn) :
    ∃ w', (storeCells ⟨Γ.ρ id, p * esz, none⟩ vn).run P w = .ok () w' ∧ SR Γ (σ.put id (some (.row .own esz (xs.take p ++ news ++ xs.drop (p + news.length))))) w' ∧ Tr Γ σ w Γ (σ.put id (some (.row .own esz (xs.take p ++ news ++ xs.drop (p + news.length))))) w' := by
  obtain ⟨⟨hee, hz, cc, te, uo, rest, hh, hbs, hcc, ⟨hr, hone⟩⟩, _⟩ := hs.row _ _ _ _ ho
  have hcl : cc.size = uo.length + rest.length := by have := congrArg List.length hcc; simpa using this
  have hul := hr.lengthE
  have hln := hn.lengthE
  have hle : (p + news.length) * esz ≤ uo.length := by rw [hul]; exact Nat.mul_le_mul_right _ hp
  have e1 : (p + news.length) * esz = p * esz + news.length * esz := Nat.add_mul _ _ _
  have hrow := run_store_row (P := P) (o := p * esz) (vs := vn) hh (by omega) hn.elemE.2
  have hw := hs.write (xs' := xs.take p ++ news ++ xs.drop (p + news.length)) (c' := (cc.toList.take (p * esz) ++ vn ++ cc.toList.drop (p * esz + vn.length)).toArray) (rest := rest)
    (us := uo.take (p * esz) ++ vn ++ uo.drop (p * esz + vn.length)) ho hh
    (by rw [← hbs]; simp only [List.size_toArray, List.length_append, List.length_take, List.length_drop, Array.length_toList]; omega)
    (by
      show cc.toList.take _ ++ vn ++ cc.toList.drop _ = _
      rw [hcc, List.take_append_of_le_length (by omega), List.drop_append_of_le_length (by omega)]
      simp only [List.append_assoc])
    ⟨hr.splice hn p hp, hone⟩
  exact ⟨_, hrow, hw.1, hw.2⟩
theorem copy_ok (hs : SR Γ σ w) {t t2 ty : TypeId} {s x : D} {us ux : Value} {r : D × Store × Foot} {aid : Option Nat} (h1 : R1 Γ w s us) (h2 : R1 Γ w x ux) (h : evCopy P t s x σ = some r) :
    ValOk Γ σ w ((Builtin.copy_ #[t, t2] ty #[us, ux]).run P w) r.1 r.2.1 aid := by
  unfold evCopy at h
  split at h
  case h_2 => cases h
  rename_i e id off len cap ex news ft hk hel
  split at h
  case h_2 => cases h
  rename_i esz xs ho
  simp only at h
  split at h
  case isFalse => cases h
  rename_i hcond
  obtain ⟨hez, hle, hall⟩ := hcond
  injection h with h
  subst h
  obtain ⟨hAid, a, c, rfl, hc1, hc2, hc3, hc4, hc5, hc6⟩ := R1.ms.1 h1
  obtain ⟨vs, a2, c2, sz, rfl, hvs, had⟩ := elems_cells hs h2 hel
  obtain ⟨⟨hee, hz, _⟩, _⟩ := hs.row _ _ _ _ ho
  have hu := tk_sl hk
  obtain ⟨i, hinf⟩ := info_of_sz (P := P) (t := e) (by rw [← hez]; exact hz)
  have hsz := ti_sz hinf
  have hm1 : min news.length len ≤ news.length := Nat.min_le_left _ _
  have hm2 : min news.length len ≤ len := Nat.min_le_right _ _
  have htl : (news.take (min news.length len)).length = min news.length len := by rw [List.length_take]; omega
  have hvt := ((hvs.takeE (min news.length len) hm1).1).resize hall
  have hsz' : i.size = esz := by omega
  have hfirst : (Builtin.firstCells i.size (min news.length len) (.slice a2 news.length c2)).run P w = .ok (vs.take (min news.length len * sz)).toArray w := by
    have hlt : (vs.take (min news.length len * sz)).length = min news.length len * i.size := by rw [hvt.lengthE, htl, hsz']
    by_cases hne : news = []
    · subst hne
      simp only [List.length_nil, Nat.zero_min, Nat.zero_mul, List.take_zero]
      cases a2 with
      | none => simp [Builtin.firstCells]
      | some a2 => simpa using run_firstCells_some w i.size 0 a2 0 c2 [] (by simp) (by simp)
    · obtain ⟨b, o, rfl, hcell⟩ := had hne
      refine run_firstCells_some w _ _ _ _ _ _ hlt (fun j u hu => ?_)
      rw [Addr.add_lit]
      rw [List.getElem?_take] at hu
      split at hu
      · exact hcell j u hu
      · cases hu
  obtain ⟨w1, hst, hw1, hw2⟩ := write_stretch (P := P) hs ho (p := off) (by rw [htl]; omega) hvt
  rw [htl] at hw1 hw2
  by_cases hc0 : c = 0
  · have hl0 : len = 0 := by omega
    subst hl0
    have hput : σ.put id (some (.row .own esz (xs.take off ++ news.take (min news.length 0) ++ xs.drop (off + min news.length 0)))) = σ := by
      simp only [Nat.min_zero, List.take_zero, List.append_nil, Nat.add_zero, List.take_append_drop]
      exact put_obj ho
    rw [hput]
    simp only [Nat.min_zero, Nat.zero_mul, List.take_zero] at hfirst
    refine .same hs ?_ (R1.int.2 rfl)
    cases a <;> simp [Builtin.copy_, run_underlying hu, run_sizeOf hinf, Builtin.lenOf, hfirst, storeCells, goInt]
  · have ha := hc4.resolve_left hc0
    subst ha
    refine ⟨w1, Γ, _, ?_, R1.int.2 rfl, hw1, hw2, fun k hk => .inl hk⟩
    have hmin : Nat.min news.length len = min news.length len := rfl
    simp only [adr, Nat.add_zero, ← hee]
    simp [Builtin.copy_, run_underlying hu, run_sizeOf hinf, Builtin.lenOf, hmin, hfirst, hst, goInt]
theorem clear_ok (hs : SR Γ σ w) {t ty : TypeId} {s : D} {us : Value} {r : D × Store × Foot} {aid : Option Nat} (h1 : R1 Γ w s us) (h : evClear P t s σ = some r) :
    ValOk Γ σ w ((Builtin.clear_ #[t] ty #[us]).run P w) r.1 r.2.1 aid := by
  unfold evClear at h
  split at h
  case h_2 => cases h
  rename_i e id off len cap ex hk
  simp only at h
  split at h
  case h_2 => cases h
  rename_i esz xs ho
  split at h
  case isFalse => cases h
  rename_i hcond
  obtain ⟨hez, hle, he, hl2⟩ := hcond
  injection h with h
  subst h
  obtain ⟨hAid, a, c, rfl, hc1, hc2, hc3, hc4, hc5, hc6⟩ := R1.ms.1 h1
  obtain ⟨⟨hee, hz, _⟩, _⟩ := hs.row _ _ _ _ ho
  have hu := tk_sl hk
  obtain ⟨i, hinf⟩ := info_of_sz (P := P) (t := e) (by rw [← hez]; exact hz)
  obtain ⟨z, hzz, hzd⟩ := zero_of hinf he
  have hsz := ti_sz hinf
  have hr1 : R1 Γ w (ti P e).zero z := hzd ▸ ofValue_R1 z
  have hzc := hr1.cells_size he
  by_cases hl0 : len = 0
  · subst hl0
    have hput : σ.put id (some (.row .own esz (xs.take off ++ List.replicate 0 (ti P e).zero ++ xs.drop (off + 0)))) = σ := by
      simp only [List.replicate_zero, List.append_nil, Nat.add_zero, List.take_append_drop]
      exact put_obj ho
    rw [hput]
    refine .same hs ?_ (R1.undef.2 rfl)
    cases a <;> simp [Builtin.clear_, run_underlying hu, Go.undef]
  · have ha := hc4.resolve_left (by omega)
    subst ha
    have hrep : R Γ w (some esz) (List.replicate len (ti P e).zero) (madeCells z.cells (len * z.cells.size)).toList := by
      rw [toList_madeCells _ (by omega)]
      exact R.replicateE he (hr1.cells he) (by simp; omega) len
    obtain ⟨w1, hst, hw1, hw2⟩ := write_stretch (P := P) hs ho (p := off) (by rw [List.length_replicate]; omega) hrep
    rw [List.length_replicate] at hw1 hw2
    refine ⟨w1, Γ, _, ?_, R1.undef.2 rfl, hw1, hw2, fun k hk => .inl hk⟩
    have hzero : Builtin.zeroCells z.cells len = madeCells z.cells (len * z.cells.size) := rfl
    simp only [adr, Nat.add_zero, ← hee]
    obtain ⟨m, rfl⟩ : ∃ m, len = m + 1 := ⟨len - 1, by omega⟩
    simp [Builtin.clear_, run_underlying hu, zeroValue, typeInfo, hinf, hzz, hzero, hst, Go.undef]

/-! ### values -/
theorem part_run {t : TypeId} {ds : List D} {us : List Value} {off : Nat} {v : D} (hsub : sub (ti P t) (.agg ds) off = some v) (h : R Γ w none ds us) (hl : ds.all D.leaf = true) :
    ∃ u, (part t us.toArray off).run P w = .ok u w ∧ R1 Γ w v u := by
  have hlen := h.length
  unfold sub at hsub
  split at hsub
  · cases hsub
  rename_i hk
  have hk : (ti P t).k.known = true := by cases hq : (ti P t).k.known <;> simp_all
  obtain ⟨d, hd⟩ := tk_some hk
  obtain ⟨i, hi⟩ := info_of hd
  have hsz := ti_sz hi
  have hag := run_isAgg hk w
  split at hsub
  · rename_i h0
    obtain ⟨rfl, ha, hl2⟩ := h0
    injection hsub with hsub
    subst hsub
    have hA : (ti P t).k.isAgg = true := ha.symm
    simp only [D.cells] at hl2
    refine ⟨.agg us.toArray, ?_, R1.agg.2 ⟨us, rfl, h, hl⟩⟩
    have hx : us.take i.size = us := List.take_of_length_le (by omega)
    simp [part, hag, hA, run_sizeOf hi, hx]
  · split at hsub
    · rename_i hA
      split at hsub
      · rename_i hle
        injection hsub with hsub
        subst hsub
        simp only [D.cells] at hle ⊢
        refine ⟨.agg ((us.drop off).take (ti P t).sz).toArray, ?_, R1.agg.2 ⟨_, rfl, (h.drop off).take _, ?_⟩⟩
        · simp [part, hag, hA, run_sizeOf hi, hsz]
        · simp only [List.all_eq_true] at hl ⊢
          exact fun d hd => hl d (List.mem_of_mem_drop (List.mem_of_mem_take hd))
      · cases hsub
    · rename_i hA
      have hA : (ti P t).k.isAgg = false := by simpa using hA
      split at hsub
      · obtain ⟨u, hu, h1⟩ := h.get (by simpa [D.cells] using hsub)
        exact ⟨u, by simp [part, hag, hA, hu], h1⟩
      · cases hsub
theorem evPart_run {t : TypeId} {x v : D} {u : Value} {off : Nat} (hx : R1 Γ w x u) (h : evPart P t x off = some v) : ∃ cs z, u = .agg cs ∧ (part t cs off).run P w = .ok z w ∧ R1 Γ w v z := by
  unfold evPart at h
  split at h
  · obtain ⟨us, rfl, hr, hl⟩ := R1.agg.1 hx
    obtain ⟨z, hz, h1⟩ := part_run h hr hl
    exact ⟨_, z, rfl, hz, h1⟩
  · cases h
theorem fields_get {fields : Array Field} {f : Nat} {off : Nat} {ft : TypeId} (h : (fields.toList.map fun f => (f.offset, f.type))[f]? = some (off, ft)) : ∃ fl, fields[f]? = some fl ∧ fl.offset = off ∧ fl.type = ft := by
  rw [List.getElem?_map] at h
  obtain ⟨fl, h1, h2⟩ := Option.map_eq_some_iff.1 h
  injection h2 with h2 h3
  exact ⟨fl, by simpa using h1, h2, h3⟩
theorem field_ok {t : TypeId} {x v : D} {u : Value} {f : Nat} (hx : R1 Γ w x u) (h : evField P t x f = some v) : ∃ z, (Instr.field t u f).run P w = .ok z w ∧ R1 Γ w v z := by
  unfold evField at h
  split at h
  · rename_i fs hk
    obtain ⟨fields, hu, rfl⟩ := tk_st hk
    split at h
    · rename_i off ft hf
      obtain ⟨fl, hfl, rfl, rfl⟩ := fields_get hf
      obtain ⟨cs, z, rfl, hz, h1⟩ := evPart_run hx h
      exact ⟨z, by simp [Instr.field, run_underlying hu, hfl, asAgg, hz], h1⟩
    · cases h
  · cases h
theorem fieldAddr_ok {s : TypeId} {x v : D} {u : Value} {f : Nat} (hx : R1 Γ w x u) (h : evFieldAddr P s x f = some v) : ∃ z, (Instr.fieldAt s u f).run P w = .ok z w ∧ R1 Γ w v z := by
  unfold evFieldAddr at h
  split at h
  · rename_i fs hk
    obtain ⟨fields, hu, rfl⟩ := tk_st hk
    split at h
    · rename_i off ft hf
      obtain ⟨fl, hfl, rfl, rfl⟩ := fields_get hf
      split at h
      · cases h
      · rename_i hz
        obtain ⟨i, hi⟩ := info_of_sz (P := P) (t := fl.type) (by omega)
        rw [ti_sz hi] at hz
        split at h
        · injection h with h
          subst h
          obtain ⟨hA, rfl⟩ := R1.ptr.1 hx
          exact ⟨_, by simp [Instr.fieldAt, run_underlying hu, hfl, Instr.sureAddr, fieldPlace, run_sizeOf hi, hz, adr, Addr.add_lit]; rfl, R1.ptr.2 ⟨hA, by simp [adr, Nat.add_assoc]⟩⟩
        · injection h with h
          subst h
          obtain ⟨us, b, o, rfl, hp, he, hr, hC, hc⟩ := R1.cpt.1 hx
          exact ⟨_, by simp [Instr.fieldAt, run_underlying hu, hfl, Instr.sureAddr, fieldPlace, run_sizeOf hi, hz, Addr.add_lit]; rfl, R1.cpt.2 ⟨us, b, o, by simp [Nat.add_assoc], hp, he, hr, hC, hc⟩⟩
        · cases h
    · cases h
  · cases h
theorem sl_elem {full : Bool} {xs : List D} {u : Value} (hx : R1 Γ w (.sl full xs) u) {n : Nat} {y : D} (hy : xs[n]? = some y) :
    ∃ b o c sz us, u = .slice (some ⟨b, o, none⟩) xs.length c ∧ y.pure = true ∧ y.elem = true ∧ y.cells.length = sz ∧ R Γ w none y.cells us ∧ Γ.C b ∧ ∀ k u, us[k]? = some u → w.cell? ⟨b, o + n * sz + k, none⟩ = some u := by
  obtain ⟨a, c, sz, us, rfl, hp, hn, hc, hf, hr, hz, had⟩ := R1.sl.1 hx
  have hlt : n < xs.length := (List.getElem?_eq_some_iff.1 hy).1
  obtain ⟨b, o, rfl, hC, hcell⟩ := had (fun e => by rw [e] at hlt; cases hlt)
  obtain ⟨h1, h2, h3⟩ := hr.getE hy
  simp only [List.all_eq_true] at hp
  refine ⟨b, o, c, sz, _, rfl, hp y (List.mem_of_getElem? hy), h1, h2, h3, hC, fun k u hu => ?_⟩
  rw [List.getElem?_take] at hu
  split at hu
  · rw [List.getElem?_drop] at hu
    rw [Nat.add_assoc]
    exact hcell _ u hu
  · cases hu
theorem esz_row (hs : SR Γ σ w) {id n : Nat} (h : σ.esz id = some n) : Γ.ez id = n ∧ ∃ st xs, σ.obj id = some (.row st n xs) := by
  unfold Store.esz at h
  split at h
  · rename_i st esz xs ho
    injection h with h
    subst h
    exact ⟨((hs.row _ _ _ _ ho).1.1).symm, st, xs, ho⟩
  · cases h
theorem indexAddr_ok (hs : SR Γ σ w) {t : TypeId} {x ix : D} {u ui : Value} {r : D × Foot} (hx : R1 Γ w x u) (hi : R1 Γ w ix ui) (h : evIndexAddr P t x ix σ = some r) : ∃ z, (Instr.indexAt t u ui).run P w = .ok z w ∧ R1 Γ w r.1 z := by
  unfold evIndexAddr at h
  split at h
  · rename_i e full xs k n hk
    split at h
    · rename_i h0
      split at h
      · rename_i y hy
        split at h
        · rename_i hc
          injection h with h
          subst h
          obtain ⟨b, o, c, sz, us, rfl, hp, he, hl, hr, hC, hcell⟩ := sl_elem hx hy
          rw [R1.int.1 hi]
          have hu := tk_sl hk
          obtain ⟨i, hinf⟩ := info_of_sz hc.2
          have hsz := ti_sz hinf
          have hlt : n.toNat < xs.length := (List.getElem?_eq_some_iff.1 hy).1
          have hn : n < (xs.length : Int) := by omega
          have hszz : i.size = sz := by omega
          refine ⟨.pointer (some ⟨b, o + n.toNat * sz, none⟩), ?_, R1.cpt.2 ⟨us, b, o + n.toNat * sz, by simp, hp, he, hr, hC, hcell⟩⟩
          simp [Instr.indexAt, asIntOf, run_underlying hu, h0, hn, run_sizeOf hinf, Addr.add_lit, hszz]
        · cases h
      · cases h
    · cases h
  · rename_i e id off len cap ex k n hk
    split at h
    · rename_i hc
      obtain ⟨h0, hn, hz, hez⟩ := hc
      injection h with h
      subst h
      obtain ⟨hA, a, c, rfl, h1, h2, h3, h4, h5, h6⟩ := R1.ms.1 hx
      rw [R1.int.1 hi]
      have hu := tk_sl hk
      obtain ⟨i, hinf⟩ := info_of_sz hz
      have hsz := ti_sz hinf
      have ha := h4.resolve_left (by omega)
      subst ha
      obtain ⟨hzz, _⟩ := esz_row hs hez
      refine ⟨.pointer (some (adr Γ id (off + n.toNat) 0)), ?_, R1.ptr.2 ⟨hA, rfl⟩⟩
      simp [Instr.indexAt, asIntOf, run_underlying hu, h0, hn, run_sizeOf hinf, Addr.add_lit, adr, hzz, ← hsz, Nat.add_mul]
    · cases h
  · rename_i m e id i j k n hk
    split at h
    · rename_i hc
      obtain ⟨h0, hn, hz⟩ := hc
      injection h with h
      subst h
      obtain ⟨hA, rfl⟩ := R1.ptr.1 hx
      rw [R1.int.1 hi]
      have hu := tk_arr hk
      obtain ⟨inf, hinf⟩ := info_of_sz hz
      have hsz := ti_sz hinf
      refine ⟨.pointer (some (adr Γ id i (j + n.toNat * (ti P e).sz))), ?_, R1.ptr.2 ⟨hA, rfl⟩⟩
      simp [Instr.indexAt, asIntOf, run_underlying hu, h0, hn, run_sizeOf hinf, Addr.add_lit, adr, ← hsz, Instr.sureAddr, Nat.add_assoc]
    · cases h
  · rename_i m e y j k n hk
    split at h
    · rename_i hc
      obtain ⟨h0, hn, hz⟩ := hc
      injection h with h
      subst h
      obtain ⟨us, b, o, rfl, hp, he, hr, hC, hcell⟩ := R1.cpt.1 hx
      rw [R1.int.1 hi]
      have hu := tk_arr hk
      obtain ⟨inf, hinf⟩ := info_of_sz hz
      have hsz := ti_sz hinf
      refine ⟨.pointer (some ⟨b, o + (j + n.toNat * (ti P e).sz), none⟩), ?_, R1.cpt.2 ⟨us, b, o, rfl, hp, he, hr, hC, hcell⟩⟩
      simp [Instr.indexAt, asIntOf, run_underlying hu, h0, hn, run_sizeOf hinf, Addr.add_lit, ← hsz, Instr.sureAddr, Nat.add_assoc]
    · cases h
  · cases h
theorem sub_known {T : TI} {x v : D} {j : Nat} (h : sub T x j = some v) : T.k.known = true := by
  unfold sub at h
  cases hq : T.k.known with
  | true => rfl
  | false => rw [hq] at h; simp at h
theorem index_ok {t : TypeId} {x ix v : D} {u ui : Value} (hx : R1 Γ w x u) (hi : R1 Γ w ix ui) (h : evIndex P t x ix = some v) : ∃ z, (Instr.index t u ui).run P w = .ok z w ∧ R1 Γ w v z := by
  unfold evIndex at h
  split at h
  · rename_i m e ds k n hk
    split at h
    · rename_i hc
      obtain ⟨h0, hn⟩ := hc
      obtain ⟨cs, z, rfl, hz, h1⟩ := evPart_run hx h
      rw [R1.int.1 hi]
      have hu := tk_arr hk
      refine ⟨z, ?_, h1⟩
      have hkn : (ti P e).k.known = true := sub_known h
      obtain ⟨d, hd⟩ := tk_some hkn
      obtain ⟨inf, hinf⟩ := info_of hd
      have hsz := ti_sz hinf
      rw [hsz] at hz
      simp [Instr.index, asIntOf, run_underlying hu, h0, hn, run_sizeOf hinf, hz]
    · cases h
  · rename_i s k n hk
    split at h
    · rename_i h0
      split at h
      · rename_i b hb
        injection h with h
        subst h
        rw [R1.int.1 hi, R1.str.1 hx]
        have hu := tk_str hk
        exact ⟨.int .u8 b.toNat, by simp [Instr.index, asIntOf, run_underlying hu, h0, hb], R1.int.2 rfl⟩
      · cases h
    · cases h
  · cases h
/-- What bounds a slice expression bears. -/
def OptR (Γ : Ctx) (w : World) : Option D → Option Value → Prop
  | none, none => True
  | some d, some v => R1 Γ w d v
  | _, _ => False
theorem bound_run {dflt : Nat} {o : Option D} {v : Option Value} {n y : Nat} {code : BoundsCode} (hr : OptR Γ w o v) (h : bnd dflt o = some n) (hy : n ≤ y) (hd : dflt ≤ y ∨ v.isSome = true) :
    (match v with | some x => Instr.sliceBound x y code | none => (pure dflt : Sem Nat)).run P w = .ok n w := by
  cases o with
  | none => cases v with
    | none => simp only [bnd, Option.some.injEq] at h; subst h; rfl
    | some v => exact hr.elim
  | some d => cases v with
    | none => exact hr.elim
    | some v =>
      cases d <;> simp only [bnd] at h <;> try cases h
      rename_i k m
      split at h
      · rename_i h0
        injection h with h
        subst h
        rw [R1.int.1 (show R1 Γ w _ v from hr)]
        have : m ≤ (y : Int) := by omega
        simp [Instr.sliceBound, asIntOf, h0, this]
      · cases h
end
end Go.Proofs.Ytfclelafcdcilaa.Dv
/- Each operation of the evaluator is the machine's: slice expressions, operators, conversions, literals; all together. -/
set_option linter.unusedVariables false
set_option linter.unusedSimpArgs false
namespace Go.Proofs.Ytfclelafcdcilaa.Dv
open Go

section
variable {P : Program} {Γ Γ' : Ctx} {w w' : World} {σ σ' : Store}

/-! ### slice expressions -/
theorem sliceBounds_eq (isSl : Bool) (len c : Nat) (vlo vhi vmx : Option Value) : Instr.sliceBounds isSl len c vlo vhi vmx =
    (match vmx with | some v => Instr.sliceBound v c (if isSl = true then .slice3Acap else .slice3Alen) | none => (pure c : Sem Nat)) >>= fun m =>
      (match vhi, vmx with
      | some v, some _ => Instr.sliceBound v m .slice3B
      | some v, none => Instr.sliceBound v m (if isSl = true then .sliceAcap else .sliceAlen)
      | none, none => (pure len : Sem Nat)
      | none, some _ => stuck "Slice: max without high") >>= fun h =>
      (match vlo with | some v => Instr.sliceBound v h (if vmx.isSome = true then .slice3C else .sliceB) | none => (pure 0 : Sem Nat)) >>= fun l => pure (l, h, m) := by
  cases vmx <;> cases vhi <;> cases vlo <;> rfl
theorem bounds_run {isSl : Bool} {len c M h l : Nat} {lo hi mx : Option D} {vlo vhi vmx : Option Value} (rlo : OptR Γ w lo vlo) (rhi : OptR Γ w hi vhi) (rmx : OptR Γ w mx vmx)
    (hh : bnd len hi = some h) (hl : bnd 0 lo = some l) (h1 : l ≤ h) (h2 : h ≤ M) (h3 : M ≤ c) (hm0 : mx = none → M = c) (hm1 : mx.isSome = true → bnd c mx = some M ∧ hi.isSome = true) :
    (Instr.sliceBounds isSl len c vlo vhi vmx).run P w = .ok (l, h, M) w := by
  have em : (match vmx with | some v => Instr.sliceBound v c (if isSl = true then .slice3Acap else .slice3Alen) | none => (pure c : Sem Nat)).run P w = .ok M w := by
    cases mx with
    | none =>
      cases vmx with
      | none => rw [hm0 rfl]; rfl
      | some v => exact rmx.elim
    | some d => exact bound_run (dflt := c) rmx (hm1 rfl).1 h3 (.inl (Nat.le_refl _))
  have el : ∀ code, (match vlo with | some v => Instr.sliceBound v h code | none => (pure 0 : Sem Nat)).run P w = .ok l w := fun code => bound_run (dflt := 0) rlo hl h1 (.inl (Nat.zero_le _))
  have eh : (match vhi, vmx with
      | some v, some _ => Instr.sliceBound v M .slice3B
      | some v, none => Instr.sliceBound v M (if isSl = true then .sliceAcap else .sliceAlen)
      | none, none => (pure len : Sem Nat)
      | none, some _ => stuck "Slice: max without high").run P w = .ok h w := by
    cases hi with
    | none =>
      cases vhi with
      | some v => exact rhi.elim
      | none =>
        simp only [bnd, Option.some.injEq] at hh
        subst hh
        cases vmx with
        | none => rfl
        | some v =>
          cases mx with
          | none => exact rmx.elim
          | some d => have := (hm1 rfl).2; cases this
    | some d =>
      cases vhi with
      | none => exact rhi.elim
      | some v =>
        cases vmx with
        | none => exact bound_run (dflt := len) (v := some v) rhi hh h2 (.inr rfl)
        | some v' => exact bound_run (dflt := len) (v := some v) rhi hh h2 (.inr rfl)
  rw [sliceBounds_eq, Sem.run_bind, em, Result.andThen_ok, Sem.run_bind, eh, Result.andThen_ok, Sem.run_bind, el, Result.andThen_ok]
  rfl
theorem opt_none {o : Option D} {v : Option Value} (h : OptR Γ w o v) : o.isSome = v.isSome := by
  cases o <;> cases v <;> first | rfl | exact h.elim
theorem bnd_some {d d' : Nat} {o : Option D} (h : o.isSome = true) : bnd d o = bnd d' o := by
  cases o with
  | none => cases h
  | some x => cases x <;> rfl
theorem slice_ok (hs : SR Γ σ w) {t : TypeId} {x : D} {u : Value} {lo hi mx : Option D} {vlo vhi vmx : Option Value} {r : D × Foot} (hx : R1 Γ w x u) (rlo : OptR Γ w lo vlo) (rhi : OptR Γ w hi vhi) (rmx : OptR Γ w mx vmx)
    (h : evSlice P t x lo hi mx σ = some r) : ∃ z, (Instr.sliceAt t u vlo vhi vmx).run P w = .ok z w ∧ R1 Γ w r.1 z := by
  unfold evSlice at h
  split at h
  · rename_i s hk
    split at h
    · cases h
    · rename_i hm
      split at h
      · rename_i hh ll hbh hbl
        split at h
        · rename_i hc
          injection h with h
          subst h
          obtain ⟨h1, h2⟩ := hc
          rw [R1.str.1 hx]
          have hu := tk_str hk
          have hmx : mx = none := by cases mx <;> simp_all
          subst hmx
          have hvm : vmx = none := by cases vmx with
            | none => rfl
            | some _ => exact rmx.elim
          subst hvm
          have hb := bounds_run (P := P) (Γ := Γ) (w := w) (isSl := false) (mx := none) (vmx := none) (c := s.size) (M := s.size) rlo rhi trivial hbh hbl h1 h2 (Nat.le_refl _) (fun _ => rfl) (fun h => by cases h)
          exact ⟨.string (s.extract ll hh), by simp [Instr.sliceAt, Instr.slice, run_underlying hu, hb], R1.str.2 rfl⟩
        · cases h
      · cases h
  · rename_i e full xs hk
    split at h
    · rename_i mm hh ll hbm hbh hbl
      split at h
      · rename_i hc
        injection h with h
        subst h
        obtain ⟨h1, h2, h3, h4, hz, hall⟩ := hc
        obtain ⟨a, c, sz, us, rfl, hp, hn, hcm, hf, hr, hz', had⟩ := R1.sl.1 hx
        have hu := tk_sl hk
        obtain ⟨inf, hinf⟩ := info_of_sz hz
        have hsz := ti_sz hinf
        -- the machine's third bound
        obtain ⟨M, hM1, hM2, hM3, hM4, hM5⟩ : ∃ M, hh ≤ M ∧ M ≤ c ∧ (mx = none → M = c) ∧ (mx.isSome = true → bnd c mx = some M ∧ hi.isSome = true) ∧ (mx.isSome = true → M = mm) := by
          cases mx with
          | none => exact ⟨c, by simp [bnd] at hbm; omega, Nat.le_refl _, fun _ => rfl, (fun h => by cases h), fun h => by cases h⟩
          | some d => exact ⟨mm, h2, by omega, (fun h => by cases h), fun _ => ⟨by rw [bnd_some (d' := xs.length) rfl]; exact hbm, h4 rfl⟩, fun _ => rfl⟩
        have hb := bounds_run (P := P) (isSl := true) rlo rhi rmx hbh hbl h1 hM1 hM2 hM3 hM4
        have hlen : ((xs.take hh).drop ll).length = hh - ll := by rw [List.length_drop, List.length_take]; omega
        have hr1 := ((hr.takeE hh (by omega)).1.takeE ll (by rw [List.length_take]; omega)).2
        refine ⟨_, by simp [Instr.sliceAt, Instr.slice, run_underlying hu, hb, run_sizeOf hinf]; rfl, ?_⟩
        rw [show hh - ll = ((xs.take hh).drop ll).length from hlen.symm]
        refine R1.sl.2 ⟨_, _, sz, _, rfl, ?_, by rw [hlen]; omega, by omega, fun hfl => ?_, hr1, hz', fun hne => ?_⟩
        · simp only [List.all_eq_true] at hp ⊢
          exact fun y hy => hp y (List.mem_of_mem_take (List.mem_of_mem_drop hy))
        · rw [hlen]
          split at hfl
          · rename_i hms
            simp only [decide_eq_true_eq] at hfl
            rw [hM5 hms]; omega
          · rename_i hms
            simp only [Bool.and_eq_true, decide_eq_true_eq] at hfl
            have hmx : mx = none := by cases mx <;> simp_all
            rw [hM3 hmx, hf hfl.1]; omega
        · have hpos : 0 < hh - ll := by
            rw [← hlen]
            cases hq : (xs.take hh).drop ll with
            | nil => exact absurd hq hne
            | cons _ _ => simp
          obtain ⟨b, o, rfl, hC, hcell⟩ := had (fun e => by rw [e] at h3; simp at h3; omega)
          have hsz2 : sz = inf.size := by
            cases hq : (xs.take hh).drop ll with
            | nil => exact absurd hq hne
            | cons y ys =>
              rw [hq] at hr1 hall
              have := (hr1.elemE.1 y (by simp)).2
              simp only [List.all_cons, Bool.and_eq_true, beq_iff_eq] at hall
              omega
          refine ⟨b, o + ll * inf.size, by rw [if_neg (by omega)]; simp [Addr.add_lit], hC, fun k u hu => ?_⟩
          rw [List.getElem?_drop, List.getElem?_take] at hu
          split at hu
          · rw [Nat.add_assoc, ← hsz2]
            exact hcell _ u hu
          · cases hu
      · cases h
    · cases h
  · rename_i e id off len cap ex hk
    split at h
    · rename_i mm hh ll hbm hbh hbl
      split at h
      · rename_i hc
        injection h with h
        subst h
        obtain ⟨h1, h2, h3, h4, hz, hez⟩ := hc
        obtain ⟨hA, a, c, rfl, c1, c2, c3, c4, c5, c6⟩ := R1.ms.1 hx
        have hu := tk_sl hk
        obtain ⟨inf, hinf⟩ := info_of_sz hz
        have hsz := ti_sz hinf
        obtain ⟨hzz, _⟩ := esz_row hs hez
        obtain ⟨M, hM1, hM2, hM3, hM4, hM5⟩ : ∃ M, hh ≤ M ∧ M ≤ c ∧ (mx = none → M = c) ∧ (mx.isSome = true → bnd c mx = some M ∧ hi.isSome = true) ∧ (mx.isSome = true → M = mm) := by
          cases mx with
          | none => exact ⟨c, by simp [bnd] at hbm; omega, Nat.le_refl _, fun _ => rfl, (fun h => by cases h), fun h => by cases h⟩
          | some d => exact ⟨mm, h2, by omega, (fun h => by cases h), fun _ => ⟨by rw [bnd_some (d' := cap) rfl]; exact hbm, h4 rfl⟩, fun _ => rfl⟩
        have hb := bounds_run (P := P) (isSl := true) rlo rhi rmx hbh hbl h1 hM1 hM2 hM3 hM4
        have hmM : mm ≤ M := by
          cases mx with
          | none => simp only [bnd, Option.some.injEq] at hbm; rw [hM3 rfl]; omega
          | some d => rw [hM5 rfl]; exact Nat.le_refl _
        refine ⟨_, by simp [Instr.sliceAt, Instr.slice, run_underlying hu, hb, run_sizeOf hinf]; rfl, ?_⟩
        refine R1.ms.2 ⟨hA, _, _, rfl, by omega, by omega, fun hex => ?_, ?_, ?_, by omega⟩
        · simp only [Bool.or_eq_true] at hex
          rcases hex with hex | hex
          · cases mx with
            | none => simp only [bnd, Option.some.injEq] at hbm; rw [hM3 rfl, c3 hex]; omega
            | some d => rw [hM5 rfl]
          · rw [hM5 hex]
        · by_cases hMl : M = ll
          · exact .inl (by omega)
          · refine .inr ?_
            have ha := c4.resolve_left (by omega)
            rw [if_neg hMl, ha]
            simp [adr, Addr.add_lit, hzz, ← hsz, Nat.add_mul]
        · refine Nat.le_trans (Nat.mul_le_mul_right _ ?_) c5
          omega
      · cases h
    · cases h
  · cases h

/-! ### operators -/
theorem kind_ne {k : IntKind} : (k = k) = True := eq_self k
theorem binInt_ok {op : BinOp} {k : IntKind} {a b : Int} {v : D} {t : TypeId} (hsh : op ≠ .shl ∧ op ≠ .shr) (h : binInt op k a b = some v) : ∃ z, (binOp op t (.int k a) (.int k b)).run P w = .ok z w ∧ R1 Γ w v z := by
  cases op <;> simp only [binInt] at h <;> try (cases h; done)
  case add => injection h with h; subst h; exact ⟨.int k (k.wrap (a + b)), by simp [binOp, Op.intArith], R1.int.2 rfl⟩
  case sub => injection h with h; subst h; exact ⟨.int k (k.wrap (a - b)), by simp [binOp, Op.intArith], R1.int.2 rfl⟩
  case mul => injection h with h; subst h; exact ⟨.int k (k.wrap (a * b)), by simp [binOp, Op.intArith], R1.int.2 rfl⟩
  case quo =>
    by_cases hb : b = 0
    · simp [hb] at h
    · rw [if_neg hb] at h; injection h with h; subst h; exact ⟨.int k (k.wrap (a.tdiv b)), by simp [binOp, Op.intDiv, hb], R1.int.2 rfl⟩
  case rem =>
    by_cases hb : b = 0
    · simp [hb] at h
    · rw [if_neg hb] at h; injection h with h; subst h; exact ⟨.int k (a.tmod b), by simp [binOp, Op.intDiv, hb], R1.int.2 rfl⟩
  case and => injection h with h; subst h; exact ⟨.int k (k.wrap (BitVec.ofInt k.bits a &&& BitVec.ofInt k.bits b).toNat), by simp [binOp, Op.intBits], R1.int.2 rfl⟩
  case or => injection h with h; subst h; exact ⟨.int k (k.wrap (BitVec.ofInt k.bits a ||| BitVec.ofInt k.bits b).toNat), by simp [binOp, Op.intBits], R1.int.2 rfl⟩
  case xor => injection h with h; subst h; exact ⟨.int k (k.wrap (BitVec.ofInt k.bits a ^^^ BitVec.ofInt k.bits b).toNat), by simp [binOp, Op.intBits], R1.int.2 rfl⟩
  case eql => injection h with h; subst h; exact ⟨.bool (decide (a = b)), by simp [binOp, Op.intCmp]; rfl, R1.bool.2 rfl⟩
  case neq => injection h with h; subst h; exact ⟨.bool (decide (a ≠ b)), by simp [binOp, Op.intCmp]; rfl, R1.bool.2 rfl⟩
  case lss => injection h with h; subst h; exact ⟨.bool (decide (a < b)), by simp [binOp, Op.intCmp], R1.bool.2 rfl⟩
  case leq => injection h with h; subst h; exact ⟨.bool (decide (a ≤ b)), by simp [binOp, Op.intCmp], R1.bool.2 rfl⟩
  case gtr => injection h with h; subst h; exact ⟨.bool (decide (b < a)), by simp [binOp, Op.intCmp], R1.bool.2 rfl⟩
  case geq => injection h with h; subst h; exact ⟨.bool (decide (b ≤ a)), by simp [binOp, Op.intCmp], R1.bool.2 rfl⟩
theorem shInt_ok {op : BinOp} {k k' : IntKind} {a b : Int} {v : D} {t : TypeId} (hsh : op = .shl ∨ op = .shr) (h : shInt op k a b = some v) : ∃ z, (binOp op t (.int k a) (.int k' b)).run P w = .ok z w ∧ R1 Γ w v z := by
  unfold shInt at h
  by_cases hb : b < 0
  · simp [hb] at h
  · rw [if_neg hb] at h
    rcases hsh with rfl | rfl
    · simp only at h; injection h with h; subst h; exact ⟨.int k (k.wrap (a * 2 ^ (min b.toNat k.bits))), by simp [binOp, Op.shift, hb], R1.int.2 rfl⟩
    · simp only at h; injection h with h; subst h; exact ⟨.int k (a.fdiv (2 ^ (min b.toNat k.bits))), by simp [binOp, Op.shift, hb], R1.int.2 rfl⟩
theorem toList_eq (a b : ByteArray) : (a.toList == b.toList) = decide (a = b) := by
  by_cases h : a = b
  · subst h; simp
  · simp only [h, decide_false, beq_eq_false_iff_ne, ne_eq]
    intro e
    apply h
    rw [ByteArray.toList_eq, ByteArray.toList_eq] at e
    cases a; cases b
    simp at e
    simp [e]
theorem dataList_eq (a b : ByteArray) : (a.data.toList == b.data.toList) = decide (a = b) := by rw [← ByteArray.toList_eq, ← ByteArray.toList_eq]; exact toList_eq a b
theorem binStr_ok {op : BinOp} {a b : ByteArray} {v : D} {t : TypeId} (h : binStr op a b = some v) : ∃ z, (binOp op t (.string a) (.string b)).run P w = .ok z w ∧ R1 Γ w v z := by
  cases op <;> simp only [binStr] at h <;> try (cases h; done)
  case add =>
    by_cases hb : a.size + b.size ≤ 4611686018427387904
    · rw [if_pos hb] at h
      injection h with h; subst h
      have h63 : IntKind.i64.max = 9223372036854775807 := by decide
      have : ¬ (IntKind.i64.max < (a.size : Int) + (b.size : Int)) := by omega
      exact ⟨.string (a ++ b), by simp [binOp, Op.stringOp, h63]; omega, R1.str.2 rfl⟩
    · simp [hb] at h
  case eql => injection h with h; subst h; exact ⟨.bool (decide (a = b)), by simp [binOp, Op.stringOp, toList_eq], R1.bool.2 rfl⟩
  case neq => injection h with h; subst h; exact ⟨.bool (decide (a ≠ b)), by simp [binOp, Op.stringOp, toList_eq], R1.bool.2 rfl⟩
  case lss => injection h with h; subst h; exact ⟨_, by simp only [binOp, Op.stringOp, ByteArray.toList_eq, dataList_eq]; rfl, R1.bool.2 rfl⟩
  case leq => injection h with h; subst h; exact ⟨_, by simp only [binOp, Op.stringOp, ByteArray.toList_eq, dataList_eq]; rfl, R1.bool.2 rfl⟩
  case gtr => injection h with h; subst h; exact ⟨_, by simp only [binOp, Op.stringOp, ByteArray.toList_eq, dataList_eq]; rfl, R1.bool.2 rfl⟩
  case geq => injection h with h; subst h; exact ⟨_, by simp only [binOp, Op.stringOp, ByteArray.toList_eq, dataList_eq]; rfl, R1.bool.2 rfl⟩
end
end Go.Proofs.Ytfclelafcdcilaa.Dv
/- Each operation of the evaluator is the machine's: equality, conversions, literals; and all together. -/
set_option linter.unusedVariables false
set_option linter.unusedSimpArgs false
namespace Go.Proofs.Ytfclelafcdcilaa.Dv
open Go

section
variable {P : Program} {Γ Γ' : Ctx} {w w' : World} {σ σ' : Store}

/-! ### equality -/
theorem eqok_of {t : TypeId} (h : (ti P t).eqok = true) : P.eqGuardType P.depth t = false ∧ P.stoodInHeld t = false ∧ ∀ fields : Array Field, P.underlying t = some (.struct fields) → ∀ f ∈ fields.toList, f.name ≠ "_" := by
  simp only [ti, eqokOf, Bool.and_eq_true, Bool.not_eq_true'] at h
  obtain ⟨⟨h1, h2⟩, h3⟩ := h
  refine ⟨h1, h2, fun fields hf f hm => ?_⟩
  rw [hf] at h3
  simp only [List.all_eq_true, bne_iff_ne] at h3
  exact h3 f hm
theorem nilEq_ok {t e : TypeId} {x y : D} {b : Bool} {u v : Value} {d : Nat} (ht : P.underlying t = some (.pointer e)) (h : nilEq x y = some b) (hx : R1 Γ w x u) (hy : R1 Γ w y v) : (Op.equalIn (d + 1) t u v).run P w = .ok b w := by
  unfold nilEq at h
  split at h
  · injection h with h; subst h
    obtain rfl := R1.nilp.1 hx
    obtain rfl := R1.nilp.1 hy
    simp [Op.equalIn, run_underlying ht]
  · injection h with h; subst h
    obtain rfl := R1.nilp.1 hx
    obtain ⟨_, rfl⟩ := R1.ptr.1 hy
    simp [Op.equalIn, run_underlying ht]
  · injection h with h; subst h
    obtain rfl := R1.nilp.1 hx
    obtain ⟨_, _, _, rfl, _⟩ := R1.cpt.1 hy
    simp [Op.equalIn, run_underlying ht]
  · injection h with h; subst h
    obtain ⟨_, rfl⟩ := R1.ptr.1 hx
    obtain rfl := R1.nilp.1 hy
    simp [Op.equalIn, run_underlying ht]
  · injection h with h; subst h
    obtain ⟨_, _, _, rfl, _⟩ := R1.cpt.1 hx
    obtain rfl := R1.nilp.1 hy
    simp [Op.equalIn, run_underlying ht]
  · cases h
theorem deq_ok : ∀ {n : Nat} {t : TypeId} {x y : D} {b : Bool} {u v : Value} {d : Nat}, deq P n t x y = some b → R1 Γ w x u → R1 Γ w y v → n ≤ d → (Op.equalIn d t u v).run P w = .ok b w
  | 0, t, x, y, b, u, v, d, h, _, _, _ => by simp [deq] at h
  | n + 1, t, x, y, b, u, v, d, h, hx, hy, hd => by
    obtain ⟨d, rfl⟩ : ∃ m, d = m + 1 := ⟨d - 1, by omega⟩
    unfold deq at h
    split at h
    · rename_i a c hk
      injection h with h; subst h
      rw [R1.bool.1 hx, R1.bool.1 hy]
      simp [Op.equalIn, run_underlying (tk_bool hk), BEq.beq]
    · rename_i kk k a k' c hk
      split at h
      · rename_i hkk
        subst hkk
        injection h with h; subst h
        rw [R1.int.1 hx, R1.int.1 hy]
        simp [Op.equalIn, run_underlying (tk_int hk), BEq.beq]
      · cases h
    · rename_i a c hk
      injection h with h; subst h
      rw [R1.str.1 hx, R1.str.1 hy, run_equalIn_string w d t a c (tk_str hk), toList_eq]
    · rename_i fs xs ys hk
      split at h
      · rename_i hok
        obtain ⟨l, hl, rfl⟩ := Option.map_eq_some_iff.1 h
        obtain ⟨fields, hu, rfl⟩ := tk_st hk
        obtain ⟨_, hst, hnm⟩ := eqok_of hok
        obtain ⟨us, rfl, hrx, hlx⟩ := R1.agg.1 hx
        obtain ⟨vs, rfl, hry, hly⟩ := R1.agg.1 hy
        have hfo : P.fieldsOf t = fields := by simp [Program.fieldsOf, hu]
        rw [run_equalIn_struct w d t us.toArray vs.toArray (by rw [hfo]; exact hu) hst, hfo]
        have hnm := hnm fields hu
        clear hu hfo hk h
        generalize fields.toList = fl at hl hnm
        induction fl generalizing l with
        | nil => simp at hl; subst hl; simp [Op.eqFields]
        | cons f fl ih =>
          simp only [List.map_cons, List.mapM_cons, Option.bind_eq_bind, Option.bind_eq_some_iff] at hl
          obtain ⟨b1, hb1, l2, hl2, hp⟩ := hl
          simp only [Option.pure_def, Option.some.injEq] at hp
          subst hp
          have hdn : n ≤ d := Nat.le_of_succ_le_succ hd
          have hn : f.name ≠ "_" := hnm f (by simp)
          simp only [Op.eqFields, hn, ne_eq, not_false_eq_true, if_true]
          split at hb1
          · rename_i pa pb ha hb
            obtain ⟨ca, za, ea, hza, hra⟩ := evPart_run (R1.agg.2 ⟨us, rfl, hrx, hlx⟩) ha
            obtain ⟨cb, zb, eb, hzb, hrb⟩ := evPart_run (R1.agg.2 ⟨vs, rfl, hry, hly⟩) hb
            injection ea with ea; injection eb with eb
            subst ea eb
            have he := deq_ok hb1 hra hrb hdn
            rw [Sem.run_bind, hza, Result.andThen_ok, Sem.run_bind, hzb, Result.andThen_ok, Sem.run_bind, he, Result.andThen_ok]
            cases b1 with
            | false => simp
            | true =>
              simp only [Bool.not_true, Bool.false_eq_true, if_false, List.all_cons, id, Bool.true_and]
              exact ih l2 hl2 (fun g hg => hnm g (by simp [hg]))
          · cases hb1
      · cases h
    · rename_i e hk
      exact nilEq_ok (tk_ptr hk) h hx hy
    · cases h
theorem deq_eqok {n : Nat} {t : TypeId} {xs ys : List D} {b : Bool} (h : deq P (n + 1) t (.agg xs) (.agg ys) = some b) : (ti P t).eqok = true := by
  cases hq : (ti P t).eqok with
  | true => rfl
  | false => cases hk : (ti P t).k <;> simp [deq, hk, hq, nilEq] at h
theorem guard_nil {op : BinOp} {t : TypeId} {xo yo : Operand} {u v : Value} (h : ∀ cs, u ≠ .agg cs) (h' : u ≠ .nilIface) : (eqGuard op t xo yo u v).run P w = .ok () w := by
  cases op <;> cases u <;> simp [eqGuard] at h h' ⊢
theorem bin_ok {op : BinOp} {t : TypeId} {xo yo : Operand} {x y r : D} {u v : Value} (hx : R1 Γ w x u) (hy : R1 Γ w y v) (h : evBin P op t x y = some r) :
    ∃ z, (do eqGuard op t xo yo u v; binOp op t u v : Sem Value).run P w = .ok z w ∧ R1 Γ w r z := by
  have plain : ∀ {z : Value}, (eqGuard op t xo yo u v).run P w = .ok () w → (binOp op t u v).run P w = .ok z w → (do eqGuard op t xo yo u v; binOp op t u v : Sem Value).run P w = .ok z w := fun h1 h2 => by
    rw [Sem.run_bind, h1, Result.andThen_ok, h2]
  unfold evBin at h
  split at h
  · rename_i k a k' c
    obtain rfl := R1.int.1 hx
    obtain rfl := R1.int.1 hy
    have hg : (eqGuard op t xo yo (.int k a) (.int k' c)).run P w = .ok () w := guard_nil (by simp) (by simp)
    split at h
    · obtain ⟨z, hz, hr⟩ := shInt_ok (P := P) (Γ := Γ) (w := w) (t := t) (k' := k') (.inl rfl) h
      exact ⟨z, plain hg hz, hr⟩
    · obtain ⟨z, hz, hr⟩ := shInt_ok (P := P) (Γ := Γ) (w := w) (t := t) (k' := k') (.inr rfl) h
      exact ⟨z, plain hg hz, hr⟩
    · rename_i h1 h2
      split at h
      · rename_i hk
        subst hk
        obtain ⟨z, hz, hr⟩ := binInt_ok (P := P) (Γ := Γ) (w := w) (t := t) (op := op) ⟨h1, h2⟩ h
        exact ⟨z, plain hg hz, hr⟩
      · cases h
  · rename_i a c
    obtain rfl := R1.str.1 hx
    obtain rfl := R1.str.1 hy
    obtain ⟨z, hz, hr⟩ := binStr_ok (P := P) (Γ := Γ) (w := w) (t := t) h
    exact ⟨z, plain (guard_nil (by simp) (by simp)) hz, hr⟩
  · have key : ∀ b, deqTop P t x y = some b → (Op.equalIn 10000 t u v).run P w = .ok b w ∧ (eqGuard op t xo yo u v).run P w = .ok () w ∧
        (binOp .eql t u v = (do pure (.bool (← Op.equal t u v)) : Sem Value)) ∧ (binOp .neq t u v = (do pure (.bool (!(← Op.equal t u v))) : Sem Value)) := by
      intro b hb
      unfold deqTop at hb
      split at hb
      · rename_i a c
        obtain rfl := R1.bool.1 hx
        obtain rfl := R1.bool.1 hy
        split at hb
        · rename_i hk
          injection hb with hb; subst hb
          refine ⟨?_, guard_nil (by simp) (by simp), rfl, rfl⟩
          exact run_equalIn_bool' w 9999 t _ _ (tk_bool hk)
        · cases hb
      · rename_i xs ys
        have he := deq_ok (P := P) (Γ := Γ) (w := w) (d := 10000) hb hx hy (by omega)
        obtain ⟨us, rfl, _⟩ := R1.agg.1 hx
        obtain ⟨vs, rfl, _⟩ := R1.agg.1 hy
        refine ⟨he, ?_, rfl, rfl⟩
        have hok := deq_eqok hb
        exact run_eqGuard_agg w op t xo yo _ _ (eqok_of hok).1
      · split at hb
        · rename_i e hk
          have he : (Op.equalIn 10000 t u v).run P w = .ok b w := nilEq_ok (tk_ptr hk) hb hx hy
          refine ⟨he, ?_⟩
          unfold nilEq at hb
          split at hb
          · obtain rfl := R1.nilp.1 hx
            obtain rfl := R1.nilp.1 hy
            exact ⟨guard_nil (by simp) (by simp), rfl, rfl⟩
          · obtain rfl := R1.nilp.1 hx
            obtain ⟨_, rfl⟩ := R1.ptr.1 hy
            exact ⟨guard_nil (by simp) (by simp), rfl, rfl⟩
          · obtain rfl := R1.nilp.1 hx
            obtain ⟨_, _, _, rfl, _⟩ := R1.cpt.1 hy
            exact ⟨guard_nil (by simp) (by simp), rfl, rfl⟩
          · obtain ⟨_, rfl⟩ := R1.ptr.1 hx
            obtain rfl := R1.nilp.1 hy
            exact ⟨guard_nil (by simp) (by simp), rfl, rfl⟩
          · obtain ⟨_, _, _, rfl, _⟩ := R1.cpt.1 hx
            obtain rfl := R1.nilp.1 hy
            exact ⟨guard_nil (by simp) (by simp), rfl, rfl⟩
          · cases hb
        · cases hb
    split at h
    · obtain ⟨b, hb, rfl⟩ := Option.map_eq_some_iff.1 h
      obtain ⟨h1, h2, h3, h4⟩ := key b hb
      exact ⟨.bool b, plain h2 (by rw [h3]; simp [Op.equal, Op.maxDepth, h1]), R1.bool.2 rfl⟩
    · obtain ⟨b, hb, rfl⟩ := Option.map_eq_some_iff.1 h
      obtain ⟨h1, h2, h3, h4⟩ := key b hb
      exact ⟨.bool (!b), plain h2 (by rw [h4]; simp [Op.equal, Op.maxDepth, h1]), R1.bool.2 rfl⟩
    · cases h
theorem un_ok {op : UnOp} {x r : D} {u : Value} (hx : R1 Γ w x u) (h : evUn op x = some r) : ∃ z, (Op.unary op u).run P w = .ok z w ∧ R1 Γ w r z := by
  unfold evUn at h
  split at h
  · injection h with h; subst h
    rw [R1.int.1 hx]
    exact ⟨_, by simp only [Op.unary, Op.intArith]; rfl, R1.int.2 rfl⟩
  · injection h with h; subst h
    rw [R1.bool.1 hx]
    exact ⟨_, by simp only [Op.unary]; rfl, R1.bool.2 rfl⟩
  · cases h
theorem nilD_ok {x : D} {b : Bool} {u : Value} (hx : R1 Γ w x u) (h : nilD x = some b) : ∃ a n c, u = .slice a n c ∧ a.isNone = b := by
  unfold nilD at h
  split at h
  · injection h with h; subst h
    obtain ⟨a, c, sz, us, rfl, _, _, _, _, _, _, ha⟩ := R1.sl.1 hx
    obtain ⟨b, o, rfl, _⟩ := ha (by simp)
    exact ⟨_, _, _, rfl, rfl⟩
  · injection h with h; subst h
    obtain ⟨_, a, c, rfl, h1, _, _, h4, _⟩ := R1.ms.1 hx
    rcases h4 with h4 | rfl
    · omega
    · exact ⟨_, _, _, rfl, rfl⟩
  · rename_i b'
    injection h with h; subst h
    cases b' with
    | true => obtain ⟨c, rfl, _⟩ := (R1.atom_iff (d := .nsl true) rfl).1 hx; exact ⟨_, _, _, rfl, rfl⟩
    | false => obtain ⟨a, c, rfl, _⟩ := (R1.atom_iff (d := .nsl false) rfl).1 hx; exact ⟨_, _, _, rfl, rfl⟩
  · cases h
theorem eq_nil {t e : TypeId} (hu : P.underlying t = some (.slice e)) {p : Option Addr} {n c d : Nat} : (Op.equalIn (d + 1) t (.slice p n c) (.slice none 0 0)).run P w = .ok p.isNone w := by
  cases p <;> simp [Op.equalIn, run_underlying hu]
theorem nil_ok {op : BinOp} {t : TypeId} {a : Act} {yo : Operand} {xo : Operand} {x r : D} {u : Value} (hx : R1 Γ w x u) (hn : isNilS yo = true) (h : nilBin P op t x = some r) :
    ∃ z, (do eqGuard op t xo yo u (a.eval yo); binOp op t u (a.eval yo) : Sem Value).run P w = .ok z w ∧ R1 Γ w r z := by
  have hy : a.eval yo = .slice none 0 0 := by
    unfold isNilS at hn
    split at hn
    · rfl
    · cases hn
  rw [hy]
  unfold nilBin at h
  split at h
  · rename_i e hk
    have hu := fun p n c => eq_nil (w := w) (tk_sl hk) (p := p) (n := n) (c := c) (d := 9999)
    split at h
    · obtain ⟨b, hb, rfl⟩ := Option.map_eq_some_iff.1 h
      obtain ⟨p, n, c, rfl, rfl⟩ := nilD_ok hx hb
      have hg : (eqGuard .eql t xo yo (.slice p n c) (.slice none 0 0)).run P w = .ok () w := guard_nil (by simp) (by simp)
      refine ⟨.bool p.isNone, ?_, R1.bool.2 rfl⟩
      rw [Sem.run_bind, hg, Result.andThen_ok]
      simp [binOp, Op.equal, Op.maxDepth, hu]
    · obtain ⟨b, hb, rfl⟩ := Option.map_eq_some_iff.1 h
      obtain ⟨p, n, c, rfl, rfl⟩ := nilD_ok hx hb
      have hg : (eqGuard .neq t xo yo (.slice p n c) (.slice none 0 0)).run P w = .ok () w := guard_nil (by simp) (by simp)
      refine ⟨.bool (!p.isNone), ?_, R1.bool.2 rfl⟩
      rw [Sem.run_bind, hg, Result.andThen_ok]
      simp [binOp, Op.equal, Op.maxDepth, hu]
    · cases h
  · cases h
end
end Go.Proofs.Ytfclelafcdcilaa.Dv
/- Each operation of the evaluator is the machine's: all together. -/
set_option linter.unusedVariables false
set_option linter.unusedSimpArgs false
namespace Go.Proofs.Ytfclelafcdcilaa.Dv
open Go

section
variable {P : Program} {Γ Γ' : Ctx} {w w' : World} {σ σ' : Store}

/-! ### conversions -/
theorem bytesD_R {xs : List D} : ∀ {ns : List Int} {us : List Value}, bytesD xs = some ns → R Γ w (some 1) xs us → us = ns.map (Value.int .u8) := by
  induction xs with
  | nil => intro ns us h hr; injection h with h; subst h; rw [hr.nil_inv]; rfl
  | cons x xs ih =>
    intro ns us h hr
    obtain ⟨a, b, rfl, hx, h1, hl, h2⟩ := hr.consE_inv
    unfold bytesD at h
    split at h
    · rename_i h0; cases h0
    · rename_i n r h0
      injection h0 with e1 e2
      subst e1 e2
      obtain ⟨l, hl', rfl⟩ := Option.map_eq_some_iff.1 h
      obtain ⟨v, vs, rfl, g1, g2⟩ := R.cons_inv h1
      rw [g2.nil_inv, R1.int.1 g1, ih hl' h2]
      rfl
    · cases h
theorem conv_ok (hs : SR Γ σ w) {src dst : TypeId} {x : D} {u : Value} {r : D × Foot} (hx : R1 Γ w x u) (h : evConv P src dst x σ = some r) : ∃ z, (convert src dst u).run P w = .ok z w ∧ R1 Γ w r.1 z := by
  unfold evConv at h
  split at h
  · cases h
  rename_i hkn
  have hkn : (ti P src).k.known = true := by cases hq : (ti P src).k.known <;> simp_all
  obtain ⟨ds, hds⟩ := tk_some hkn
  split at h
  · rename_i k kk n hk
    injection h with h; subst h
    obtain rfl := R1.int.1 hx
    exact ⟨.int k (k.wrap n), by simp [convert, run_underlying hds, run_underlying (tk_int hk), Conv.intToInt], R1.int.2 rfl⟩
  · rename_i s hk
    injection h with h; subst h
    obtain rfl := R1.str.1 hx
    exact ⟨.string s, by simp [convert, run_underlying hds, run_underlying (tk_str hk)], R1.str.2 rfl⟩
  · rename_i id off len cap ex hk
    split at h
    · rename_i e hse
      split at h
      · rename_i st esz xs hke ho
        split at h
        · rename_i hc
          obtain ⟨rfl, hle⟩ := hc
          obtain ⟨ns, hns, rfl⟩ := Option.map_eq_some_iff.1 h
          obtain ⟨hA, a, c, rfl, k1, k2, k3, k4, k5, k6⟩ := R1.ms.1 hx
          obtain ⟨⟨he, hz, cc, te, us, rest, hh, hb, hcc, ⟨hr, _⟩⟩, _⟩ := hs.row _ _ _ _ ho
          have hr2 := ((hr.takeE off (by omega)).2.takeE len (by rw [List.length_drop]; omega)).1
          have hcells := bytesD_R hns hr2
          have hlen : ns.length = len := by
            have := hr2.lengthE
            rw [hcells, List.length_map, List.length_take, List.length_drop] at this
            omega
          rw [run_convert_bytes_string w src dst e a len c (tk_sl hse) (tk_int hke) (tk_str hk)]
          refine ⟨.string (pushAll ns), ?_, R1.str.2 rfl⟩
          rcases k4 with k4 | k4
          · have h0 : len = 0 := by omega
            subst h0
            have : ns = [] := List.length_eq_zero_iff.1 hlen
            subst this
            cases a with
            | none => simp [Conv.bytesToString, pushAll]
            | some a => exact run_bytesToString w a 0 c [] (run_loadCells_list (P := P) w a [] (by simp))
          · subst k4
            unfold pushAll
            refine run_bytesToString w _ len c ns ?_
            have hl := run_loadCells_list (P := P) w (adr Γ id off 0) (ns.map (Value.int .u8)) (fun j v hj => by
              rw [← hcells, List.getElem?_take] at hj
              split at hj
              · rw [List.getElem?_drop] at hj
                simp only [adr, Nat.add_zero, Addr.add_lit, ← he]
                rw [cell_of_row w _ _ cc te (0, 0) hh]
                have hk' : (us ++ rest)[off * 1 + j]? = some v := by rw [List.getElem?_append_left (List.getElem?_eq_some_iff.1 hj).1]; exact hj
                rw [← hcc] at hk'
                simpa using hk'
              · cases hj)
            rw [List.length_map, hlen] at hl
            exact hl
        · cases h
      · cases h
    · cases h
  · cases h

/-! ### min, max -/
theorem max2_run {k : IntKind} (a b : Int) : (Builtin.max2 (.int k a) (.int k b)).run P w = .ok (.int k (max a b)) w := by
  simp only [Builtin.max2, Sem.run_pure]
  congr 2
  omega
theorem min2_run {k : IntKind} (a b : Int) : (Builtin.min2 (.int k a) (.int k b)).run P w = .ok (.int k (min a b)) w := by
  simp only [Builtin.min2, Sem.run_pure]
  congr 2
  omega
theorem ints_inv {k : IntKind} {a : Int} {ds : List D} {us : List Value} (h : R Γ w none (.int k a :: ds) us) : ∃ vs, us = .int k a :: vs ∧ R Γ w none ds vs := by
  obtain ⟨v, vs, rfl, h1, h2⟩ := h.cons_inv
  exact ⟨vs, by rw [R1.int.1 h1], h2⟩
theorem minmax_ok {f : Int → Int → Int} {g : Value → Value → Sem Value} (hg : ∀ {k : IntKind} (a b : Int), (g (.int k a) (.int k b)).run P w = .ok (.int k (f a b)) w) {ds : List D} {us : List Value} {d : D} (hr : R Γ w none ds us)
    (h : minmax f ds = some d) : ∃ x rest z, us = x :: rest ∧ (rest.foldlM g x).run P w = .ok z w ∧ R1 Γ w d z := by
  unfold minmax at h
  split at h
  · split at h
    · rename_i hk
      subst hk
      injection h with h; subst h
      obtain ⟨v1, rfl, r1⟩ := ints_inv hr
      obtain ⟨v2, rfl, r2⟩ := ints_inv r1
      rw [r2.nil_inv]
      exact ⟨_, _, _, rfl, by simp [hg], R1.int.2 rfl⟩
    · cases h
  · split at h
    · rename_i hk
      obtain ⟨rfl, rfl⟩ := hk
      injection h with h; subst h
      obtain ⟨v1, rfl, r1⟩ := ints_inv hr
      obtain ⟨v2, rfl, r2⟩ := ints_inv r1
      obtain ⟨v3, rfl, r3⟩ := ints_inv r2
      rw [r3.nil_inv]
      exact ⟨_, _, _, rfl, by simp [hg], R1.int.2 rfl⟩
    · cases h
  · split at h
    · rename_i hk
      obtain ⟨rfl, rfl, rfl, rfl, rfl⟩ := hk
      injection h with h; subst h
      obtain ⟨v1, rfl, r1⟩ := ints_inv hr
      obtain ⟨v2, rfl, r2⟩ := ints_inv r1
      obtain ⟨v3, rfl, r3⟩ := ints_inv r2
      obtain ⟨v4, rfl, r4⟩ := ints_inv r3
      obtain ⟨v5, rfl, r5⟩ := ints_inv r4
      obtain ⟨v6, rfl, r6⟩ := ints_inv r5
      rw [r6.nil_inv]
      exact ⟨_, _, _, rfl, by simp [hg], R1.int.2 rfl⟩
    · cases h
  · cases h

/-! ### literals -/
theorem places_run : ∀ (fl : List Field), (∀ f ∈ fl, (ti P f.type).k.known = true) → (fl.mapM fun f => (Prod.mk f.offset <$> sizeOf f.type : Sem (Nat × Nat))).run P w = .ok (fl.map fun f => (f.offset, (ti P f.type).sz)) w
  | [], _ => rfl
  | f :: fl, h => by
    obtain ⟨d, hd⟩ := tk_some (h f (by simp))
    obtain ⟨i, hi⟩ := info_of hd
    have ih := places_run fl (fun g hg => h g (by simp [hg]))
    rw [List.mapM_cons]
    simp [run_sizeOf hi, ti_sz hi, ih]
theorem build_ok {t : TypeId} {parts : List (Nat × D)} {vals : List (Nat × Value)} {d : D} (hi : parts.map (·.1) = vals.map (·.1)) (hv : R Γ w none (parts.map (·.2)) (vals.map (·.2))) (h : evBuild P t parts = some d) :
    ∃ z, (Instr.build t vals.toArray).run P w = .ok z w ∧ R1 Γ w d z := by
  unfold evBuild at h
  simp only at h
  split at h
  · rename_i fs zs hk hz
    split at h
    · rename_i hc
      simp only [Bool.and_eq_true, beq_iff_eq] at hc
      obtain ⟨⟨hl, hs⟩, hkn⟩ := hc
      obtain ⟨ds, hf, rfl⟩ := Option.map_eq_some_iff.1 h
      obtain ⟨fields, hu, rfl⟩ := tk_st hk
      obtain ⟨inf, hinf⟩ := info_of hu
      obtain ⟨z, hzz, hzd⟩ := zero_of hinf (by rw [hz]; exact hl)
      have hr1 : R1 Γ w (.agg zs) z := hz ▸ hzd ▸ ofValue_R1 z
      obtain ⟨us, rfl, hru, _⟩ := R1.agg.1 hr1
      have hpl := places_run (P := P) (w := w) fields.toList (fun f hf => by
        simp only [List.all_map, List.all_eq_true, Function.comp] at hkn
        exact hkn f hf)
      have hplA : (fields.mapM fun f => (Prod.mk f.offset <$> sizeOf f.type : Sem (Nat × Nat))).run P w = .ok (fields.toList.map fun f => (f.offset, (ti P f.type).sz)).toArray w := by
        rw [Array.mapM_eq_mapM_toList, Sem.run_map, hpl, Result.andThen_ok]
      have hfe : (parts.map fun p => (((fields.toList.map fun f => (f.offset, f.type))[p.1]?).map fun f => (f.1, (ti P f.2).sz), p.2)) =
          parts.map fun p => ((fun i => (fields.toList.map fun f => (f.offset, (ti P f.type).sz)).toArray[i]?) p.1, p.2) := by
        apply List.map_congr_left
        intro p _
        simp only [List.getElem?_map, Option.map_map, List.getElem?_toArray]
        rfl
      rw [hfe] at hf
      obtain ⟨cs, hfill, hrc, hlc⟩ := fill_ok (Γ := Γ) (w := w) (cs := us.toArray) hf hi hv (by simpa using hru) hl
      refine ⟨.agg cs, ?_, R1.agg.2 ⟨cs.toList, by simp, hrc, hlc⟩⟩
      generalize (fields.toList.map fun f => (f.offset, (ti P f.type).sz)).toArray = pls at hplA hfill
      simp [Instr.build, zeroValue, typeInfo, hinf, hzz, run_underlying hu, Value.cells, hplA, hfill]
    · cases h
  · rename_i n e zs hk hz
    split at h
    · rename_i hc
      simp only [Bool.and_eq_true, beq_iff_eq] at hc
      obtain ⟨⟨hl, hs⟩, hkn⟩ := hc
      obtain ⟨ds, hf, rfl⟩ := Option.map_eq_some_iff.1 h
      have hu := tk_arr hk
      obtain ⟨inf, hinf⟩ := info_of hu
      obtain ⟨z, hzz, hzd⟩ := zero_of hinf (by rw [hz]; exact hl)
      have hr1 : R1 Γ w (.agg zs) z := hz ▸ hzd ▸ ofValue_R1 z
      obtain ⟨us, rfl, hru, _⟩ := R1.agg.1 hr1
      obtain ⟨de, hde⟩ := tk_some hkn
      obtain ⟨ie, hie⟩ := info_of hde
      rw [ti_sz hie] at hf
      obtain ⟨cs, hfill, hrc, hlc⟩ := fill_ok (Γ := Γ) (w := w) (cs := us.toArray) (place := fun i => some (i * ie.size, ie.size)) hf hi hv (by simpa using hru) hl
      refine ⟨.agg cs, ?_, R1.agg.2 ⟨cs.toList, by simp, hrc, hlc⟩⟩
      simp [Instr.build, zeroValue, typeInfo, hinf, hzz, run_underlying hu, Value.cells, run_sizeOf hie, hfill]
    · cases h
  · cases h

/-! ### builtins -/
theorem len_ok {t ty : TypeId} {x : D} {u : Value} {r : D × Store × Foot} {aid : Nat} (hx : R1 Γ w x u) (h : evBuiltin P .len [t] [x] aid σ = some r) : ∃ z, (Builtin.len_ #[t] ty #[u]).run P w = .ok z w ∧ R1 Γ w r.1 z ∧ r.2.1 = σ := by
  unfold evBuiltin at h
  simp only at h
  split at h
  · rename_i hk
    split at h
    · rename_i s
      injection h with h; subst h
      obtain rfl := R1.str.1 hx
      exact ⟨.int .i64 s.size, by simp [Builtin.len_, run_underlying (tk_str hk), goInt], R1.int.2 rfl, rfl⟩
    · cases h
  · rename_i e hk
    split at h
    · rename_i full xs
      injection h with h; subst h
      obtain ⟨a, c, sz, us, rfl, _⟩ := R1.sl.1 hx
      exact ⟨.int .i64 xs.length, by simp [Builtin.len_, run_underlying (tk_sl hk), goInt], R1.int.2 rfl, rfl⟩
    · rename_i id off len cap ex
      injection h with h; subst h
      obtain ⟨_, a, c, rfl, _⟩ := R1.ms.1 hx
      exact ⟨.int .i64 len, by simp [Builtin.len_, run_underlying (tk_sl hk), goInt], R1.int.2 rfl, rfl⟩
    · cases h
  · cases h
theorem cap_ok {t ty : TypeId} {x : D} {u : Value} {r : D × Store × Foot} {aid : Nat} (hx : R1 Γ w x u) (h : evBuiltin P .cap [t] [x] aid σ = some r) : ∃ z, (Builtin.cap_ #[t] ty #[u]).run P w = .ok z w ∧ R1 Γ w r.1 z ∧ r.2.1 = σ := by
  unfold evBuiltin at h
  simp only at h
  split at h
  · rename_i e hk
    obtain ⟨n, hn, rfl⟩ := Option.map_eq_some_iff.1 h
    unfold capD at hn
    split at hn
    · rename_i xs
      injection hn with hn; subst hn
      obtain ⟨a, c, sz, us, rfl, _, _, _, hf, _⟩ := R1.sl.1 hx
      have := hf rfl
      subst this
      exact ⟨.int .i64 xs.length, by simp [Builtin.cap_, run_underlying (tk_sl hk), goInt], R1.int.2 rfl, rfl⟩
    · rename_i id off len cap
      injection hn with hn; subst hn
      obtain ⟨_, a, c, rfl, _, _, hf, _⟩ := R1.ms.1 hx
      have := hf rfl
      subst this
      exact ⟨.int .i64 c, by simp [Builtin.cap_, run_underlying (tk_sl hk), goInt], R1.int.2 rfl, rfl⟩
    · cases hn
  · cases h
end
end Go.Proofs.Ytfclelafcdcilaa.Dv
/- One operation: what the evaluator says of it holds of the machine. -/
set_option linter.unusedVariables false
set_option linter.unusedSimpArgs false
namespace Go.Proofs.Ytfclelafcdcilaa.Dv
open Go

section
variable {P : Program} {Γ Γ' : Ctx} {w w' : World} {σ σ' : Store}

theorem ValOk.of_run {s : Sem Value} {v : D} {aid : Option Nat} (hs : SR Γ σ w) (h : ∃ z, s.run P w = .ok z w ∧ R1 Γ w v z) : ValOk Γ σ w (s.run P w) v σ aid := by
  obtain ⟨z, hz, hr⟩ := h
  exact .same hs hz hr
theorem OpOk.weaken {r : Result Next} {v : D} (h : OpOk Γ σ w r v σ' none) (aid : Option Nat) : OpOk Γ σ w r v σ' aid := by
  obtain ⟨nx, w', Γ', u, h1, h2, h3, h4, h5, h6⟩ := h
  exact ⟨nx, w', Γ', u, h1, h2, h3, h4, h5, fun id hid => (h6 id hid).elim .inl fun h => by cases h⟩
theorem parts_toArray (ps : Array (Nat × Operand)) (ρ : Operand → Value) : (ps.map fun (i, x) => (i, ρ x)) = (ps.toList.map fun p => (p.1, ρ p.2)).toArray := by
  apply Array.ext'
  simp
theorem slots_parts {e : Env} {a : Act} (h : Slots Γ w e a) (ps : List (Nat × Operand)) : (ps.map fun p => (p.1, opnd e p.2)).map (·.1) = (ps.map fun p => (p.1, a.eval p.2)).map (·.1) ∧
    R Γ w none ((ps.map fun p => (p.1, opnd e p.2)).map (·.2)) ((ps.map fun p => (p.1, a.eval p.2)).map (·.2)) := by
  refine ⟨by simp [Function.comp_def], ?_⟩
  have := h.opnds (ps.map (·.2))
  simpa [Function.comp_def] using this
theorem slots_opt {e : Env} {a : Act} (h : Slots Γ w e a) (x : Option Operand) : OptR Γ w (x.map (opnd e)) (x.map a.eval) := by
  cases x with
  | none => trivial
  | some x => exact h.opnd x
theorem slots_arr {e : Env} {a : Act} (h : Slots Γ w e a) (xs : Array Operand) : R Γ w none (xs.toList.map (opnd e)) (xs.map a.eval).toList := by
  have := h.opnds xs.toList
  simpa using this
theorem arr_of_list {xs : Array Value} {us : List Value} (h : xs.toList = us) : xs = us.toArray := by rw [← h]
theorem args1 {x : D} {args : Array Value} (hr : R Γ w none [x] args.toList) : ∃ u, args = #[u] ∧ R1 Γ w x u := by
  obtain ⟨u, vs, hargs, hu, hvs⟩ := hr.cons_inv
  rw [hvs.nil_inv] at hargs
  exact ⟨u, arr_of_list hargs, hu⟩
theorem args2 {x y : D} {args : Array Value} (hr : R Γ w none [x, y] args.toList) : ∃ u v, args = #[u, v] ∧ R1 Γ w x u ∧ R1 Γ w y v := by
  obtain ⟨u, vs, hargs, hu, hvs⟩ := hr.cons_inv
  obtain ⟨v, vs', rfl, hv, hvs'⟩ := hvs.cons_inv
  rw [hvs'.nil_inv] at hargs
  exact ⟨u, v, arr_of_list hargs, hu, hv⟩
theorem builtin_ok (hs : SR Γ σ w) {b : Builtin} {ats : Array TypeId} {ty : TypeId} {cs : Array Bool} {ds : List D} {args : Array Value} {aid : Nat} {r : D × Store × Foot} (hr : R Γ w none ds args.toList)
    (hal : b = .append → ¬ Γ.A aid ∧ aid < σ.length) (h : evBuiltin P b ats.toList ds aid σ = some r) : OpOk Γ σ w ((builtin b ats ty cs args).run P w) r.1 r.2.1 (if b = .append then some aid else none) := by
  generalize hats : ats.toList = tl at h
  have hat : ats = tl.toArray := by rw [← hats]
  subst hat
  clear hats
  unfold evBuiltin at h
  split at h
  · rename_i t x
    refine OpOk.weaken ?_ _
    obtain ⟨u, rfl, hu⟩ := args1 hr
    obtain ⟨z, hz, hrr, hσ⟩ := len_ok (P := P) (Γ := Γ) (w := w) (σ := σ) (t := t) (x := x) (r := r) (aid := aid) (ty := ty) hu h
    rw [hσ]
    exact ValOk.op (.of_run hs ⟨z, hz, hrr⟩)
  · rename_i t x
    refine OpOk.weaken ?_ _
    obtain ⟨u, rfl, hu⟩ := args1 hr
    obtain ⟨z, hz, hrr, hσ⟩ := cap_ok (P := P) (Γ := Γ) (w := w) (σ := σ) (t := t) (x := x) (r := r) (aid := aid) (ty := ty) hu h
    rw [hσ]
    exact ValOk.op (.of_run hs ⟨z, hz, hrr⟩)
  · rename_i t t2 s x
    split at h
    · rename_i e2 hk2
      obtain ⟨u, v, rfl, hu, hv⟩ := args2 hr
      obtain ⟨hA, hl⟩ := hal rfl
      rw [if_pos rfl]
      exact ValOk.op (append_ok hs hA hl hk2 hu hv h)
    · rename_i kn hk2
      split at h
      · obtain ⟨u, v, rfl, hu, hv⟩ := args2 hr
        obtain ⟨hA, hl⟩ := hal rfl
        rw [if_pos rfl]
        exact ValOk.op (appendZ_ok hs hA hl hk2 hu hv h)
      · cases h
    · cases h
  · rename_i t t2 s x
    refine OpOk.weaken ?_ _
    obtain ⟨u, v, rfl, hu, hv⟩ := args2 hr
    exact ValOk.op (copy_ok hs hu hv h)
  · rename_i t s
    refine OpOk.weaken ?_ _
    obtain ⟨u, rfl, hu⟩ := args1 hr
    exact ValOk.op (clear_ok hs hu h)
  · rename_i xs
    refine OpOk.weaken ?_ _
    obtain ⟨d, hd, rfl⟩ := Option.map_eq_some_iff.1 h
    obtain ⟨x, rest, z, hargs, hz, hrr⟩ := minmax_ok (P := P) (w := w) (g := Builtin.max2) (fun a b => max2_run a b) hr hd
    refine ValOk.op (.of_run hs ⟨z, ?_, hrr⟩)
    unfold Builtin.max_
    rw [hargs]
    exact hz
  · rename_i xs
    refine OpOk.weaken ?_ _
    obtain ⟨d, hd, rfl⟩ := Option.map_eq_some_iff.1 h
    obtain ⟨x, rest, z, hargs, hz, hrr⟩ := minmax_ok (P := P) (w := w) (g := Builtin.min2) (fun a b => min2_run a b) hr hd
    refine ValOk.op (.of_run hs ⟨z, ?_, hrr⟩)
    unfold Builtin.min_
    rw [hargs]
    exact hz
  · cases h
theorem evOp_ok (hs : SR Γ σ w) {o : Oper} {e : Env} {a : Act} {aid : Nat} {r : D × Store × Foot} (hsl : Slots Γ w e a) (hal : allocs o = true → ¬ Γ.A aid ∧ aid < σ.length) (h : evOp P o e aid σ = some r) :
    OpOk Γ σ w ((execOp a.eval o).run P w) r.1 r.2.1 (if allocs o = true then some aid else none) := by
  have val : ∀ {s : Sem Value} {v : D}, (∃ z, s.run P w = .ok z w ∧ R1 Γ w v z) → OpOk Γ σ w ((do pure (Next.value (← s)) : Sem Next).run P w) v σ (if allocs o = true then some aid else none) := fun h =>
    OpOk.weaken (ValOk.op (.of_run hs h)) _
  unfold evOp at h
  unfold execOp
  split at h
  · rename_i x heq
    injection h with h; subst h
    rw [heq]
    exact OpOk.same hs rfl (hsl.opnd x)
  · rename_i x heq
    injection h with h; subst h
    rw [heq]
    exact OpOk.same hs rfl (hsl.opnd x)
  · rename_i c x y heq
    rw [heq]
    split at h
    · rename_i t ht
      injection h with h; subst h
      have hc := hsl.opnd c
      rw [ht] at hc
      refine OpOk.same hs (u := if t then a.eval x else a.eval y) (by simp [R1.bool.1 hc, asBool]) ?_
      cases t
      · exact hsl.opnd y
      · exact hsl.opnd x
    · cases h
  · rename_i t heq
    have hall : allocs o = true := by simp [allocs, heq]
    rw [heq]
    simp only at h
    split at h
    · rename_i hc
      injection h with h; subst h
      obtain ⟨hA, hl⟩ := hal hall
      rw [if_pos hall]
      exact ValOk.op (alloc_ok hs hA hl hc.1 hc.2.1 hc.2.2)
    · cases h
  · rename_i t x heq
    have hall : allocs o = true := by simp [allocs, heq]
    rw [heq]
    simp only at h
    split at h
    · rename_i hc
      injection h with h; subst h
      obtain ⟨hA, hl⟩ := hal hall
      rw [if_pos hall]
      exact ValOk.op (box_ok hs hA hl (hsl.opnd x) hc.1 hc.2)
    · cases h
  · rename_i t ps heq
    rw [heq]
    obtain ⟨d, hd, rfl⟩ := Option.map_eq_some_iff.1 h
    obtain ⟨h1, h2⟩ := slots_parts hsl ps.toList
    have hb := build_ok h1 h2 hd
    rw [← parts_toArray] at hb
    exact val hb
  · rename_i t n ps heq
    have hall : allocs o = true := by simp [allocs, heq]
    rw [heq]
    obtain ⟨hA, hl⟩ := hal hall
    rw [if_pos hall]
    obtain ⟨h1, h2⟩ := slots_parts hsl ps.toList
    have hb := buildSlice_ok hs hA hl h1 h2 h
    rw [← parts_toArray] at hb
    exact ValOk.op hb
  · rename_i t x heq
    rw [heq]
    obtain ⟨q, hq, rfl⟩ := Option.map_eq_some_iff.1 h
    exact val (load_ok hs (hsl.opnd x) hq)
  · rename_i t x y heq
    rw [heq]
    obtain ⟨q, hq, rfl⟩ := Option.map_eq_some_iff.1 h
    obtain ⟨w1, h1, h2, h3⟩ := store_ok (P := P) hs (hsl.opnd x) (hsl.opnd y) hq
    exact ⟨.skip, w1, Γ, Go.undef, by simp [h1], .inr ⟨rfl, rfl⟩, R1.undef.2 rfl, h2, h3, fun id hid => .inl hid⟩
  · rename_i x heq
    rw [heq]
    have hx := hsl.opnd x
    split at h
    · rename_i id i j hd
      injection h with h; subst h
      rw [hd] at hx
      obtain ⟨hA, hv⟩ := R1.ptr.1 hx
      refine OpOk.same hs (u := a.eval x) ?_ hx
      simp [hv]
    · rename_i y j hd
      injection h with h; subst h
      rw [hd] at hx
      obtain ⟨us, b, oo, hv, _⟩ := R1.cpt.1 hx
      refine OpOk.same hs (u := a.eval x) ?_ hx
      simp [hv]
    · rename_i f as bs hd
      injection h with h; subst h
      rw [hd] at hx
      obtain ⟨us, ws, hv, _⟩ := R1.fn.1 hx
      refine OpOk.same hs (u := a.eval x) ?_ hx
      simp [hv]
    · cases h
  · rename_i op t x y yt heq
    rw [heq]
    obtain ⟨d, hd, rfl⟩ := Option.map_eq_some_iff.1 h
    unfold evBinO at hd
    split at hd
    · rename_i hn
      exact val (nil_ok (hsl.opnd x) hn hd)
    · exact val (bin_ok (hsl.opnd x) (hsl.opnd y) hd)
  · rename_i op t x heq
    rw [heq]
    obtain ⟨d, hd, rfl⟩ := Option.map_eq_some_iff.1 h
    exact val (un_ok (hsl.opnd x) hd)
  · rename_i s t x heq
    rw [heq]
    obtain ⟨q, hq, rfl⟩ := Option.map_eq_some_iff.1 h
    exact val (conv_ok hs (hsl.opnd x) hq)
  · rename_i f first caps heq
    rw [heq]
    injection h with h; subst h
    refine val ⟨_, rfl, R1.fn.2 ⟨(first.map a.eval).toList, (caps.map a.eval).toList, by simp only [Array.toArray_toList], slots_arr hsl first, slots_arr hsl caps⟩⟩
  · rename_i t l c heq
    have hall : allocs o = true := by simp [allocs, heq]
    rw [heq]
    obtain ⟨hA, hl⟩ := hal hall
    rw [if_pos hall]
    exact ValOk.op (makeSlice_ok hs hA hl (hsl.opnd l) (hsl.opnd c) h)
  · rename_i t x lo hi mx heq
    rw [heq]
    obtain ⟨q, hq, rfl⟩ := Option.map_eq_some_iff.1 h
    exact val (slice_ok hs (hsl.opnd x) (slots_opt hsl lo) (slots_opt hsl hi) (slots_opt hsl mx) hq)
  · rename_i s x f heq
    rw [heq]
    obtain ⟨d, hd, rfl⟩ := Option.map_eq_some_iff.1 h
    exact val (fieldAddr_ok (hsl.opnd x) hd)
  · rename_i t x f heq
    rw [heq]
    obtain ⟨d, hd, rfl⟩ := Option.map_eq_some_iff.1 h
    exact val (field_ok (hsl.opnd x) hd)
  · rename_i t x ix heq
    rw [heq]
    obtain ⟨q, hq, rfl⟩ := Option.map_eq_some_iff.1 h
    exact val (indexAddr_ok hs (hsl.opnd x) (hsl.opnd ix) hq)
  · rename_i t x ix heq
    rw [heq]
    obtain ⟨d, hd, rfl⟩ := Option.map_eq_some_iff.1 h
    exact val (index_ok (hsl.opnd x) (hsl.opnd ix) hd)
  · rename_i x ix heq
    rw [heq]
    have hx := hsl.opnd x
    split at h
    · rename_i ds hd
      rw [hd] at hx
      obtain ⟨us, hv, hr⟩ := R1.tup.1 hx
      split at h
      · rename_i d hdd
        injection h with h; subst h
        obtain ⟨u, hu, hru⟩ := hr.get hdd
        exact val ⟨u, by simp [Instr.extract, hv, hu], hru⟩
      · cases h
    · cases h
  · rename_i c heq
    rw [heq]
    split at h
    · rename_i b hb
      have hc := slots_arr hsl c.args
      have hbo : ∀ cs, OpOk Γ σ w ((builtin b c.argTypes o.type cs (c.args.map a.eval)).run P w) r.1 r.2.1 (if b = .append then some aid else none) := fun cs => builtin_ok (P := P) (ty := o.type) (cs := cs) hs hc (b := b) (ats := c.argTypes) (aid := aid) (fun hb' => hal (by subst hb'; obtain ⟨cc, ca, ct⟩ := c; simp only at hb; simp [allocs, heq, hb])) h
      have he : (if allocs o = true then some aid else none) = (if b = .append then some aid else none) := by
        obtain ⟨cc, ca, ct⟩ := c
        simp only at hb
        subst hb
        cases b <;> simp [allocs, heq]
      rw [he]
      simp only [resolve, hb, Sem.run_bind, Sem.run_pure, Result.andThen_ok, invoke]
      exact hbo _
    · cases h
  · cases h
end
end Go.Proofs.Ytfclelafcdcilaa.Dv
/- Operations that stand in no order give the same in both orders. -/
set_option linter.unusedVariables false
set_option linter.unusedSimpArgs false
namespace Go.Proofs.Ytfclelafcdcilaa.Dv
open Go

section
variable {P : Program} {M : Modes} {call : CallF} {ops : Array Oper}

/-! ### what an operation looks at -/
theorem map_congr_mem {ps : Array (Nat × Operand)} {e e' : Env} (h : ∀ x ∈ (ps.toList.map (·.2)).toArray, opnd e x = opnd e' x) :
    (ps.toList.map fun p => (p.1, opnd e p.2)) = ps.toList.map fun p => (p.1, opnd e' p.2) := by
  apply List.map_congr_left
  intro p hp
  rw [h p.2 (by simpa using ⟨p.1, by simpa using hp⟩)]
theorem args_congr {ps : Array Operand} {e e' : Env} (h : ∀ x ∈ ps, opnd e x = opnd e' x) : ps.toList.map (opnd e) = ps.toList.map (opnd e') :=
  List.map_congr_left fun x hx => h x (Array.mem_toList_iff.1 hx)
theorem evOp_congr {o : Oper} {e e' : Env} (h : ∀ x ∈ o.op.operands, opnd e x = opnd e' x) (aid : Nat) (σ : Store) : evOp P o e aid σ = evOp P o e' aid σ := by
  obtain ⟨dst, op, type, pos, after, guard⟩ := o
  cases op <;> simp only [Op.operands] at h <;> simp only [evOp]
  case build t ps => rw [map_congr_mem h]
  case buildSlice t n ps => rw [map_congr_mem h]
  case makeFunc fn first caps =>
    cases fn <;> simp only
    rw [args_congr (ps := first) fun x hx => h x (by simp [hx]), args_congr (ps := caps) fun x hx => h x (by simp [hx])]
  case call c =>
    obtain ⟨callee, as, ts⟩ := c
    cases callee <;> simp only
    rw [args_congr (ps := as) fun x hx => h x (by simp [Call.operands, hx])]
  case slice t x lo hi mx => cases lo <;> cases hi <;> cases mx <;> simp_all
  case binOp op t x y yt =>
    simp only [evBinO]
    rw [h x (by simp), h y (by simp)]
  all_goals first | rfl | (simp_all; done)
theorem step_congr {o : Oper} {e e' : Env} (h : ∀ x ∈ o.op.operands, opnd e x = opnd e' x) (aid : Nat) (σ : Store) : step P call o e aid σ = step P call o e' aid σ := by
  cases hg : isGo o with
  | false => rw [step_other hg, step_other hg, evOp_congr h]
  | true =>
    obtain ⟨f, as, ts, ho⟩ := isGo_true hg
    rw [step_go ho, step_go ho]
    rw [ho] at h
    simp only [Op.operands, Call.operands] at h
    have hf : opnd e f = opnd e' f := h f (by simp)
    have ha := args_congr (ps := as) fun x hx => h x (by simp [hx])
    unfold evCallee
    simp only [hf, ha]
theorem opnd_put {e : Env} {dst : Option Nat} {v : D} {x : Operand} (h : ∀ d, dst = some d → x ≠ .tmp d) : opnd (putO e dst v) x = opnd e x := by
  cases dst with
  | none => rfl
  | some d =>
    cases x with
    | tmp t =>
      have hne : t ≠ d := fun hh => h d rfl (hh ▸ rfl)
      simp [opnd, putO, Env.put, hne]
    | _ => rfl
theorem step_put {o : Oper} {e : Env} {dst : Option Nat} {v : D} (h : ∀ d, dst = some d → d ∉ o.looksAt ops) (aid : Nat) (σ : Store) : step P call o (putO e dst v) aid σ = step P call o e aid σ :=
  step_congr (fun x hx => opnd_put fun d hd hxd => h d hd (by
    subst hxd
    exact List.mem_append_left _ (List.mem_filterMap.2 ⟨.tmp d, by simpa using hx, rfl⟩))) aid σ
theorem wants_put {o : Oper} {e : Env} {dst : Option Nat} {v : D} (h : ∀ d, dst = some d → d ∉ o.looksAt ops) : wants ops (putO e dst v) o = wants ops e o := by
  cases dst with
  | none => rfl
  | some d =>
    unfold wants
    cases hg : o.guard with
    | none => rfl
    | some gw =>
      obtain ⟨g, want⟩ := gw
      simp only
      cases ht : (ops[g]?).bind (·.dst) with
      | none => rfl
      | some t =>
        have hne : t ≠ d := fun hh => h d rfl (by subst hh; simp [Oper.looksAt, hg, ht])
        simp [putO, Env.put, hne]
theorem putO_comm {e : Env} {x y : Option Nat} {v u : D} (h : ∀ d, x = some d → y ≠ some d) : putO (putO e x v) y u = putO (putO e y u) x v := by
  cases x with
  | none => rfl
  | some d =>
    cases y with
    | none => rfl
    | some c =>
      have hne : d ≠ c := fun hh => h d rfl (hh ▸ rfl)
      funext i
      simp only [putO, Env.put]
      by_cases h1 : i = c <;> by_cases h2 : i = d <;> simp_all

/-! ### where an operation sets its foot -/
def stepW (P : Program) (call : CallF) (ops : Array Oper) (o : Oper) (aid : Nat) (e : Env) (σ : Store) : Option (D × Store × Foot) :=
  match wants ops e o with
  | some true => step P call o e aid σ
  | some false => some (.undef, σ, .none)
  | none => none
theorem stepW_put {o : Oper} {e : Env} {dst : Option Nat} {v : D} (h : ∀ d, dst = some d → d ∉ o.looksAt ops) (aid : Nat) (σ : Store) : stepW P call ops o aid (putO e dst v) σ = stepW P call ops o aid e σ := by
  unfold stepW; rw [wants_put h, step_put h]
/-- The same rows, whatever may be done with them. -/
def Same1 (σ σ' : Store) (id : Nat) : Prop := ∀ st e xs, σ.obj id = some (.row st e xs) → ∃ st', σ'.obj id = some (.row st' e xs)
def Store.puts (σ : Store) (os : List (Nat × Option Ob)) : Store := os.foldl (fun s p => s.put p.1 p.2) σ
def Local (F : Store → Option (D × Store × Foot)) (σ : Store) (v : D) (s : Store) : Foot → Prop
  | .none => s = σ ∧ ∀ σ', F σ' = some (v, σ', .none)
  | .rd id => s = σ ∧ ∀ σ', Same1 σ σ' id → F σ' = some (v, σ', .rd id)
  | .wr id => ∃ o, s = σ.put id o ∧ ∀ σ', σ'.obj id = σ.obj id → F σ' = some (v, σ'.put id o, .wr id)
  | .new id => ∃ o, s = σ.put id o ∧ ∀ σ', F σ' = some (v, σ'.put id o, .new id)
  | .app r w => ∃ os, os.map (·.1) = w ∧ s = σ.puts os ∧ ∀ σ', (∀ i ∈ r, σ'.obj i = σ.obj i) → F σ' = some (v, σ'.puts os, .app r w)
  | _ => True
theorem Local.pureOp {G : Option D} {F : Store → Option (D × Store × Foot)} (hF : ∀ σ, F σ = G.map fun d => (d, σ, .none)) {σ : Store} {r : D × Store × Foot} (h : F σ = some r) : Local F σ r.1 r.2.1 r.2.2 := by
  rw [hF] at h
  obtain ⟨d, hd, rfl⟩ := Option.map_eq_some_iff.1 h
  exact ⟨rfl, fun σ' => by rw [hF, hd]; rfl⟩
theorem Local.readOp {G : Store → Option (D × Foot)} (hG : ∀ σ v f, G σ = some (v, f) → (f = .none ∧ ∀ σ', G σ' = some (v, .none)) ∨ (∃ id, f = .rd id ∧ ∀ σ', Same1 σ σ' id → G σ' = some (v, .rd id)))
    {F : Store → Option (D × Store × Foot)} (hF : ∀ σ, F σ = (G σ).map fun r => (r.1, σ, r.2)) {σ : Store} {r : D × Store × Foot} (h : F σ = some r) : Local F σ r.1 r.2.1 r.2.2 := by
  rw [hF] at h
  obtain ⟨⟨d, f⟩, hd, rfl⟩ := Option.map_eq_some_iff.1 h
  rcases hG _ _ _ hd with ⟨rfl, k⟩ | ⟨id, rfl, k⟩
  · exact ⟨rfl, fun σ' => by rw [hF, k]; rfl⟩
  · exact ⟨rfl, fun σ' hs => by rw [hF, k _ hs]; rfl⟩
theorem load_local {T : TI} {a : D} (σ : Store) (v : D) (f : Foot) (h : evLoad T a σ = some (v, f)) :
    (f = .none ∧ ∀ σ', evLoad T a σ' = some (v, .none)) ∨ (∃ id, f = .rd id ∧ ∀ σ', Same1 σ σ' id → evLoad T a σ' = some (v, .rd id)) := by
  cases a with
  | ptr id i j =>
    right
    unfold evLoad at h
    simp only at h
    split at h
    · rename_i ho
      split at h
      · rename_i x hx
        obtain ⟨y, hy, e⟩ := Option.map_eq_some_iff.1 h
        injection e with e1 e2
        subst e1
        refine ⟨id, e2.symm, fun σ' hs => ?_⟩
        obtain ⟨st', ho'⟩ := hs _ _ _ ho
        unfold evLoad
        simp only [ho', hx, hy]; rfl
      · cases h
    · cases h
  | cpt x j =>
    left
    unfold evLoad at h
    simp only at h
    obtain ⟨y, hy, e⟩ := Option.map_eq_some_iff.1 h
    injection e with e1 e2
    subst e1
    exact ⟨e2.symm, fun σ' => by unfold evLoad; simp only [hy]; rfl⟩
  | _ => simp [evLoad] at h
theorem esz_same {σ σ' : Store} {id n : Nat} (hs : Same1 σ σ' id) (h : σ.esz id = some n) : σ'.esz id = some n := by
  unfold Store.esz at h ⊢
  split at h
  · rename_i ho
    obtain ⟨st', ho'⟩ := hs _ _ _ ho
    rw [ho']; exact h
  · cases h
theorem indexAddr_local {t : TypeId} {x ix : D} (σ : Store) (v : D) (f : Foot) (h : evIndexAddr P t x ix σ = some (v, f)) :
    (f = .none ∧ ∀ σ', evIndexAddr P t x ix σ' = some (v, .none)) ∨ (∃ id, f = .rd id ∧ ∀ σ', Same1 σ σ' id → evIndexAddr P t x ix σ' = some (v, .rd id)) := by
  unfold evIndexAddr at h
  split at h
  · rename_i hk
    left
    split at h
    · rename_i hn
      split at h
      · rename_i y hy
        split at h
        · rename_i hc
          injection h with h; injection h with h1 h2; subst h1 h2
          exact ⟨rfl, fun σ' => by unfold evIndexAddr; simp only [hk, hn, hy, hc, if_true, and_self]⟩
        · cases h
      · cases h
    · cases h
  · rename_i hk
    right
    split at h
    · rename_i hc
      injection h with h; injection h with h1 h2; subst h1 h2
      refine ⟨_, rfl, fun σ' hs => ?_⟩
      unfold evIndexAddr
      simp only [hk]
      rw [if_pos ⟨hc.1, hc.2.1, hc.2.2.1, esz_same hs hc.2.2.2⟩]
    · cases h
  · rename_i hk
    left
    split at h
    · rename_i hc
      injection h with h; injection h with h1 h2; subst h1 h2
      exact ⟨rfl, fun σ' => by unfold evIndexAddr; simp only [hk]; rw [if_pos hc]⟩
    · cases h
  · rename_i hk
    left
    split at h
    · rename_i hc
      injection h with h; injection h with h1 h2; subst h1 h2
      exact ⟨rfl, fun σ' => by unfold evIndexAddr; simp only [hk]; rw [if_pos hc]⟩
    · cases h
  · cases h
theorem slice_local {t : TypeId} {x : D} {lo hi mx : Option D} (σ : Store) (v : D) (f : Foot) (h : evSlice P t x lo hi mx σ = some (v, f)) :
    (f = .none ∧ ∀ σ', evSlice P t x lo hi mx σ' = some (v, .none)) ∨ (∃ id, f = .rd id ∧ ∀ σ', Same1 σ σ' id → evSlice P t x lo hi mx σ' = some (v, .rd id)) := by
  unfold evSlice at h
  split at h
  · rename_i hk
    left
    split at h
    · cases h
    · rename_i hm
      split at h
      · rename_i h1 h2
        split at h
        · rename_i hc
          injection h with h; injection h with e1 e2; subst e1 e2
          exact ⟨rfl, fun σ' => by unfold evSlice; simp only [hk, h1, h2]; rw [if_neg hm, if_pos hc]⟩
        · cases h
      · cases h
  · rename_i hk
    left
    split at h
    · rename_i h1 h2 h3
      split at h
      · rename_i hc
        injection h with h; injection h with e1 e2; subst e1 e2
        exact ⟨rfl, fun σ' => by unfold evSlice; simp only [hk, h1, h2, h3]; rw [if_pos hc]⟩
      · cases h
    · cases h
  · rename_i hk
    right
    split at h
    · rename_i h1 h2 h3
      split at h
      · rename_i hc
        injection h with h; injection h with e1 e2; subst e1 e2
        refine ⟨_, rfl, fun σ' hs => ?_⟩
        unfold evSlice
        simp only [hk, h1, h2, h3]
        rw [if_pos ⟨hc.1, hc.2.1, hc.2.2.1, hc.2.2.2.1, hc.2.2.2.2.1, esz_same hs hc.2.2.2.2.2⟩]
      · cases h
    · cases h
  · cases h
theorem conv_local {s t : TypeId} {x : D} (σ : Store) (v : D) (f : Foot) (h : evConv P s t x σ = some (v, f)) : (f = .none ∧ ∀ σ', evConv P s t x σ' = some (v, .none)) ∨ (∃ id, f = .rd id ∧ ∀ σ', Same1 σ σ' id → evConv P s t x σ' = some (v, .rd id)) := by
  unfold evConv at h
  split at h
  · cases h
  · rename_i hkn
    split at h
    · rename_i hk
      injection h with h; injection h with e1 e2; subst e1 e2
      exact .inl ⟨rfl, fun σ' => by unfold evConv; rw [if_neg hkn]; simp only [hk]⟩
    · rename_i hk
      injection h with h; injection h with e1 e2; subst e1 e2
      exact .inl ⟨rfl, fun σ' => by unfold evConv; rw [if_neg hkn]; simp only [hk]⟩
    · rename_i id off len cap ex hk
      split at h
      · rename_i e hse
        split at h
        · rename_i st esz xs hke ho
          split at h
          · rename_i hc
            obtain ⟨ns, hns, hh⟩ := Option.map_eq_some_iff.1 h
            injection hh with e1 e2; subst e1 e2
            refine .inr ⟨id, rfl, fun σ' hs => ?_⟩
            unfold evConv
            rw [if_neg hkn]
            obtain ⟨st', ho'⟩ := hs _ _ _ ho
            simp only [hk, hse, hke, ho']
            rw [if_pos hc, hns]
            rfl
          · cases h
        · cases h
      · cases h
    · cases h
theorem Local.anyOf {F : Store → Option (D × Store × Foot)} {σ : Store} {v : D} {s : Store} {f : Foot} (h : f = .wrAll ∨ f = .rdAll) : Local F σ v s f := by
  rcases h with rfl | rfl <;> trivial
theorem elems_obj {x : D} {σ σ' : Store} (h : ∀ i ∈ rowIds x, σ'.obj i = σ.obj i) : elems σ' x = elems σ x := by
  cases x with
  | ms id off len cap ex => have h1 := h id (by simp [rowIds]); simp only [elems, h1]
  | _ => rfl
theorem Local.congr {F G : Store → Option (D × Store × Foot)} {σ s : Store} {v : D} {f : Foot} (h : Local G σ v s f) (hF : ∀ σ, F σ = G σ) : Local F σ v s f := by
  have : F = G := funext hF
  rw [this]; exact h
theorem append_local {t : TypeId} {s x : D} {aid : Nat} {σ : Store} {r : D × Store × Foot} (h : evAppend P t s x aid σ = some r) : Local (evAppend P t s x aid) σ r.1 r.2.1 r.2.2 := by
  unfold evAppend at h
  split at h
  · rename_i e hk
    simp only at h
    split at h
    · rename_i hz
      split at h
      · rename_i news fx hx
        split at h
        · rename_i hall
          split at h
          · rename_i full xs
            split at h
            · rename_i hn
              injection h with h; subst h
              refine ⟨[], rfl, rfl, fun σ' hs => ?_⟩
              unfold evAppend
              simp only [hk]
              rw [if_pos hz]
              simp only [elems_obj hs, hx]
              rw [if_pos hall, if_pos hn]; rfl
            · rename_i hn
              split at h
              · rename_i hc
                injection h with h; subst h
                refine ⟨[(_, _)], rfl, rfl, fun σ' hs => ?_⟩
                unfold evAppend
                simp only [hk]
                rw [if_pos hz]
                simp only [elems_obj hs, hx]
                rw [if_pos hall, if_neg hn, if_pos hc]; rfl
              · cases h
          · rename_i id off len cap ex
            split at h
            · rename_i esz xs ho
              split at h
              · rename_i hc
                split at h
                · rename_i hle
                  injection h with h; subst h
                  refine ⟨[(_, _)], rfl, rfl, fun σ' hs => ?_⟩
                  unfold evAppend
                  simp only [hk]
                  rw [if_pos hz]
                  simp only [elems_obj fun i hi => hs i (List.mem_cons_of_mem _ hi), hx]
                  rw [if_pos hall]
                  simp only [hs id (List.mem_cons_self ..), ho]
                  rw [if_pos hc, if_pos hle]; rfl
                · rename_i hle
                  split at h
                  · rename_i hex
                    injection h with h; subst h
                    refine ⟨[(_, _)], rfl, rfl, fun σ' hs => ?_⟩
                    unfold evAppend
                    simp only [hk]
                    rw [if_pos hz]
                    simp only [elems_obj fun i hi => hs i (List.mem_cons_of_mem _ hi), hx]
                    rw [if_pos hall]
                    simp only [hs id (List.mem_cons_self ..), ho]
                    rw [if_pos hc, if_neg hle, if_pos hex]; rfl
                  · rename_i hex
                    split at h
                    · rename_i h0
                      injection h with h; subst h
                      refine ⟨[(_, _), (_, _)], rfl, rfl, fun σ' hs => ?_⟩
                      unfold evAppend
                      simp only [hk]
                      rw [if_pos hz]
                      simp only [elems_obj fun i hi => hs i (List.mem_cons_of_mem _ hi), hx]
                      rw [if_pos hall]
                      simp only [hs id (List.mem_cons_self ..), ho]
                      rw [if_pos hc, if_neg hle, if_neg hex, if_pos h0]; rfl
                    · cases h
              · cases h
            · cases h
          · cases h
        · cases h
      · cases h
    · cases h
  · cases h
theorem appendZ_foot {t : TypeId} {s : D} {n : Int} {aid : Nat} {σ : Store} {r : D × Store × Foot} (h : evAppendZ P t s n aid σ = some r) : r.2.2 = .wrAll := by
  unfold evAppendZ at h
  split at h
  · simp only at h
    split at h
    · split at h
      · injection h with h; subst h; rfl
      · cases h
    · cases h
  · simp only at h
    split at h
    · injection h with h; subst h; rfl
    · cases h
  · cases h
theorem copy_foot {t : TypeId} {s x : D} {σ : Store} {r : D × Store × Foot} (h : evCopy P t s x σ = some r) : r.2.2 = .wrAll := by
  unfold evCopy at h
  split at h
  · split at h
    · simp only at h
      split at h
      · injection h with h; subst h; rfl
      · cases h
    · cases h
  · cases h
theorem clear_foot {t : TypeId} {s : D} {σ : Store} {r : D × Store × Foot} (h : evClear P t s σ = some r) : r.2.2 = .wrAll := by
  unfold evClear at h
  split at h
  · simp only at h
    split at h
    · split at h
      · injection h with h; subst h; rfl
      · cases h
    · cases h
  · cases h
theorem store_local {T : TI} {a v : D} {F : Store → Option (D × Store × Foot)} (hF : ∀ σ, F σ = (evStore T a v σ).map fun r => (.undef, r.1, r.2)) {σ : Store} {r : D × Store × Foot} (h : F σ = some r) : Local F σ r.1 r.2.1 r.2.2 := by
  rw [hF] at h
  obtain ⟨⟨s, f⟩, hd, rfl⟩ := Option.map_eq_some_iff.1 h
  simp only
  unfold evStore at hd
  split at hd
  · rename_i id i j
    split at hd
    · rename_i ho
      split at hd
      · rename_i x hx
        split at hd
        · rename_i hok
          obtain ⟨y, hy, e⟩ := Option.map_eq_some_iff.1 hd
          injection e with e1 e2
          subst e1 e2
          refine ⟨_, rfl, fun σ' hs => ?_⟩
          rw [hF]
          unfold evStore
          simp only [hs, ho, hx]
          rw [if_pos hok, hy]; rfl
        · cases hd
      · cases hd
    · cases hd
  · cases hd
theorem builtin_local {b : Builtin} {ats : List TypeId} {xs : List D} {aid : Nat} {σ : Store} {r : D × Store × Foot} (h : evBuiltin P b ats xs aid σ = some r) : Local (evBuiltin P b ats xs aid) σ r.1 r.2.1 r.2.2 := by
  unfold evBuiltin at h
  split at h
  · split at h
    · rename_i hk
      split at h
      · injection h with h; subst h
        exact ⟨rfl, fun σ' => by unfold evBuiltin; simp only [hk]⟩
      · cases h
    · rename_i hk
      split at h
      · obtain ⟨n, hn, rfl⟩ := Option.map_eq_some_iff.1 h
        exact ⟨rfl, fun σ' => by unfold evBuiltin; simp only [hk, hn]; rfl⟩
      · obtain ⟨n, hn, rfl⟩ := Option.map_eq_some_iff.1 h
        exact ⟨rfl, fun σ' => by unfold evBuiltin; simp only [hk, hn]; rfl⟩
      · cases h
    · cases h
  · split at h
    · rename_i hk
      obtain ⟨n, hn, rfl⟩ := Option.map_eq_some_iff.1 h
      exact ⟨rfl, fun σ' => by unfold evBuiltin; simp only [hk, hn]; rfl⟩
    · cases h
  · split at h
    · rename_i hk
      exact (append_local h).congr fun σ => by simp only [evBuiltin, hk]
    · split at h
      · exact .anyOf (.inl (appendZ_foot h))
      · cases h
    · cases h
  · exact .anyOf (.inl (copy_foot h))
  · exact .anyOf (.inl (clear_foot h))
  · obtain ⟨n, hn, rfl⟩ := Option.map_eq_some_iff.1 h
    exact ⟨rfl, fun σ' => by unfold evBuiltin; simp only [hn]; rfl⟩
  · obtain ⟨n, hn, rfl⟩ := Option.map_eq_some_iff.1 h
    exact ⟨rfl, fun σ' => by unfold evBuiltin; simp only [hn]; rfl⟩
  · cases h
theorem buildSlice_local {t : TypeId} {n : Nat} {ps : List (Nat × D)} {aid : Nat} {σ : Store} {r : D × Store × Foot} (h : evBuildSlice P t n ps aid σ = some r) : Local (evBuildSlice P t n ps aid) σ r.1 r.2.1 r.2.2 := by
  unfold evBuildSlice at h
  split at h
  · rename_i hk
    simp only at h
    split at h
    · rename_i hc
      obtain ⟨xs, hx, rfl⟩ := Option.map_eq_some_iff.1 h
      exact ⟨_, rfl, fun σ' => by unfold evBuildSlice; simp only [hk]; rw [if_pos hc, hx]; rfl⟩
    · cases h
  · cases h
theorem makeSlice_local {t : TypeId} {l c : D} {aid : Nat} {σ : Store} {r : D × Store × Foot} (h : evMakeSlice P t l c aid σ = some r) : Local (evMakeSlice P t l c aid) σ r.1 r.2.1 r.2.2 := by
  unfold evMakeSlice at h
  split at h
  · rename_i hk
    simp only at h
    split at h
    · rename_i hc
      injection h with h; subst h
      exact ⟨_, rfl, fun σ' => by unfold evMakeSlice; simp only [hk]; rw [if_pos hc]⟩
    · cases h
  · cases h
theorem evOp_local {o : Oper} {e : Env} {aid : Nat} {σ : Store} {r : D × Store × Foot} (h : evOp P o e aid σ = some r) : Local (evOp P o e aid) σ r.1 r.2.1 r.2.2 := by
  obtain ⟨dst, op, type, pos, after, guard⟩ := o
  cases op
  case move x => exact Local.pureOp (G := some (opnd e x)) (fun σ => rfl) h
  case assign x => exact Local.pureOp (G := some (opnd e x)) (fun σ => rfl) h
  case pick c a b =>
    simp only [evOp] at h
    split at h
    · rename_i hc
      injection h with h; subst h
      exact ⟨rfl, fun σ' => by simp only [evOp, hc]⟩
    · cases h
  case alloc t =>
    simp only [evOp] at h
    split at h
    · rename_i hc
      injection h with h; subst h
      exact ⟨_, rfl, fun σ' => by simp only [evOp]; rw [if_pos hc]⟩
    · cases h
  case box t x =>
    simp only [evOp] at h
    split at h
    · rename_i hc
      injection h with h; subst h
      exact ⟨_, rfl, fun σ' => by simp only [evOp]; rw [if_pos hc]⟩
    · cases h
  case build t ps => exact Local.pureOp (fun σ => rfl) h
  case buildSlice t n ps => exact buildSlice_local h
  case makeSlice t l c => exact makeSlice_local h
  case load t a => exact Local.readOp load_local (fun σ => rfl) h
  case store t a x => exact store_local (fun σ => rfl) h
  case nilCheck x =>
    simp only [evOp] at h
    split at h
    · rename_i hc; injection h with h; subst h; exact ⟨rfl, fun σ' => by simp only [evOp, hc]⟩
    · rename_i hc; injection h with h; subst h; exact ⟨rfl, fun σ' => by simp only [evOp, hc]⟩
    · rename_i hc; injection h with h; subst h; exact ⟨rfl, fun σ' => by simp only [evOp, hc]⟩
    · cases h
  case binOp => exact Local.pureOp (fun σ => rfl) h
  case unOp => exact Local.pureOp (fun σ => rfl) h
  case convert => exact Local.readOp (fun σ v f h => conv_local σ v f h) (fun σ => rfl) h
  case makeFunc fn first caps =>
    cases fn <;> simp only [evOp] at h
    case func f =>
      injection h with h; subst h
      exact ⟨rfl, fun σ' => rfl⟩
    all_goals cases h
  case slice => exact Local.readOp slice_local (fun σ => rfl) h
  case fieldAddr => exact Local.pureOp (fun σ => rfl) h
  case field => exact Local.pureOp (fun σ => rfl) h
  case indexAddr => exact Local.readOp indexAddr_local (fun σ => rfl) h
  case index => exact Local.pureOp (fun σ => rfl) h
  case extract x ix =>
    simp only [evOp] at h
    split at h
    · rename_i hc
      split at h
      · rename_i hd
        injection h with h; subst h
        exact ⟨rfl, fun σ' => by simp only [evOp, hc, hd]⟩
      · cases h
    · cases h
  case call c =>
    obtain ⟨callee, as, ts⟩ := c
    cases callee
    case builtin b => exact builtin_local h
    all_goals (simp only [evOp] at h; cases h)
  all_goals (simp only [evOp] at h; cases h)
theorem stepW_local {o : Oper} {aid : Nat} {e : Env} {σ : Store} {v : D} {s : Store} {f : Foot} (h : stepW P call ops o aid e σ = some (v, s, f)) : Local (stepW P call ops o aid e) σ v s f := by
  unfold stepW at h
  split at h
  · rename_i hw
    have hF : stepW P call ops o aid e = step P call o e aid := by funext σ; unfold stepW; rw [hw]
    rw [hF]
    cases hg : isGo o with
    | false =>
      rw [step_other hg] at h
      have : step P call o e aid = evOp P o e aid := by funext σ; exact step_other hg e aid σ
      rw [this]
      exact evOp_local h
    | true =>
      obtain ⟨g, as, ts, ho⟩ := isGo_true hg
      rw [step_go ho] at h
      split at h
      · split at h
        · injection h with h; injection h with h1 h; injection h with h2 h3; subst h3; trivial
        · cases h
      · cases h
  · rename_i hw
    injection h with h; injection h with h1 h; injection h with h2 h3; subst h1 h2 h3
    exact ⟨rfl, fun σ' => by unfold stepW; rw [hw]⟩
  · cases h
end
end Go.Proofs.Ytfclelafcdcilaa.Dv
