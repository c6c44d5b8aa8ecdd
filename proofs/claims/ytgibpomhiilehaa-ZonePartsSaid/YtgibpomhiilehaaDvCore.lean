/- A functional evaluator over the model's own code, with slices as values: definitions alone. -/
import Derived.WalkKit
import Derived.Orders
import Derived.Deep.LoopGhost
import Derived.Below
set_option linter.unusedVariables false
namespace Go.Proofs.Ytgibpomhiilehaa.Dv
open Go

/-! ### values -/
inductive D where
  | undef | any
  | bool (b : Bool) | int (k : IntKind) (n : Int) | str (s : ByteArray)
  | nilp | nilfn
  | agg (ds : List D) | tup (ds : List D)
  | sl (full : Bool) (xs : List D)
  | ms (id off len cap : Nat) (ex : Bool)
  | ptr (id i j : Nat)
  | cpt (x : D) (j : Nat)
  | fn (f : FuncId) (first captured : List D)
  | mp (id : Nat) | nilmp
  | junk
  | nsl (b : Bool)
  deriving Inhabited

def D.cells : D → List D
  | .agg ds => ds
  | d => [d]
def D.isAgg : D → Bool
  | .agg _ => true
  | _ => false
/-- What may lie in one cell of memory. -/
def D.leaf : D → Bool
  | .undef | .any | .agg _ | .tup _ | .nsl _ => false
  | _ => true
/-- What may be an element of a row. -/
def D.elem : D → Bool
  | .agg ds => ds.all D.leaf
  | d => d.leaf
/-- Data without addresses of the evaluator's store. -/
def D.pleaf : D → Bool
  | .bool _ | .int .. | .str _ | .nilp | .nilfn | .sl .. | .nilmp => true
  | _ => false
def D.pure : D → Bool
  | .agg ds => ds.all D.pleaf
  | d => d.pleaf
/-- Data without any slice: what it says hangs on no memory. -/
def D.flatLeaf : D → Bool
  | .bool _ | .int .. | .str _ | .nilp | .nilfn | .nilmp => true
  | _ => false
def D.flat : D → Bool
  | .agg ds => ds.all D.flatLeaf
  | .tup ds => ds.all fun | .agg es => es.all D.flatLeaf | d => d.flatLeaf
  | d => d.flatLeaf
def D.pureR : D → Bool
  | .tup ds => ds.all D.pure
  | d => d.pure
/-- An argument that leads nowhere into the store. -/
def D.free : D → Bool
  | .fn _ as bs => as.isEmpty && bs.isEmpty
  | d => d.pure

/-- Whose an object is: the call's own, to be written; nobody's, never written any more; another's, to be read alone. -/
inductive St where
  | own | cst | shut
  deriving DecidableEq, Inhabited
inductive Ob where
  | row (st : St) (esz : Nat) (xs : List D)
  | map (st : St) (kvs : List (D × D))
  deriving Inhabited
abbrev Store := List (Option Ob)
abbrev Env := Nat → D
def Env.put (e : Env) (t : Nat) (v : D) : Env := fun i => if i = t then v else e i
def Store.obj (σ : Store) (id : Nat) : Option Ob := (σ[id]?).bind fun o => o
def Store.put (σ : Store) (id : Nat) (o : Option Ob) : Store := σ.set id o

/-! ### types -/
inductive TK where
  | bool | int (k : IntKind) | str | ptr (e : TypeId) | sl (e : TypeId) | arr (n : Nat) (e : TypeId) | st (fs : List (Nat × TypeId)) | mp (k e : TypeId) | fn | other
  deriving Inhabited, DecidableEq
def TK.known : TK → Bool
  | .other => false
  | _ => true
def TK.isAgg : TK → Bool
  | .arr .. | .st _ => true
  | _ => false
structure TI where
  k : TK
  sz : Nat
  bytes : Nat
  zero : D
  eqok : Bool
  deriving Inhabited

def ofLeaf : Value → D
  | .bool b => .bool b
  | .int k n => .int k n
  | .string s => .str s
  | .pointer none => .nilp
  | .nilFunc => .nilfn
  | .slice none 0 0 => .sl true []
  | .map none => .nilmp
  | .func (.func f) first captured => if first.isEmpty && captured.isEmpty then .fn f [] [] else .any
  | .tuple vs => if vs.isEmpty then .undef else .any
  | _ => .any
def ofValue : Value → D
  | .agg cs => if (cs.toList.map ofLeaf).all D.leaf then .agg (cs.toList.map ofLeaf) else .any
  | v => ofLeaf v

def tkOf : Option TypeDesc → TK
  | some .bool => .bool
  | some (.int k) => .int k
  | some .string => .str
  | some (.pointer e) => .ptr e
  | some (.slice e) => .sl e
  | some (.array n e) => .arr n e
  | some (.struct fs) => .st (fs.toList.map fun f => (f.offset, f.type))
  | some (.map k e) => .mp k e
  | some (.func ..) => .fn
  | _ => .other
def eqokOf (P : Program) (t : TypeId) : Bool :=
  !P.eqGuardType P.depth t && !P.stoodInHeld t && (match P.underlying t with | some (.struct fs) => fs.toList.all fun f => f.name != "_" | _ => true)
def ti (P : Program) (t : TypeId) : TI :=
  { k := tkOf (P.underlying t)
    sz := P.cellsOf t
    bytes := P.bytesOf t
    zero := match (P.info? t).bind (·.zero) with | some v => ofValue v | none => .any
    eqok := eqokOf P t }

/-! ### operations -/
inductive Foot where
  | none | rd (id : Nat) | wr (id : Nat) | new (id : Nat) | rdAll | wrAll | call (ids : List Nat)
  deriving DecidableEq, Inhabited

def opnd (e : Env) : Operand → D
  | .tmp t => e t
  | .const v => ofValue v
  | .global _ => .any
  | .func f => .fn f [] []

def setRange (ds : List D) (j : Nat) (vs : List D) : List D := ds.take j ++ vs ++ ds.drop (j + vs.length)
/-- The part of an element at cell j, as a variable of the type. -/
def sub (T : TI) (x : D) (j : Nat) : Option D :=
  if T.k.known = false then Option.none
  else if j = 0 ∧ x.isAgg = T.k.isAgg ∧ x.cells.length = T.sz then some x
  else if T.k.isAgg then
    if j + T.sz ≤ x.cells.length then some (.agg ((x.cells.drop j).take T.sz)) else Option.none
  else if T.sz = 1 then x.cells[j]? else Option.none
def okVal (T : TI) (v : D) : Bool := T.k.known && v.elem && v.isAgg == T.k.isAgg && v.cells.length == T.sz
/-- An element with a part written. -/
def upd (x : D) (j : Nat) (v : D) : Option D :=
  if j = 0 ∧ x.isAgg = v.isAgg ∧ x.cells.length = v.cells.length then some v
  else match x with
    | .agg ds => if j + v.cells.length ≤ ds.length then some (.agg (setRange ds j v.cells)) else Option.none
    | _ => Option.none

def evLoad (T : TI) (a : D) (σ : Store) : Option (D × Foot) :=
  match a with
  | .ptr id i j => match σ.obj id with
    | some (.row _ _ xs) => match xs[i]? with
      | some x => (sub T x j).map fun v => (v, .rd id)
      | Option.none => Option.none
    | _ => Option.none
  | .cpt x j => (sub T x j).map fun v => (v, .none)
  | _ => Option.none
def evStore (T : TI) (a v : D) (σ : Store) : Option (Store × Foot) :=
  match a with
  | .ptr id i j => match σ.obj id with
    | some (.row .own esz xs) => match xs[i]? with
      | some x => if okVal T v then (upd x j v).map fun x' => (σ.put id (some (.row .own esz (xs.set i x'))), .wr id) else Option.none
      | Option.none => Option.none
    | _ => Option.none
  | _ => Option.none
def fillD (cells : List D) : List (Option (Nat × Nat) × D) → Option (List D)
  | [] => some cells
  | (Option.none, _) :: _ => Option.none
  | (some (off, size), v) :: rest =>
    if v.elem && v.cells.length == size && decide (off + size ≤ cells.length) then fillD (setRange cells off v.cells) rest else Option.none
def fillE (esz : Nat) (xs : List D) : List (Nat × D) → Option (List D)
  | [] => some xs
  | (i, v) :: rest => if v.elem && v.cells.length == esz && decide (i < xs.length) then fillE esz (xs.set i v) rest else Option.none
def evBuild (P : Program) (t : TypeId) (parts : List (Nat × D)) : Option D :=
  let T := ti P t
  match T.k, T.zero with
  | .st fs, .agg zs => if zs.all D.leaf && zs.length == T.sz && fs.all (fun f => (ti P f.2).k.known) then (fillD zs (parts.map fun p => ((fs[p.1]?).map fun f => (f.1, (ti P f.2).sz), p.2))).map .agg else Option.none
  | .arr _ e, .agg zs => if zs.all D.leaf && zs.length == T.sz && (ti P e).k.known then (fillD zs (parts.map fun p => (some (p.1 * (ti P e).sz, (ti P e).sz), p.2))).map .agg else Option.none
  | _, _ => Option.none
def evBuildSlice (P : Program) (t : TypeId) (len : Nat) (parts : List (Nat × D)) (aid : Nat) (σ : Store) : Option (D × Store × Foot) :=
  match (ti P t).k with
  | .sl e =>
    let E := ti P e
    if 0 < E.sz ∧ len * E.sz ≤ 16777216 ∧ E.zero.elem ∧ E.zero.cells.length = E.sz then
      (fillE E.sz (List.replicate len E.zero) parts).map fun xs => (.ms aid 0 len len true, σ.put aid (some (.row .own E.sz xs)), .new aid)
    else Option.none
  | _ => Option.none
def evMakeSlice (P : Program) (t : TypeId) (l c : D) (aid : Nat) (σ : Store) : Option (D × Store × Foot) :=
  match (ti P t).k, l, c with
  | .sl e, .int _ n, .int _ m =>
    let E := ti P e
    if 0 ≤ n ∧ n ≤ m ∧ m * E.bytes ≤ 140737488355328 ∧ m ≤ 140737488355328 ∧ 0 < E.sz ∧ E.zero.elem ∧ E.zero.cells.length = E.sz then
      some (.ms aid 0 n.toNat m.toNat true, σ.put aid (some (.row .own E.sz (List.replicate m.toNat E.zero))), .new aid)
    else Option.none
  | _, _, _ => Option.none
def evPart (P : Program) (t : TypeId) (x : D) (off : Nat) : Option D :=
  match x with
  | .agg _ => sub (ti P t) x off
  | _ => Option.none
def evField (P : Program) (t : TypeId) (x : D) (f : Nat) : Option D :=
  match (ti P t).k with
  | .st fs => match fs[f]? with
    | some (off, ft) => evPart P ft x off
    | Option.none => Option.none
  | _ => Option.none
def evFieldAddr (P : Program) (s : TypeId) (a : D) (f : Nat) : Option D :=
  match (ti P s).k with
  | .st fs => match fs[f]? with
    | some (off, ft) => if (ti P ft).sz = 0 then Option.none else match a with
      | .ptr id i j => some (.ptr id i (j + off))
      | .cpt x j => some (.cpt x (j + off))
      | _ => Option.none
    | Option.none => Option.none
  | _ => Option.none
/-- The size of an object's elements. -/
def Store.esz (σ : Store) (id : Nat) : Option Nat :=
  match σ.obj id with
  | some (.row _ esz _) => some esz
  | _ => Option.none
def evIndexAddr (P : Program) (t : TypeId) (x ix : D) (σ : Store) : Option (D × Foot) :=
  match (ti P t).k, x, ix with
  | .sl e, .sl _ xs, .int _ n => if 0 ≤ n then (match xs[n.toNat]? with | some y => if y.cells.length = (ti P e).sz ∧ 0 < (ti P e).sz then some (.cpt y 0, .none) else Option.none | Option.none => Option.none) else Option.none
  | .sl e, .ms id off len _ _, .int _ n => if 0 ≤ n ∧ n < len ∧ 0 < (ti P e).sz ∧ σ.esz id = some (ti P e).sz then some (.ptr id (off + n.toNat) 0, .rd id) else Option.none
  | .arr m e, .ptr id i j, .int _ n => if 0 ≤ n ∧ n < m ∧ 0 < (ti P e).sz then some (.ptr id i (j + n.toNat * (ti P e).sz), .none) else Option.none
  | .arr m e, .cpt y j, .int _ n => if 0 ≤ n ∧ n < m ∧ 0 < (ti P e).sz then some (.cpt y (j + n.toNat * (ti P e).sz), .none) else Option.none
  | _, _, _ => Option.none
def evIndex (P : Program) (t : TypeId) (x ix : D) : Option D :=
  match (ti P t).k, x, ix with
  | .arr m e, .agg ds, .int _ n => if 0 ≤ n ∧ n < m then evPart P e (.agg ds) (n.toNat * (ti P e).sz) else Option.none
  | .str, .str s, .int _ n => if 0 ≤ n then (match s[n.toNat]? with | some b => some (.int .u8 b.toNat) | Option.none => Option.none) else Option.none
  | _, _, _ => Option.none
/-- A bound: what is there by itself; what is typed. -/
def bnd (dflt : Nat) : Option D → Option Nat
  | Option.none => some dflt
  | some (.int _ n) => if 0 ≤ n then some n.toNat else Option.none
  | some _ => Option.none
def evSlice (P : Program) (t : TypeId) (x : D) (lo hi mx : Option D) (σ : Store) : Option (D × Foot) :=
  match (ti P t).k, x with
  | .str, .str s => if mx.isSome then Option.none else match bnd s.size hi, bnd 0 lo with
    | some h, some l => if l ≤ h ∧ h ≤ s.size then some (.str (s.extract l h), .none) else Option.none
    | _, _ => Option.none
  | .sl e, .sl full xs => match bnd xs.length mx, bnd xs.length hi, bnd 0 lo with
    | some m, some h, some l => if l ≤ h ∧ h ≤ m ∧ m ≤ xs.length ∧ (mx.isSome = true → hi.isSome = true) ∧ 0 < (ti P e).sz ∧ ((xs.take h).drop l).all (fun y => y.cells.length == (ti P e).sz) then
        some (.sl (if mx.isSome then decide (h = m) else full && decide (h = xs.length)) ((xs.take h).drop l), .none) else Option.none
    | _, _, _ => Option.none
  | .sl e, .ms id off len cap ex => match bnd cap mx, bnd len hi, bnd 0 lo with
    | some m, some h, some l => if l ≤ h ∧ h ≤ m ∧ m ≤ cap ∧ (mx.isSome = true → hi.isSome = true) ∧ 0 < (ti P e).sz ∧ σ.esz id = some (ti P e).sz then some (.ms id (off + l) (h - l) (m - l) (ex || mx.isSome), .rd id) else Option.none
    | _, _, _ => Option.none
  | _, _ => Option.none

def binInt (op : BinOp) (k : IntKind) (a b : Int) : Option D :=
  match op with
  | .add => some (.int k (k.wrap (a + b)))
  | .sub => some (.int k (k.wrap (a - b)))
  | .mul => some (.int k (k.wrap (a * b)))
  | .quo => if b = 0 then Option.none else some (.int k (k.wrap (a.tdiv b)))
  | .rem => if b = 0 then Option.none else some (.int k (a.tmod b))
  | .and => some (.int k (k.wrap (BitVec.ofInt k.bits a &&& BitVec.ofInt k.bits b).toNat))
  | .or => some (.int k (k.wrap (BitVec.ofInt k.bits a ||| BitVec.ofInt k.bits b).toNat))
  | .xor => some (.int k (k.wrap (BitVec.ofInt k.bits a ^^^ BitVec.ofInt k.bits b).toNat))
  | .eql => some (.bool (decide (a = b)))
  | .neq => some (.bool (decide (a ≠ b)))
  | .lss => some (.bool (decide (a < b)))
  | .leq => some (.bool (decide (a ≤ b)))
  | .gtr => some (.bool (decide (b < a)))
  | .geq => some (.bool (decide (b ≤ a)))
  | _ => Option.none
def shInt (op : BinOp) (k : IntKind) (a b : Int) : Option D :=
  if b < 0 then Option.none else match op with
    | .shl => some (.int k (k.wrap (a * 2 ^ (min b.toNat k.bits))))
    | .shr => some (.int k (a.fdiv (2 ^ (min b.toNat k.bits))))
    | _ => Option.none
def binStr (op : BinOp) (a b : ByteArray) : Option D :=
  match op with
  | .add => if a.size + b.size ≤ 4611686018427387904 then some (.str (a ++ b)) else Option.none
  | .eql => some (.bool (decide (a = b)))
  | .neq => some (.bool (decide (a ≠ b)))
  | .lss => some (.bool (Op.bytesLess a.data.toList b.data.toList))
  | .geq => some (.bool (!Op.bytesLess a.data.toList b.data.toList))
  | .gtr => some (.bool (!(Op.bytesLess a.data.toList b.data.toList || decide (a = b))))
  | .leq => some (.bool (Op.bytesLess a.data.toList b.data.toList || decide (a = b)))
  | _ => Option.none
/-- Pointers of which one is nil. -/
def nilEq : D → D → Option Bool
  | .nilp, .nilp => some true
  | .nilp, .ptr .. | .nilp, .cpt .. | .ptr .., .nilp | .cpt .., .nilp => some false
  | _, _ => Option.none
def deq (P : Program) : Nat → TypeId → D → D → Option Bool
  | 0, _, _, _ => Option.none
  | n + 1, t, x, y =>
    match (ti P t).k, x, y with
    | .bool, .bool a, .bool b => some (decide (a = b))
    | .int _, .int k a, .int k' b => if k = k' then some (decide (a = b)) else Option.none
    | .str, .str a, .str b => some (decide (a = b))
    | .st fs, .agg xs, .agg ys =>
      if (ti P t).eqok then
        (fs.mapM fun (f : Nat × TypeId) => match evPart P f.2 (.agg xs) f.1, evPart P f.2 (.agg ys) f.1 with
          | some a, some b => deq P n f.2 a b
          | _, _ => Option.none).map fun (l : List Bool) => l.all id
      else Option.none
    | .ptr _, x, y => nilEq x y
    | _, _, _ => Option.none
/-- Equality of what is neither numbers nor texts. -/
def deqTop (P : Program) (t : TypeId) : D → D → Option Bool
  | .bool a, .bool b => if (ti P t).k = .bool then some (decide (a = b)) else Option.none
  | .agg xs, .agg ys => deq P 5 t (.agg xs) (.agg ys)
  | x, y => match (ti P t).k with
    | .ptr _ => nilEq x y
    | _ => Option.none
def evBin (P : Program) (op : BinOp) (t : TypeId) (x y : D) : Option D :=
  match x, y with
  | .int k a, .int k' b => (match op with
    | .shl => shInt .shl k a b
    | .shr => shInt .shr k a b
    | op => if k = k' then binInt op k a b else Option.none)
  | .str a, .str b => binStr op a b
  | x, y => match op with
    | .eql => (deqTop P t x y).map .bool
    | .neq => (deqTop P t x y).map fun b => .bool !b
    | _ => Option.none
def evUn (op : UnOp) (x : D) : Option D :=
  match op, x with
  | .neg, .int k n => some (.int k (k.wrap (0 - n)))
  | .not, .bool b => some (.bool !b)
  | _, _ => Option.none
def byteOfD : D → Option UInt8
  | .int .u8 n => some (UInt8.ofNat n.toNat)
  | _ => Option.none
/-- A row's bytes. -/
def bytesD : List D → Option (List Int)
  | [] => some []
  | .int .u8 n :: r => (bytesD r).map fun l => n :: l
  | _ => Option.none
def pushAll (ns : List Int) : ByteArray := ns.foldl (fun r n => r.push (UInt8.ofNat n.toNat)) ByteArray.empty
def evConv (P : Program) (src dst : TypeId) (x : D) (σ : Store) : Option (D × Foot) :=
  if (ti P src).k.known = false then Option.none else
  match (ti P dst).k, x with
  | .int k, .int _ n => some (.int k (k.wrap n), .none)
  | .str, .str s => some (.str s, .none)
  | .str, .ms id off len _ _ => match (ti P src).k with
    | .sl e => match (ti P e).k, σ.obj id with
      | .int .u8, some (.row _ esz xs) => if esz = 1 ∧ off + len ≤ xs.length then (bytesD ((xs.drop off).take len)).map fun ns => (.str (pushAll ns), .rd id) else Option.none
      | _, _ => Option.none
    | _ => Option.none
  | _, _ => Option.none
/-- The elements of a slice, wherever they lie. -/
def elems (σ : Store) : D → Option (List D × Foot)
  | .sl _ xs => some (xs, .none)
  | .nsl _ => some ([], .none)
  | .ms id off len _ _ => match σ.obj id with
    | some (.row _ _ xs) => if off + len ≤ xs.length then some ((xs.drop off).take len, .rd id) else Option.none
    | _ => Option.none
  | _ => Option.none
def lenD : D → Option Nat
  | .sl _ xs => some xs.length
  | .ms _ _ len _ _ => some len
  | .str s => some s.size
  | _ => Option.none
/-- The room of a slice, where it is known. -/
def capD : D → Option Nat
  | .sl true xs => some xs.length
  | .ms _ _ _ cap true => some cap
  | _ => Option.none
def evAppend (P : Program) (t : TypeId) (s x : D) (aid : Nat) (σ : Store) : Option (D × Store × Foot) :=
  match (ti P t).k with
  | .sl e =>
    let E := ti P e
    if 0 < E.sz ∧ E.zero.elem ∧ E.zero.cells.length = E.sz then
      match elems σ x with
      | some (news, _) =>
        if news.all (fun y => y.elem && y.cells.length == E.sz) then
          match s with
          | .sl full xs =>
            if news = [] then some (.sl full xs, σ, .wrAll)
            else if full ∧ xs.all (fun y => y.elem && y.cells.length == E.sz) ∧ (xs.length + news.length) * max E.bytes 1 ≤ 140737488355328 then
              some (.ms aid 0 (xs.length + news.length) (xs.length + news.length) false, σ.put aid (some (.row .own E.sz (xs ++ news))), .wrAll)
            else Option.none
          | .ms id off len cap ex => match σ.obj id with
            | some (.row .own esz xs) =>
              if esz = E.sz ∧ off + cap ≤ xs.length ∧ len ≤ cap ∧ (len + news.length) * max E.bytes 1 ≤ 140737488355328 then
                if len + news.length ≤ cap then
                  some (.ms id off (len + news.length) cap ex, σ.put id (some (.row .own esz (xs.take (off + len) ++ news ++ xs.drop (off + len + news.length)))), .wrAll)
                else if ex then
                  some (.ms aid 0 (len + news.length) (len + news.length) false, σ.put aid (some (.row .own esz ((xs.drop off).take len ++ news))), .wrAll)
                else if off = 0 then
                  some (.ms aid 0 (len + news.length) (len + news.length) false, (σ.put id Option.none).put aid (some (.row .own esz (xs.take len ++ news))), .wrAll)
                else Option.none
              else Option.none
            | _ => Option.none
          | _ => Option.none
        else Option.none
      | Option.none => Option.none
    else Option.none
  | _ => Option.none
/-- So many zeros behind what stands, where there is no room for them. -/
def evAppendZ (P : Program) (t : TypeId) (s : D) (n : Int) (aid : Nat) (σ : Store) : Option (D × Store × Foot) :=
  match (ti P t).k, s with
  | .sl e, .ms id off len cap true =>
    let E := ti P e
    match σ.obj id with
    | some (.row _ esz xs) =>
      if (0 < E.sz ∧ E.zero.elem ∧ E.zero.cells.length = E.sz ∧ esz = E.sz) ∧ off + len ≤ xs.length ∧ cap < len + n.toNat ∧ (len + n.toNat) * max E.bytes 1 ≤ 140737488355328 then
        some (.ms aid 0 (len + n.toNat) (len + n.toNat) false, σ.put aid (some (.row .own E.sz ((xs.drop off).take len ++ List.replicate n.toNat E.zero))), .wrAll)
      else Option.none
    | _ => Option.none
  | .sl e, .sl true xs =>
    let E := ti P e
    if (0 < E.sz ∧ E.zero.elem ∧ E.zero.cells.length = E.sz) ∧ xs.all (fun y => y.elem && y.cells.length == E.sz) ∧ 0 < n ∧ (xs.length + n.toNat) * max E.bytes 1 ≤ 140737488355328 then
      some (.ms aid 0 (xs.length + n.toNat) (xs.length + n.toNat) false, σ.put aid (some (.row .own E.sz (xs ++ List.replicate n.toNat E.zero))), .wrAll)
    else Option.none
  | _, _ => Option.none
def evCopy (P : Program) (t : TypeId) (s x : D) (σ : Store) : Option (D × Store × Foot) :=
  match (ti P t).k, s, elems σ x with
  | .sl e, .ms id off len _ _, some (news, _) =>
    match σ.obj id with
    | some (.row .own esz xs) =>
      let m := min news.length len
      if esz = (ti P e).sz ∧ off + len ≤ xs.length ∧ (news.take m).all (fun y => y.elem && y.cells.length == esz) then
        some (.int .i64 m, σ.put id (some (.row .own esz (xs.take off ++ news.take m ++ xs.drop (off + m)))), .wrAll)
      else Option.none
    | _ => Option.none
  | _, _, _ => Option.none
def evClear (P : Program) (t : TypeId) (s : D) (σ : Store) : Option (D × Store × Foot) :=
  match (ti P t).k, s with
  | .sl e, .ms id off len _ _ =>
    let E := ti P e
    match σ.obj id with
    | some (.row .own esz xs) =>
      if esz = E.sz ∧ off + len ≤ xs.length ∧ E.zero.elem ∧ E.zero.cells.length = E.sz then
        some (.undef, σ.put id (some (.row .own esz (xs.take off ++ List.replicate len E.zero ++ xs.drop (off + len)))), .wrAll)
      else Option.none
    | _ => Option.none
  | _, _ => Option.none
def minmax (f : Int → Int → Int) : List D → Option D
  | [.int k a, .int k' b] => if k = k' then some (.int k (f a b)) else Option.none
  | [.int k a, .int k' b, .int k'' c] => if k = k' ∧ k = k'' then some (.int k (f (f a b) c)) else Option.none
  | .int k a :: .int k' b :: .int k'' c :: .int k3 d :: .int k4 e :: [.int k5 g] => if k = k' ∧ k = k'' ∧ k = k3 ∧ k = k4 ∧ k = k5 then some (.int k (f (f (f (f (f a b) c) d) e) g)) else Option.none
  | _ => Option.none
def evBuiltin (P : Program) (b : Builtin) (ats : List TypeId) (args : List D) (aid : Nat) (σ : Store) : Option (D × Store × Foot) :=
  match b, ats, args with
  | .len, [t], [x] => (match (ti P t).k with
    | .str => match x with | .str s => some (.int .i64 s.size, σ, .none) | _ => Option.none
    | .sl _ => match x with | .sl .. | .ms .. => (lenD x).map fun n => (.int .i64 n, σ, .none) | _ => Option.none
    | _ => Option.none)
  | .cap, [t], [x] => (match (ti P t).k with
    | .sl _ => (capD x).map fun (n : Nat) => (.int .i64 n, σ, .none)
    | _ => Option.none)
  | .append, [t, t2], [s, x] => (match (ti P t2).k with
    | .sl _ => evAppend P t s x aid σ
    | .int _ => match x with | .int _ n => evAppendZ P t s n aid σ | _ => Option.none
    | _ => Option.none)
  | .copy, [t, _], [s, x] => evCopy P t s x σ
  | .clear, [t], [s] => evClear P t s σ
  | .max, _, xs => (minmax max xs).map fun d => (d, σ, .none)
  | .min, _, xs => (minmax min xs).map fun d => (d, σ, .none)
  | _, _, _ => Option.none
/-- Is it nil? -/
def nilD : D → Option Bool
  | .sl _ (_ :: _) => some false
  | .ms _ _ (_ + 1) _ _ => some false
  | .nsl b => some b
  | _ => Option.none
def isNilS : Operand → Bool
  | .const (.slice Option.none 0 0) => true
  | _ => false
def nilBin (P : Program) (op : BinOp) (t : TypeId) (x : D) : Option D :=
  match (ti P t).k with
  | .sl _ => match op with
    | .eql => (nilD x).map fun b => .bool b
    | .neq => (nilD x).map fun b => .bool (!b)
    | _ => Option.none
  | _ => Option.none
def evBinO (P : Program) (op : BinOp) (t : TypeId) (x y : Operand) (e : Env) : Option D :=
  match isNilS y with
  | true => nilBin P op t (opnd e x)
  | false => evBin P op t (opnd e x) (opnd e y)
/-- Does the operation take a new place in the store? -/
def allocs (o : Oper) : Bool :=
  match o.op with
  | .alloc _ | .box .. | .buildSlice .. | .makeSlice .. => true
  | .call { callee := .builtin .append, .. } => true
  | _ => false
/-- An operation that is no call of a Go function. -/
def evOp (P : Program) (o : Oper) (e : Env) (aid : Nat) (σ : Store) : Option (D × Store × Foot) :=
  match o.op with
  | .move x | .assign x => some (opnd e x, σ, .none)
  | .pick c a b => match opnd e c with
    | .bool t => some (if t then opnd e a else opnd e b, σ, .none)
    | _ => Option.none
  | .alloc t => let T := ti P t
    if T.zero.elem ∧ T.zero.cells.length = T.sz ∧ 0 < T.sz then some (.ptr aid 0 0, σ.put aid (some (.row .own T.sz [T.zero])), .new aid) else Option.none
  | .box _ x => let v := opnd e x
    if v.elem ∧ 0 < v.cells.length then some (.ptr aid 0 0, σ.put aid (some (.row .own v.cells.length [v])), .new aid) else Option.none
  | .build t ps => (evBuild P t (ps.toList.map fun p => (p.1, opnd e p.2))).map fun d => (d, σ, .none)
  | .buildSlice t n ps => evBuildSlice P t n (ps.toList.map fun p => (p.1, opnd e p.2)) aid σ
  | .load t a => (evLoad (ti P t) (opnd e a) σ).map fun r => (r.1, σ, r.2)
  | .store t a x => (evStore (ti P t) (opnd e a) (opnd e x) σ).map fun r => (.undef, r.1, r.2)
  | .nilCheck x => match opnd e x with
    | .ptr id i j => some (.ptr id i j, σ, .none)
    | .cpt y j => some (.cpt y j, σ, .none)
    | .fn f as bs => some (.fn f as bs, σ, .none)
    | _ => Option.none
  | .binOp op t x y _ => (evBinO P op t x y e).map fun d => (d, σ, .none)
  | .unOp op _ x => (evUn op (opnd e x)).map fun d => (d, σ, .none)
  | .convert s t x => (evConv P s t (opnd e x) σ).map fun r => (r.1, σ, r.2)
  | .makeFunc (.func f) first caps => some (.fn f (first.toList.map (opnd e)) (caps.toList.map (opnd e)), σ, .none)
  | .makeSlice t l c => evMakeSlice P t (opnd e l) (opnd e c) aid σ
  | .slice t x lo hi mx => (evSlice P t (opnd e x) (lo.map (opnd e)) (hi.map (opnd e)) (mx.map (opnd e)) σ).map fun r => (r.1, σ, r.2)
  | .fieldAddr s x f => (evFieldAddr P s (opnd e x) f).map fun d => (d, σ, .none)
  | .field t x f => (evField P t (opnd e x) f).map fun d => (d, σ, .none)
  | .indexAddr t x ix => (evIndexAddr P t (opnd e x) (opnd e ix) σ).map fun r => (r.1, σ, r.2)
  | .index t x ix => (evIndex P t (opnd e x) (opnd e ix)).map fun d => (d, σ, .none)
  | .extract x ix => match opnd e x with
    | .tup ds => match ds[ix]? with | some d => some (d, σ, .none) | Option.none => Option.none
    | _ => Option.none
  | .call c => match c.callee with
    | .builtin b => evBuiltin P b c.argTypes.toList (c.args.toList.map (opnd e)) aid σ
    | _ => Option.none
  | _ => Option.none

/-! ### calls -/
abbrev CallF := FuncId → List D → Store → Option (D × Store)
/-- At a function's end, what is handed out becomes data. -/
def frzLeaf (base : Nat) (σ : Store) : D → Option D
  | .ms id off len cap ex => match σ.obj id with
    | some (.row st _ xs) => if st ≠ .shut ∧ off + len ≤ xs.length ∧ ((xs.drop off).take len).all D.pure then some (.sl (ex && decide (cap = len)) ((xs.drop off).take len)) else Option.none
    | _ => Option.none
  | d => if d.pleaf then some d else Option.none
def frzVal (base : Nat) (σ : Store) : D → Option D
  | .agg ds => (ds.mapM (frzLeaf base σ)).map .agg
  | d => frzLeaf base σ d
def frz (base : Nat) (σ : Store) : D → Option D
  | .tup ds => (ds.mapM (frzVal base σ)).map .tup
  | d => frzVal base σ d
/-- A slice of the caller's own, lent as data for one call. -/
def lendLeaf (σ : Store) : D → D × List Nat
  | .ms id off len cap ex => match σ.obj id with
    | some (.row _ _ xs) => if off + len ≤ xs.length ∧ ((xs.drop off).take len).all D.pure then (.sl (ex && decide (cap = len)) ((xs.drop off).take len), [id]) else (.ms id off len cap ex, [])
    | _ => (.ms id off len cap ex, [])
  | d => (d, [])
def lend (σ : Store) : D → D × List Nat
  | .agg ds => (.agg (ds.map fun d => (lendLeaf σ d).1), ds.flatMap fun d => (lendLeaf σ d).2)
  | d => lendLeaf σ d
/-- The store as a callee that may not write sees it. -/
def shutOb : Ob → Ob
  | .row .own e xs => .row .shut e xs
  | .map .own kvs => .map .shut kvs
  | o => o
def Store.shut (σ : Store) (lent : List Nat) : Store := σ.mapIdx fun i o => if lent.contains i then Option.none else o.map shutOb
def sealOb : Ob → Ob
  | .row .own e xs => .row .cst e xs
  | o => o
/-- What was lent is never written again. -/
def Store.sealed (σ : Store) (lent : List Nat) : Store := lent.foldl (fun σ i => match σ.obj i with | some o => σ.put i (some (sealOb o)) | Option.none => σ) σ
def Store.mayseal (σ : Store) (i : Nat) : Bool :=
  match σ.obj i with
  | some (.row .own ..) | some (.row .cst ..) => true
  | _ => false
/-- The caller's store behind a call that lent these. -/
def Store.behind (σ : Store) (lent : List Nat) (r : D) : Option Store :=
  if lent.isEmpty || r.flat then some σ
  else if lent.all σ.mayseal then some (σ.sealed lent) else Option.none
structure Modes where
  good : FuncId → Bool
  byref : FuncId → Bool
  ro : FuncId → Bool := fun _ => false
  /-- Is it looked whether one that reads alone has left all as it was? -/
  chk : Bool := false
  prim : FuncId → Option CallF
mutual
/-- Alike (computed). -/
def D.same : D → D → Bool
  | .undef, .undef | .any, .any | .nilp, .nilp | .nilfn, .nilfn | .nilmp, .nilmp | .junk, .junk => true
  | .bool a, .bool b => a == b
  | .int k n, .int l m => decide (k = l) && decide (n = m)
  | .str a, .str b => decide (a.data.toList = b.data.toList)
  | .agg a, .agg b => sameL a b
  | .sl f a, .sl g b => f == g && sameL a b
  | .ms i j k l e, .ms i' j' k' l' e' => decide (i = i') && decide (j = j') && decide (k = k') && decide (l = l') && e == e'
  | .ptr i j k, .ptr i' j' k' => decide (i = i') && decide (j = j') && decide (k = k')
  | .nsl a, .nsl b => a == b
  | _, _ => false
termination_by structural a => a
def sameL : List D → List D → Bool
  | [], [] => true
  | a :: r, b :: s => D.same a b && sameL r s
  | _, _ => false
termination_by structural a => a
end
def sameO : Option Ob → Option Ob → Bool
  | none, none => true
  | some (.row st e xs), some (.row st' e' xs') => decide (st = st') && decide (e = e') && sameL xs xs'
  | _, _ => false
/-- What was there is there still. -/
def sameS : Store → Store → Bool
  | [], _ => true
  | o :: r, o' :: r' => sameO o o' && sameS r r'
  | _, _ => false
def roEnd (chk : Bool) (σ : Store) (q : D × Store) : Option (D × Store) := if chk && !(q.1.flat && sameS σ q.2) then Option.none else some (q.1, σ)
def callD (M : Modes) (run : CallF) : CallF := fun f args σ =>
  match M.prim f with
  | some p => p f args σ
  | Option.none =>
    if M.byref f then (if M.ro f then (run f args σ).bind (roEnd M.chk σ) else run f args σ)
    else
      let args' := args.map fun d => (lend σ d).1
      let lent := args.flatMap fun d => (lend σ d).2
      if args'.all D.free then
        match run f args' [] with
        | some (r, τ) => match frz 0 τ r with
          | some r' => (σ.behind lent r').map fun σ' => (r', σ')
          | Option.none => Option.none
        | Option.none => Option.none
      else Option.none

def evCallee (e : Env) (c : Call) : Option (FuncId × List D) :=
  match c.callee with
  | .value f => match opnd e f with
    | .fn g first caps => some (g, first ++ (c.args.toList.map (opnd e) ++ caps))
    | _ => Option.none
  | _ => Option.none
def putO (e : Env) (dst : Option Nat) (v : D) : Env :=
  match dst with
  | some d => e.put d v
  | Option.none => e
/-- One operation, calls too. -/
def step (P : Program) (call : CallF) (o : Oper) (e : Env) (aid : Nat) (σ : Store) : Option (D × Store × Foot) :=
  match o.op with
  | .call { callee := .value f, args, argTypes } => match evCallee e { callee := .value f, args, argTypes } with
    | some (g, as) => match call g as σ with
      | some (r, σ') => some (r, σ', .call (as.flatMap fun d => (lend σ d).2))
      | Option.none => Option.none
    | Option.none => Option.none
  | _ => evOp P o e aid σ
/-- Is the operation to be carried out? -/
def wants (ops : Array Oper) (e : Env) (o : Oper) : Option Bool :=
  match o.guard with
  | Option.none => some true
  | some (g, want) => match (ops[g]?).bind (·.dst) with
    | some d => match e d with
      | .bool b => some (b == want)
      | .undef => some false
      | _ => Option.none
    | Option.none => Option.none
def evL (P : Program) (call : CallF) (ops : Array Oper) : List Oper → Nat → Env → Store → Option (Env × Store)
  | [], _, e, σ => some (e, σ)
  | o :: rest, aid, e, σ =>
    match wants ops e o with
    | some true => match step P call o e aid σ with
      | some (v, σ', _) => evL P call ops rest (if allocs o then aid + 1 else aid) (putO e o.dst v) σ'
      | Option.none => Option.none
    | some false => evL P call ops rest (if allocs o then aid + 1 else aid) (putO e o.dst .undef) σ
    | Option.none => Option.none
def nallocs (l : List Oper) : Nat := (l.filter allocs).length

/-! ### regions whose order is drawn -/
inductive Cls where
  | q | r | n | c (f : FuncId) | w
  deriving DecidableEq, Inhabited
def cls (o : Oper) : Cls :=
  match o.op with
  | .move _ | .assign _ | .pick .. | .build .. | .binOp .. | .unOp .. | .fieldAddr .. | .field .. | .index .. | .extract .. | .nilCheck _ | .makeFunc .. => .q
  | .load .. | .indexAddr .. | .slice .. | .convert .. => .r
  | .alloc _ | .box .. | .buildSlice .. | .makeSlice .. => .n
  | .call { callee := .value (.func f), .. } => .c f
  | .call { callee := .builtin .len, .. } | .call { callee := .builtin .cap, .. } | .call { callee := .builtin .max, .. } | .call { callee := .builtin .min, .. } => .q
  | _ => .w
def Cls.fits : Cls → Cls → Bool
  | .q, _ | _, .q | .r, .r | .n, .n | .r, .c _ | .c _, .r => true
  | _, _ => false
/-- What must stand ahead of each operation, as bits. -/
def masks (ops : Array Oper) : List Nat :=
  ops.toList.foldl (fun ms o => ms ++ [o.after.foldl (fun m ed => if Region.binds .any ed then m ||| (1 <<< ed.on) ||| ms.getD ed.on 0 else m) 0]) []
def free (ms : List Nat) (j i : Nat) : Bool := decide (j < i) && !(ms.getD i 0).testBit j
def pairOk (ops : Array Oper) (j i : Nat) : Bool :=
  match ops[j]?, ops[i]? with
  | some x, some y => x.apart ops y && (cls x).fits (cls y)
  | _, _ => true
/-- The pairs that are not in order and may not be alike in both. -/
def badPairs (ops : Array Oper) : List (Nat × Nat) :=
  let ms := masks ops
  (List.range ops.size).flatMap fun i => ((List.range i).filter fun j => free ms j i && !pairOk ops j i).map fun j => (j, i)
def Foot.fits : Foot → Foot → Bool
  | .none, _ | _, .none | .rd _, .rd _ => true
  | .rd a, .wr b | .wr b, .rd a | .rd a, .new b | .new b, .rd a | .wr a, .wr b | .wr a, .new b | .new a, .wr b | .new a, .new b => a != b
  | _, _ => false
/-- A call that lends these, and a new place. -/
def Foot.apartC : Foot → Foot → Bool
  | .call ids, .new b | .new b, .call ids => !ids.contains b
  | _, _ => false
def isCN : Cls → Cls → Bool
  | .c _, .n | .n, .c _ => true
  | _, _ => false
def feetL (P : Program) (call : CallF) (ops : Array Oper) : List Oper → Nat → Env → Store → Option (List Foot)
  | [], _, _, _ => some []
  | o :: rest, aid, e, σ =>
    match wants ops e o with
    | some true => match step P call o e aid σ with
      | some (v, σ', f) => (feetL P call ops rest (if allocs o then aid + 1 else aid) (putO e o.dst v) σ').map fun fs => f :: fs
      | Option.none => Option.none
    | some false => (feetL P call ops rest (if allocs o then aid + 1 else aid) (putO e o.dst .undef) σ).map fun fs => .none :: fs
    | Option.none => Option.none
def feetOk (ops : Array Oper) (bad : List (Nat × Nat)) (fs : List Foot) : Bool :=
  bad.all fun p => match ops[p.1]?, ops[p.2]? with
    | some x, some y => x.apart ops y && ((fs.getD p.1 .wrAll).fits (fs.getD p.2 .wrAll) || (isCN (cls x) (cls y) && (fs.getD p.1 .wrAll).apartC (fs.getD p.2 .wrAll)))
    | _, _ => false
/-- May the operations come in any order that is drawn? -/
def drawOk (P : Program) (call : CallF) (ops : Array Oper) (draw : Bool) (e : Env) (σ : Store) : Bool :=
  if draw && !(badPairs ops).isEmpty then
    match feetL P call ops ops.toList σ.length e (σ ++ List.replicate (nallocs ops.toList) Option.none) with
    | some fs => feetOk ops (badPairs ops) fs
    | Option.none => false
  else true

inductive Ex where
  | normal | exit (id : Nat) | ret
  deriving DecidableEq, Inhabited
abbrev Res := Ex × Env × Store
abbrev LoopF := Code → Env → Store → Option Res
def evCode (P : Program) (call : CallF) (loop : LoopF) : Code → Env → Store → Option Res
  | .skip, e, σ => some (.normal, e, σ)
  | .label _, e, σ => some (.normal, e, σ)
  | .ret, e, σ => some (.ret, e, σ)
  | .exit id, e, σ => some (.exit id, e, σ)
  | .region _ ops draw, e, σ => if drawOk P call ops draw e σ then (evL P call ops ops.toList σ.length e (σ ++ List.replicate (nallocs ops.toList) Option.none)).map fun r => (.normal, r.1, r.2) else Option.none
  | .seq a b, e, σ => match evCode P call loop a e σ with
    | some (.normal, e', σ') => evCode P call loop b e' σ'
    | r => r
  | .cond c a b, e, σ => match opnd e c with
    | .bool true => evCode P call loop a e σ
    | .bool false => evCode P call loop b e σ
    | _ => Option.none
  | .block id c, e, σ => match evCode P call loop c e σ with
    | some (.exit id', e', σ') => if id' = id then some (.normal, e', σ') else some (.exit id', e', σ')
    | r => r
  | .loop c, e, σ => loop c e σ
  | .scope c, e, σ => evCode P call loop c e σ
  | _, _, _ => Option.none
/-- A loop's rounds. -/
def roundD (P : Program) (call : CallF) (loop : LoopF) (c : Code) (e : Env) (σ : Store) : Option Res :=
  match evCode P call loop c e σ with
  | some (.normal, e', σ') => loop c e' σ'
  | r => r
def resD (P : Program) (e : Env) (σ : Store) : ResultVar → Option D
  | .tmp t => some (e t)
  | .cell a t => (evLoad (ti P t) (e a) σ).map (·.1)
def resultsD (P : Program) (rs : List ResultVar) (e : Env) (σ : Store) : Option D :=
  match rs with
  | [r] => resD P e σ r
  | rs => (rs.mapM (resD P e σ)).map .tup
def entry (args : List D) : Env := fun t => (args[t]?).getD .undef
def bodyD (P : Program) (call : CallF) (loop : LoopF) (fn : Func) (args : List D) (σ : Store) : Option (D × Store) :=
  match fn.body with
  | some c => match evCode P call loop c (entry args) σ with
    | some (.normal, e, σ') | some (.ret, e, σ') => (resultsD P fn.results.toList e σ').map fun r => (r, σ')
    | _ => Option.none
  | Option.none => Option.none

inductive Task where
  | call (f : FuncId) (args : List D) (σ : Store)
  | loop (c : Code) (e : Env) (σ : Store)
/-- With so many rounds and calls nested in one another. -/
def runN (P : Program) (M : Modes) : Nat → (CallF × LoopF)
  | 0 => (fun _ _ _ => Option.none, fun _ _ _ => Option.none)
  | n + 1 =>
    let c := (runN P M n).1
    let l := (runN P M n).2
    (fun f args σ => if M.good f then (match P.funcs[f]? with
        | some fn => if args.length = fn.params.size + fn.nfree then bodyD P (callD M c) l fn args σ else Option.none
        | Option.none => Option.none) else Option.none,
     fun b e σ => roundD P (callD M c) l b e σ)

end Go.Proofs.Ytgibpomhiilehaa.Dv
