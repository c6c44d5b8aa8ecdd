/- What must hold for a piece of code to come to its end so: computed from the code alone. Definitions. -/
import Derived.Test.YtgibpomhiilehaaWk
set_option linter.unusedVariables false
namespace Go.Proofs.Ytgibpomhiilehaa.Dv
open Go

/-- What is known of a slot beside its value. -/
inductive Inf where
  | no | lit | elt (t : TypeId) | arr (t : TypeId) | bs
abbrev Lits := Nat → Inf
def Lits.put (L : Lits) (t : Nat) (i : Inf) : Lits := fun k => if k = t then i else L k
def Lits.putO (L : Lits) (dst : Option Nat) (i : Inf) : Lits := match dst with | some d => L.put d i | none => L
def litOf (L : Lits) : Operand → Inf
  | .tmp t => L t
  | .const (.bool _) => .lit
  | _ => .no
/-- How a number is said: as it is (d), by a name (n), wrapped (w), wrapped and by a name (wn); what a test comes to, if that is known (t, f); a test that is computed (l); an operation that is computed whole (g). -/
inductive Hn where
  | d | n | w | wn | t | f | l | g
structure Codec where
  α : Type
  enc : α → D
structure DOut where
  pre : Prop
  r : D
abbrev SpecD := FuncId → List D → Option DOut
abbrev SpecB := FuncId → List D → Store → Option (Prop × D × Store)
structure LOut (β : Type) where
  α : Type
  post : β → α → Prop
  ex : Ex
  T : β → α → List (Nat × D)
  S : β → α → Store
structure LRow where
  β : Type
  pre : β → Prop
  src : List (Nat × Bool)
  T : β → List (Nat × D)
  S : β → Store
  outs : List (LOut β)
structure WCfg where
  spec : SpecD
  bspec : SpecB := fun _ _ _ => none
  byref : FuncId → Bool := fun _ => false
  ro : FuncId → Bool := fun _ => false
  cod : TypeId → Option Codec
  H : Nat → Hn := fun _ => .d
  loops : Nat → Option LRow := fun _ => none
  unr : Nat → Nat := fun _ => 0
  n0 : Nat := 0
def WCfg.M (C : WCfg) : Modes := { good := fun _ => true, byref := C.byref, ro := C.ro, prim := fun _ => none }
def slotOf (o : Oper) : Nat := match o.dst with | some d => d | none => 100000
def hints (l : List (Nat × Hn)) : Nat → Hn := fun t => (l.lookup t).getD .d

/-! ### numbers -/
def inK (k : IntKind) (x : Int) : Prop :=
  match k with
  | .i64 => -9223372036854775808 ≤ x ∧ x ≤ 9223372036854775807
  | .u64 => 0 ≤ x ∧ x ≤ 18446744073709551615
  | .u8 => 0 ≤ x ∧ x ≤ 255
  | .u32 => 0 ≤ x ∧ x ≤ 4294967295
  | .i32 => -2147483648 ≤ x ∧ x ≤ 2147483647
  | k => IntKind.wrap k x = x
def wr (k : IntKind) (x : Int) : Int :=
  match k with
  | .i64 => (x + 9223372036854775808) % 18446744073709551616 - 9223372036854775808
  | .u64 => x % 18446744073709551616
  | .u8 => x % 256
  | .u32 => x % 4294967296
  | k => IntKind.wrap k x
def wpInt (h : Hn) (k : IntKind) (x : Int) (K : D → Prop) : Prop :=
  match h with
  | .d => inK k x ∧ K (.int k x)
  | .n => inK k x ∧ ∀ v, v = x → K (.int k v)
  | .w => K (.int k (wr k x))
  | .wn => ∀ v, v = wr k x → K (.int k v)
  | _ => inK k x ∧ K (.int k x)
def wpQuo (h : Hn) (k : IntKind) (a b : Int) (K : D → Prop) : Prop :=
  match h with
  | .d => 0 ≤ a ∧ 0 < b ∧ inK k a ∧ K (.int k (a / b))
  | .n => 0 ≤ a ∧ 0 < b ∧ inK k a ∧ ∀ v, v = a / b → K (.int k v)
  | .w => b ≠ 0 ∧ K (.int k (wr k (a.tdiv b)))
  | .wn => b ≠ 0 ∧ ∀ v, v = wr k (a.tdiv b) → K (.int k v)
  | _ => False
def wpRem (h : Hn) (k : IntKind) (a b : Int) (K : D → Prop) : Prop :=
  match h with
  | .d => 0 ≤ a ∧ 0 < b ∧ K (.int k (a % b))
  | .n => 0 ≤ a ∧ 0 < b ∧ ∀ v, v = a % b → K (.int k v)
  | .w => b ≠ 0 ∧ K (.int k (a.tmod b))
  | .wn => b ≠ 0 ∧ ∀ v, v = a.tmod b → K (.int k v)
  | _ => False
def wpName (h : Hn) (k : IntKind) (x : Int) (K : D → Prop) : Prop :=
  match h with
  | .n | .wn => ∀ v, v = x → K (.int k v)
  | _ => K (.int k x)
def andK (k : IntKind) (a b : Int) : Int := k.wrap (BitVec.ofInt k.bits a &&& BitVec.ofInt k.bits b).toNat
def orK (k : IntKind) (a b : Int) : Int := k.wrap (BitVec.ofInt k.bits a ||| BitVec.ofInt k.bits b).toNat
def xorK (k : IntKind) (a b : Int) : Int := k.wrap (BitVec.ofInt k.bits a ^^^ BitVec.ofInt k.bits b).toNat
def shlK (k : IntKind) (a b : Int) : Int := wr k (a * 2 ^ (min b.toNat k.bits))
def shrK (k : IntKind) (a b : Int) : Int := a / 2 ^ (min b.toNat k.bits)
def onO {α : Type} (o : Option α) (K : α → Prop) : Prop := match o with | some a => K a | none => False
def wpBin (P : Program) (h : Hn) (op : BinOp) (t : TypeId) (x y : D) (K : D → Prop) : Prop :=
  match x, y with
  | .int k a, .int k' b => match op with
    | .add => onB (decide (k = k')) (wpInt h k (a + b) K)
    | .sub => onB (decide (k = k')) (wpInt h k (a - b) K)
    | .mul => onB (decide (k = k')) (wpInt h k (a * b) K)
    | .quo => onB (decide (k = k')) (wpQuo h k a b K)
    | .rem => onB (decide (k = k')) (wpRem h k a b K)
    | .shl => 0 ≤ b ∧ wpName h k (shlK k a b) K
    | .shr => 0 ≤ b ∧ wpName h k (shrK k a b) K
    | .and => onB (decide (k = k')) (wpName h k (andK k a b) K)
    | .or => onB (decide (k = k')) (wpName h k (orK k a b) K)
    | .xor => onB (decide (k = k')) (wpName h k (xorK k a b) K)
    | op => onO (evBin P op t x y) K
  | .str a, .str b => match op with
    | .add => a.size + b.size ≤ 4611686018427387904 ∧ K (.str (a ++ b))
    | op => onO (binStr op a b) K
  | x, y => onO (evBin P op t x y) K

/-- A comparison with nil. -/
def wpNil (P : Program) (op : BinOp) (t : TypeId) (x : D) (K : D → Prop) : Prop :=
  match (ti P t).k with
  | .sl _ => match op with
    | .eql => (match x with
      | .sl _ xs => xs ≠ [] ∧ K (.bool false)
      | .ms _ _ len _ _ => 0 < len ∧ K (.bool false)
      | .nsl b => K (.bool b)
      | _ => False)
    | .neq => (match x with
      | .sl _ xs => xs ≠ [] ∧ K (.bool true)
      | .ms _ _ len _ _ => 0 < len ∧ K (.bool true)
      | .nsl b => K (.bool (!b))
      | _ => False)
    | _ => False
  | _ => False

/-! ### lending, and what is handed out -/
def lendLeafW (σ : Store) (d : D) (K : D → List Nat → Prop) : Prop :=
  match d with
  | .ms id off len cap ex => match σ.obj id with
    | some (.row _ _ xs) => off + len ≤ xs.length ∧ ((xs.drop off).take len).all D.pure = true ∧ K (.sl (ex && decide (cap = len)) ((xs.drop off).take len)) [id]
    | _ => False
  | d => K d []
def lendLeavesW (σ : Store) : List D → (List D → List Nat → Prop) → Prop
  | [], K => K [] []
  | d :: ds, K => lendLeafW σ d fun d' l => lendLeavesW σ ds fun ds' l' => K (d' :: ds') (l ++ l')
def lendW (σ : Store) (d : D) (K : D → List Nat → Prop) : Prop :=
  match d with
  | .agg ds => lendLeavesW σ ds fun ds' l => K (.agg ds') l
  | d => lendLeafW σ d K
def lendsW (σ : Store) : List D → (List D → List Nat → Prop) → Prop
  | [], K => K [] []
  | d :: ds, K => lendW σ d fun d' l => lendsW σ ds fun ds' l' => K (d' :: ds') (l ++ l')
def frzLeafW (σ : Store) (d : D) (K : D → Prop) : Prop :=
  match d with
  | .ms id off len cap ex => match σ.obj id with
    | some (.row st _ xs) => onB (decide (st ≠ .shut)) (off + len ≤ xs.length ∧ ((xs.drop off).take len).all D.pure = true ∧ K (.sl (ex && decide (cap = len)) ((xs.drop off).take len)))
    | _ => False
  | d => onB d.pleaf (K d)
def frzLeavesW (σ : Store) : List D → (List D → Prop) → Prop
  | [], K => K []
  | d :: ds, K => frzLeafW σ d fun d' => frzLeavesW σ ds fun ds' => K (d' :: ds')
def frzValW (σ : Store) (d : D) (K : D → Prop) : Prop :=
  match d with
  | .agg ds => frzLeavesW σ ds fun ds' => K (.agg ds')
  | d => frzLeafW σ d K
def frzValsW (σ : Store) : List D → (List D → Prop) → Prop
  | [], K => K []
  | d :: ds, K => frzValW σ d fun d' => frzValsW σ ds fun ds' => K (d' :: ds')
def frzW (σ : Store) (d : D) (K : D → Prop) : Prop :=
  match d with
  | .tup ds => frzValsW σ ds fun ds' => K (.tup ds')
  | d => frzValW σ d K

/-! ### operations -/
abbrev KOp := Env → Lits → D → Inf → Store → Foot → Prop
def askW (h : Hn) (e : Env) (L : Lits) (d : Nat) (b : Bool) (K : Bool → Env → Lits → Prop) : Prop :=
  match L d with
  | .lit => (match b with | true => K true e L | false => K false e L)
  | _ => match h with
    | .t => b = true ∧ K true (e.put d (.bool true)) (L.put d .lit)
    | .f => b = false ∧ K false (e.put d (.bool false)) (L.put d .lit)
    | .l => (match b with | true => K true e L | false => K false e L)
    | _ => (b = true → K true (e.put d (.bool true)) (L.put d .lit)) ∧ (b = false → K false (e.put d (.bool false)) (L.put d .lit))
def genW (P : Program) (o : Oper) (e : Env) (L : Lits) (aid : Nat) (σ : Store) (i : Inf) (K : KOp) : Prop :=
  match evOp P o e aid σ with
  | some (v, σ', f) => K e L v i σ' f
  | none => False
def loadW (P : Program) (C : WCfg) (t : TypeId) (a : D) (i : Inf) (σ : Store) (K : D → Foot → Prop) : Prop :=
  match i with
  | .elt et => match a with
    | .ptr id i j => match σ.obj id with
      | some (.row _ _ xs) => match C.cod et with
        | some cd => ∃ x : cd.α, xs[i]? = some (cd.enc x) ∧ onO (sub (ti P t) (cd.enc x) j) fun v => K v (.rd id)
        | none => False
      | _ => False
    | a => onO (evLoad (ti P t) a σ) fun r => K r.1 r.2
  | .arr et => match a with
    | .ptr id i j => match σ.obj id with
      | some (.row _ _ xs) => match xs[i]?, C.cod et with
        | some (.agg ds), some cd => ∃ x : cd.α, ds[j]? = some (cd.enc x) ∧ onB (decide ((ti P t).k.known = true ∧ (ti P t).k.isAgg = false ∧ (ti P t).sz = 1)) (K (cd.enc x) (.rd id))
        | _, _ => False
      | _ => False
    | _ => False
  | _ => onO (evLoad (ti P t) a σ) fun r => K r.1 r.2
def storeW (P : Program) (C : WCfg) (t : TypeId) (a v : D) (i : Inf) (σ : Store) (K : Store → Foot → Prop) : Prop :=
  match i with
  | .elt et => match a with
    | .ptr id i j => match σ.obj id with
      | some (.row .own esz xs) => match C.cod et with
        | some cd => ∃ x : cd.α, xs[i]? = some (cd.enc x) ∧ onB (okVal (ti P t) v) (onO (upd (cd.enc x) j v) fun x' => K (σ.put id (some (.row .own esz (xs.set i x')))) (.wr id))
        | none => False
      | _ => False
    | a => onO (evStore (ti P t) a v σ) fun r => K r.1 r.2
  | .arr et => match a with
    | .ptr id i j => match σ.obj id with
      | some (.row .own esz xs) => match xs[i]? with
        | some (.agg ds) => j < ds.length ∧ onB (okVal (ti P t) v && !v.isAgg) (K (σ.put id (some (.row .own esz (xs.set i (.agg (setRange ds j v.cells)))))) (.wr id))
        | _ => False
      | _ => False
    | _ => False
  | _ => onO (evStore (ti P t) a v σ) fun r => K r.1 r.2
def idxW (P : Program) (C : WCfg) (t : TypeId) (x ix : D) (σ : Store) (K : D → Inf → Foot → Prop) : Prop :=
  match (ti P t).k, x, ix with
  | .sl et, .sl _ xs, .int _ n => match C.cod et with
    | some cd => ∃ y : cd.α, 0 ≤ n ∧ xs[n.toNat]? = some (cd.enc y) ∧ onB (decide ((cd.enc y).cells.length = (ti P et).sz ∧ 0 < (ti P et).sz)) (K (.cpt (cd.enc y) 0) .no .none)
    | none => False
  | .sl et, .ms id off len _ _, .int _ n => 0 ≤ n ∧ n < len ∧ onB (decide (0 < (ti P et).sz ∧ σ.esz id = some (ti P et).sz)) (K (.ptr id (off + n.toNat) 0) (.elt et) (.rd id))
  | .arr m e, .ptr id i j, .int _ n => 0 ≤ n ∧ n < m ∧ onB (decide (0 < (ti P e).sz)) (K (.ptr id i (j + n.toNat * (ti P e).sz)) (.arr e) .none)
  | _, x, ix => onO (evIndexAddr P t x ix σ) fun r => K r.1 .no r.2
def bndW (dflt : Nat) (o : Option D) (K : Nat → Prop) : Prop :=
  match o with
  | none => K dflt
  | some (.int _ n) => 0 ≤ n ∧ K n.toNat
  | some _ => False
def sliceW (P : Program) (t : TypeId) (x : D) (lo hi mx : Option D) (σ : Store) (K : D → Foot → Prop) : Prop :=
  match (ti P t).k, x with
  | .str, .str s => match mx with
    | none => bndW s.size hi fun h => bndW 0 lo fun l => l ≤ h ∧ h ≤ s.size ∧ K (.str (s.extract l h)) .none
    | some _ => False
  | .sl et, .sl full xs => match mx with
    | none => bndW xs.length hi fun h => bndW 0 lo fun l => l ≤ h ∧ h ≤ xs.length ∧ ((xs.take h).drop l).all (fun y => y.cells.length == (ti P et).sz) = true ∧ onB (decide (0 < (ti P et).sz)) (K (.sl (full && decide (h = xs.length)) ((xs.take h).drop l)) .none)
    | some _ => False
  | .sl et, .ms id off len cap ex => match mx with
    | none => bndW len hi fun h => bndW 0 lo fun l => l ≤ h ∧ h ≤ cap ∧ onB (decide (0 < (ti P et).sz ∧ σ.esz id = some (ti P et).sz)) (K (.ms id (off + l) (h - l) (cap - l) ex) (.rd id))
    | some _ => False
  | _, _ => onO (evSlice P t x lo hi mx σ) fun r => K r.1 r.2
def makeW (P : Program) (t : TypeId) (l c : D) (aid : Nat) (σ : Store) (K : D → Store → Foot → Prop) : Prop :=
  match (ti P t).k, l, c with
  | .sl e, .int _ n, .int _ m => 0 ≤ n ∧ n ≤ m ∧ m * (ti P e).bytes ≤ 140737488355328 ∧ m ≤ 140737488355328 ∧
      onB (decide (0 < (ti P e).sz ∧ (ti P e).zero.elem ∧ (ti P e).zero.cells.length = (ti P e).sz)) (K (.ms aid 0 n.toNat m.toNat true) (σ.put aid (some (.row .own (ti P e).sz (List.replicate m.toNat (ti P e).zero)))) (.new aid))
  | _, _, _ => False
def elemsW (σ : Store) (d : D) (K : List D → Prop) : Prop :=
  match d with
  | .sl _ xs => K xs
  | .nsl _ => K []
  | .ms id off len _ _ => match σ.obj id with
    | some (.row _ _ xs) => off + len ≤ xs.length ∧ K ((xs.drop off).take len)
    | _ => False
  | _ => False
def okEl (n : Nat) (y : D) : Bool := y.elem && y.cells.length == n
/-- What is appended to what lies in memory of one's own. -/
def appMsW (bytes sz : Nat) (id off len cap : Nat) (ex lit : Bool) (news : List D) (aid : Nat) (σ : Store) (K : D → Store → Prop) : Prop :=
  match σ.obj id with
  | some (.row .own esz xs) => off + cap ≤ xs.length ∧ len ≤ cap ∧ (len + news.length) * max bytes 1 ≤ 140737488355328 ∧ onB (decide (esz = sz))
      (match ex || !lit with
      | true => (len + news.length ≤ cap → K (.ms id off (len + news.length) cap ex) (σ.put id (some (.row .own esz (xs.take (off + len) ++ news ++ xs.drop (off + len + news.length)))))) ∧
          (cap < len + news.length → (match ex with
            | true => K (.ms aid 0 (len + news.length) (len + news.length) false) (σ.put aid (some (.row .own esz ((xs.drop off).take len ++ news))))
            | false => off = 0 ∧ K (.ms aid 0 (len + news.length) (len + news.length) false) ((σ.put id Option.none).put aid (some (.row .own esz (xs.take len ++ news))))))
      | false => cap < len + news.length ∧ off = 0 ∧ K (.ms aid 0 (len + news.length) (len + news.length) false) ((σ.put id Option.none).put aid (some (.row .own esz (xs.take len ++ news)))))
  | _ => False
def appSlW (bytes sz : Nat) (full : Bool) (xs news : List D) (aid : Nat) (σ : Store) (K : D → Store → Prop) : Prop :=
  (news = [] → K (.sl full xs) σ) ∧ (news ≠ [] → full = true ∧ xs.all (okEl sz) = true ∧ (xs.length + news.length) * max bytes 1 ≤ 140737488355328 ∧
    K (.ms aid 0 (xs.length + news.length) (xs.length + news.length) false) (σ.put aid (some (.row .own sz (xs ++ news)))))
/-- Zeros behind what stands. -/
def appZW (P : Program) (et : TypeId) (s : D) (n : Int) (aid : Nat) (σ : Store) (K : D → Store → Prop) : Prop :=
  let E := ti P et
  match s with
  | .ms id off len cap ex => match ex with
    | true => match σ.obj id with
      | some (.row _ esz xs) => onB (decide (0 < E.sz ∧ E.zero.elem ∧ E.zero.cells.length = E.sz ∧ esz = E.sz)) (off + len ≤ xs.length ∧ cap < len + n.toNat ∧ (len + n.toNat) * max E.bytes 1 ≤ 140737488355328 ∧
          K (.ms aid 0 (len + n.toNat) (len + n.toNat) false) (σ.put aid (some (.row .own E.sz ((xs.drop off).take len ++ List.replicate n.toNat E.zero)))))
      | _ => False
    | false => False
  | .sl full xs => match full with
    | true => onB (decide (0 < E.sz ∧ E.zero.elem ∧ E.zero.cells.length = E.sz)) (xs.all (okEl E.sz) = true ∧ 0 < n ∧ (xs.length + n.toNat) * max E.bytes 1 ≤ 140737488355328 ∧
          K (.ms aid 0 (xs.length + n.toNat) (xs.length + n.toNat) false) (σ.put aid (some (.row .own E.sz (xs ++ List.replicate n.toNat E.zero)))))
    | false => False
  | _ => False
def appendW (P : Program) (o : Oper) (t t2 : TypeId) (s x : D) (lit : Bool) (e : Env) (aid : Nat) (σ : Store) (K : D → Store → Foot → Prop) : Prop :=
  match (ti P t2).k, (ti P t).k with
  | .sl _, .sl et =>
    let E := ti P et
    onB (decide (0 < E.sz ∧ E.zero.elem ∧ E.zero.cells.length = E.sz))
    (match s, lit with
    | .ms id off len cap ex, true => onO (elems σ x) fun nw => onB (nw.1.all (okEl E.sz)) (appMsW E.bytes E.sz id off len cap ex true nw.1 aid σ fun v s => K v s .wrAll)
    | .ms id off len cap ex, false => elemsW σ x fun news => news.all (okEl E.sz) = true ∧ appMsW E.bytes E.sz id off len cap ex false news aid σ fun v s => K v s .wrAll
    | .sl full xs, false => elemsW σ x fun news => news.all (okEl E.sz) = true ∧ appSlW E.bytes E.sz full xs news aid σ fun v s => K v s .wrAll
    | _, _ => onO (evOp P o e aid σ) fun r => K r.1 r.2.1 r.2.2)
  | .int _, .sl et => match x with
    | .int _ n => appZW P et s n aid σ fun v s => K v s .wrAll
    | _ => False
  | _, _ => False
def copyW (P : Program) (t : TypeId) (s x : D) (σ : Store) (K : D → Store → Foot → Prop) : Prop :=
  match (ti P t).k, s with
  | .sl e, .ms id off len _ _ => elemsW σ x fun news => match σ.obj id with
    | some (.row .own esz xs) => onB (decide (esz = (ti P e).sz)) (off + len ≤ xs.length ∧ (news.take (min news.length len)).all (okEl esz) = true ∧
        K (.int .i64 (min news.length len : Nat)) (σ.put id (some (.row .own esz (xs.take off ++ news.take (min news.length len) ++ xs.drop (off + min news.length len))))) .wrAll)
    | _ => False
  | _, _ => False
/-- A stretch set to zero. -/
def clearW (P : Program) (t : TypeId) (s : D) (σ : Store) (K : Store → Prop) : Prop :=
  match (ti P t).k, s with
  | .sl e, .ms id off len _ _ => match σ.obj id with
    | some (.row .own esz xs) => onB (decide (esz = (ti P e).sz ∧ (ti P e).zero.elem ∧ (ti P e).zero.cells.length = (ti P e).sz)) (off + len ≤ xs.length ∧
        K (σ.put id (some (.row .own esz (xs.take off ++ List.replicate len (ti P e).zero ++ xs.drop (off + len))))))
    | _ => False
  | _, _ => False
def isBs : Inf → Bool
  | .bs => true
  | _ => false
def callW (P : Program) (C : WCfg) (o : Oper) (e : Env) (L : Lits) (aid : Nat) (σ : Store) (c : Call) (K : KOp) : Prop :=
  match c.callee with
  | .value f => match evCallee e { callee := .value f, args := c.args, argTypes := c.argTypes } with
    | some (g, as) => match C.byref g with
      | true => match C.bspec g as σ with
        | some (p, r, σ') => p ∧ K e L r .no σ' (.call (as.flatMap fun d => (lend σ d).2))
        | none => False
      | false => lendsW σ as fun as' lent => onB (as'.all D.free) (match C.spec g as' with
        | some o => o.pre ∧ onO (σ.behind lent o.r) fun σ' => K e L o.r .no σ' (.call lent)
        | none => False)
    | none => False
  | .builtin .append => match c.argTypes.toList, c.args.toList with
    | [t, t2], [s, x] => appendW P o t t2 (opnd e s) (opnd e x) (isBs (litOf L x)) e aid σ fun v σ' f => K e L v .no σ' f
    | _, _ => False
  | .builtin .copy => match c.argTypes.toList, c.args.toList with
    | [t, _], [s, x] => copyW P t (opnd e s) (opnd e x) σ fun v σ' f => K e L v .no σ' f
    | _, _ => False
  | .builtin .clear => match c.argTypes.toList, c.args.toList with
    | [t], [s] => clearW P t (opnd e s) σ fun σ' => K e L .undef .no σ' .wrAll
    | _, _ => False
  | _ => genW P o e L aid σ .no K
def wpOp1 (P : Program) (C : WCfg) (o : Oper) (e : Env) (L : Lits) (aid : Nat) (σ : Store) (K : KOp) : Prop :=
  match o.op with
  | .move x | .assign x => K e L (opnd e x) (litOf L x) σ .none
  | .pick c a b => match c with
    | .tmp d => match e d with
      | .bool t => askW (C.H d) e L d t fun t e L => match t with
        | true => K e L (opnd e a) (litOf L a) σ .none
        | false => K e L (opnd e b) (litOf L b) σ .none
      | _ => False
    | _ => genW P o e L aid σ .no K
  | .binOp op t x y _ => match isNilS y with
    | true => wpNil P op t (opnd e x) fun v => K e L v .no σ .none
    | false => wpBin P (C.H (slotOf o)) op t (opnd e x) (opnd e y) fun v => K e L v .no σ .none
  | .unOp _ _ x => genW P o e L aid σ (litOf L x) K
  | .convert s t x => match (ti P t).k, opnd e x with
    | .int k, .int _ n => onB (ti P s).k.known (wpInt (C.H (slotOf o)) k n fun v => K e L v .no σ .none)
    | _, _ => genW P o e L aid σ .no K
  | .load t a => loadW P C t (opnd e a) (litOf L a) σ fun v f => K e L v .no σ f
  | .store t a x => storeW P C t (opnd e a) (opnd e x) (litOf L a) σ fun σ' f => K e L .undef .no σ' f
  | .indexAddr t x ix => idxW P C t (opnd e x) (opnd e ix) σ fun v i f => K e L v i σ f
  | .index t x ix => match (ti P t).k, opnd e x, opnd e ix with
    | .str, .str s, .int _ n => ∃ b : UInt8, 0 ≤ n ∧ s[n.toNat]? = some b ∧ K e L (.int .u8 b.toNat) .no σ .none
    | _, _, _ => genW P o e L aid σ .no K
  | .extract x ix => match evOp P o e aid σ with
    | some (.int k n, _, _) => wpName (C.H (slotOf o)) k n fun v => K e L v .no σ .none
    | some (v, _, _) => K e L v .no σ .none
    | none => False
  | .fieldAddr _ x _ => genW P o e L aid σ (litOf L x) K
  | .buildSlice .. => genW P o e L aid σ .bs K
  | .makeSlice t l c => makeW P t (opnd e l) (opnd e c) aid σ fun v σ' f => K e L v .no σ' f
  | .slice t x lo hi mx => sliceW P t (opnd e x) (lo.map (opnd e)) (hi.map (opnd e)) (mx.map (opnd e)) σ fun v f => K e L v .no σ f
  | .call c => callW P C o e L aid σ c K
  | _ => genW P o e L aid σ .no K
def isG : Hn → Bool
  | .g => true
  | _ => false
def notGo (o : Oper) : Bool :=
  match o.op with
  | .call { callee := .value _, .. } => false
  | _ => true
def wpOp (P : Program) (C : WCfg) (o : Oper) (e : Env) (L : Lits) (aid : Nat) (σ : Store) (K : KOp) : Prop :=
  match isG (C.H (slotOf o)) && notGo o with
  | true => genW P o e L aid σ .no K
  | false => wpOp1 P C o e L aid σ K
def wantsW (C : WCfg) (ops : Array Oper) (e : Env) (L : Lits) (o : Oper) (K : Bool → Env → Lits → Prop) : Prop :=
  match o.guard with
  | none => K true e L
  | some (g, want) => match (ops[g]?).bind (·.dst) with
    | some d => match e d with
      | .bool b => askW (C.H d) e L d b fun t e L => match t == want with
        | true => K true e L
        | false => K false e L
      | .undef => K false e L
      | _ => False
    | none => False
def wpL (P : Program) (C : WCfg) (ops : Array Oper) : List Oper → Nat → Env → Lits → Store → (Env → Lits → Store → List Foot → Prop) → Prop
  | [], _, e, L, σ, Q => Q e L σ []
  | o :: rest, aid, e, L, σ, Q => wantsW C ops e L o fun t e L => match t with
    | true => wpOp P C o e L aid σ fun e L v i σ' f => wpL P C ops rest (if allocs o then aid + 1 else aid) (putO e o.dst v) (L.putO o.dst i) σ' fun e L σ fs => Q e L σ (f :: fs)
    | false => wpL P C ops rest (if allocs o then aid + 1 else aid) (putO e o.dst .undef) (L.putO o.dst .no) σ fun e L σ fs => Q e L σ (.none :: fs)

/-! ### code -/
abbrev KC := Ex → Env → Lits → Store → Prop
def keyOf : Code → Nat
  | .region id _ _ => id
  | .seq a b => let k := keyOf a; if k = 1000000 then keyOf b else k
  | .cond _ a b => let k := keyOf a; if k = 1000000 then keyOf b else k
  | .block _ c => keyOf c
  | .loop c => keyOf c
  | .scope c => keyOf c
  | _ => 1000000
def outsW {β : Type} (b : β) (Q : KC) : List (LOut β) → Prop
  | [] => True
  | [o] => ∀ a : o.α, o.post b a → Q o.ex (tb (o.T b a)) (fun _ => .no) (o.S b a)
  | o :: os => (∀ a : o.α, o.post b a → Q o.ex (tb (o.T b a)) (fun _ => .no) (o.S b a)) ∧ outsW b Q os
/-- So many rounds, one by one. -/
def unrollW (body : Env → Lits → Store → KC → Prop) : Nat → Env → Lits → Store → KC → Prop
  | 0, _, _, _, _ => False
  | n + 1, e, L, σ, Q => body e L σ fun ex e L σ => match ex with
    | .normal => unrollW body n e L σ Q
    | ex => Q ex e L σ
def wpC (P : Program) (C : WCfg) : Code → Env → Lits → Store → KC → Prop
  | .skip, e, L, σ, Q => Q .normal e L σ
  | .label _, e, L, σ, Q => Q .normal e L σ
  | .ret, e, L, σ, Q => Q .ret e L σ
  | .exit id, e, L, σ, Q => Q (.exit id) e L σ
  | .region _ ops draw, e, L, σ, Q => wpL P C ops ops.toList σ.length e L (σ ++ List.replicate (nallocs ops.toList) Option.none) fun e L σ fs =>
      onB (!draw || (badPairs ops).isEmpty || feetOk ops (badPairs ops) fs) (Q .normal e L σ)
  | .seq a b, e, L, σ, Q => wpC P C a e L σ fun ex e L σ => match ex with
    | .normal => wpC P C b e L σ Q
    | ex => Q ex e L σ
  | .cond c a b, e, L, σ, Q => match c with
    | .tmp d => match e d with
      | .bool t => askW (C.H d) e L d t fun t e L => match t with
        | true => wpC P C a e L σ Q
        | false => wpC P C b e L σ Q
      | _ => False
    | c => match opnd e c with
      | .bool true => wpC P C a e L σ Q
      | .bool false => wpC P C b e L σ Q
      | _ => False
  | .block id c, e, L, σ, Q => wpC P C c e L σ fun ex e L σ => match ex with
    | .exit id' => (match decide (id' = id) with | true => Q .normal e L σ | false => Q (.exit id') e L σ)
    | ex => Q ex e L σ
  | .scope c, e, L, σ, Q => wpC P C c e L σ Q
  | .loop c, e, L, σ, Q => match C.unr (keyOf c) with
    | n + 1 => unrollW (fun e L σ Q => wpC P C c e L σ Q) (n + 1) e L σ Q
    | 0 => match C.loops (keyOf c) with
    | some row => ∃ b : row.β, row.pre b ∧ Wk C.n0 row.src e σ (row.T b) (row.S b) ∧ outsW b Q row.outs
    | none => False
  | _, _, _, _, _ => False
/-- The end of a function: this is handed out. -/
def endW (P : Program) (fn : Func) (K : D → Prop) : KC := fun ex e L σ =>
  match ex with
  | .exit _ => False
  | _ => onO (resultsD P fn.results.toList e σ) fun d => frzW σ d K
def bodyOf (fn : Func) : Code := match fn.body with | some c => c | none => .skip
def wpF (P : Program) (C : WCfg) (fn : Func) (args : List D) (r : D) : Prop :=
  wpC P C (bodyOf fn) (entry args) (fun _ => .no) [] (endW P fn fun r' => r' = r)
/-- The code of a loop, by its first region. -/
def loopsOf : Code → List Code
  | .seq a b => loopsOf a ++ loopsOf b
  | .cond _ a b => loopsOf a ++ loopsOf b
  | .block _ c => loopsOf c
  | .loop c => c :: loopsOf c
  | .scope c => loopsOf c
  | _ => []
def lp (fn : Func) (k : Nat) : Code := ((loopsOf (bodyOf fn)).find? fun c => keyOf c == k).getD .skip
/-- A round of a loop. -/
def wpR (P : Program) (C : WCfg) (c : Code) (T : List (Nat × D)) (Sg : Store) (Q : Ex → Env → Store → Prop) : Prop :=
  wpC P C c (tb T) (fun _ => .no) Sg fun ex e _ σ => Q ex e σ
end Go.Proofs.Ytgibpomhiilehaa.Dv
