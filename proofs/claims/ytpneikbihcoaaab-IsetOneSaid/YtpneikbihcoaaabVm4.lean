/- What an operation does to the values of a walk. -/
import Derived.Test.YtpneikbihcoaaabVm3
namespace Go.Proofs.Ytpneikbihcoaaab.Vm
set_option linter.unusedVariables false

/-! ### Types -/

inductive TK where
  | bool
  | int (k : IntKind)
  | str
  | ptr
  | slice (e esz ebytes : Nat)
  | arr (n e esz : Nat)
  | struct (fs : List (Nat × Nat × Bool))
  | other
  deriving Inhabited

def TK.isAgg : TK → Bool
  | .arr .. | .struct _ => true
  | _ => false

def aggT (P : Program) (t : TypeId) : Bool :=
  match P.underlying t with
  | some (.struct _) | some (.array _ _) => true
  | _ => false

/-- How many cells a value of a type has; 0 where the type can't be told. -/
def cellsT (P : Program) (t : TypeId) : Nat := if (P.underlying t).isSome then P.cellsOf t else 0

def tkOf (P : Program) : TypeDesc → TK
  | .bool => .bool
  | .int k => .int k
  | .string => .str
  | .pointer _ => .ptr
  | .slice e => .slice e (cellsT P e) (P.bytesOf e)
  | .array n e => .arr n e (cellsT P e)
  | .struct fs => .struct (fs.toList.map fun f => (f.offset, cellsT P f.type, aggT P f.type))
  | _ => .other

/-- A type's kind, and how many cells a value has. -/
def tk (P : Program) (t : TypeId) : Option (TK × Nat) :=
  match P.info? t, P.underlying t with
  | some i, some d => some (tkOf P d, i.size)
  | _, _ => none

/-- A cell's value. -/
def AV.ofV : Value → AV
  | .bool b => .bool b
  | .int k n => .int k n
  | .string s => .str s
  | .slice none 0 0 => .nilS
  | .pointer none => .nilP
  | _ => .any

mutual
/-- A type's value out of its cells. -/
def ofCells (P : Program) : Nat → TypeId → List Value → Option (AV × List Value)
  | 0, _, _ => none
  | d + 1, t, cs =>
    match P.underlying t with
    | some (.struct fs) => (ofCellsL P d (fs.toList.map (·.type)) cs).map fun (xs, r) => (.agg xs, r)
    | some (.array n e) => (ofCellsL P d (List.replicate n e) cs).map fun (xs, r) => (.agg xs, r)
    | _ => match cs with
      | v :: r => if v.oneCell' then some (.ofV v, r) else none
      | [] => none
def ofCellsL (P : Program) : Nat → List TypeId → List Value → Option (List AV × List Value)
  | 0, _, _ => none
  | _ + 1, [], cs => some ([], cs)
  | d + 1, t :: ts, cs => (ofCells P d t cs).bind fun (x, r) => (ofCellsL P d ts r).map fun (xs, r') => (x :: xs, r')
end

/-- A type's zero value. -/
def zav (P : Program) (t : TypeId) : Option AV :=
  match P.info? t with
  | some i => match i.zero with
    | some z => match ofCells P 64 t z.cells.toList with
      | some (x, []) => some x
      | _ => none
    | none => none
  | none => none

/-! ### Values of operands -/

def AState.rd (σ : AState) : Operand → AV
  | .tmp t => σ.env t
  | .const v => .ofV v
  | .global _ => .any
  | .func f => .fn f []

/-- What may lie in memory. -/
def AV.memo : AV → Bool
  | .any | .tup _ => false
  | _ => true

/-- Does a value of this shape come out of a variable? -/
def AV.shaped (x : AV) (agg : Bool) : Bool :=
  match x with
  | .agg _ => agg
  | .tup _ => false
  | _ => !agg

def fillAV : List AV → List (Nat × AV) → (Nat → Option (Nat × Nat)) → Option (List AV)
  | xs, [], _ => some xs
  | xs, (i, y) :: r, place =>
    match xs[i]?, place i with
    | some x, some (off, sz) => if y.memo ∧ x.size = sz ∧ y.size = sz ∧ AV.sizes (xs.take i) = off then fillAV (xs.set i y) r place else none
    | _, _ => none

def strBytes (s : ByteArray) : List AV := s.data.toList.map fun b => .int .u8 b.toNat

def bytesStr : List AV → Option (List UInt8)
  | [] => some []
  | .int .u8 n :: r => (bytesStr r).map (UInt8.ofNat n.toNat :: ·)
  | _ :: _ => none

/-- The rows that a slice of elements is: what is read of it. -/
def AState.elems (σ : AState) : AV → Option (List AV)
  | .slice xs => some xs
  | .nilS => some []
  | .own o ver off len =>
    match σ.L[o]? with
    | some obj => if obj.ver = ver ∧ off + len ≤ obj.elems.length then some ((obj.elems.drop off).take len) else none
    | none => none
  | _ => none

/-- Two numbers. -/
def intOp (op : BinOp) (k : IntKind) (a b : Int) : Option AV :=
  match op with
  | .add => some (.int k (k.wrap (a + b)))
  | .sub => some (.int k (k.wrap (a - b)))
  | .mul => some (.int k (k.wrap (a * b)))
  | .quo => if b = 0 then none else some (.int k (k.wrap (a.tdiv b)))
  | .rem => if b = 0 then none else some (.int k (a.tmod b))
  | .and => some (.int k (k.wrap (BitVec.ofInt k.bits a &&& BitVec.ofInt k.bits b).toNat))
  | .or => some (.int k (k.wrap (BitVec.ofInt k.bits a ||| BitVec.ofInt k.bits b).toNat))
  | .xor => some (.int k (k.wrap (BitVec.ofInt k.bits a ^^^ BitVec.ofInt k.bits b).toNat))
  | .andNot => some (.int k (k.wrap (BitVec.ofInt k.bits a &&& ~~~BitVec.ofInt k.bits b).toNat))
  | .eql => some (.bool (a == b))
  | .neq => some (.bool (a != b))
  | .lss => some (.bool (a < b))
  | .leq => some (.bool (a ≤ b))
  | .gtr => some (.bool (a > b))
  | .geq => some (.bool (a ≥ b))
  | _ => none

def strOp (op : BinOp) (x y : ByteArray) : Option AV :=
  match op with
  | .add => if ((x.size + y.size : Nat) : Int) > IntKind.i64.max then none else some (.str (x ++ y))
  | .eql => some (.bool (x.toList == y.toList))
  | .neq => some (.bool !(x.toList == y.toList))
  | .lss => some (.bool (Op.bytesLess x.toList y.toList))
  | .leq => some (.bool (Op.bytesLess x.toList y.toList || x.toList == y.toList))
  | .gtr => some (.bool !(Op.bytesLess x.toList y.toList || x.toList == y.toList))
  | .geq => some (.bool !Op.bytesLess x.toList y.toList)
  | _ => none

mutual
/-- Are two values of a plain type equal? -/
def eqAV : AV → AV → Option Bool
  | .int k a, .int k' b => if k = k' then some (a == b) else none
  | .bool a, .bool b => some (a == b)
  | .str a, .str b => some (a.toList == b.toList)
  | .agg xs, .agg ys => eqAVs xs ys
  | _, _ => none
def eqAVs : List AV → List AV → Option Bool
  | [], [] => some true
  | x :: xs, y :: ys => (eqAV x y).bind fun a => (eqAVs xs ys).map fun b => a && b
  | _, _ => none
end

mutual
/-- Is a value one of this type, all of it numbers, bools and texts? -/
def plainFit (P : Program) : Nat → TypeId → AV → Bool
  | 0, _, _ => false
  | d + 1, t, x =>
    match P.underlying t, x with
    | some .bool, .bool _ => true
    | some (.int _), .int _ _ => true
    | some .string, .str _ => true
    | some (.struct fs), .agg xs => !P.stoodInHeld t && plainFitL P d fs.toList xs 0
    | some (.array n e), .agg xs => (n != 0 && xs.length == n) && xs.all fun x => cellsT P e == x.size && x.size != 0 && x.shaped (aggT P e) && plainFit P d e x
    | _, _ => false
def plainFitL (P : Program) : Nat → List Field → List AV → Nat → Bool
  | 0, _, _, _ => false
  | d + 1, fs, xs, off =>
    match fs, xs with
    | [], [] => true
    | f :: fs, x :: xs => f.name != "_" && f.offset == off && cellsT P f.type == x.size && x.size != 0 && x.shaped (aggT P f.type) && plainFit P d f.type x && plainFitL P d fs xs (off + x.size)
    | _, _ => false
end

def boolT (P : Program) (t : TypeId) : Bool :=
  match P.underlying t with
  | some .bool => true
  | _ => false

def ptrT (P : Program) (t : TypeId) : Bool :=
  match P.underlying t with
  | some (.pointer _) => true
  | _ => false

def binAV (P : Program) (op : BinOp) (t : TypeId) (x y : AV) : Option AV :=
  match op, x, y with
  | .shl, .int k a, .int _ b => if b < 0 then none else some (.int k (k.wrap (a * 2 ^ (min b.toNat k.bits))))
  | .shr, .int k a, .int _ b => if b < 0 then none else some (.int k (a.fdiv (2 ^ (min b.toNat k.bits))))
  | _, .int k a, .int k' b => if k = k' then intOp op k a b else none
  | _, .str a, .str b => strOp op a b
  | .eql, .bool a, .bool b => if boolT P t then some (.bool (a == b)) else none
  | .neq, .bool a, .bool b => if boolT P t then some (.bool (!(a == b))) else none
  | .eql, .agg xs, .agg ys => if plainFit P 64 t (.agg xs) && plainFit P 64 t (.agg ys) && !P.eqGuardType P.depth t then (eqAVs xs ys).map .bool else none
  | .neq, .agg xs, .agg ys => if plainFit P 64 t (.agg xs) && plainFit P 64 t (.agg ys) && !P.eqGuardType P.depth t then (eqAVs xs ys).map (.bool !·) else none
  | .eql, .ref _, .nilP => if ptrT P t then some (.bool false) else none
  | .neq, .ref _, .nilP => if ptrT P t then some (.bool true) else none
  | .eql, .nilP, .nilP => if ptrT P t then some (.bool true) else none
  | .neq, .nilP, .nilP => if ptrT P t then some (.bool false) else none
  | _, _, _ => none

def unAV (op : UnOp) (x : AV) : Option AV :=
  match op, x with
  | .neg, .int k n => some (.int k (k.wrap (0 - n)))
  | .xor, .int k n => some (.int k (k.wrap (BitVec.ofInt k.bits (if k.signed then -1 else k.max) ^^^ BitVec.ofInt k.bits n).toNat))
  | .not, .bool b => some (.bool !b)
  | _, _ => none

/-- The greater (the lesser) of numbers. -/
def maxAV : List AV → Option AV
  | [] => none
  | .int k n :: r => r.foldlM (fun x y => match x, y with | .int k a, .int _ b => some (.int k (if b > a then b else a)) | _, _ => none) (.int k n)
  | _ :: _ => none

def minAV : List AV → Option AV
  | [] => none
  | .int k n :: r => r.foldlM (fun x y => match x, y with | .int k a, .int _ b => some (.int k (if b < a then b else a)) | _, _ => none) (.int k n)
  | _ :: _ => none

def boundAV : Option AV → Nat → Nat → Option Nat
  | none, d, _ => some d
  | some (.int _ n), _, m => if 0 ≤ n ∧ n ≤ m then some n.toNat else none
  | some _, _, _ => none

/-- May a value of this kind be appended to a row of elements of so many cells? -/
def TK.fits (k : TK) (esz : Nat) : Bool :=
  match k with
  | .str => esz == 1
  | .slice _ z _ => z == esz
  | _ => false

/-- Is a type's zero value known, and of so many cells? -/
def zOk (P : Program) (e esz : Nat) : Bool :=
  match zav P e with
  | some z => z.size == esz
  | none => false

/-- A text is appended to bytes alone. -/
def AV.strFit (y : AV) (esz : Nat) : Bool :=
  match y with
  | .str _ => esz == 1
  | _ => true

/-- What is appended. -/
def AState.more (σ : AState) : AV → Option (List AV)
  | .str s => some (strBytes s)
  | y => σ.elems y

/-- One of two values. -/
def pickAV (b : Bool) (x y : AV) : AV :=
  match x, y with
  | .bool p, .bool q => .bool (if b then p else q)
  | .int k p, .int k' q => if k = k' then .int k (if b then p else q) else if b then .int k p else .int k' q
  | x, y => if b then x else y

theorem pickAV_eq (b : Bool) (x y : AV) : pickAV b x y = if b then x else y := by
  unfold pickAV
  split
  · cases b <;> rfl
  · split
    · rename_i h; subst h; cases b <;> rfl
    · rfl
  · rfl

/-- An operation that is no call of a function: what it gives, and the objects behind it. -/
def aop (P : Program) (σ : AState) : Op → Option (AV × List AObj)
  | .move x => some (σ.rd x, σ.L)
  | .assign x => match σ.rd x with
    | .nilS => some (.own σ.L.length 0 0 0, σ.L ++ [⟨0, 0, true, false, []⟩])
    | y => some (y, σ.L)
  | .pick c x y => match σ.rd c with
    | .bool b => some (pickAV b (σ.rd x) (σ.rd y), σ.L)
    | _ => none
  | .alloc t => (zav P t).bind fun z => if 0 < z.size then some (.addr σ.L.length 0 0 [] 0, σ.L ++ [⟨0, z.size, false, false, [z]⟩]) else none
  | .box _ x => if (σ.rd x).memo && decide (0 < (σ.rd x).size) then some (.addr σ.L.length 0 0 [] 0, σ.L ++ [⟨0, (σ.rd x).size, false, false, [σ.rd x]⟩]) else none
  | .build t parts => match tk P t, zav P t with
    | some (.struct fs, _), some (.agg xs) => if fs.all (fun f => f.2.1 != 0) = false then none else
      (fillAV xs (parts.toList.map fun (i, x) => (i, σ.rd x)) fun i => (fs[i]?).map fun f => (f.1, f.2.1)).map fun ys => (.agg ys, σ.L)
    | some (.arr _ _ esz, _), some (.agg xs) => if esz = 0 then none else
      (fillAV xs (parts.toList.map fun (i, x) => (i, σ.rd x)) fun i => some (i * esz, esz)).map fun ys => (.agg ys, σ.L)
    | _, _ => none
  | .buildSlice t len parts => match tk P t with
    | some (.slice e esz _, _) => if len * esz ≤ 2 ^ 24 ∧ 0 < esz then (zav P e).bind fun z => if z.size = esz then
        (fillAV (List.replicate len z) (parts.toList.map fun (i, x) => (i, σ.rd x)) fun i => some (i * esz, esz)).map fun ys =>
          (.own σ.L.length 0 0 len, σ.L ++ [⟨0, esz, false, false, ys⟩]) else none else none
    | _ => none
  | .load t a => match tk P t, σ.rd a with
    | some (k, sz), .ref x => if x.shaped k.isAgg ∧ x.size = sz then some (x, σ.L) else none
    | some (k, sz), .addr o ver i path off =>
      match σ.L[o]? with
      | some obj => if obj.ver = ver ∧ obj.nil = false then (obj.elems[i]?).bind fun x => (x.getP path).bind fun y =>
          if x.offP path = some off ∧ y.shaped k.isAgg ∧ y.size = sz then some (y, σ.L) else none else none
      | none => none
    | _, _ => none
  | .store t a v => match tk P t, σ.rd a with
    | some (_, sz), .addr o ver i path off =>
      match σ.L[o]? with
      | some obj => if obj.ver = ver ∧ obj.nil = false ∧ obj.fz = false ∧ (σ.rd v).memo ∧ (σ.rd v).size = sz then (obj.elems[i]?).bind fun x => (x.getP path).bind fun y =>
          if x.offP path = some off ∧ y.size = sz then (x.setP path (σ.rd v)).map fun x' => (.tup [], σ.L.set o { obj with elems := obj.elems.set i x' }) else none else none
      | none => none
    | _, _ => none
  | .nilCheck x => match σ.rd x with
    | .ref y => some (.ref y, σ.L)
    | .addr o ver i path off => (σ.L[o]?).bind fun obj => if obj.ver = ver then some (.addr o ver i path off, σ.L) else none
    | .fn f caps => some (.fn f caps, σ.L)
    | _ => none
  | .binOp op t x y _ => (binAV P op t (σ.rd x) (σ.rd y)).map fun z => (z, σ.L)
  | .unOp op _ x => (unAV op (σ.rd x)).map fun z => (z, σ.L)
  | .convert src dst x => match tk P src, tk P dst, σ.rd x with
    | some _, some (.int k, _), .int _ n => some (.int k (k.wrap n), σ.L)
    | some (.str, _), some (.str, _), .str s => some (.str s, σ.L)
    | some (.str, _), some (.slice e esz _, _), .str s => match tk P e with
      | some (.int .u8, 1) => if esz = 1 then some (.own σ.L.length 0 0 s.size, σ.L ++ [⟨0, 1, false, false, strBytes s⟩]) else none
      | _ => none
    | some (.slice e esz _, _), some (.str, _), y => match tk P e, σ.elems y with
      | some (.int .u8, 1), some xs => (bytesStr xs).map fun l => (.str ⟨l.toArray⟩, σ.L)
      | _, _ => none
    | _, _, _ => none
  | .makeFunc (.func f) first caps => if first.isEmpty ∧ caps.toList.all (fun x => (σ.rd x).one) then some (.fn f (caps.toList.map σ.rd), σ.L) else none
  | .makeSlice t l c => match tk P t, σ.rd l, σ.rd c with
    | some (.slice e esz eb, _), .int .i64 n, .int .i64 m => if 0 ≤ n ∧ n ≤ m ∧ eb * m ≤ 2 ^ 48 ∧ m < 2 ^ 63 ∧ 0 < esz then (zav P e).bind fun z => if z.size = esz then
        some (.own σ.L.length 0 0 n.toNat, σ.L ++ [⟨0, esz, false, false, List.replicate n.toNat z⟩]) else none else none
    | _, _, _ => none
  | .slice t x lo hi mx => if mx.isSome then none else match tk P t, σ.rd x with
    | some (.str, _), .str s => (boundAV (hi.map σ.rd) s.size s.size).bind fun h => (boundAV (lo.map σ.rd) 0 h).map fun l => (.str (s.extract l h), σ.L)
    | some (.slice _ esz _, _), .slice xs => (boundAV (hi.map σ.rd) xs.length xs.length).bind fun h => (boundAV (lo.map σ.rd) 0 h).bind fun l =>
        if xs.all (·.size == esz) ∧ 0 < esz then some (.slice ((xs.take h).drop l), σ.L) else none
    | some (.slice _ esz _, _), .own o ver off len => match σ.L[o]? with
      | some obj => if obj.ver = ver ∧ obj.nil = false ∧ obj.esz = esz then (boundAV (hi.map σ.rd) len len).bind fun h => (boundAV (lo.map σ.rd) 0 h).map fun l =>
          (.own o ver (off + l) (h - l), σ.L) else none
      | none => none
    | _, _ => none
  | .fieldAddr t x f => match tk P t, σ.rd x with
    | some (.struct fs, _), .ref (.agg xs) => (fs[f]?).bind fun fd => (xs[f]?).bind fun y =>
        if AV.sizes (xs.take f) = fd.1 ∧ fd.2.1 ≠ 0 then some (.ref y, σ.L) else none
    | some (.struct fs, _), .addr o ver i path off => (fs[f]?).bind fun fd => (σ.L[o]?).bind fun obj =>
        if fd.2.1 ≠ 0 ∧ obj.ver = ver then some (.addr o ver i (path ++ [f]) (off + fd.1), σ.L) else none
    | _, _ => none
  | .field t x f => match tk P t, σ.rd x with
    | some (.struct fs, _), .agg xs => (fs[f]?).bind fun fd => (xs[f]?).bind fun y =>
        if AV.sizes (xs.take f) = fd.1 ∧ y.size = fd.2.1 ∧ fd.2.1 ≠ 0 ∧ y.shaped fd.2.2 then some (y, σ.L) else none
    | _, _ => none
  | .indexAddr t x ix => match tk P t, σ.rd x, σ.rd ix with
    | some (.slice _ esz _, _), .slice xs, .int _ i => if 0 ≤ i then (xs[i.toNat]?).bind fun y => if xs.all (·.size == esz) ∧ esz ≠ 0 then some (.ref y, σ.L) else none else none
    | some (.slice _ esz _, _), .own o ver off len, .int _ i => match σ.L[o]? with
      | some obj => if 0 ≤ i ∧ i < len ∧ obj.ver = ver ∧ obj.nil = false ∧ obj.esz = esz then some (.addr o ver (off + i.toNat) [] 0, σ.L) else none
      | none => none
    | some (.arr n _ esz, _), .ref (.agg xs), .int _ i => if 0 ≤ i ∧ i < n ∧ xs.all (·.size == esz) ∧ esz ≠ 0 then (xs[i.toNat]?).bind fun y => some (.ref y, σ.L) else none
    | some (.arr n _ esz, _), .addr o ver i' path off, .int _ i => match σ.L[o]? with
      | some obj => if 0 ≤ i ∧ i < n ∧ obj.ver = ver ∧ esz ≠ 0 then some (.addr o ver i' (path ++ [i.toNat]) (off + i.toNat * esz), σ.L) else none
      | none => none
    | _, _, _ => none
  | .index t x ix => match tk P t, σ.rd x, σ.rd ix with
    | some (.arr n e esz, _), .agg xs, .int _ i => if 0 ≤ i ∧ i < n ∧ xs.all (·.size == esz) ∧ esz ≠ 0 then (xs[i.toNat]?).bind fun y => if y.shaped (aggT P e) then some (y, σ.L) else none else none
    | some (.str, _), .str s, .int _ i => if 0 ≤ i then (s.data[i.toNat]?).map fun b => (.int .u8 b.toNat, σ.L) else none
    | _, _, _ => none
  | .extract x i => match σ.rd x with
    | .tup xs => (xs[i]?).map fun y => (y, σ.L)
    | _ => none
  | .call { callee := .builtin .len, args, argTypes } => match argTypes[0]?, args[0]? with
    | some t, some x => match tk P t, σ.rd x with
      | some (.str, _), .str s => some (.int .i64 s.size, σ.L)
      | some (.arr n _ _, _), _ => some (.int .i64 n, σ.L)
      | some (.slice .., _), .slice xs => some (.int .i64 xs.length, σ.L)
      | some (.slice .., _), .nilS => some (.int .i64 0, σ.L)
      | some (.slice .., _), .own o ver _ len => (σ.L[o]?).bind fun obj => if obj.ver = ver then some (.int .i64 len, σ.L) else none
      | _, _ => none
    | _, _ => none
  | .call { callee := .builtin .max, args, .. } => (maxAV (args.toList.map σ.rd)).map fun z => (z, σ.L)
  | .call { callee := .builtin .min, args, .. } => (minAV (args.toList.map σ.rd)).map fun z => (z, σ.L)
  | .call { callee := .builtin .append, args, argTypes } => match argTypes.toList, args.toList with
    | [t, u], [x, y] => match tk P t, tk P u, σ.rd x, σ.more (σ.rd y) with
      | some (.slice e esz eb, _), some (k, _), .own o ver 0 len, some ys => match σ.L[o]? with
        | some obj => if k.fits esz = true ∧ (σ.rd y).strFit esz = true ∧ zOk P e esz = true ∧ obj.ver = ver ∧ obj.fz = false ∧ len ≤ obj.elems.length ∧ 0 < esz ∧ (obj.nil = true ∨ obj.esz = esz) ∧ ys.all (fun y => y.size == esz && y.memo) = true ∧
            (len + ys.length) * eb ≤ 2 ^ 45 ∧ len + ys.length < 2 ^ 45 then
            if ys = [] then some (.own o ver 0 len, σ.L)
            else some (.own o (ver + 1) 0 (len + ys.length), σ.L.set o ⟨ver + 1, esz, false, false, obj.elems.take len ++ ys⟩) else none
        | none => none
      | _, _, _, _ => none
    | _, _ => none
  | _ => none

end Go.Proofs.Ytpneikbihcoaaab.Vm
