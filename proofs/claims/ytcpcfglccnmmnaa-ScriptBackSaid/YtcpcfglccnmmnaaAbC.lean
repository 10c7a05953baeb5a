/- What each operation does in the abstract machine. -/
import Derived.Test.YtcpcfglccnmmnaaAbB
set_option linter.unusedSimpArgs false
set_option linter.unusedVariables false
set_option linter.constructorNameAsVariable false
namespace Go.Ab
open Go

/-- What an operation comes to: a value, under a condition; a value and a turned store; a new object; an append; a call; a panic; not covered. -/
inductive ARes where
  | val (pre : Prop) (d : D)
  | nd (ok : Bool → Prop) (f : Bool → D)
  | upd (pre : Prop) (d : D) (σ : Store)
  | new (pre : Prop) (o : AObj) (mk : Nat → D)
  | app (pre : Prop) (b : Option Nat) (sz : Nat) (xs : List D)
  | enter (f : FuncId) (args : List D)
  | panic (d : D)
  | bad

def okV : Value → Bool
  | .agg cs => cs.toList.all Value.oneCell'
  | .tuple xs => xs.toList.all Value.oneCell'
  | _ => true

def ofV : Value → D
  | .agg cs => .agg (cs.toList.map .v)
  | .tuple xs => .tup (xs.toList.map .v)
  | x => .v x

def ev (env : Env) : Operand → D
  | .tmp t => eget t env
  | .const x => if okV x = true then ofV x else .any
  | .global g => .v (.pointer (some ⟨g, 0, none⟩))
  | .func f => .clo (.func f) [] []

/-- What a piece of the model comes to that asks for nothing but the program's tables. -/
def purely {α : Type} (P : Program) : Sem α → Option α
  | .pure a => some a
  | .program k => purely P (k P)
  | .mark _ k => purely P k
  | _ => none

mutual
def toV : D → Option Value
  | .v x => some x
  | .agg cs => (toVs cs).map fun l => .agg l.toArray
  | .tup xs => (toVs xs).map fun l => .tuple l.toArray
  | .ifc t x => (toV x).map (.iface t)
  | _ => none
def toVs : List D → Option (List Value)
  | [] => some []
  | d :: r => (toV d).bind fun x => (toVs r).map (x :: ·)
end

def rsize (P : Program) (T : TypeId) : Option Nat := (P.info? T).map (·.size)
def rbytes (P : Program) (T : TypeId) : Option Nat := (P.info? T).map (·.bytes)
def rzero (P : Program) (T : TypeId) : Option Value := (P.info? T).bind (·.zero)
def ragg (P : Program) (T : TypeId) : Option Bool := (P.underlying T).map fun | .struct _ | .array _ _ => true | _ => false
def relem (P : Program) (T : TypeId) : Option TypeId := match P.underlying T with | some (.slice e) => some e | _ => none
def rfield (P : Program) (T : TypeId) (f : Nat) : Option Field := match P.underlying T with | some (.struct fs) => fs[f]? | _ => none

def scal (P : Program) (s : Sem Value) : ARes :=
  match purely P s with
  | some r => if okV r = true then .val True (ofV r) else .bad
  | none => .bad

/-- A value of n cells at the head of some cells. -/
def getc (g : Bool) (n : Nat) (cs : List D) : D := if g = true then .agg (cs.take n) else cs.headD .any
def getcOk (g : Bool) (n : Nat) (cs : List D) : Prop := if g = true then n ≤ cs.length else 0 < cs.length

def putc (old : D) (o : Nat) (x : D) : D :=
  match old with
  | .agg cs => .agg (cs.take o ++ x.cells ++ cs.drop (o + x.cells.length))
  | _ => x

def aPick (c a b : D) : ARes :=
  match c with
  | .v (.bool t) => .val True (if t = true then a else b)
  | _ => .bad

def aAlloc (P : Program) (T : TypeId) : ARes :=
  match rsize P T, rzero P T with
  | some n, some z => .new (okV z = true ∧ (ofV z).cells.length = n ∧ (ofV z).plain = true) (.arr n [ofV z]) (fun b => .ptr b n 0 0)
  | _, _ => .bad

def aBox (P : Program) (T : TypeId) (d : D) : ARes :=
  match rsize P T with
  | some n => .new (d.cells.length = n ∧ d.plain = true) (.arr n [d]) (fun b => .ptr b n 0 0)
  | none => .bad

def aLoad (P : Program) (σ : Store) (T : TypeId) (d : D) : ARes :=
  match rsize P T, ragg P T, d with
  | some n, some g, .elt cs => .val (getcOk g n cs) (getc g n cs)
  | some n, some g, .ptr b sz i o =>
    match sget b σ with
    | some (.arr sz' xs) => .val (sz' = sz ∧ i < xs.length ∧ getcOk g n ((xs.getD i .any).cells.drop o)) (getc g n ((xs.getD i .any).cells.drop o))
    | _ => .bad
  | _, _, _ => .bad

def aStore (P : Program) (σ : Store) (T : TypeId) (d x : D) : ARes :=
  match rsize P T, d with
  | some n, .ptr b sz i o =>
    match sget b σ with
    | some (.arr sz' xs) =>
      .upd (sz' = sz ∧ i < xs.length ∧ x.cells.length = n ∧ x.plain = true ∧ o + n ≤ sz ∧ ((∃ cs, xs.getD i .any = .agg cs) ∨ (n = sz ∧ o = 0))) (.tup [])
        (sset b (.arr sz (xs.set i (putc (xs.getD i .any) o x))) σ)
    | _ => .bad
  | _, _ => .bad

def aNilCheck : D → ARes
  | .ptr b sz i o => .val True (.ptr b sz i o)
  | .elt cs => .val True (.elt cs)
  | .clo (.func f) a c => .val True (.clo (.func f) a c)
  | .clo (.yield l) a c => .val True (.clo (.yield l) a c)
  | .ifc t x => .val True (.ifc t x)
  | .v (.pointer (some a)) => .val True (.v (.pointer (some a)))
  | _ => .bad

def nilEq (t : Bool) : ARes := .val True (.v (.bool t))

/-- x == y, where one of them is nil and the other is not. -/
def aEq (d : Option TypeDesc) (x y : D) : Option Bool :=
  match d, x, y with
  | some (.pointer _), .ptr _ _ _ _, .v (.pointer none) | some (.pointer _), .v (.pointer none), .ptr _ _ _ _ => some false
  | some (.pointer _), .elt _, .v (.pointer none) | some (.pointer _), .v (.pointer none), .elt _ => some false
  | some (.slice _), .own (some _) _ _, .v (.slice none 0 0) => some false
  | some (.map _ _), .map _, .v (.map none) => some false
  | some (.func _ _ _), .clo _ _ _, .v .nilFunc => some false
  | some (.interface _), .ifc _ _, .v .nilIface => some false
  | _, _, _ => none

/-- x == nil, where it is not known whether x is nil: which answers there may be. -/
def aNil (d : Option TypeDesc) (x y : D) : Option (Bool → Prop) :=
  match d, x, y with
  | some (.slice _), .slc xs, .v (.slice none 0 0) => some fun t => xs ≠ [] → t = false
  | some (.slice _), .own none _ _, .v (.slice none 0 0) => some fun _ => True
  | _, _, _ => none

def isIfc : Option TypeDesc → Bool
  | some (.interface _) => true
  | _ => false

/-- An interface value held against nil. -/
def ifcNil (d : Option TypeDesc) (x y : D) : Bool :=
  match x, y with
  | .ifc _ _, .v .nilIface => isIfc d
  | _, _ => false

def aBin0 (P : Program) (op : BinOp) (T : TypeId) (xo yo : Operand) (x y : D) : ARes :=
  match toV x, toV y with
  | some a, some b => scal P (do eqGuard op T xo yo a b; binOp op T a b)
  | _, _ =>
    match op, aEq (P.underlying T) x y with
    | .eql, some t => .val True (.v (.bool t))
    | .neq, some t => .val True (.v (.bool !t))
    | _, _ =>
      match op, aNil (P.underlying T) x y with
      | .eql, some ok => .nd ok fun t => .v (.bool t)
      | .neq, some ok => .nd ok fun t => .v (.bool !t)
      | _, _ => .bad

def aBin (P : Program) (op : BinOp) (T : TypeId) (xo yo : Operand) (x y : D) : ARes :=
  match ifcNil (P.underlying T) x y, op with
  | true, .eql => .val True (.v (.bool false))
  | true, .neq => .val True (.v (.bool true))
  | _, _ => aBin0 P op T xo yo x y

def aUn (P : Program) (op : UnOp) (x : D) : ARes :=
  match toV x with
  | some a => scal P (Op.unary op a)
  | none => .bad

def byteOf : D → UInt8
  | .v (.int .u8 n) => UInt8.ofNat n.toNat
  | _ => 0
def isByte : D → Bool
  | .v (.int .u8 n) => decide (0 ≤ n ∧ n < 256)
  | _ => false
def bD (c : UInt8) : D := .v (.int .u8 (c.toNat : Int))
def bytesOf (xs : List D) : ByteArray := ⟨(xs.map byteOf).toArray⟩

def isByteSlice (P : Program) (T : TypeId) : Bool :=
  match relem P T with
  | some e => match P.underlying e with | some (.int .u8) => true | _ => false
  | none => false
def isStr (P : Program) (T : TypeId) : Bool := match P.underlying T with | some .string => true | _ => false

/-- The row of a slice of one's own. -/
def oget (sz : Nat) (ob : Option Nat) (σ : Store) : Option (List D) :=
  match ob with
  | none => some []
  | some b => match sget b σ with | some (.arr s xs) => if s = sz then some xs else none | _ => none

def aConv (P : Program) (σ : Store) (src dst : TypeId) (x : D) : ARes :=
  match x with
  | .slc xs => .val (isByteSlice P src = true ∧ isStr P dst = true ∧ xs.all isByte = true) (.v (.string (bytesOf xs)))
  | .own ob _ n =>
    match oget 1 ob σ with
    | some xs => .val (isByteSlice P src = true ∧ isStr P dst = true ∧ xs.all isByte = true ∧ n ≤ xs.length) (.v (.string (bytesOf (xs.take n))))
    | none => .bad
  | .v (.string s) =>
    if isByteSlice P dst = true ∧ isStr P src = true then .new (s.size < 2 ^ 46) (.arr 1 (s.data.toList.map bD)) (fun b => .own (some b) 1 s.size)
    else scal P (convert src dst (.string s))
  | .v y => scal P (convert src dst y)
  | _ => .bad

def ixOf : D → Option Int
  | .v (.int _ n) => some n
  | _ => none

def aIndexAddr (P : Program) (T : TypeId) (x ix : D) : ARes :=
  match relem P T, ixOf ix with
  | some e, some i =>
    match rsize P e, x with
    | some n, .slc xs => .val (0 ≤ i ∧ i < xs.length ∧ (xs.getD i.toNat .any).cells.length = n) (.elt (xs.getD i.toNat .any).cells)
    | some n, .own (some b) sz len => .val (0 ≤ i ∧ i < len ∧ sz = n) (.ptr b sz i.toNat 0)
    | _, _ => .bad
  | _, _ => .bad

def aIndex (P : Program) (T : TypeId) (x ix : D) : ARes :=
  match x, ixOf ix with
  | .v (.string s), some i => .val (isStr P T = true ∧ 0 ≤ i ∧ i < s.size) (bD (s.data.toList.getD i.toNat 0))
  | _, _ => .bad

def optIx (d : Option D) (z : Int) : Option Int := match d with | some d => ixOf d | none => some z

def aSlice (P : Program) (T : TypeId) (x : D) (lo hi mx : Option D) : ARes :=
  match x, mx with
  | .v (.string s), none =>
    match optIx lo 0, optIx hi s.size with
    | some l, some h => .val (isStr P T = true ∧ 0 ≤ l ∧ l ≤ h ∧ h ≤ s.size) (.v (.string (s.extract l.toNat h.toNat)))
    | _, _ => .bad
  | .slc xs, none =>
    match optIx lo 0, optIx hi xs.length, (relem P T).bind (rsize P) with
    | some l, some h, some n => .val (0 ≤ l ∧ l ≤ h ∧ h ≤ xs.length ∧ (∀ x ∈ xs, x.cells.length = n)) (.slc ((xs.take h.toNat).drop l.toNat))
    | _, _, _ => .bad
  | .own b sz n, none =>
    match optIx lo 0, optIx hi n, (relem P T).bind (rsize P) with
    | some l, some h, some _ => .val (l = 0 ∧ 0 ≤ h ∧ h ≤ n) (.own b sz h.toNat)
    | _, _, _ => .bad
  | .v (.slice none 0 0), none =>
    match optIx lo 0, optIx hi 0, (relem P T).bind (rsize P) with
    | some l, some h, some _ => .val (l = 0 ∧ h = 0) (.v (.slice none 0 0))
    | _, _, _ => .bad
  | .slc _, some m | .own _ _ _, some m | .v (.slice none 0 0), some m =>
    match optIx lo 0, optIx hi 1, ixOf m, (relem P T).bind (rsize P) with
    | some l, some h, some m, some n => .val (l = 0 ∧ h = 0 ∧ m = 0) (.own none n 0)
    | _, _, _, _ => .bad
  | _, _ => .bad

def aFieldAddr (P : Program) (T : TypeId) (x : D) (f : Nat) : ARes :=
  match rfield P T f with
  | some F =>
    match rsize P F.type, x with
    | some n, .ptr b sz i o => .val (0 < n) (.ptr b sz i (o + F.offset))
    | some n, .elt cs => .val (0 < n ∧ F.offset ≤ cs.length) (.elt (cs.drop F.offset))
    | _, _ => .bad
  | none => .bad

def aField (P : Program) (T : TypeId) (x : D) (f : Nat) : ARes :=
  match rfield P T f with
  | some F =>
    match rsize P F.type, ragg P F.type, x with
    | some n, some g, .agg cs => .val (getcOk g n (cs.drop F.offset)) (getc g n (cs.drop F.offset))
    | _, _, _ => .bad
  | none => .bad

/-- The cells of a struct, some fields of which are told. -/
def aFill (P : Program) (T : TypeId) : List (Nat × D) → List D → Option (List D)
  | [], cs => some cs
  | (f, x) :: r, cs =>
    match rfield P T f with
    | some F => if rsize P F.type = some x.cells.length ∧ F.offset + x.cells.length ≤ cs.length ∧ x.plain = true then aFill P T r (cs.take F.offset ++ x.cells ++ cs.drop (F.offset + x.cells.length)) else none
    | none => none

/-- Every field of the struct has a size. -/
def placesOk (P : Program) (T : TypeId) : Bool :=
  match P.underlying T with
  | some (.struct fs) => (fs.toList.mapM (fun f => (P.info? f.type).map fun i => (f.offset, i.size))).isSome
  | _ => false

def isStruct (P : Program) (T : TypeId) : Bool := match P.underlying T with | some (.struct _) => true | _ => false

def aBuild (P : Program) (T : TypeId) (parts : List (Nat × D)) : ARes :=
  match rzero P T with
  | some z =>
    if placesOk P T = true ∧ okV z = true then
      match ofV z with
      | .agg cs => match aFill P T parts cs with | some cs => .val True (.agg cs) | none => .bad
      | _ => .bad
    else .bad
  | none => .bad

def aFillSlice (n : Nat) : List (Nat × D) → List D → Option (List D)
  | [], xs => some xs
  | (i, x) :: r, xs => if x.cells.length = n ∧ x.plain = true ∧ i < xs.length then aFillSlice n r (xs.set i x) else none

def aBuildSlice (P : Program) (T : TypeId) (len : Nat) (parts : List (Nat × D)) : ARes :=
  match relem P T with
  | some e =>
    match rsize P e, rzero P e with
    | some n, some z =>
      match aFillSlice n parts (List.replicate len (ofV z)) with
      | some xs => .new (okV z = true ∧ (ofV z).cells.length = n ∧ (ofV z).plain = true ∧ len * n ≤ 2 ^ 24 ∧ len ≤ 2 ^ 24) (.arr n xs) (fun b => .own (some b) n len)
      | none => .bad
    | _, _ => .bad
  | none => .bad

def aMakeSlice (P : Program) (T : TypeId) (l c : D) : ARes :=
  match relem P T, ixOf l, ixOf c with
  | some e, some l, some c =>
    match rsize P e, rzero P e, rbytes P e with
    | some n, some z, some by_ => .new (okV z = true ∧ (ofV z).cells.length = n ∧ (ofV z).plain = true ∧ 0 ≤ l ∧ l ≤ c ∧ c < 2 ^ 40 ∧ by_ * c ≤ 2 ^ 48) (.arr n (List.replicate l.toNat (ofV z))) (fun b => .own (some b) n l.toNat)
    | _, _, _ => .bad
  | _, _, _ => .bad

def keyEq : Value → Value → Bool
  | .int k a, .int k' b => k == k' && a == b
  | .string a, .string b => a == b
  | .bool a, .bool b => a == b
  | _, _ => false
/-- Do two keys bear one type? -/
def keyLike (d : TypeDesc) : Value → Value → Bool
  | .int k _, .int k' _ => (match d with | .int _ => true | _ => false) && k == k'
  | .string _, .string _ => (match d with | .string => true | _ => false)
  | .bool _, .bool _ => (match d with | .bool => true | _ => false)
  | _, _ => false

def mfind (k : Value) : List (Value × D) → Option D
  | [] => none
  | (j, d) :: r => if keyEq k j = true then some d else mfind k r
def mset (k : Value) (x : D) : List (Value × D) → List (Value × D)
  | [] => [(k, x)]
  | (j, d) :: r => if keyEq k j = true then (k, x) :: r else (j, d) :: mset k x r
def mdel (k : Value) : List (Value × D) → List (Value × D)
  | [] => []
  | (j, d) :: r => if keyEq k j = true then r else (j, d) :: mdel k r

def rmap (P : Program) (T : TypeId) : Option (TypeDesc × TypeId) :=
  match P.underlying T with
  | some (.map k e) => match P.underlying k with | some d => some (d, e) | none => none
  | _ => none

def aFound (d : TypeDesc) (z : Value) (ok : Bool) (k : Value) (es : List (Value × D)) : ARes :=
  .val (okV z = true ∧ keyLike d k k = true ∧ ∀ e ∈ es, keyLike d k e.1 = true)
    (if ok = true then .tup [(mfind k es).getD (ofV z), .v (.bool (mfind k es).isSome)] else (mfind k es).getD (ofV z))

def aLookup (P : Program) (σ : Store) (T : TypeId) (m k : D) (ok : Bool) : ARes :=
  match rmap P T, toV k with
  | some (d, e), some k =>
    match rzero P e, m with
    | some z, .map b => match sget b σ with | some (.mp es) => aFound d z ok k es | _ => .bad
    | some z, .v (.map none) => aFound d z ok k []
    | _, _ => .bad
  | _, _ => .bad

def aMapUpdate (P : Program) (σ : Store) (T : TypeId) (m k x : D) : ARes :=
  match rmap P T, toV k, m with
  | some (d, _), some k, .map b =>
    match sget b σ with
    | some (.mp es) => .upd (keyLike d k k = true ∧ ∀ e ∈ es, keyLike d k e.1 = true) (.tup []) (sset b (.mp (mset k x es)) σ)
    | _ => .bad
  | _, _, _ => .bad

def aDelete (P : Program) (σ : Store) (T : TypeId) (m k : D) : ARes :=
  match rmap P T, toV k, m with
  | some (d, _), some k, .map b =>
    match sget b σ with
    | some (.mp es) => .upd (keyLike d k k = true ∧ ∀ e ∈ es, keyLike d k e.1 = true) (.tup []) (sset b (.mp (mdel k es)) σ)
    | _ => .bad
  | _, _, _ => .bad

def aTA (P : Program) (x : D) (asserted : TypeId) (ok : Bool) : ARes :=
  match P.underlying asserted with
  | some (.interface _) => .bad
  | some _ =>
    match x, rzero P asserted, ok with
    | .ifc t y, some z, true => if t = asserted then .val True (.tup [y, .v (.bool true)]) else .val (okV z = true) (.tup [ofV z, .v (.bool false)])
    | .v .nilIface, some z, true => .val (okV z = true) (.tup [ofV z, .v (.bool false)])
    | .ifc t y, _, false => if t = asserted then .val True y else .bad
    | _, _, _ => .bad
  | none => .bad

def aRange (P : Program) (T : TypeId) (x : D) : ARes :=
  match P.underlying T, x with
  | some .string, .v (.string s) => .new True (.sit s 0) (fun b => .ptr b 0 0 0)
  | _, _ => .bad

def aNext (σ : Store) (it : D) (isString : Bool) : ARes :=
  match it, isString with
  | .ptr b 0 0 0, true =>
    match sget b σ with
    | some (.sit s p) =>
      if p < s.size then .upd True (.tup [.v (.bool true), .v (.int .i64 p), .v (.int .i32 (Utf8.decode s p).1)]) (sset b (.sit s (p + (Utf8.decode s p).2)) σ)
      else .val True (.tup [.v (.bool false)])
    | _ => .bad
  | _, _ => .bad

def aLen (P : Program) (σ : Store) (T : TypeId) (x : D) : ARes :=
  match x with
  | .slc xs => .val ((relem P T).isSome = true) (.v (.int .i64 xs.length))
  | .own _ _ n => .val ((relem P T).isSome = true) (.v (.int .i64 n))
  | .v (.string s) => .val (isStr P T = true) (.v (.int .i64 s.size))
  | .v (.slice none 0 0) => .val ((relem P T).isSome = true) (.v (.int .i64 0))
  | .map b => match sget b σ with | some (.mp es) => .val ((rmap P T).isSome = true) (.v (.int .i64 es.length)) | _ => .bad
  | .v (.map none) => .val ((rmap P T).isSome = true) (.v (.int .i64 0))
  | _ => .bad

/-- What an append reads: the elements of its second argument. -/
def srcOf (σ : Store) : D → Option (List D)
  | .slc xs => some xs
  | .own ob sz n => match oget sz ob σ with | some xs => if n ≤ xs.length then some (xs.take n) else none | none => none
  | .v (.slice none 0 0) => some []
  | .v (.string s) => some (s.data.toList.map bD)
  | _ => none

def cellsOf (b : Option Nat) (sz : Nat) (xs : List D) : Store := match b with | some b => [(b, .arr sz xs)] | none => []

def aAppend (P : Program) (σ : Store) (T T2 : TypeId) (s x : D) : ARes :=
  match relem P T, srcOf σ x with
  | some e, some ys =>
    match rsize P e, rbytes P e, rzero P e with
    | some n, some by_, some z =>
      let pre (old : List D) : Prop := (P.underlying T2 = P.underlying T ∨ isStr P T2 = true) ∧ okV z = true ∧ (ofV z).cells.length = n ∧ (∀ y ∈ ys, y.cells.length = n ∧ y.plain = true) ∧ (old.length + ys.length) * by_ ≤ 2 ^ 46 ∧ old.length + ys.length < 2 ^ 46
      match s with
      | .v (.slice none 0 0) => .app (pre []) none n ys
      | .own ob sz k =>
        match oget sz ob σ with
        | some xs => .app (sz = n ∧ k ≤ xs.length ∧ pre (xs.take k)) ob n (xs.take k ++ ys)
        | none => .bad
      | _ => .bad
    | _, _, _ => .bad
  | _, _ => .bad

def aBuiltin (P : Program) (σ : Store) (b : Builtin) (ts : Array TypeId) (args : List D) : ARes :=
  match b, args with
  | .len, [x] => match ts[0]? with | some T => aLen P σ T x | none => .bad
  | .append, [s, x] => match ts[0]?, ts[1]? with | some T, some T2 => aAppend P σ T T2 s x | _, _ => .bad
  | .delete, [m, k] => match ts[0]? with | some T => aDelete P σ T m k | none => .bad
  | .max, [x, y] => match toV x, toV y with | some a, some b => scal P (Builtin.max_ #[] 0 #[a, b]) | _, _ => .bad
  | .min, [x, y] => match toV x, toV y with | some a, some b => scal P (Builtin.min_ #[] 0 #[a, b]) | _, _ => .bad
  | .panic, [.ifc t x] => .panic (.ifc t x)
  | _, _ => .bad

def aExtract (x : D) (i : Nat) : ARes :=
  match x with
  | .tup xs => match xs[i]? with | some d => .val True d | none => .bad
  | _ => .bad

def aop (P : Program) (env : Env) (σ : Store) : Op → ARes
  | .move x | .assign x => .val True (ev env x)
  | .pick c a b => aPick (ev env c) (ev env a) (ev env b)
  | .alloc T => aAlloc P T
  | .box T x => aBox P T (ev env x)
  | .build T parts => aBuild P T (parts.toList.map fun p => (p.1, ev env p.2))
  | .buildSlice T len parts => aBuildSlice P T len (parts.toList.map fun p => (p.1, ev env p.2))
  | .load T a => aLoad P σ T (ev env a)
  | .store T a x => aStore P σ T (ev env a) (ev env x)
  | .nilCheck x => aNilCheck (ev env x)
  | .binOp op T x y _ => aBin P op T x y (ev env x) (ev env y)
  | .unOp op _ x => aUn P op (ev env x)
  | .convert src dst x => aConv P σ src dst (ev env x)
  | .makeInterface T x => .val (match P.underlying T with | some (.interface _) => False | some _ => True | none => False) (.ifc T (ev env x))
  | .makeFunc fn first captured => .val True (.clo fn (first.toList.map (ev env)) (captured.toList.map (ev env)))
  | .makeMap T none => .new ((rmap P T).isSome = true) (.mp []) (fun b => .map b)
  | .makeSlice T l c => aMakeSlice P T (ev env l) (ev env c)
  | .slice T x lo hi mx => aSlice P T (ev env x) (lo.map (ev env)) (hi.map (ev env)) (mx.map (ev env))
  | .fieldAddr T x f => aFieldAddr P T (ev env x) f
  | .field T x f => aField P T (ev env x) f
  | .indexAddr T x ix => aIndexAddr P T (ev env x) (ev env ix)
  | .index T x ix => aIndex P T (ev env x) (ev env ix)
  | .lookup T x ix ok => aLookup P σ T (ev env x) (ev env ix) ok
  | .mapUpdate T m k x | .insert T m k x => aMapUpdate P σ T (ev env m) (ev env k) (ev env x)
  | .range T x => aRange P T (ev env x)
  | .next it isString => aNext σ (ev env it) isString
  | .typeAssert x _ T ok => aTA P (ev env x) T ok
  | .extract t i => aExtract (ev env t) i
  | .panic x => match ev env x with | .ifc t d => .panic (.ifc t d) | _ => .bad
  | .call c =>
    match c.callee with
    | .builtin b => aBuiltin P σ b c.argTypes (c.args.toList.map (ev env))
    | .value f =>
      match ev env f with
      | .clo (.func g) first caps => .enter g (first ++ c.args.toList.map (ev env) ++ caps)
      | _ => .bad
    | .invoke _ _ => .bad
  | _ => .bad

end Go.Ab
