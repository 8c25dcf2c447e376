/-
  PE, part 1: a pure evaluator over the model's Code, by definition. Values of slices are lists, structs are lists of cells; only variables whose address is taken lie in a store of boxes. No address, no tape, no order.
  What it answers is shown (parts 2 to 4) to be what the model does, on every tape. Holds for every Program; no condition.
-/
import Derived.Calls
import GoSem.ClaimData
import Derived.Laws.Sem
set_option linter.unusedSimpArgs false
set_option linter.unusedVariables false
namespace Go.Proofs.Ytfmelnhlljgooaa.PE
open Go

/-- sh: shared (never appended to in place); ex: its capacity is its length; ow: the one that may be appended to in place. -/
inductive Tag where
  | sh | ex | ow
  deriving DecidableEq, Inhabited

inductive PV where
  | junk
  | s (v : Value)
  | agg (cs : List PV)
  | tup (cs : List PV)
  | nilsl
  | sl (t : Tag) (sz : Nat) (els : List PV)
  | ptr (b off : Nat)
  | ep (el : PV) (off : Nat)
  | fn (f : Fn) (first cap : List PV)
  | mp (b : Nat)
  | ifc (t : TypeId) (v : PV)
  deriving Inhabited

/-- The cells that a value takes up. -/
def PV.cells : PV → List PV
  | .agg cs => cs
  | .junk => []
  | .tup _ => []
  | .s v => if v.oneCell' then [.s v] else []
  | v => [v]

/-- Is it a value that a variable may hold? -/
def PV.solid : PV → Bool
  | .junk => false
  | .tup _ => false
  | .s v => v.oneCell'
  | _ => true

def PV.dn : PV → PV
  | .sl .ow sz els => .sl .sh sz els
  | v => v

def PV.isOw : PV → Bool
  | .sl .ow _ _ => true
  | _ => false

mutual
/-- One more than the highest box that it names; 0: it names none. -/
def PV.maxRef : PV → Nat
  | .ptr b _ => b + 1
  | .mp b => b + 1
  | .agg cs => PV.maxRefs cs
  | .tup cs => PV.maxRefs cs
  | .fn _ fs cs => max (PV.maxRefs fs) (PV.maxRefs cs)
  | .ifc _ v => PV.maxRef v
  | .ep _ _ => 0
  | .sl _ _ _ => 0
  | .s _ => 0
  | .nilsl => 0
  | .junk => 0
def PV.maxRefs : List PV → Nat
  | [] => 0
  | c :: r => max (PV.maxRef c) (PV.maxRefs r)
end

def cellOf : Value → PV
  | .slice none 0 0 => .nilsl
  | v => .s v

def ofVal : Value → PV
  | .agg cs => if cs.toList.all (·.oneCell') then .agg (cs.toList.map cellOf) else .junk
  | .tuple cs => .tup (cs.toList.map cellOf)
  | v => cellOf v

mutual
/-- The value itself, where it holds no memory. -/
def toVal : PV → Option Value
  | .s v => some v
  | .nilsl => some (.slice none 0 0)
  | .agg cs => (toVals cs).map fun l => .agg l.toArray
  | .ifc t v => (toVal v).map fun x => .iface t x
  | .junk => none
  | .tup _ => none
  | .sl _ _ _ => none
  | .ptr _ _ => none
  | .ep _ _ => none
  | .fn _ _ _ => none
  | .mp _ => none
def toVals : List PV → Option (List Value)
  | [] => some []
  | c :: r => (toVal c).bind fun v => (toVals r).map fun l => v :: l
end

inductive PBox where
  | cells (cs : List PV)
  | map (es : List (PV × PV))
  deriving Inhabited

abbrev Store := List PBox
abbrev Env := List (Nat × PV)

def lk : Env → Nat → PV
  | [], _ => .junk
  | (k, v) :: r, i => if k = i then v else lk r i

structure PS where
  env : Env
  st : Store
  deriving Inhabited

/-- What is known ahead of a function, as a hint: is it called with no boxes; which slots live from statement to statement; which slots take what they are moved from. -/
structure Ann where
  pure : Bool
  keep : List Nat
  take : List Nat
  deriving Inhabited

/-- A computation of the model that touches no memory, run. -/
def pureRun {α : Type} (P : Program) : Sem α → Option α
  | .pure a => some a
  | .program k => pureRun P (k P)
  | _ => none

def ev (env : Env) : Operand → PV
  | .tmp t => lk env t
  | .const v => ofVal v
  | .global g => .s (.pointer (some ⟨g, 0, none⟩))
  | .func f => .fn (.func f) [] []

def tAgg (P : Program) (t : TypeId) : Option Bool :=
  match P.underlying t with
  | some (.struct _) => some true
  | some (.array _ _) => some true
  | some _ => some false
  | none => none

def tSize (P : Program) (t : TypeId) : Option Nat := (P.info? t).map (·.size)

def tElem (P : Program) (t : TypeId) : Option TypeId :=
  match P.underlying t with
  | some (.slice e) => some e
  | _ => none

def tArr (P : Program) (t : TypeId) : Option (Nat × TypeId) :=
  match P.underlying t with
  | some (.array n e) => some (n, e)
  | _ => none

def tField (P : Program) (t : TypeId) (f : Nat) : Option (Nat × TypeId) :=
  match P.underlying t with
  | some (.struct fs) => (fs[f]?).map fun x => (x.offset, x.type)
  | _ => none

def tString (P : Program) (t : TypeId) : Bool :=
  match P.underlying t with
  | some .string => true
  | _ => false

def tU8 (P : Program) (t : TypeId) : Bool :=
  match P.underlying t with
  | some (.int .u8) => true
  | _ => false

def tIface (P : Program) (t : TypeId) : Bool :=
  match P.underlying t with
  | some (.interface _) => true
  | _ => false

def tZero (P : Program) (t : TypeId) : Option PV := ((P.info? t).bind (·.zero)).map ofVal

def asI : PV → Option Int
  | .s (.int _ n) => some n
  | _ => none

/-- The part of a row of cells that a variable of a type is. -/
def getPart (P : Program) (t : TypeId) (cs : List PV) (off : Nat) : Option PV :=
  match tAgg P t with
  | some true =>
    match tSize P t with
    | some n => if off + n ≤ cs.length then some (.agg ((cs.drop off).take n)) else none
    | none => none
  | some false => cs[off]?
  | none => none

/-- Parts laid into a row of cells. -/
def fillP (place : Nat → Option (Nat × Nat)) (cells : List PV) : List (Nat × PV) → Option (List PV)
  | [] => some cells
  | (i, v) :: rest =>
    match place i with
    | none => none
    | some (off, size) =>
      if v.solid = false ∨ v.cells.length ≠ size ∨ off + v.cells.length > cells.length then none
      else fillP place (cells.take off ++ v.cells ++ cells.drop (off + v.cells.length)) rest

def noOw (l : List PV) : Bool := l.all fun c => !c.isOw

def isAssign : Op → Bool
  | .assign _ => true
  | _ => false

/-- A row of cells cut into elements of a size. -/
def chunks (sz : Nat) (agg : Bool) : Nat → List PV → List PV
  | 0, _ => []
  | n + 1, l => (if agg then .agg (l.take sz) else l.headD .junk) :: chunks sz agg n (l.drop sz)

def bytesOf : List PV → Option (List UInt8)
  | [] => some []
  | .s (.int .u8 n) :: r => (bytesOf r).map fun l => UInt8.ofNat n.toNat :: l
  | _ => none

def roomOk (P : Program) (e : TypeId) (n : Nat) : Bool :=
  match P.info? e with
  | some i => decide (n * i.bytes ≤ 140737488355328 ∧ n ≤ maxLen)
  | none => false

def pEq (P : Program) (op : BinOp) (t : TypeId) (ox oy : Operand) (x y : PV) : Option PV :=
  match toVal x, toVal y with
  | some a, some b => (pureRun P (do eqGuard op t ox oy a b; binOp op t a b)).map ofVal
  | _, _ => none

def pBin (P : Program) (op : BinOp) (t : TypeId) (ox oy : Operand) (x y : PV) : Option PV :=
  match op, x, y with
  | .eql, .sl _ _ _, .nilsl => if (tElem P t).isSome then some (.s (.bool false)) else none
  | .neq, .sl _ _ _, .nilsl => if (tElem P t).isSome then some (.s (.bool true)) else none
  | _, _, _ => pEq P op t ox oy x y

def pConvert (P : Program) (src dst : TypeId) (x : PV) : Option PV :=
  match x with
  | .s (.int k n) => (pureRun P (convert src dst (.int k n))).map ofVal
  | .s (.string b) =>
    if tString P dst && tString P src then some (.s (.string b))
    else match tElem P dst with
      | some e => if tU8 P e && tString P src && decide (b.size ≤ maxLen) then some (.sl .sh 1 (b.data.toList.map fun x => .s (.int .u8 x.toNat))) else none
      | none => none
  | .nilsl => if tString P dst then (match tElem P src with | some e => if tU8 P e then some (.s (.string ByteArray.empty)) else none | none => none) else none
  | .sl _ sz els =>
    if tString P dst && decide (sz = 1) then
      match tElem P src with
      | some e => if tU8 P e then (bytesOf els).map fun l => .s (.string ⟨l.toArray⟩) else none
      | none => none
    else none
  | _ => none

def bMax (n : Nat) : Option PV → Option (Option Nat)
  | none => some none
  | some v => (asI v).bind fun i => if 0 ≤ i ∧ i ≤ n then some (some i.toNat) else none

def bHigh (n : Nat) (m : Option Nat) : Option PV → Option Nat
  | none => if m.isNone then some n else none
  | some v => (asI v).bind fun i => if 0 ≤ i ∧ i ≤ (m.getD n : Nat) then some i.toNat else none

def bLow (h : Nat) : Option PV → Option Nat
  | none => some 0
  | some v => (asI v).bind fun i => if 0 ≤ i ∧ i ≤ h then some i.toNat else none

/-- The bounds of a slice expression: low, high, and the capacity's end, if it is told. -/
def bounds (n : Nat) (low high max : Option PV) : Option (Nat × Nat × Option Nat) :=
  (bMax n max).bind fun m => (bHigh n m high).bind fun h => (bLow h low).bind fun l => some (l, h, m)

def pSlice (P : Program) (t : TypeId) (x : PV) (low high max : Option PV) : Option PV :=
  match x with
  | .s (.string b) =>
    if tString P t && max.isNone then
      (bounds b.size low high none).map fun (l, h, _) => .s (.string (b.extract l h))
    else none
  | .sl tag sz els =>
    match tElem P t with
    | some e =>
      if tSize P e = some sz then
        (bounds els.length low high max).map fun (l, h, m) =>
          .sl (match m with
              | some m => if m = h then .ex else .sh
              | none => if tag = .ex ∧ h = els.length then .ex else .sh) sz ((els.take h).drop l)
      else none
    | none => none
  | .nilsl =>
    match tElem P t with
    | some e => if (tSize P e).isSome then (bounds 0 low high max).map fun _ => .nilsl else none
    | none => none
  | _ => none

def pFieldAddr (P : Program) (t : TypeId) (x : PV) (f : Nat) : Option PV :=
  match tField P t f with
  | some (off, ft) =>
    match tSize P ft with
    | some (_ + 1) =>
      match x with
      | .ptr b o => some (.ptr b (o + off))
      | .ep el o => some (.ep el (o + off))
      | _ => none
    | _ => none
  | none => none

def pIndexAddr (P : Program) (t : TypeId) (x i : PV) : Option PV :=
  match asI i with
  | some i =>
    match x with
    | .sl _ sz els =>
      match tElem P t with
      | some e => if tSize P e = some sz ∧ 0 ≤ i then (els[i.toNat]?).map fun el => .ep el 0 else none
      | none => none
    | .ptr b o =>
      match tArr P t with
      | some (n, e) => match tSize P e with
        | some sz => if 0 ≤ i ∧ i < n then some (.ptr b (o + i.toNat * sz)) else none
        | none => none
      | none => none
    | .ep el o =>
      match tArr P t with
      | some (n, e) => match tSize P e with
        | some sz => if 0 ≤ i ∧ i < n then some (.ep el (o + i.toNat * sz)) else none
        | none => none
      | none => none
    | _ => none
  | none => none

def pIndex (P : Program) (t : TypeId) (x i : PV) : Option PV :=
  match asI i with
  | some i =>
    match x with
    | .s (.string b) => if tString P t ∧ 0 ≤ i then (b[i.toNat]?).map fun c => .s (.int .u8 c.toNat) else none
    | .agg cs =>
      match tArr P t with
      | some (n, e) => match tSize P e with
        | some sz => if 0 ≤ i ∧ i < n then getPart P e cs (i.toNat * sz) else none
        | none => none
      | none => none
    | _ => none
  | none => none

def pBuild (P : Program) (t : TypeId) (parts : List (Nat × PV)) : Option PV :=
  match tZero P t with
  | some (.agg zero) =>
    match P.underlying t with
    | some (.struct fs) =>
      match fs.toList.mapM fun f => (P.info? f.type).map fun i => (f.offset, i.size) with
      | some places => (fillP (places[·]?) zero parts).map .agg
      | none => none
    | some (.array _ e) =>
      match tSize P e with
      | some sz => (fillP (fun i => some (i * sz, sz)) zero parts).map .agg
      | none => none
    | _ => none
  | _ => none

/-- Each part is a whole element, and they are in their order. -/
def inOrder : Nat → List (Nat × PV) → Bool
  | _, [] => true
  | i, (j, _) :: r => decide (i = j) && inOrder (i + 1) r

def fits (P : Program) (e : TypeId) (sz : Nat) (v : PV) : Bool :=
  decide (v.cells.length = sz) && decide (v.maxRef = 0) && noOw v.cells && decide (tAgg P e = some (match v with | .agg _ => true | _ => false))

def pBuildSlice (P : Program) (t : TypeId) (len : Nat) (parts : List (Nat × PV)) : Option PV :=
  match tElem P t with
  | some e =>
    match tSize P e with
    | some (m + 1) =>
      if parts.length = len ∧ inOrder 0 parts ∧ (parts.all fun p => fits P e (m + 1) p.2) ∧ len * (m + 1) ≤ 16777216 ∧ (tZero P e).isSome then
        some (.sl .ex (m + 1) (parts.map (·.2)))
      else none
    | _ => none
  | none => none

def pLen (P : Program) (t : TypeId) (x : PV) : Option PV :=
  match x with
  | .s (.string b) => if tString P t then some (.s (goInt b.size)) else none
  | .s (.slice _ n _) => if (tElem P t).isSome then some (.s (goInt n)) else none
  | .sl _ _ els => if (tElem P t).isSome then some (.s (goInt els.length)) else none
  | .nilsl => if (tElem P t).isSome then some (.s (goInt 0)) else none
  | .agg _ => (tArr P t).map fun (n, _) => .s (goInt n)
  | _ => none

/-- Is the zero value of a type as long as it says? -/
def zeroOk (P : Program) (e : TypeId) (sz : Nat) : Bool :=
  match (P.info? e).bind (·.zero) with
  | some z => decide (z.cells.size = sz)
  | none => false

/-- The elements that are appended. -/
def newsOf (P : Program) (t u e : TypeId) (sz : Nat) : PV → Option (List PV)
  | .nilsl => if u = t then some [] else none
  | .s (.slice _ 0 _) => if u = t then some [] else none
  | .sl _ sz' els => if sz' = sz ∧ u = t then some els else none
  | .s (.string b) => if tU8 P e ∧ sz = 1 ∧ tString P u then some (b.data.toList.map fun x => .s (.int .u8 x.toNat)) else none
  | _ => none

/-- append; 'x' may be the one that owns its row. -/
def pAppend (P : Program) (t u : TypeId) (x y : PV) : Option PV :=
  match tElem P t with
  | none => none
  | some e =>
    match tSize P e with
    | none => none
    | some sz =>
      match newsOf P t u e sz y with
      | none => none
      | some [] =>
        match x with
        | .nilsl => some .nilsl
        | .sl tag sz' els => if sz' = sz then some (.sl tag sz els) else none
        | _ => none
      | some (n :: ns) =>
        match x with
        | .nilsl => if roomOk P e (ns.length + 1) ∧ zeroOk P e sz then some (.sl .ow sz (n :: ns)) else none
        | .sl tag sz' els =>
          if sz' = sz ∧ tag ≠ .sh ∧ roomOk P e (els.length + (ns.length + 1)) ∧ zeroOk P e sz then some (.sl .ow sz (els ++ n :: ns)) else none
        | _ => none

/-- A builtin that touches nothing. -/
def pBuiltin (P : Program) (b : Builtin) (tys : Array TypeId) (raw : Operand → PV) (ρ : Operand → PV) (args : List Operand) : Option PV :=
  match b, args with
  | .len, [x] => (tys[0]?).bind fun t => pLen P t (ρ x)
  | .append, [x, y] =>
    match tys.toList with
    | [t, u] => pAppend P t u (raw x) (ρ y)
    | _ => none
  | .min, xs => (toVals (xs.map ρ)).bind fun l => (pureRun P (Builtin.min_ tys 0 l.toArray)).map ofVal
  | .max, xs => (toVals (xs.map ρ)).bind fun l => (pureRun P (Builtin.max_ tys 0 l.toArray)).map ofVal
  | _, _ => none

abbrev CallF := FuncId → List PV → Store → Option (PV × Store)

/-- Is a function one with a body, entered as any? -/
def hasBody (P : Program) (f : FuncId) : Bool :=
  match P.funcs[f]? with
  | some fn => fn.body.isSome && (fn.name != "runtime.NumGoroutine")
  | none => false

/-- What an operation that touches no store answers. -/
def inertOp (P : Program) (call : CallF) (ann : FuncId → Ann) (take : Bool) (raw ρ : Operand → PV) : Op → Option PV
  | .move x => some (if take then raw x else ρ x)
  | .assign x => some (raw x)
  | .pick c a b =>
    match ρ c with
    | .s (.bool true) => some (ρ a)
    | .s (.bool false) => some (ρ b)
    | _ => none
  | .build t parts => pBuild P t (parts.toList.map fun p => (p.1, ρ p.2))
  | .buildSlice t n parts => pBuildSlice P t n (parts.toList.map fun p => (p.1, ρ p.2))
  | .load t a =>
    match ρ a with
    | .ep el off => getPart P t el.cells off
    | _ => none
  | .nilCheck x =>
    match ρ x with
    | .ptr b o => some (.ptr b o)
    | .ep el o => some (.ep el o)
    | _ => none
  | .binOp op t x y _ => pBin P op t x y (ρ x) (ρ y)
  | .unOp op _ x => (toVal (ρ x)).bind fun v => (pureRun P (Op.unary op v)).map ofVal
  | .convert s d x => pConvert P s d (ρ x)
  | .makeInterface t x => if tIface P t then none else if (P.underlying t).isSome then some (.ifc t (ρ x)) else none
  | .makeFunc f first cap => some (.fn f (first.toList.map ρ) (cap.toList.map ρ))
  | .slice t x lo hi mx => pSlice P t (ρ x) (lo.map ρ) (hi.map ρ) (mx.map ρ)
  | .fieldAddr t x f => pFieldAddr P t (ρ x) f
  | .field t x f =>
    match ρ x, tField P t f with
    | .agg cs, some (off, ft) => getPart P ft cs off
    | _, _ => none
  | .indexAddr t x i => pIndexAddr P t (ρ x) (ρ i)
  | .index t x i => pIndex P t (ρ x) (ρ i)
  | .extract x i =>
    match ρ x with
    | .tup cs => cs[i]?
    | _ => none
  | .call { callee := .builtin b, args, argTypes } => pBuiltin P b argTypes raw ρ args.toList
  | .call { callee := .value f, args, .. } =>
    match ρ f with
    | .fn (.func g) first cap =>
      if (ann g).pure && hasBody P g then
        let l := first ++ args.toList.map ρ ++ cap
        if PV.maxRefs l = 0 then
          match call g l [] with
          | some (r, []) => if r.maxRef = 0 then some r else none
          | _ => none
        else none
      else none
    | _ => none
  | _ => none

/-- What an operation that only reads the store answers. -/
def readOp (P : Program) (take : Bool) (ρ : Operand → PV) (st : Store) : Op → Option PV
  | .load t a =>
    if take then none else
    match ρ a with
    | .ptr b off =>
      match st[b]? with
      | some (.cells cs) => getPart P t (cs.map PV.dn) off
      | _ => none
    | _ => none
  | _ => none

/-- An operation that turns the store: its answer, and the store behind it. -/
def loudOp (P : Program) (call : CallF) (ann : FuncId → Ann) (base : Nat) (take : Bool) (raw ρ : Operand → PV) (st : Store) : Op → Option (PV × Store)
  | .load t a =>
    if take && decide (tAgg P t = some false) then
      match ρ a with
      | .ptr b off =>
        match st[b]? with
        | some (.cells cs) => (cs[off]?).map fun v => (v, st.set b (.cells (cs.set off v.dn)))
        | _ => none
      | _ => none
    else none
  | .store t a x =>
    match ρ a with
    | .ptr b off =>
      match st[b]? with
      | some (.cells cs) =>
        if (raw x).solid = true ∧ tSize P t = some (raw x).cells.length ∧ off + (raw x).cells.length ≤ cs.length ∧ (base ≤ b ∨ (raw x).maxRef ≤ b + 1) then
          some (.tup [], st.set b (.cells (cs.take off ++ (raw x).cells ++ cs.drop (off + (raw x).cells.length))))
        else none
      | _ => none
    | _ => none
  | .alloc e =>
    match tZero P e with
    | some z => if z.solid then some (.ptr st.length 0, st ++ [.cells z.cells]) else none
    | none => none
  | .box _ x => if (ρ x).solid then some (.ptr st.length 0, st ++ [.cells (ρ x).cells]) else none
  | .call { callee := .value f, args, .. } =>
    match ρ f with
    | .fn (.func g) first cap =>
      if (ann g).pure then none
      else if hasBody P g then call g (first ++ args.toList.map ρ ++ cap) st
      else none
    | _ => none
  | _ => none

inductive Cls where
  | skip | inert | reader | loud
  deriving DecidableEq, Inhabited

/-- Which slot an operation takes the row of, where that owns it. -/
def takes (take : List Nat) (o : Oper) : Option Nat :=
  match o.op with
  | .move (.tmp x) => match o.dst with
    | some d => if take.contains d then some x else none
    | none => none
  | .assign (.tmp x) => some x
  | .store _ _ (.tmp x) => some x
  | .call { callee := .builtin .append, args, .. } =>
    match (args[0]? : Option Operand) with
    | some (.tmp x) => some x
    | _ => none
  | _ => none

def doesTake (take : List Nat) (o : Oper) : Bool :=
  match o.dst with
  | some d => take.contains d
  | none => false

def put (env : Env) (dst : Option Nat) (v : PV) : Env :=
  match dst with
  | some d => (d, v) :: env
  | none => env

/-- The slot that was taken from owns no more. -/
def drop (env : Env) : Option Nat → Env
  | some x => if (lk env x).isOw then (x, (lk env x).dn) :: env else env
  | none => env

/-- What a guard's slot says: what was not done leaves no bool. -/
def wantV (v : PV) (w : Bool) : Option Bool :=
  match v with
  | .s (.bool b) => some (b == w)
  | .tup [] => some false
  | _ => none

/-- Is an operation wanted, by its guard? -/
def wantedP (ops : Array Oper) (env : Env) (o : Oper) : Option Bool :=
  match o.guard with
  | none => some true
  | some (j, want) =>
    match (ops[j]?).bind (·.dst) with
    | some d => wantV (lk env d) want
    | none => none

/-- May the slot be written: it lies in the frame. -/
def dstOk (ntmps : Nat) (dst : Option Nat) : Bool :=
  match dst with
  | some d => decide (d < ntmps)
  | none => true

structure Ctx where
  P : Program
  ann : FuncId → Ann
  call : CallF
  fn : FuncId
  ntmps : Nat
  base : Nat

def pop (C : Ctx) (ops : Array Oper) (o : Oper) (s : PS) : Option (Cls × PS) :=
  if dstOk C.ntmps o.dst then
    match wantedP ops s.env o with
    | none => none
    | some false => some (.skip, { s with env := put s.env o.dst (.tup []) })
    | some true =>
      let tk := doesTake (C.ann C.fn).take o
      let raw := ev s.env
      let ρ := fun x => (ev s.env x).dn
      match inertOp C.P C.call C.ann tk raw ρ o.op with
      | some v => some (.inert, { s with env := put (drop s.env (takes (C.ann C.fn).take o)) o.dst v })
      | none =>
        match readOp C.P tk ρ s.st o.op with
        | some v => some (.reader, { s with env := put s.env o.dst v })
        | none =>
          match loudOp C.P C.call C.ann C.base tk raw ρ s.st o.op with
          | some (v, st) => some (.loud, { env := put (drop s.env (takes (C.ann C.fn).take o)) o.dst v, st })
          | none => none
  else none

/-- A row of operations, by their numbers, with the kind of each. -/
def pops (C : Ctx) (ops : Array Oper) : List Nat → PS → Option (List (Nat × Cls) × PS)
  | [], s => some ([], s)
  | i :: r, s =>
    match ops[i]? with
    | none => none
    | some o =>
      match pop C ops o s with
      | none => none
      | some (c, s1) =>
        match pops C ops r s1 with
        | none => none
        | some (cs, s2) => some ((i, c) :: cs, s2)

/-- What an operation looks at and writes: its operands' slots and its guard's, its own slot. -/
def looksAt (ops : Array Oper) (o : Oper) : List Tmp :=
  (match o.guard with
   | some (g, _) => ((ops[g]?).bind (·.dst)).toList
   | none => []) ++
  o.op.operands.toList.filterMap fun | .tmp t => some t | _ => none

def apart (ops : Array Oper) (x y : Oper) : Bool :=
  (match x.dst with
   | some d => !(looksAt ops y).contains d && y.dst != some d
   | none => true) &&
  (match y.dst with
   | some d => !(looksAt ops x).contains d
   | none => true)

/-- May two operations, of these kinds, be done in either order? -/
def free (take : List Nat) (ops : Array Oper) (i j : Nat × Cls) : Bool :=
  match ops[i.1]?, ops[j.1]? with
  | some x, some y =>
    (match i.2, j.2 with
    | .loud, .reader => false
    | .loud, .loud => false
    | .reader, .loud => false
    | _, _ => true) &&
    (match takes take x, takes take y with
    | some a, some b => a != b
    | _, _ => true) && apart ops x y
  | _, _ => false

/-- Each two operations stand in an order, or may be done in either. -/
def orderOk (take : List Nat) (ops : Array Oper) (cs : List (Nat × Cls)) : Bool :=
  let b := Region.before ops
  cs.all fun i => cs.all fun j =>
    decide (j.1 ≤ i.1) || (b.getD j.1 0).testBit i.1 || free take ops i j

/-- Each operation comes behind those that it waits for. -/
def edgesDown (ops : Array Oper) : Bool :=
  (List.range ops.size).all fun i => match ops[i]? with
    | some o => o.after.all fun e => !Region.binds .any e || decide (e.on < i)
    | none => true

def drawOk (C : Ctx) (ops : Array Oper) (cs : List (Nat × Cls)) : Bool :=
  (C.P.follows .mixedOrders || !Region.departs ops) && edgesDown ops && orderOk (C.ann C.fn).take ops cs

def restrict (keep : List Nat) (env : Env) : Env := keep.map fun k => (k, lk env k)

def pregion (C : Ctx) (ops : Array Oper) (draw : Bool) (s : PS) : Option PS :=
  match pops C ops (List.range ops.size) s with
  | none => none
  | some (cs, s1) =>
    if draw && !drawOk C ops cs then none
    else some { s1 with env := restrict (C.ann C.fn).keep s1.env }

inductive PX where
  | normal
  | exit (id : Nat)
  | ret
  deriving Inhabited

def ploop (f : PS → Option (PX × PS)) : Nat → PS → Option (PX × PS)
  | 0, _ => none
  | n + 1, s =>
    match f s with
    | some (.normal, s1) => ploop f n s1
    | r => r

def pcode (C : Ctx) (fuel : Nat) : Code → PS → Option (PX × PS)
  | .skip, s => some (.normal, s)
  | .region _ ops draw, s => (pregion C ops draw s).map fun s1 => (.normal, s1)
  | .seq a b, s =>
    match pcode C fuel a s with
    | some (.normal, s1) => pcode C fuel b s1
    | r => r
  | .cond c x y, s =>
    match ev s.env c with
    | .s (.bool true) => pcode C fuel x s
    | .s (.bool false) => pcode C fuel y s
    | _ => none
  | .block id b, s =>
    match pcode C fuel b s with
    | some (.exit j, s1) => if j = id then some (.normal, s1) else some (.exit j, s1)
    | r => r
  | .loop b, s => ploop (pcode C fuel b) fuel s
  | .exit id, s => some (.exit id, s)
  | .ret, s => some (.ret, s)
  | _, _ => none

def resultOf (P : Program) (s : PS) : ResultVar → Option PV
  | .tmp t => some (lk s.env t)
  | .cell a t =>
    match lk s.env a with
    | .ptr b off =>
      match s.st[b]? with
      | some (.cells cs) => getPart P t (cs.map PV.dn) off
      | _ => none
    | _ => none

def resultsOf (P : Program) (fn : Func) (s : PS) : Option PV :=
  match fn.results.toList with
  | [r] => resultOf P s r
  | rs => (rs.mapM (resultOf P s)).map fun l => .tup (l.map PV.dn)

/-- The store behind a call: what was made within is gone, where nothing names it. -/
def settle (st : Store) (r : PV) (st1 : Store) : PV × Store :=
  if r.maxRef ≤ st.length then (r, st1.take st.length) else (r, st1)

def params (args : List PV) : Env := args.zipIdx.map fun p => (p.2, p.1)

/-- A summary of a function: what it answers, told from elsewhere. -/
abbrev Sums := FuncId → Option (List PV → Store → Option (PV × Store))

def pcall (P : Program) (ann : FuncId → Ann) (sums : Sums) : Nat → CallF
  | 0, _, _, _ => none
  | k + 1, f, args, st =>
    match sums f with
    | some g => g args st
    | none =>
      match P.funcs[f]? with
      | none => none
      | some fn =>
        match fn.body with
        | none => none
        | some c =>
          if args.length ≤ fn.ntmps then
            match pcode { P, ann, call := pcall P ann sums k, fn := f, ntmps := fn.ntmps, base := st.length } k c { env := params args, st } with
            | some (.normal, s) => (resultsOf P fn s).map fun r => settle st r s.st
            | some (.ret, s) => (resultsOf P fn s).map fun r => settle st r s.st
            | _ => none
          else none

end Go.Proofs.Ytfmelnhlljgooaa.PE
