/-
  PE, part 1: a pure evaluator over the model's Code, by definition. Values of slices are lists, structs are lists of cells; only variables whose address is taken lie in a store of boxes. No address, no tape, no order.
  What it answers is shown (parts 2 to 4) to be what the model does, on every tape. Holds for every Program; no condition.
-/
import Derived.Calls
import GoSem.ClaimData
import Derived.Laws.Sem
set_option linter.unusedSimpArgs false
set_option linter.unusedVariables false
namespace Go.Proofs.YtnjlkgmcoengnaaGreat.PE
open Go

/-- sh: shared (never appended to in place); ex: its capacity is its length; ow: the one that may be appended to in place. -/
inductive Tag where
  | sh | ex | ow
  deriving DecidableEq, Inhabited

inductive PV where
  | junk
  | s (v : Value)
  | agg (cs : List PV)
  | tup (cs : List PV)
  | nilsl
  | sl (t : Tag) (sz : Nat) (els : List PV)
  /-- a slice over a box: where it begins, how many elements it has, and may have, of how many cells -/
  | vs (b off n cap sz : Nat)
  | ptr (b off : Nat)
  | ep (el : PV) (off : Nat)
  | fn (f : Fn) (first cap : List PV)
  | mp (b : Nat)
  | ifc (t : TypeId) (v : PV)
  deriving Inhabited

/-- The cells that a value takes up. -/
def PV.cells : PV → List PV
  | .agg cs => cs
  | .junk => []
  | .tup _ => []
  | .s v => if v.oneCell' then [.s v] else []
  | v => [v]

/-- Is it a value that a variable may hold? -/
def PV.solid : PV → Bool
  | .junk => false
  | .tup _ => false
  | .s v => v.oneCell'
  | _ => true

def PV.dn : PV → PV
  | .sl .ow sz els => .sl .sh sz els
  | v => v

def PV.isOw : PV → Bool
  | .sl .ow _ _ => true
  | _ => false

mutual
/-- One more than the highest box that it names; 0: it names none. -/
def PV.maxRef : PV → Nat
  | .ptr b _ => b + 1
  | .vs b _ _ _ _ => b + 1
  | .mp b => b + 1
  | .agg cs => PV.maxRefs cs
  | .tup cs => PV.maxRefs cs
  | .fn _ fs cs => max (PV.maxRefs fs) (PV.maxRefs cs)
  | .ifc _ v => PV.maxRef v
  | .ep _ _ => 0
  | .sl _ _ _ => 0
  | .s _ => 0
  | .nilsl => 0
  | .junk => 0
def PV.maxRefs : List PV → Nat
  | [] => 0
  | c :: r => max (PV.maxRef c) (PV.maxRefs r)
end

def cellOf : Value → PV
  | .slice none 0 0 => .nilsl
  | v => .s v

def ofVal : Value → PV
  | .agg cs => if cs.toList.all (·.oneCell') then .agg (cs.toList.map cellOf) else .junk
  | .tuple cs => .tup (cs.toList.map cellOf)
  | v => cellOf v

mutual
/-- The value itself, where it holds no memory. -/
def toVal : PV → Option Value
  | .s v => some v
  | .nilsl => some (.slice none 0 0)
  | .agg cs => (toVals cs).map fun l => .agg l.toArray
  | .ifc t v => (toVal v).map fun x => .iface t x
  | .junk => none
  | .tup _ => none
  | .sl _ _ _ => none
  | .vs _ _ _ _ _ => none
  | .ptr _ _ => none
  | .ep _ _ => none
  | .fn _ _ _ => none
  | .mp _ => none
def toVals : List PV → Option (List Value)
  | [] => some []
  | c :: r => (toVal c).bind fun v => (toVals r).map fun l => v :: l
end

inductive PBox where
  | cells (cs : List PV)
  | map (es : List (ByteArray × PV))
  /-- named no more: what it was may be another box's now, or no one's -/
  | dead
  deriving Inhabited

abbrev Store := List PBox
abbrev Env := List (Nat × PV)

def lk : Env → Nat → PV
  | [], _ => .junk
  | (k, v) :: r, i => if k = i then v else lk r i

structure PS where
  env : Env
  st : Store
  deriving Inhabited

/-- What is known ahead of a function, as a hint: is it called with no boxes; which slots live from statement to statement; which slots take what they are moved from. -/
structure Ann where
  pure : Bool
  keep : List Nat
  take : List Nat
  boxes : List Nat := []
  fz : Bool := false
  dyn : List Nat := []
  deriving Inhabited

/-- A computation of the model that touches no memory, run. -/
def pureRun {α : Type} (P : Program) : Sem α → Option α
  | .pure a => some a
  | .program k => pureRun P (k P)
  | _ => none

def ev (env : Env) : Operand → PV
  | .tmp t => lk env t
  | .const v => ofVal v
  | .global g => .s (.pointer (some ⟨g, 0, none⟩))
  | .func f => .fn (.func f) [] []

def tAgg (P : Program) (t : TypeId) : Option Bool :=
  match P.underlying t with
  | some (.struct _) => some true
  | some (.array _ _) => some true
  | some _ => some false
  | none => none

def tSize (P : Program) (t : TypeId) : Option Nat := (P.info? t).map (·.size)

def tElem (P : Program) (t : TypeId) : Option TypeId :=
  match P.underlying t with
  | some (.slice e) => some e
  | _ => none

def tArr (P : Program) (t : TypeId) : Option (Nat × TypeId) :=
  match P.underlying t with
  | some (.array n e) => some (n, e)
  | _ => none

def tField (P : Program) (t : TypeId) (f : Nat) : Option (Nat × TypeId) :=
  match P.underlying t with
  | some (.struct fs) => (fs[f]?).map fun x => (x.offset, x.type)
  | _ => none

/-- The type of a map's values, where its keys are strings. -/
def tMapS (P : Program) (t : TypeId) : Option TypeId :=
  match P.underlying t with
  | some (.map k e) => match P.underlying k with
    | some .string => some e
    | _ => none
  | _ => none

def tString (P : Program) (t : TypeId) : Bool :=
  match P.underlying t with
  | some .string => true
  | _ => false

def tU8 (P : Program) (t : TypeId) : Bool :=
  match P.underlying t with
  | some (.int .u8) => true
  | _ => false

def tIface (P : Program) (t : TypeId) : Bool :=
  match P.underlying t with
  | some (.interface _) => true
  | _ => false

def tZero (P : Program) (t : TypeId) : Option PV := ((P.info? t).bind (·.zero)).map ofVal

def asI : PV → Option Int
  | .s (.int _ n) => some n
  | _ => none

/-- The part of a row of cells that a variable of a type is. -/
def getPart (P : Program) (t : TypeId) (cs : List PV) (off : Nat) : Option PV :=
  match tAgg P t with
  | some true =>
    match tSize P t with
    | some n => if off + n ≤ cs.length then some (.agg ((cs.drop off).take n)) else none
    | none => none
  | some false => cs[off]?
  | none => none

/-- Parts laid into a row of cells. -/
def fillP (place : Nat → Option (Nat × Nat)) (cells : List PV) : List (Nat × PV) → Option (List PV)
  | [] => some cells
  | (i, v) :: rest =>
    match place i with
    | none => none
    | some (off, size) =>
      if v.solid = false ∨ v.cells.length ≠ size ∨ off + v.cells.length > cells.length then none
      else fillP place (cells.take off ++ v.cells ++ cells.drop (off + v.cells.length)) rest

def noOw (l : List PV) : Bool := l.all fun c => !c.isOw

def isAssign : Op → Bool
  | .assign _ => true
  | _ => false

/-- A row of cells cut into elements of a size. -/
def chunks (sz : Nat) (agg : Bool) : Nat → List PV → List PV
  | 0, _ => []
  | n + 1, l => (if agg then .agg (l.take sz) else l.headD .junk) :: chunks sz agg n (l.drop sz)

def bytesOf : List PV → Option (List UInt8)
  | [] => some []
  | .s (.int .u8 n) :: r => (bytesOf r).map fun l => UInt8.ofNat n.toNat :: l
  | _ => none

def roomOk (P : Program) (e : TypeId) (n : Nat) : Bool :=
  match P.info? e with
  | some i => decide (n * i.bytes ≤ 140737488355328 ∧ n ≤ maxLen)
  | none => false

def pEq (P : Program) (op : BinOp) (t : TypeId) (ox oy : Operand) (x y : PV) : Option PV :=
  match toVal x, toVal y with
  | some a, some b => (pureRun P (do eqGuard op t ox oy a b; binOp op t a b)).map ofVal
  | _, _ => none

def pBin (P : Program) (op : BinOp) (t : TypeId) (ox oy : Operand) (x y : PV) : Option PV :=
  match op, x, y with
  | .eql, .sl _ _ _, .nilsl => if (tElem P t).isSome then some (.s (.bool false)) else none
  | .neq, .sl _ _ _, .nilsl => if (tElem P t).isSome then some (.s (.bool true)) else none
  | .eql, .vs _ _ _ _ _, .nilsl => if (tElem P t).isSome then some (.s (.bool false)) else none
  | .neq, .vs _ _ _ _ _, .nilsl => if (tElem P t).isSome then some (.s (.bool true)) else none
  | _, _, _ => pEq P op t ox oy x y

def pConvert (P : Program) (src dst : TypeId) (x : PV) : Option PV :=
  match x with
  | .s (.int k n) => (pureRun P (convert src dst (.int k n))).map ofVal
  | .s (.string b) =>
    if tString P dst && tString P src then some (.s (.string b))
    else match tElem P dst with
      | some e => if tU8 P e && tString P src && decide (b.size ≤ maxLen) then some (.sl .sh 1 (b.data.toList.map fun x => .s (.int .u8 x.toNat))) else none
      | none => none
  | .nilsl => if tString P dst then (match tElem P src with | some e => if tU8 P e then some (.s (.string ByteArray.empty)) else none | none => none) else none
  | .sl _ sz els =>
    if tString P dst && decide (sz = 1) then
      match tElem P src with
      | some e => if tU8 P e then (bytesOf els).map fun l => .s (.string ⟨l.toArray⟩) else none
      | none => none
    else none
  | _ => none

def bMax (n : Nat) : Option PV → Option (Option Nat)
  | none => some none
  | some v => (asI v).bind fun i => if 0 ≤ i ∧ i ≤ n then some (some i.toNat) else none

def bHigh (n : Nat) (m : Option Nat) : Option PV → Option Nat
  | none => if m.isNone then some n else none
  | some v => (asI v).bind fun i => if 0 ≤ i ∧ i ≤ (m.getD n : Nat) then some i.toNat else none

def bLow (h : Nat) : Option PV → Option Nat
  | none => some 0
  | some v => (asI v).bind fun i => if 0 ≤ i ∧ i ≤ h then some i.toNat else none

/-- The bounds of a slice expression: low, high, and the capacity's end, if it is told. -/
def bounds (n : Nat) (low high max : Option PV) : Option (Nat × Nat × Option Nat) :=
  (bMax n max).bind fun m => (bHigh n m high).bind fun h => (bLow h low).bind fun l => some (l, h, m)

/-- The same of a slice over a box, of so many elements that it has and may have. -/
def boundsC (n c : Nat) (low high max : Option PV) : Option (Nat × Nat × Nat) :=
  (match max with
   | none => some c
   | some v => (asI v).bind fun i => if 0 ≤ i ∧ i ≤ c then some i.toNat else none).bind fun m =>
  (match high with
   | none => if max.isNone ∧ n ≤ m then some n else none
   | some v => (asI v).bind fun i => if 0 ≤ i ∧ i ≤ m then some i.toNat else none).bind fun h =>
  (bLow h low).bind fun l => some (l, h, m)

def pSlice (P : Program) (t : TypeId) (x : PV) (low high max : Option PV) : Option PV :=
  match x with
  | .s (.string b) =>
    if tString P t && max.isNone then
      (bounds b.size low high none).map fun (l, h, _) => .s (.string (b.extract l h))
    else none
  | .sl tag sz els =>
    match tElem P t with
    | some e =>
      if tSize P e = some sz then
        (bounds els.length low high max).map fun (l, h, m) =>
          .sl (match m with
              | some m => if m = h then .ex else .sh
              | none => if tag = .ex ∧ h = els.length then .ex else .sh) sz ((els.take h).drop l)
      else none
    | none => none
  | .nilsl =>
    match tElem P t with
    | some e => if (tSize P e).isSome then (bounds 0 low high max).map fun _ => .nilsl else none
    | none => none
  | .vs b off n c sz =>
    match tElem P t with
    | some e =>
      if tSize P e = some sz then
        (boundsC n c low high max).map fun (l, h, m) => .vs b (off + l * sz) (h - l) (m - l) sz
      else none
    | none => none
  | _ => none

def pFieldAddr (P : Program) (t : TypeId) (x : PV) (f : Nat) : Option PV :=
  match tField P t f with
  | some (off, ft) =>
    match tSize P ft with
    | some (_ + 1) =>
      match x with
      | .ptr b o => some (.ptr b (o + off))
      | .ep el o => some (.ep el (o + off))
      | _ => none
    | _ => none
  | none => none

def pIndexAddr (P : Program) (t : TypeId) (x i : PV) : Option PV :=
  match asI i with
  | some i =>
    match x with
    | .sl _ sz els =>
      match tElem P t with
      | some e => if tSize P e = some sz ∧ 0 ≤ i then (els[i.toNat]?).map fun el => .ep el 0 else none
      | none => none
    | .vs b off n _ sz =>
      match tElem P t with
      | some e => if tSize P e = some sz ∧ 0 ≤ i ∧ i < n then some (.ptr b (off + i.toNat * sz)) else none
      | none => none
    | .ptr b o =>
      match tArr P t with
      | some (n, e) => match tSize P e with
        | some sz => if 0 ≤ i ∧ i < n then some (.ptr b (o + i.toNat * sz)) else none
        | none => none
      | none => none
    | .ep el o =>
      match tArr P t with
      | some (n, e) => match tSize P e with
        | some sz => if 0 ≤ i ∧ i < n then some (.ep el (o + i.toNat * sz)) else none
        | none => none
      | none => none
    | _ => none
  | none => none

def pIndex (P : Program) (t : TypeId) (x i : PV) : Option PV :=
  match asI i with
  | some i =>
    match x with
    | .s (.string b) => if tString P t ∧ 0 ≤ i then (b[i.toNat]?).map fun c => .s (.int .u8 c.toNat) else none
    | .agg cs =>
      match tArr P t with
      | some (n, e) => match tSize P e with
        | some sz => if 0 ≤ i ∧ i < n then getPart P e cs (i.toNat * sz) else none
        | none => none
      | none => none
    | _ => none
  | none => none

def pBuild (P : Program) (t : TypeId) (parts : List (Nat × PV)) : Option PV :=
  match tZero P t with
  | some (.agg zero) =>
    match P.underlying t with
    | some (.struct fs) =>
      match fs.toList.mapM fun f => (P.info? f.type).map fun i => (f.offset, i.size) with
      | some places => (fillP (places[·]?) zero parts).map .agg
      | none => none
    | some (.array _ e) =>
      match tSize P e with
      | some sz => (fillP (fun i => some (i * sz, sz)) zero parts).map .agg
      | none => none
    | _ => none
  | _ => none

/-- Each part is a whole element, and they are in their order. -/
def inOrder : Nat → List (Nat × PV) → Bool
  | _, [] => true
  | i, (j, _) :: r => decide (i = j) && inOrder (i + 1) r

def fits (P : Program) (e : TypeId) (sz : Nat) (v : PV) : Bool :=
  decide (v.cells.length = sz) && decide (v.maxRef = 0) && noOw v.cells && decide (tAgg P e = some (match v with | .agg _ => true | _ => false))

def pBuildSlice (P : Program) (t : TypeId) (len : Nat) (parts : List (Nat × PV)) : Option PV :=
  match tElem P t with
  | some e =>
    match tSize P e with
    | some (m + 1) =>
      if parts.length = len ∧ inOrder 0 parts ∧ (parts.all fun p => fits P e (m + 1) p.2) ∧ len * (m + 1) ≤ 16777216 ∧ (tZero P e).isSome then
        some (.sl .ex (m + 1) (parts.map (·.2)))
      else none
    | _ => none
  | none => none

def pLen (P : Program) (t : TypeId) (x : PV) : Option PV :=
  match x with
  | .s (.string b) => if tString P t then some (.s (goInt b.size)) else none
  | .s (.slice _ n _) => if (tElem P t).isSome then some (.s (goInt n)) else none
  | .sl _ _ els => if (tElem P t).isSome then some (.s (goInt els.length)) else none
  | .nilsl => if (tElem P t).isSome then some (.s (goInt 0)) else none
  | .vs _ _ n _ _ => if (tElem P t).isSome then some (.s (goInt n)) else none
  | .agg _ => (tArr P t).map fun (n, _) => .s (goInt n)
  | _ => none

/-- Is the zero value of a type as long as it says? -/
def zeroOk (P : Program) (e : TypeId) (sz : Nat) : Bool :=
  match (P.info? e).bind (·.zero) with
  | some z => decide (z.cells.size = sz)
  | none => false

/-- The elements that are appended. -/
def newsOf (P : Program) (t u e : TypeId) (sz : Nat) : PV → Option (List PV)
  | .nilsl => if u = t then some [] else none
  | .s (.slice _ 0 _) => if u = t then some [] else none
  | .sl _ sz' els => if sz' = sz ∧ u = t then some els else none
  | .s (.string b) => if tU8 P e ∧ sz = 1 ∧ tString P u then some (b.data.toList.map fun x => .s (.int .u8 x.toNat)) else none
  | _ => none

/-- append; 'x' may be the one that owns its row. -/
def pAppend (P : Program) (t u : TypeId) (x y : PV) : Option PV :=
  match tElem P t with
  | none => none
  | some e =>
    match tSize P e with
    | none => none
    | some sz =>
      match newsOf P t u e sz y with
      | none => none
      | some [] =>
        match x with
        | .nilsl => some .nilsl
        | .sl tag sz' els => if sz' = sz then some (.sl tag sz els) else none
        | _ => none
      | some (n :: ns) =>
        match x with
        | .nilsl => if roomOk P e (ns.length + 1) ∧ zeroOk P e sz then some (.sl .ow sz (n :: ns)) else none
        | .sl tag sz' els =>
          if sz' = sz ∧ tag ≠ .sh ∧ roomOk P e (els.length + (ns.length + 1)) ∧ zeroOk P e sz then some (.sl .ow sz (els ++ n :: ns)) else none
        | _ => none

/-- What is copied, or appended: how many elements, and their cells. -/
def srcCells (P : Program) (t u e : TypeId) (sz : Nat) (st : Store) (y : PV) : Option (Nat × List PV) :=
  match y with
  | .vs b off n _ sz' =>
    if sz' = sz ∧ u = t then
      match st[b]? with
      | some (.cells cs) => if off + n * sz ≤ cs.length then some (n, ((cs.drop off).take (n * sz)).map PV.dn) else none
      | _ => none
    else none
  | y => (newsOf P t u e sz y).map fun l => (l.length, l.flatMap PV.cells)

/-- Cells laid over others. -/
def wr (cs : List PV) (off : Nat) (news : List PV) : List PV := cs.take off ++ news ++ cs.drop (off + news.length)

/-- append that makes a box: what it was appended to is named no more. -/
def pAppendB (P : Program) (t u : TypeId) (x y : PV) (st : Store) : Option (PV × Store) :=
  match tElem P t with
  | none => none
  | some e =>
    match tSize P e with
    | none => none
    | some sz =>
      match srcCells P t u e sz st y with
      | none => none
      | some (0, _) =>
        match x with
        | .nilsl => some (.nilsl, st)
        | .vs b off n c sz' => if sz' = sz then some (.vs b off n c sz', st) else none
        | _ => none
      | some (k + 1, news) =>
        match x with
        | .nilsl => if roomOk P e (k + 1) ∧ zeroOk P e sz then some (.vs st.length 0 (k + 1) (k + 1) sz, st ++ [.cells news]) else none
        | .sl .ex sz' els => if sz' = sz ∧ roomOk P e (els.length + (k + 1)) ∧ zeroOk P e sz then
            some (.vs st.length 0 (els.length + (k + 1)) (els.length + (k + 1)) sz, st ++ [.cells (els.flatMap PV.cells ++ news)]) else none
        | .vs b 0 n _ sz' =>
          match st[b]? with
          | some (.cells cs) =>
            if sz' = sz ∧ 0 < n ∧ n * sz ≤ cs.length ∧ roomOk P e (n + (k + 1)) ∧ zeroOk P e sz then
              some (.vs st.length 0 (n + (k + 1)) (n + (k + 1)) sz, st.set b .dead ++ [.cells ((cs.take (n * sz)).map PV.dn ++ news)])
            else none
          | _ => none
        | _ => none

/-- copy into a box. -/
def pCopyB (P : Program) (t u : TypeId) (x y : PV) (st : Store) : Option (PV × Store) :=
  match tElem P t with
  | none => none
  | some e =>
    match tSize P e with
    | none => none
    | some sz =>
      match srcCells P t u e sz st y with
      | none => none
      | some (k, news) =>
        match x with
        | .vs b off n _ sz' =>
          match st[b]? with
          | some (.cells cs) =>
            if sz' = sz ∧ k ≤ n ∧ off + n * sz ≤ cs.length ∧ PV.maxRefs news = 0 then
              some (.s (goInt k), st.set b (.cells (wr cs off news)))
            else none
          | _ => none
        | _ => none

/-- The zero cells of a type. -/
def zeroCs (P : Program) (e : TypeId) (sz : Nat) : Option (List PV) :=
  match tZero P e with
  | some z => if z.cells.length = sz ∧ sz ≠ 0 ∧ z.solid = true ∧ PV.maxRefs z.cells = 0 then some z.cells else none
  | none => none

/-- clear of a box's part. -/
def pClearB (P : Program) (t : TypeId) (x : PV) (st : Store) : Option (PV × Store) :=
  match tElem P t with
  | none => none
  | some e =>
    match tSize P e with
    | none => none
    | some sz =>
      match zeroCs P e sz, x with
      | some zc, .vs b off n _ sz' =>
        match st[b]? with
        | some (.cells cs) => if sz' = sz ∧ off + n * sz ≤ cs.length then some (.tup [], st.set b (.cells (wr cs off (List.replicate n zc).flatten))) else none
        | _ => none
      | _, .nilsl => some (.tup [], st)
      | _, _ => none

/-- make of a slice. -/
def pMakeB (P : Program) (t : TypeId) (x y : PV) (st : Store) : Option (PV × Store) :=
  match tElem P t with
  | none => none
  | some e =>
    match tSize P e with
    | none => none
    | some sz =>
      match zeroCs P e sz, asI x, asI y with
      | some zc, some n, some c =>
        if 0 ≤ n ∧ n ≤ c ∧ roomOk P e c.toNat then
          some (.vs st.length 0 n.toNat c.toNat sz, st ++ [.cells (List.replicate c.toNat zc).flatten])
        else none
      | _, _, _ => none

/-- A value of just one cell. -/
def PV.isCell : PV → Bool
  | .agg _ => false
  | v => v.solid

def elOf : List PV → PV
  | [c] => if c.isCell then c else .agg [c]
  | cs => .agg cs

/-- make of a slice that nobody will write: its elements. -/
def pMakeF (P : Program) (t : TypeId) (x y : PV) : Option PV :=
  match tElem P t with
  | none => none
  | some e =>
    match tSize P e with
    | none => none
    | some sz =>
      match zeroCs P e sz, asI x, asI y with
      | some zc, some n, some c =>
        if 0 ≤ n ∧ n ≤ c ∧ roomOk P e c.toNat then some (.sl (if n = c then .ex else .sh) sz (List.replicate n.toNat (elOf zc))) else none
      | _, _, _ => none

/-- A builtin that touches nothing. -/
def pBuiltin (P : Program) (b : Builtin) (tys : Array TypeId) (raw : Operand → PV) (ρ : Operand → PV) (args : List Operand) : Option PV :=
  match b, args with
  | .len, [x] => (tys[0]?).bind fun t => pLen P t (ρ x)
  | .append, [x, y] =>
    match tys.toList with
    | [t, u] => pAppend P t u (raw x) (ρ y)
    | _ => none
  | .min, xs => (toVals (xs.map ρ)).bind fun l => (pureRun P (Builtin.min_ tys 0 l.toArray)).map ofVal
  | .max, xs => (toVals (xs.map ρ)).bind fun l => (pureRun P (Builtin.max_ tys 0 l.toArray)).map ofVal
  | _, _ => none

def pFind (key : ByteArray) : List (ByteArray × PV) → Option PV
  | [] => none
  | (k, v) :: r => if key == k then some v else pFind key r

/-- A new key with a value that names no box. -/
def pInsert (P : Program) (t : TypeId) (m k x : PV) (st : Store) : Option (PV × Store) :=
  match m, k with
  | .mp b, .s (.string key) =>
    match st[b]? with
    | some (.map es) => if (tMapS P t).isSome ∧ (pFind key es).isNone ∧ x.maxRef = 0 then some (.tup [], st.set b (.map (es ++ [(key, x)]))) else none
    | _ => none
  | _, _ => none

def pLookup (P : Program) (t : TypeId) (ok : Bool) (m k : PV) (st : Store) : Option PV :=
  match m, k with
  | .mp b, .s (.string key) =>
    match st[b]?, tMapS P t with
    | some (.map es), some e =>
      match pFind key es with
      | some v => some (if ok then .tup [v, .s (.bool true)] else v)
      | none => (tZero P e).map fun z => if ok then .tup [z, .s (.bool false)] else z
    | _, _ => none
  | _, _ => none

abbrev CallF := FuncId → List PV → Store → Option (PV × Store)

/-- Is a function one with a body, entered as any? -/
def hasBody (P : Program) (f : FuncId) : Bool :=
  match P.funcs[f]? with
  | some fn => fn.body.isSome && (fn.name != "runtime.NumGoroutine")
  | none => false

/-- What an operation that touches no store answers. -/
def inertOp (P : Program) (call : CallF) (ann : FuncId → Ann) (take : Bool) (raw ρ : Operand → PV) : Op → Option PV
  | .move x => some (if take then raw x else ρ x)
  | .assign x => some (raw x)
  | .pick c a b =>
    match ρ c with
    | .s (.bool true) => some (ρ a)
    | .s (.bool false) => some (ρ b)
    | _ => none
  | .build t parts => pBuild P t (parts.toList.map fun p => (p.1, ρ p.2))
  | .buildSlice t n parts => pBuildSlice P t n (parts.toList.map fun p => (p.1, ρ p.2))
  | .load t a =>
    match ρ a with
    | .ep el off => getPart P t el.cells off
    | _ => none
  | .nilCheck x =>
    match ρ x with
    | .ptr b o => some (.ptr b o)
    | .ep el o => some (.ep el o)
    | _ => none
  | .binOp op t x y _ => pBin P op t x y (ρ x) (ρ y)
  | .unOp op _ x => (toVal (ρ x)).bind fun v => (pureRun P (Op.unary op v)).map ofVal
  | .convert s d x => pConvert P s d (ρ x)
  | .makeInterface t x => if tIface P t then none else if (P.underlying t).isSome then some (.ifc t (ρ x)) else none
  | .makeFunc f first cap => some (.fn f (first.toList.map ρ) (cap.toList.map ρ))
  | .slice t x lo hi mx => pSlice P t (ρ x) (lo.map ρ) (hi.map ρ) (mx.map ρ)
  | .fieldAddr t x f => pFieldAddr P t (ρ x) f
  | .field t x f =>
    match ρ x, tField P t f with
    | .agg cs, some (off, ft) => getPart P ft cs off
    | _, _ => none
  | .indexAddr t x i => pIndexAddr P t (ρ x) (ρ i)
  | .index t x i => pIndex P t (ρ x) (ρ i)
  | .extract x i =>
    match ρ x with
    | .tup cs => cs[i]?
    | _ => none
  | .makeSlice t n c => pMakeF P t (ρ n) (ρ c)
  | .call { callee := .builtin b, args, argTypes } => pBuiltin P b argTypes raw ρ args.toList
  | .call { callee := .value f, args, .. } =>
    match ρ f with
    | .fn (.func g) first cap =>
      if (ann g).pure && hasBody P g then
        let l := first ++ args.toList.map ρ ++ cap
        if PV.maxRefs l = 0 then
          match call g l [] with
          | some (r, []) => if r.maxRef = 0 then some r else none
          | _ => none
        else none
      else none
    | _ => none
  | _ => none

/-- What an operation that only reads the store answers. -/
def readOp (P : Program) (take : Bool) (ρ : Operand → PV) (st : Store) : Op → Option PV
  | .load t a =>
    if take then none else
    match ρ a with
    | .ptr b off =>
      match st[b]? with
      | some (.cells cs) => getPart P t (cs.map PV.dn) off
      | _ => none
    | _ => none
  | .slice t x none none none =>
    match ρ x, tArr P t with
    | .ptr b off, some (n, e) =>
      match st[b]?, tSize P e with
      | some (.cells cs), some sz => if off + n * sz ≤ cs.length ∧ n ≤ maxLen then some (.vs b off n n sz) else none
      | _, _ => none
    | _, _ => none
  | .lookup t x i ok => pLookup P t ok (ρ x) (ρ i) st
  | _ => none

/-- An operation that turns the store: its answer, and the store behind it. -/
def loudOp (P : Program) (call : CallF) (ann : FuncId → Ann) (base : Nat) (bx take : Bool) (raw ρ : Operand → PV) (st : Store) : Op → Option (PV × Store)
  | .load t a =>
    if take && decide (tAgg P t = some false) then
      match ρ a with
      | .ptr b off =>
        match st[b]? with
        | some (.cells cs) => (cs[off]?).map fun v => (v, st.set b (.cells (cs.set off v.dn)))
        | _ => none
      | _ => none
    else none
  | .store t a x =>
    match ρ a with
    | .ptr b off =>
      match st[b]? with
      | some (.cells cs) =>
        if (raw x).solid = true ∧ tSize P t = some (raw x).cells.length ∧ off + (raw x).cells.length ≤ cs.length ∧ (base ≤ b ∨ (raw x).maxRef ≤ b + 1) then
          some (.tup [], st.set b (.cells (cs.take off ++ (raw x).cells ++ cs.drop (off + (raw x).cells.length))))
        else none
      | _ => none
    | _ => none
  | .alloc e =>
    match tZero P e with
    | some z => if z.solid then some (.ptr st.length 0, st ++ [.cells z.cells]) else none
    | none => none
  | .box _ x => if (ρ x).solid then some (.ptr st.length 0, st ++ [.cells (ρ x).cells]) else none
  | .makeSlice t n c => if bx then pMakeB P t (ρ n) (ρ c) st else none
  | .makeMap _ none => some (.mp st.length, st ++ [.map []])
  | .insert t m k x => pInsert P t (ρ m) (ρ k) (ρ x) st
  | .call { callee := .builtin .append, args, argTypes } =>
    if bx then
      match args.toList, argTypes.toList with
      | [x, y], [t, u] => pAppendB P t u (ρ x) (ρ y) st
      | _, _ => none
    else none
  | .call { callee := .builtin .copy, args, argTypes } =>
    match args.toList, argTypes.toList with
    | [x, y], [t, u] => pCopyB P t u (ρ x) (ρ y) st
    | _, _ => none
  | .call { callee := .builtin .clear, args, argTypes } =>
    match args.toList, argTypes.toList with
    | [x], [t] => pClearB P t (ρ x) st
    | _, _ => none
  | .call { callee := .value f, args, .. } =>
    match ρ f with
    | .fn (.func g) first cap =>
      if (ann g).pure then none
      else if hasBody P g then call g (first ++ args.toList.map ρ ++ cap) st
      else none
    | _ => none
  | _ => none

/-- readAt b, storeAt b: a load, a store at box b; fresh: a new box. -/
inductive Cls where
  | skip | inert | reader | loud
  | readAt (b : Nat) | storeAt (b : Nat) | fresh
  deriving DecidableEq, Inhabited

def readCls (ρ : Operand → PV) : Op → Cls
  | .load _ a => match ρ a with
    | .ptr b _ => .readAt b
    | _ => .reader
  | _ => .reader

def loudCls (ρ : Operand → PV) : Op → Cls
  | .store _ a _ => match ρ a with
    | .ptr b _ => .storeAt b
    | _ => .loud
  | .alloc _ => .fresh
  | .box _ _ => .fresh
  | _ => .loud

/-- Which slot an operation takes the row of, where that owns it. -/
def takes (take : List Nat) (o : Oper) : Option Nat :=
  match o.op with
  | .move (.tmp x) => match o.dst with
    | some d => if take.contains d then some x else none
    | none => none
  | .assign (.tmp x) => some x
  | .store _ _ (.tmp x) => some x
  | .call { callee := .builtin .append, args, .. } =>
    match (args[0]? : Option Operand) with
    | some (.tmp x) => some x
    | _ => none
  | _ => none

/-- Does an append make a box? -/
def doesBox (boxes : List Nat) (o : Oper) : Bool :=
  match o.dst with
  | some d => boxes.contains d
  | none => false

def unBox (bx : Bool) (r : Option PV) : Option PV := if bx then none else r

def doesTake (take : List Nat) (o : Oper) : Bool :=
  match o.dst with
  | some d => take.contains d
  | none => false

def put (env : Env) (dst : Option Nat) (v : PV) : Env :=
  match dst with
  | some d => (d, v) :: env
  | none => env

/-- The slot that was taken from owns no more. -/
def drop (env : Env) : Option Nat → Env
  | some x => if (lk env x).isOw then (x, (lk env x).dn) :: env else env
  | none => env

/-- What a guard's slot says: what was not done leaves no bool. -/
def wantV (v : PV) (w : Bool) : Option Bool :=
  match v with
  | .s (.bool b) => some (b == w)
  | .tup [] => some false
  | _ => none

/-- Is an operation wanted, by its guard? -/
def wantedP (ops : Array Oper) (env : Env) (o : Oper) : Option Bool :=
  match o.guard with
  | none => some true
  | some (j, want) =>
    match (ops[j]?).bind (·.dst) with
    | some d => wantV (lk env d) want
    | none => none

/-- May the slot be written: it lies in the frame. -/
def dstOk (ntmps : Nat) (dst : Option Nat) : Bool :=
  match dst with
  | some d => decide (d < ntmps)
  | none => true

structure Ctx where
  P : Program
  ann : FuncId → Ann
  call : CallF
  fn : FuncId
  ntmps : Nat
  base : Nat

def pop (C : Ctx) (ops : Array Oper) (o : Oper) (s : PS) : Option (Cls × PS) :=
  if dstOk C.ntmps o.dst then
    match wantedP ops s.env o with
    | none => none
    | some false => some (.skip, { s with env := put s.env o.dst (.tup []) })
    | some true =>
      let tk := doesTake (C.ann C.fn).take o
      let raw := ev s.env
      let ρ := fun x => (ev s.env x).dn
      let bx := doesBox (C.ann C.fn).boxes o
      match unBox bx (inertOp C.P C.call C.ann tk raw ρ o.op) with
      | some v => some (.inert, { s with env := put (drop s.env (takes (C.ann C.fn).take o)) o.dst v })
      | none =>
        match readOp C.P tk ρ s.st o.op with
        | some v => some (readCls ρ o.op, { s with env := put s.env o.dst v })
        | none =>
          match loudOp C.P C.call C.ann C.base bx tk raw ρ s.st o.op with
          | some (v, st) => some (loudCls ρ o.op, { env := put (drop s.env (takes (C.ann C.fn).take o)) o.dst v, st })
          | none => none
  else none

/-- A row of operations, by their numbers, with the kind of each. -/
def pops (C : Ctx) (ops : Array Oper) : List Nat → PS → Option (List (Nat × Cls) × PS)
  | [], s => some ([], s)
  | i :: r, s =>
    match ops[i]? with
    | none => none
    | some o =>
      match pop C ops o s with
      | none => none
      | some (c, s1) =>
        match pops C ops r s1 with
        | none => none
        | some (cs, s2) => some ((i, c) :: cs, s2)

/-- What an operation looks at and writes: its operands' slots and its guard's, its own slot. -/
def looksAt (ops : Array Oper) (o : Oper) : List Tmp :=
  (match o.guard with
   | some (g, _) => ((ops[g]?).bind (·.dst)).toList
   | none => []) ++
  o.op.operands.toList.filterMap fun | .tmp t => some t | _ => none

def apart (ops : Array Oper) (x y : Oper) : Bool :=
  (match x.dst with
   | some d => !(looksAt ops y).contains d && y.dst != some d
   | none => true) &&
  (match y.dst with
   | some d => !(looksAt ops x).contains d
   | none => true)

/-- May the second kind, though it comes later, be done first? -/
def lets : Cls → Cls → Bool
  | .skip, _ => true
  | .inert, _ => true
  | _, .skip => true
  | _, .inert => true
  | .reader, .reader => true
  | .reader, .readAt _ => true
  | .readAt _, .reader => true
  | .readAt _, .readAt _ => true
  | .reader, .fresh => true
  | .readAt _, .fresh => true
  | .readAt a, .storeAt b => a != b
  | _, _ => false

/-- May the second operation, that comes later, be done first? -/
def free (take : List Nat) (ops : Array Oper) (i j : Nat × Cls) : Bool :=
  match ops[i.1]?, ops[j.1]? with
  | some x, some y =>
    lets i.2 j.2 &&
    (match takes take x, takes take y with
    | some a, some b => a != b
    | _, _ => true) && apart ops x y
  | _, _ => false

/-- Which come before which, in a mode. -/
def beforeM (m : Region.Mode) (ops : Array Oper) : Array Nat :=
  ops.foldl (init := #[]) fun acc o =>
    acc.push (o.after.foldl (fun s e => if Region.binds m e then s ||| 2 ^ e.on ||| acc.getD e.on 0 else s) 0)

/-- Each two operations stand in an order, or may be done in either. -/
def orderOk (m : Region.Mode) (take : List Nat) (ops : Array Oper) (cs : List (Nat × Cls)) : Bool :=
  let b := beforeM m ops
  cs.all fun i => cs.all fun j =>
    decide (j.1 ≤ i.1) || (b.getD j.1 0).testBit i.1 || free take ops i j

/-- Each operation of a listing comes behind those that it waits for. -/
def topoOk (m : Region.Mode) (ops : Array Oper) : List Nat → List Nat → Bool
  | _, [] => true
  | done, i :: r =>
    (match ops[i]? with
     | some o => o.after.all fun e => !Region.binds m e || done.contains e.on
     | none => false) && topoOk m ops (i :: done) r

def modeOk (m : Region.Mode) (T : List Nat) (take : List Nat) (ops : Array Oper) (cs : List (Nat × Cls)) : Bool :=
  topoOk m ops [] T && ((List.range ops.size).all fun k => T.contains k) && orderOk m take ops cs

def drawOk (C : Ctx) (ops : Array Oper) (cs : List (Nat × Cls)) : Bool :=
  if C.P.follows .mixedOrders || !Region.departs ops then modeOk .any (List.range ops.size) (C.ann C.fn).take ops cs
  else modeOk .text (Region.linearise .text ops 0) (C.ann C.fn).take ops cs && modeOk .gc (Region.linearise .gc ops 0) (C.ann C.fn).take ops cs

def restrict (keep : List Nat) (env : Env) : Env := keep.map fun k => (k, lk env k)

def pregion (C : Ctx) (ops : Array Oper) (draw : Bool) (s : PS) : Option PS :=
  match pops C ops (List.range ops.size) s with
  | none => none
  | some (cs, s1) =>
    if draw && !drawOk C ops cs then none
    else some { s1 with env := restrict (C.ann C.fn).keep s1.env }

inductive PX where
  | normal
  | exit (id : Nat)
  | ret
  deriving Inhabited

def ploop (f : PS → Option (PX × PS)) : Nat → PS → Option (PX × PS)
  | 0, _ => none
  | n + 1, s =>
    match f s with
    | some (.normal, s1) => ploop f n s1
    | r => r

def pcode (C : Ctx) (fuel : Nat) : Code → PS → Option (PX × PS)
  | .skip, s => some (.normal, s)
  | .region _ ops draw, s => (pregion C ops draw s).map fun s1 => (.normal, s1)
  | .seq a b, s =>
    match pcode C fuel a s with
    | some (.normal, s1) => pcode C fuel b s1
    | r => r
  | .cond c x y, s =>
    match ev s.env c with
    | .s (.bool true) => pcode C fuel x s
    | .s (.bool false) => pcode C fuel y s
    | _ => none
  | .block id b, s =>
    match pcode C fuel b s with
    | some (.exit j, s1) => if j = id then some (.normal, s1) else some (.exit j, s1)
    | r => r
  | .loop b, s => ploop (pcode C fuel b) fuel s
  | .exit id, s => some (.exit id, s)
  | .ret, s => some (.ret, s)
  | _, _ => none

def resultOf (P : Program) (s : PS) : ResultVar → Option PV
  | .tmp t => some (lk s.env t)
  | .cell a t =>
    match lk s.env a with
    | .ptr b off =>
      match s.st[b]? with
      | some (.cells cs) => getPart P t (cs.map PV.dn) off
      | _ => none
    | _ => none

def resultsOf (P : Program) (fn : Func) (s : PS) : Option PV :=
  match fn.results.toList with
  | [r] => resultOf P s r
  | rs => (rs.mapM (resultOf P s)).map fun l => .tup (l.map PV.dn)

/-- A row of cells as elements. -/
def rowEls (sz : Nat) : Nat → List PV → List PV
  | 0, _ => []
  | n + 1, l => elOf (l.take sz) :: rowEls sz n (l.drop sz)

/-- A slice over a box that nobody writes any more. -/
def frz1 (r : PV) (st : Store) : PV × Store :=
  match r with
  | .vs b off n _ sz =>
    match st[b]? with
    | some (.cells cs) =>
      if off + n * sz ≤ cs.length ∧ sz ≠ 0 ∧ PV.maxRefs ((cs.drop off).take (n * sz)) = 0 then
        (.sl .sh sz (rowEls sz n (((cs.drop off).take (n * sz)).map PV.dn)), st.set b .dead)
      else (r, st)
    | _ => (r, st)
  | r => (r, st)

def frzs : List PV → Store → List PV × Store
  | [], st => ([], st)
  | r :: l, st => ((frz1 r st).1 :: (frzs l (frz1 r st).2).1, (frzs l (frz1 r st).2).2)

def frz2 (r : PV) (st : Store) : PV × Store :=
  match r with
  | .agg l => (.agg (frzs l st).1, (frzs l st).2)
  | r => frz1 r st

def frzs2 : List PV → Store → List PV × Store
  | [], st => ([], st)
  | r :: l, st => ((frz2 r st).1 :: (frzs2 l (frz2 r st).2).1, (frzs2 l (frz2 r st).2).2)

def frz (r : PV) (st : Store) : PV × Store :=
  match r with
  | .tup l => (.tup (frzs2 l st).1, (frzs2 l st).2)
  | r => frz2 r st

/-- The store behind a call: what was made within is gone, where nothing names it. -/
def cutS (st : Store) (r : PV) (st1 : Store) : PV × Store :=
  if r.maxRef ≤ st.length then (r, st1.take st.length) else (r, st1)

def settle (fz : Bool) (st : Store) (r : PV) (st1 : Store) : PV × Store :=
  let q := if fz then frz r st1 else (r, st1)
  cutS st q.1 q.2

def params (args : List PV) : Env := args.zipIdx.map fun p => (p.2, p.1)

/-- A summary of a function: what it answers, told from elsewhere. -/
abbrev Sums := FuncId → Option (List PV → Store → Option (PV × Store))

def pcall (P : Program) (ann : FuncId → Ann) (sums : Sums) : Nat → CallF
  | 0, _, _, _ => none
  | k + 1, f, args, st =>
    match sums f with
    | some g => g args st
    | none =>
      match P.funcs[f]? with
      | none => none
      | some fn =>
        match fn.body with
        | none => none
        | some c =>
          if args.length ≤ fn.ntmps then
            match pcode { P, ann, call := pcall P ann sums k, fn := f, ntmps := fn.ntmps, base := st.length } k c { env := params args, st } with
            | some (.normal, s) => (resultsOf P fn s).map fun r => settle (ann f).fz st r s.st
            | some (.ret, s) => (resultsOf P fn s).map fun r => settle (ann f).fz st r s.st
            | _ => none
          else none

end Go.Proofs.YtnjlkgmcoengnaaGreat.PE
