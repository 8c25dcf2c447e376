/-
  PE, part 11: the operations of a region in another order. What an operation answers hangs on the slots that it looks at; two that are apart may change places. Holds for every Program; no condition.
-/
import Derived.Test.YtnjlkgmcoengnaaGreatPf10
set_option linter.unusedSimpArgs false
set_option linter.unusedVariables false
namespace Go.Proofs.YtnjlkgmcoengnaaGreat.PE
open Go

abbrev FE := Nat → PV

def upd (e : FE) (d : Option Nat) (v : PV) : FE := fun t => match d with
  | some d => if t = d then v else e t
  | none => e t

def dropF (e : FE) (x : Option Nat) : FE := fun t => match x with
  | some x => if t = x then (e x).dn else e t
  | none => e t

def evF (e : FE) : Operand → PV
  | .tmp t => e t
  | .const v => ofVal v
  | .global g => .s (.pointer (some ⟨g, 0, none⟩))
  | .func f => .fn (.func f) [] []

def wantedF (ops : Array Oper) (e : FE) (o : Oper) : Option Bool :=
  match o.guard with
  | none => some true
  | some (j, want) =>
    match (ops[j]?).bind (·.dst) with
    | some d => wantV (e d) want
    | none => none

def actF (C : Ctx) (ops : Array Oper) (o : Oper) (e : FE) (st : Store) : Option (Cls × PV × Store) :=
  if dstOk C.ntmps o.dst then
    match wantedF ops e o with
    | none => none
    | some false => some (.skip, .tup [], st)
    | some true =>
      match unBox (doesBox (C.ann C.fn).boxes o) (inertOp C.P C.call C.ann (doesTake (C.ann C.fn).take o) (evF e) (fun x => (evF e x).dn) o.op) with
      | some v => some (.inert, v, st)
      | none =>
        match readOp C.P (doesTake (C.ann C.fn).take o) (fun x => (evF e x).dn) st o.op with
        | some v => some (readCls (fun x => (evF e x).dn) o.op, v, st)
        | none =>
          match loudOp C.P C.call C.ann C.base (doesBox (C.ann C.fn).boxes o) (doesTake (C.ann C.fn).take o) (evF e) (fun x => (evF e x).dn) st o.op with
          | some (v, st') => some (loudCls (fun x => (evF e x).dn) o.op, v, st')
          | none => none
  else none

def taken (take : List Nat) (c : Cls) (o : Oper) : Option Nat :=
  match c with
  | .inert | .loud | .storeAt _ | .fresh => takes take o
  | _ => none
theorem taken_readCls (take : List Nat) (ρ : Operand → PV) (o : Oper) : taken take (readCls ρ o.op) o = none := by
  unfold readCls
  split
  · split <;> rfl
  · rfl
theorem taken_loudCls (take : List Nat) (ρ : Operand → PV) (o : Oper) : taken take (loudCls ρ o.op) o = takes take o := by
  unfold loudCls
  split
  · split <;> rfl
  all_goals rfl

def popF (C : Ctx) (ops : Array Oper) (o : Oper) (e : FE) (st : Store) : Option (Cls × FE × Store) :=
  match actF C ops o e st with
  | some (c, v, st') => some (c, upd (dropF e (taken (C.ann C.fn).take c o)) o.dst v, st')
  | none => none

theorem evF_eq (env : Env) (x : Operand) : ev env x = evF (lk env) x := by cases x <;> rfl

theorem lk_put (env : Env) (d : Option Nat) (v : PV) : lk (put env d v) = upd (lk env) d v := by
  funext t
  cases d with
  | none => rfl
  | some d =>
    show lk ((d, v) :: env) t = if t = d then v else lk env t
    rw [lk_cons]
    by_cases h : d = t
    · rw [if_pos h, if_pos h.symm]
    · rw [if_neg h, if_neg fun e => h e.symm]

theorem lk_drop' (env : Env) (x : Option Nat) : lk (drop env x) = dropF (lk env) x := by
  funext t
  cases x with
  | none => rfl
  | some x =>
    show lk (if (lk env x).isOw then (x, (lk env x).dn) :: env else env) t = if t = x then (lk env x).dn else lk env t
    split
    · rw [lk_cons]
      by_cases h : x = t
      · rw [if_pos h, if_pos h.symm]
      · rw [if_neg h, if_neg fun e => h e.symm]
    · rename_i h
      by_cases ht : t = x
      · rw [if_pos ht, ht, dn_of_not (by simpa using h)]
      · rw [if_neg ht]

theorem wantedF_eq (ops : Array Oper) (env : Env) (o : Oper) : wantedP ops env o = wantedF ops (lk env) o := rfl

theorem evF_fun (env : Env) : ev env = evF (lk env) := funext (evF_eq env)

theorem popF_eq (C : Ctx) (ops : Array Oper) (o : Oper) (s : PS) :
    (pop C ops o s).map (fun p => (p.1, lk p.2.env, p.2.st)) = popF C ops o (lk s.env) s.st := by
  unfold popF actF pop
  rw [wantedF_eq]
  dsimp only
  rw [evF_fun]
  cases dstOk C.ntmps o.dst with
  | false => rfl
  | true =>
    simp only [if_true]
    generalize wantedF ops (lk s.env) o = W
    cases W with
    | none => rfl
    | some b =>
      cases b with
      | false => simp only [Option.map_some, taken, lk_put]; rfl
      | true =>
        dsimp only
        generalize unBox (doesBox (C.ann C.fn).boxes o) (inertOp C.P C.call C.ann (doesTake (C.ann C.fn).take o) (evF (lk s.env)) (fun x => (evF (lk s.env) x).dn) o.op) = I
        cases I with
        | some v => simp only [Option.map_some, taken, lk_put, lk_drop']
        | none =>
          dsimp only
          generalize readOp C.P (doesTake (C.ann C.fn).take o) (fun x => (evF (lk s.env) x).dn) s.st o.op = I
          cases I with
          | some v => simp only [Option.map_some, taken_readCls, lk_put]; rfl
          | none =>
            dsimp only
            generalize loudOp C.P C.call C.ann C.base (doesBox (C.ann C.fn).boxes o) (doesTake (C.ann C.fn).take o) (evF (lk s.env)) (fun x => (evF (lk s.env) x).dn) s.st o.op = I
            cases I with
            | some v => simp only [Option.map_some, taken_loudCls, lk_put, lk_drop']
            | none => rfl

theorem wantV_dn (x : PV) (w : Bool) : wantV x w = wantV x.dn w := by
  cases x with
  | sl t _ _ => cases t <;> rfl
  | _ => rfl

/-- What 'raw' is asked for. -/
def rawOf (tk : Bool) : Op → List Operand
  | .move x => if tk then [x] else []
  | .assign x => [x]
  | .store _ _ z => [z]
  | .call { callee := .builtin .append, args, .. } => (args[0]? : Option Operand).toList
  | _ => []

theorem map_congr' {α β : Type} {l : List α} {f g : α → β} (h : ∀ x, x ∈ l → f x = g x) : l.map f = l.map g := List.map_congr_left h

theorem omap_congr {β : Type} {l : Option Operand} {f g : Operand → β} (h : ∀ x, l = some x → f x = g x) : l.map f = l.map g := by
  cases l with
  | none => rfl
  | some x => exact congrArg some (h x rfl)

theorem pBuiltin_congr {P : Program} {b : Builtin} {tys : Array TypeId} {raw raw' ρ ρ' : Operand → PV} {args : Array Operand}
    (hρ : ∀ x, x ∈ args → ρ x = ρ' x) (hr : ∀ x, b = .append → args[0]? = some x → raw x = raw' x) :
    pBuiltin P b tys raw ρ args.toList = pBuiltin P b tys raw' ρ' args.toList := by
  have hm : args.toList.map ρ = args.toList.map ρ' := map_congr' fun x hx => hρ x (Array.mem_toList_iff.1 hx)
  have hm' : ∀ x, x ∈ args.toList → ρ x = ρ' x := fun x hx => hρ x (Array.mem_toList_iff.1 hx)
  have hr' : ∀ x r, b = .append → args.toList = x :: r → raw x = raw' x := by
    intro x r hb hx
    refine hr x hb ?_
    rw [← Array.getElem?_toList, hx]
    rfl
  generalize args.toList = l at *
  unfold pBuiltin
  split
  · rw [hm' _ (by simp)]
  · rw [hm' _ (by simp), hr' _ _ rfl rfl]
  · rw [hm]
  · rw [hm]
  · rfl

theorem inertOp_congr {P : Program} {call : CallF} {ann : FuncId → Ann} {tk : Bool} {raw raw' ρ ρ' : Operand → PV} {op : Op}
    (hρ : ∀ x, x ∈ op.operands → ρ x = ρ' x) (hr : ∀ x, x ∈ rawOf tk op → raw x = raw' x) :
    inertOp P call ann tk raw ρ op = inertOp P call ann tk raw' ρ' op := by
  cases op <;> try rfl
  case move x =>
    simp only [inertOp]
    cases tk with
    | true => simp [hr x (by simp [rawOf])]
    | false => simp [hρ x (by simp [Op.operands])]
  case assign x => simp only [inertOp]; rw [hr x (by simp [rawOf])]
  case pick c a b => simp only [inertOp]; rw [hρ c (by simp [Op.operands]), hρ a (by simp [Op.operands]), hρ b (by simp [Op.operands])]
  case build t parts =>
    simp only [inertOp]
    congr 1
    refine map_congr' fun p hp => ?_
    rw [hρ p.2 (by simp only [Op.operands, List.mem_toArray, List.mem_map]; exact ⟨p, hp, rfl⟩)]
  case buildSlice t n parts =>
    simp only [inertOp]
    congr 1
    refine map_congr' fun p hp => ?_
    rw [hρ p.2 (by simp only [Op.operands, List.mem_toArray, List.mem_map]; exact ⟨p, hp, rfl⟩)]
  case load t a => simp only [inertOp]; rw [hρ a (by simp [Op.operands])]
  case nilCheck x => simp only [inertOp]; rw [hρ x (by simp [Op.operands])]
  case binOp op t x y u => simp only [inertOp]; rw [hρ x (by simp [Op.operands]), hρ y (by simp [Op.operands])]
  case unOp op t x => simp only [inertOp]; rw [hρ x (by simp [Op.operands])]
  case convert s d x => simp only [inertOp]; rw [hρ x (by simp [Op.operands])]
  case makeInterface t x => simp only [inertOp]; rw [hρ x (by simp [Op.operands])]
  case makeFunc f first cap =>
    simp only [inertOp]
    rw [map_congr' fun x hx => hρ x (by simp only [Op.operands, Array.mem_append]; exact .inl (Array.mem_toList_iff.1 hx)),
      map_congr' (l := cap.toList) fun x hx => hρ x (by simp only [Op.operands, Array.mem_append]; exact .inr (Array.mem_toList_iff.1 hx))]
  case slice t x lo hi mx =>
    simp only [inertOp]
    rw [hρ x (by simp [Op.operands]), omap_congr (l := lo) fun y hy => hρ y (by simp [Op.operands, hy]), omap_congr (l := hi) fun y hy => hρ y (by simp [Op.operands, hy]),
      omap_congr (l := mx) fun y hy => hρ y (by simp [Op.operands, hy])]
  case fieldAddr t x f => simp only [inertOp]; rw [hρ x (by simp [Op.operands])]
  case field t x f => simp only [inertOp]; rw [hρ x (by simp [Op.operands])]
  case indexAddr t x i => simp only [inertOp]; rw [hρ x (by simp [Op.operands]), hρ i (by simp [Op.operands])]
  case index t x i => simp only [inertOp]; rw [hρ x (by simp [Op.operands]), hρ i (by simp [Op.operands])]
  case extract x i => simp only [inertOp]; rw [hρ x (by simp [Op.operands])]
  case makeSlice t x y => simp only [inertOp]; rw [hρ x (by simp [Op.operands]), hρ y (by simp [Op.operands])]
  case call c =>
    obtain ⟨callee, args, tys⟩ := c
    cases callee with
    | builtin b =>
      simp only [inertOp]
      refine pBuiltin_congr (fun x hx => hρ x (by simpa [Op.operands, Call.operands] using hx)) fun x hb hx => hr x ?_
      subst hb
      simp [rawOf, hx]
    | value f =>
      simp only [inertOp]
      rw [hρ f (by simp [Op.operands, Call.operands]), map_congr' fun x hx => hρ x (by simp only [Op.operands, Call.operands, Array.mem_append]; exact .inr (Array.mem_toList_iff.1 hx))]
    | invoke r m => rfl

theorem readOp_congr {P : Program} {tk : Bool} {ρ ρ' : Operand → PV} {st : Store} {op : Op} (hρ : ∀ x, x ∈ op.operands → ρ x = ρ' x) :
    readOp P tk ρ st op = readOp P tk ρ' st op := by
  cases op <;> try rfl
  case lookup t x y ok => simp only [readOp]; rw [hρ x (by simp [Op.operands]), hρ y (by simp [Op.operands])]
  case load t a => simp only [readOp]; rw [hρ a (by simp [Op.operands])]
  case slice t x lo hi mx =>
    cases lo with
    | some q => rfl
    | none =>
    cases hi with
    | some q => rfl
    | none =>
    cases mx with
    | some q => rfl
    | none => simp only [readOp]; rw [hρ x (by simp [Op.operands])]

theorem loudOp_congr {P : Program} {call : CallF} {ann : FuncId → Ann} {base : Nat} {bx tk : Bool} {raw raw' ρ ρ' : Operand → PV} {st : Store} {op : Op}
    (hρ : ∀ x, x ∈ op.operands → ρ x = ρ' x) (hr : ∀ x, x ∈ rawOf tk op → raw x = raw' x) :
    loudOp P call ann base bx tk raw ρ st op = loudOp P call ann base bx tk raw' ρ' st op := by
  cases op <;> try rfl
  case load t a => simp only [loudOp]; rw [hρ a (by simp [Op.operands])]
  case store t a z => simp only [loudOp]; rw [hρ a (by simp [Op.operands]), hr z (by simp [rawOf])]
  case box t x => simp only [loudOp]; rw [hρ x (by simp [Op.operands])]
  case makeSlice t x y => simp only [loudOp]; rw [hρ x (by simp [Op.operands]), hρ y (by simp [Op.operands])]
  case makeMap t rs => cases rs <;> rfl
  case insert t x y z => simp only [loudOp]; rw [hρ x (by simp [Op.operands]), hρ y (by simp [Op.operands]), hρ z (by simp [Op.operands])]
  case call c =>
    obtain ⟨callee, args, tys⟩ := c
    cases callee with
    | builtin b =>
      have hm : ∀ x, x ∈ args.toList → ρ x = ρ' x := fun x hx => hρ x (by simpa [Op.operands, Call.operands] using Array.mem_toList_iff.1 hx)
      cases b <;> try rfl
      case append =>
        simp only [loudOp]
        split
        · generalize args.toList = l at hm
          generalize tys.toList = tl
          split
          · rw [hm _ (by simp), hm _ (by simp)]
          · rfl
        · rfl
      case copy =>
        simp only [loudOp]
        generalize args.toList = l at hm
        generalize tys.toList = tl
        split
        · rw [hm _ (by simp), hm _ (by simp)]
        · rfl
      case clear =>
        simp only [loudOp]
        generalize args.toList = l at hm
        generalize tys.toList = tl
        split
        · rw [hm _ (by simp)]
        · rfl
    | value f =>
      simp only [loudOp]
      rw [hρ f (by simp [Op.operands, Call.operands]), map_congr' fun x hx => hρ x (by simp only [Op.operands, Call.operands, Array.mem_append]; exact .inr (Array.mem_toList_iff.1 hx))]
    | invoke r m => rfl

end Go.Proofs.YtnjlkgmcoengnaaGreat.PE
