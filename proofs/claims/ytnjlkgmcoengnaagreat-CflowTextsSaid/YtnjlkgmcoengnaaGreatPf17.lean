/-
  PE, part 17: laws for walks with values that are not told. Holds for every Program; no condition.
-/
import Derived.Test.YtnjlkgmcoengnaaGreatPf16
import Derived.KernelRfl
set_option linter.unusedSimpArgs false
set_option linter.unusedVariables false
namespace Go.Proofs.YtnjlkgmcoengnaaGreat.PE
open Go

def ploopC (C : Ctx) (fuel : Nat) (b : Code) (n : Nat) (s : PS) : Option (PX × PS) := ploop (pcodeS C fuel b) n s

def bindS (r : Option (PX × PS)) (k : PS → Option (PX × PS)) : Option (PX × PS) :=
  match r with
  | some (.normal, s) => k s
  | r => r
theorem bindS_normal (s : PS) (k : PS → Option (PX × PS)) : bindS (some (.normal, s)) k = k s := rfl
theorem bindS_exit (j : Nat) (s : PS) (k : PS → Option (PX × PS)) : bindS (some (.exit j, s)) k = some (.exit j, s) := rfl
theorem bindS_ret (s : PS) (k : PS → Option (PX × PS)) : bindS (some (.ret, s)) k = some (.ret, s) := rfl

def condS (v : PV) (x y : PS → Option (PX × PS)) (s : PS) : Option (PX × PS) :=
  match v with
  | .s (.bool true) => x s
  | .s (.bool false) => y s
  | _ => none

def blockS (id : Nat) (r : Option (PX × PS)) : Option (PX × PS) :=
  match r with
  | some (.exit j, s1) => if j = id then some (.normal, s1) else some (.exit j, s1)
  | r => r
theorem blockS_normal (id : Nat) (s : PS) : blockS id (some (.normal, s)) = some (.normal, s) := rfl
theorem blockS_exit (id j : Nat) (s : PS) : blockS id (some (.exit j, s)) = if j = id then some (.normal, s) else some (.exit j, s) := rfl
theorem blockS_ret (id : Nat) (s : PS) : blockS id (some (.ret, s)) = some (.ret, s) := rfl

def bindP (r : Option (Cls × PS)) (k : PS → Option PS) : Option PS :=
  match r with
  | some (_, s) => k s
  | none => none
theorem bindP_some (c : Cls) (s : PS) (k : PS → Option PS) : bindP (some (c, s)) k = k s := rfl

def doneR (keep : List Nat) (r : Option PS) : Option (PX × PS) :=
  match r with
  | some s1 => some (.normal, { s1 with env := restrict keep s1.env })
  | none => none
theorem doneR_some (keep : List Nat) (env : Env) (st : Store) : doneR keep (some ⟨env, st⟩) = some (.normal, ⟨restrict keep env, st⟩) := rfl

/-- The operations one by one, with their kinds. -/
def popsK (C : Ctx) (ops : Array Oper) : List Oper → Nat → PS → Option (List (Nat × Cls) × PS)
  | [], _, s => some ([], s)
  | o :: r, k, s =>
    match pop C ops o s with
    | none => none
    | some (c, s1) =>
      match popsK C ops r (k + 1) s1 with
      | none => none
      | some (cs, s2) => some ((k, c) :: cs, s2)

theorem popsK_eq (C : Ctx) (ops : Array Oper) : ∀ (l : List Oper) (k : Nat) (s : PS), (∀ (i : Nat) (o : Oper), l[i]? = some o → ops[k + i]? = some o) → pops C ops (List.range' k l.length) s = popsK C ops l k s
  | [], k, s, _ => rfl
  | o :: r, k, s, ho => by
    have h0 := ho 0 o rfl
    rw [Nat.add_zero] at h0
    have ih := popsK_eq C ops r (k + 1)
    rw [List.length_cons, List.range'_succ]
    simp only [pops, h0, popsK]
    cases pop C ops o s with
    | none => rfl
    | some p =>
      obtain ⟨c, s1⟩ := p
      dsimp only
      rw [ih s1 fun i o' hi => by
        have := ho (i + 1) o' (by simpa using hi)
        rwa [show k + (i + 1) = k + 1 + i by omega] at this]
      cases popsK C ops r (k + 1) s1 <;> rfl

def doneK (C : Ctx) (ops : Array Oper) (d : Bool) (r : Option (List (Nat × Cls) × PS)) : Option (PX × PS) :=
  match r with
  | some (cs, s1) => if d && !drawOk C ops cs then none else some (.normal, { s1 with env := restrict (C.ann C.fn).keep s1.env })
  | none => none
theorem doneK_some (C : Ctx) (ops : Array Oper) (cs : List (Nat × Cls)) (env : Env) (st : Store) (h : drawOk C ops cs = true) : doneK C ops true (some (cs, ⟨env, st⟩)) = some (.normal, ⟨restrict (C.ann C.fn).keep env, st⟩) := by
  simp only [doneK, h]; rfl

/-- A region: with the kinds looked at, or without. -/
def dynR (dyn : Bool) (C : Ctx) (ops : Array Oper) (d : Bool) (s : PS) : Option (PX × PS) :=
  if dyn then
    match pregion C ops d s with
    | none => none
    | some s1 => some (.normal, s1)
  else doneR (C.ann C.fn).keep (popsL C ops ops.toList s)

def bindK (k : Nat) (r : Option (Cls × PS)) (f : PS → Option (List (Nat × Cls) × PS)) : Option (List (Nat × Cls) × PS) :=
  match r with
  | some (c, s) => consK k c (f s)
  | none => none
where consK (k : Nat) (c : Cls) (r : Option (List (Nat × Cls) × PS)) : Option (List (Nat × Cls) × PS) :=
  match r with
  | some (cs, s) => some ((k, c) :: cs, s)
  | none => none
theorem bindK_some (k : Nat) (c : Cls) (s : PS) (f : PS → Option (List (Nat × Cls) × PS)) : bindK k (some (c, s)) f = bindK.consK k c (f s) := rfl
theorem consK_some (k : Nat) (c : Cls) (cs : List (Nat × Cls)) (s : PS) : bindK.consK k c (some (cs, s)) = some ((k, c) :: cs, s) := rfl

section
variable (C : Ctx) (fuel : Nat) (s : PS)
theorem popsK_nil (ops : Array Oper) (k : Nat) : popsK C ops [] k s = some ([], s) := rfl
theorem popsK_cons (ops : Array Oper) (o : Oper) (r : List Oper) (k : Nat) : popsK C ops (o :: r) k s = bindK k (pop C ops o s) (popsK C ops r (k + 1)) := by
  simp only [popsK, bindK]
  cases pop C ops o s with
  | none => rfl
  | some p =>
    obtain ⟨c, s1⟩ := p
    dsimp only [bindK.consK]
    cases popsK C ops r (k + 1) s1 <;> rfl
theorem pcS_skip : pcodeS C fuel .skip s = some (.normal, s) := rfl
theorem pcS_region (id : Nat) (ops : Array Oper) (d : Bool) : pcodeS C fuel (.region id ops d) s = dynR ((C.ann C.fn).dyn.contains id) C ops d s := by
  simp only [pcodeS, dynR]
  cases (C.ann C.fn).dyn.contains id with
  | true =>
    simp only [if_true]
    cases pregion C ops d s <;> rfl
  | false =>
    simp only [Bool.false_eq_true, if_false, pregionS, doneR]
    cases popsL C ops ops.toList s <;> rfl
theorem dynR_no (C : Ctx) (ops : Array Oper) (d : Bool) (s : PS) : dynR false C ops d s = doneR (C.ann C.fn).keep (popsL C ops ops.toList s) := rfl
theorem dynR_yes (C : Ctx) (ops : Array Oper) (d : Bool) (s : PS) : dynR true C ops d s = doneK C ops d (popsK C ops ops.toList 0 s) := by
  simp only [dynR, doneK, pregion]
  have h := popsK_eq C ops ops.toList 0 s (fun i o hi => by rw [Nat.zero_add, ← Array.getElem?_toList]; exact hi)
  rw [Array.length_toList, ← List.range_eq_range'] at h
  rw [← h]
  cases pops C ops (List.range ops.size) s with
  | none => rfl
  | some r =>
    obtain ⟨cs, s1⟩ := r
    dsimp only
    cases d <;> cases drawOk C ops cs <;> rfl
theorem pcS_seq (a b : Code) : pcodeS C fuel (.seq a b) s = bindS (pcodeS C fuel a s) (pcodeS C fuel b) := rfl
theorem pcS_cond (c : Operand) (x y : Code) : pcodeS C fuel (.cond c x y) s = condS (ev s.env c) (pcodeS C fuel x) (pcodeS C fuel y) s := rfl
theorem pcS_block (id : Nat) (b : Code) : pcodeS C fuel (.block id b) s = blockS id (pcodeS C fuel b s) := rfl
theorem pcS_loop (b : Code) : pcodeS C fuel (.loop b) s = ploopC C fuel b fuel s := rfl
theorem pcS_exit (id : Nat) : pcodeS C fuel (.exit id) s = some (.exit id, s) := rfl
theorem pcS_ret : pcodeS C fuel .ret s = some (.ret, s) := rfl
theorem popsL_nil (ops : Array Oper) : popsL C ops [] s = some s := rfl
theorem popsL_cons (ops : Array Oper) (o : Oper) (r : List Oper) : popsL C ops (o :: r) s = bindP (pop C ops o s) (popsL C ops r) := by
  simp only [popsL, bindP]
  cases pop C ops o s <;> rfl
end

/-- A loop, by what holds ahead of each round. -/
theorem ploopC_rel {C : Ctx} {fuel n : Nat} {b : Code} {s : PS} (I : Nat → PS → Prop) (J : PX × PS → Prop) (N : Nat) (h0 : I 0 s)
    (step : ∀ i s, i < N → I i s → ∃ s', pcodeS C fuel b s = some (.normal, s') ∧ I (i + 1) s')
    (last : ∀ s, I N s → ∃ r, pcodeS C fuel b s = some r ∧ r.1 ≠ .normal ∧ J r) (hn : N < n) : ∃ r, ploopC C fuel b n s = some r ∧ J r := by
  have key : ∀ d i n s, N = i + d → d < n → I i s → ∃ r, ploop (pcodeS C fuel b) n s = some r ∧ J r := by
    intro d
    induction d with
    | zero =>
      intro i n s hi hn hI
      cases n with
      | zero => omega
      | succ n =>
        have : i = N := by omega
        subst this
        obtain ⟨r, hr, hne, hJ⟩ := last s hI
        simp only [ploop, hr]
        obtain ⟨x, s1⟩ := r
        cases x with
        | normal => exact absurd rfl hne
        | exit j => exact ⟨_, rfl, hJ⟩
        | ret => exact ⟨_, rfl, hJ⟩
    | succ d ih =>
      intro i n s hi hn hI
      cases n with
      | zero => omega
      | succ n =>
        obtain ⟨s', hs', hI'⟩ := step i s (by omega) hI
        simp only [ploop, hs']
        exact ih (i + 1) n s' (by omega) (by omega) hI'
  exact key N 0 n s (by omega) hn h0

/-- A loop that may be left at any round: from a round on, by what is left to do. -/
theorem ploopC_at {C : Ctx} {fuel : Nat} {b : Code} {J : PX × PS → Prop} (I : Nat → PS → Prop)
    (round : ∀ d s, I d s → (∃ s' d', d' < d ∧ pcodeS C fuel b s = some (.normal, s') ∧ I d' s') ∨ ∃ r, pcodeS C fuel b s = some r ∧ r.1 ≠ .normal ∧ J r) :
    ∀ d n s, I d s → d < n → ∃ r, ploopC C fuel b n s = some r ∧ J r := by
  intro d
  induction d using Nat.strongRecOn with
  | _ d ih =>
    intro n s hI hn
    cases n with
    | zero => omega
    | succ n =>
      rcases round d s hI with ⟨s', d', hd, hs', hI'⟩ | ⟨r, hr, hne, hJ⟩
      · obtain ⟨r, hr, hJ⟩ := ih d' hd n s' hI' (by omega)
        refine ⟨r, ?_, hJ⟩
        simp only [ploopC, ploop, hs']
        exact hr
      · obtain ⟨x, s1⟩ := r
        refine ⟨(x, s1), ?_, hJ⟩
        simp only [ploopC, ploop, hr]
        cases x with
        | normal => exact absurd rfl hne
        | exit j => rfl
        | ret => rfl

def resV (P : Program) (rs : List ResultVar) (s : PS) : Option PV :=
  match rs with
  | [r] => resultOf P s r
  | rs => (rs.mapM (resultOf P s)).map fun l => .tup (l.map PV.dn)

def endS (fz : Bool) (P : Program) (rs : List ResultVar) (st : Store) (r : Option (PX × PS)) : Option (PV × Store) :=
  match r with
  | some (.normal, s) => (resV P rs s).map fun r => settle fz st r s.st
  | some (.ret, s) => (resV P rs s).map fun r => settle fz st r s.st
  | _ => none

/-- Behind a call: frozen, if it is to be. -/
def setS (fz : Bool) (st : Store) (r : Option PV) (st1 : Store) : Option (PV × Store) := r.map fun r => settle fz st r st1
theorem endS_normal (fz : Bool) (P : Program) (rs : List ResultVar) (st : Store) (s : PS) : endS fz P rs st (some (.normal, s)) = setS fz st (resV P rs s) s.st := rfl
theorem endS_ret (fz : Bool) (P : Program) (rs : List ResultVar) (st : Store) (s : PS) : endS fz P rs st (some (.ret, s)) = setS fz st (resV P rs s) s.st := rfl
theorem setS_some (st : Store) (r : PV) (st1 : Store) : setS false st (some r) st1 = some (if r.maxRef ≤ st.length then (r, st1.take st.length) else (r, st1)) := by
  simp only [setS, settle, cutS, Option.map_some]
  rfl
theorem setS_frz (st : Store) (r : PV) (st1 : Store) : setS true st (some r) st1 = some (cutS st (frz r st1).1 (frz r st1).2) := rfl
theorem resV_none (P : Program) (s : PS) : resV P [] s = some (.tup []) := rfl
theorem resV_one (P : Program) (s : PS) (r : ResultVar) : resV P [r] s = resultOf P s r := rfl

/-- A call, by what its code comes to. -/
theorem pcall_end {P : Program} {ann : FuncId → Ann} {sums : Sums} {k : Nat} {f : FuncId} {fn : Func} {c : Code} {args : List PV} {st : Store} {out : PV × Store} {rs : List ResultVar} {n : Nat}
    (hs : sums f = none) (hf : P.funcs[f]? = some fn) (hb : fn.body = some c) (hrs : fn.results.toList = rs) (hnt : fn.ntmps = n)
    (hok : ∀ call base, regionsOk { P, ann, call, fn := f, ntmps := n, base } c = true) (hn : decide (args.length ≤ n) = true)
    (hp : endS (ann f).fz P rs st (pcodeS { P, ann, call := pcall P ann sums k, fn := f, ntmps := n, base := st.length } k c { env := params args, st }) = some out) : pcall P ann sums (k + 1) f args st = some out := by
  subst hrs
  subst hnt
  have hres : ∀ s, resV P fn.results.toList s = resultsOf P fn s := fun s => rfl
  cases hr : pcodeS { P, ann, call := pcall P ann sums k, fn := f, ntmps := fn.ntmps, base := st.length } k c { env := params args, st } with
  | none => rw [hr] at hp; cases hp
  | some r =>
    obtain ⟨x, s⟩ := r
    rw [hr] at hp
    cases x with
    | exit j => cases hp
    | normal =>
      obtain ⟨v, hv, rfl⟩ := Option.map_eq_some_iff.1 (hp : (resV P fn.results.toList s).map _ = some out)
      rw [hres] at hv
      exact pcall_of hs hf hb (of_decide_eq_true hn) hok hr (.inl rfl) hv
    | ret =>
      obtain ⟨v, hv, rfl⟩ := Option.map_eq_some_iff.1 (hp : (resV P fn.results.toList s).map _ = some out)
      rw [hres] at hv
      exact pcall_of hs hf hb (of_decide_eq_true hn) hok hr (.inr rfl) hv

/-- An integer of the program's own size. -/
def iv (x : Int) : PV := .s (.int .i64 x)
def bv (b : Bool) : PV := .s (.bool b)
theorem dn_iv (a : Int) : (iv a).dn = iv a := rfl
theorem ow_iv (a : Int) : (iv a).isOw = false := rfl
theorem ofVal_iv (a : Int) : ofVal (.int .i64 a) = iv a := rfl
theorem maxRef_iv (a : Int) : (iv a).maxRef = 0 := rfl
theorem cells_iv (a : Int) : (iv a).cells = [iv a] := rfl
theorem solid_iv (a : Int) : (iv a).solid = true := rfl
theorem asI_iv (a : Int) : asI (iv a) = some a := rfl
theorem dn_bv (a : Bool) : (bv a).dn = bv a := rfl
theorem ow_bv (a : Bool) : (bv a).isOw = false := rfl
theorem ofVal_bv (a : Bool) : ofVal (.bool a) = bv a := rfl
theorem maxRef_bv (a : Bool) : (bv a).maxRef = 0 := rfl
theorem solid_agg (l : List PV) : (PV.agg l).solid = true := rfl
theorem maxRef_agg (l : List PV) : (PV.agg l).maxRef = PV.maxRefs l := by simp [PV.maxRef]
theorem maxRef_tup (l : List PV) : (PV.tup l).maxRef = PV.maxRefs l := by simp [PV.maxRef]
theorem maxRefs_nil : PV.maxRefs [] = 0 := by simp [PV.maxRefs]
theorem maxRefs_cons (x : PV) (l : List PV) : PV.maxRefs (x :: l) = max x.maxRef (PV.maxRefs l) := by simp [PV.maxRefs]
theorem cells_agg (l : List PV) : (PV.agg l).cells = l := rfl
theorem arr2 (x y : Operand) : (#[x, y] : Array Operand)[0]? = some x := rfl
theorem tys1 (t : TypeId) : (#[t] : Array TypeId)[0]? = some t := rfl
theorem condS_true (x y : PS → Option (PX × PS)) (s : PS) : condS (bv true) x y s = x s := rfl
theorem condS_false (x y : PS → Option (PX × PS)) (s : PS) : condS (bv false) x y s = y s := rfl
theorem dn_fn (f : Fn) (a b : List PV) : (PV.fn f a b).dn = .fn f a b := rfl
theorem dn_ptr (b o : Nat) : (PV.ptr b o).dn = .ptr b o := rfl
theorem dn_ep (e : PV) (o : Nat) : (PV.ep e o).dn = .ep e o := rfl
theorem dn_agg (l : List PV) : (PV.agg l).dn = .agg l := rfl
theorem dn_tup (l : List PV) : (PV.tup l).dn = .tup l := rfl
theorem dn_nilsl : PV.nilsl.dn = .nilsl := rfl
theorem dn_own (n : Nat) (l : List PV) : (PV.sl .ow n l).dn = .sl .sh n l := rfl
theorem dn_sh (n : Nat) (l : List PV) : (PV.sl .sh n l).dn = .sl .sh n l := rfl
theorem dn_ex (n : Nat) (l : List PV) : (PV.sl .ex n l).dn = .sl .ex n l := rfl
theorem ow_ptr (b o : Nat) : (PV.ptr b o).isOw = false := rfl
theorem ow_ep (e : PV) (o : Nat) : (PV.ep e o).isOw = false := rfl
theorem ow_agg (l : List PV) : (PV.agg l).isOw = false := rfl
theorem ow_tup (l : List PV) : (PV.tup l).isOw = false := rfl
theorem ow_nilsl : PV.nilsl.isOw = false := rfl
theorem ow_own (n : Nat) (l : List PV) : (PV.sl .ow n l).isOw = true := rfl
theorem ow_sh (n : Nat) (l : List PV) : (PV.sl .sh n l).isOw = false := rfl
theorem ow_ex (n : Nat) (l : List PV) : (PV.sl .ex n l).isOw = false := rfl

theorem slotwise (env : Env) : (fun x => (ev env x).dn) = fun x => (ev env x).dn := rfl

/-! What each operation answers. -/
section
variable (P : Program) (call : CallF) (ann : FuncId → Ann) (tk : Bool) (raw ρ : Operand → PV)

def pickB (c a b : PV) : Option PV :=
  match c with
  | .s (.bool true) => some a
  | .s (.bool false) => some b
  | _ => none
theorem pickB_bv (c : Bool) (a b : PV) : pickB (bv c) a b = some (if c then a else b) := by cases c <;> rfl

def loadI (P : Program) (t : TypeId) (a : PV) : Option PV :=
  match a with
  | .ep el off => getPart P t el.cells off
  | _ => none
theorem loadI_ep (t : TypeId) (el : PV) (off : Nat) : loadI P t (.ep el off) = getPart P t el.cells off := rfl
theorem loadI_ptr (t : TypeId) (b off : Nat) : loadI P t (.ptr b off) = none := rfl

def nilI (x : PV) : Option PV :=
  match x with
  | .ptr b o => some (.ptr b o)
  | .ep el o => some (.ep el o)
  | _ => none
theorem nilI_ptr (b o : Nat) : nilI (.ptr b o) = some (.ptr b o) := rfl
theorem nilI_ep (el : PV) (o : Nat) : nilI (.ep el o) = some (.ep el o) := rfl

def unI (P : Program) (op : UnOp) (x : PV) : Option PV := (toVal x).bind fun v => (pureRun P (Op.unary op v)).map ofVal
theorem unI_not (b : Bool) : unI P .not (bv b) = some (bv !b) := by kernel_rfl

def fieldI (P : Program) (t : TypeId) (x : PV) (f : Nat) : Option PV :=
  match x, tField P t f with
  | .agg cs, some (off, ft) => getPart P ft cs off
  | _, _ => none

def extrI (x : PV) (i : Nat) : Option PV :=
  match x with
  | .tup cs => cs[i]?
  | _ => none
theorem extrI_tup (cs : List PV) (i : Nat) : extrI (.tup cs) i = cs[i]? := rfl

def pureC (m : Nat) (r : Option (PV × Store)) : Option PV :=
  if m = 0 then
    match r with
    | some (r, []) => if r.maxRef = 0 then some r else none
    | _ => none
  else none
theorem pureC_ok (r : PV) : pureC 0 (some (r, [])) = if r.maxRef = 0 then some r else none := rfl

def callI (P : Program) (call : CallF) (ann : FuncId → Ann) (v : PV) (l : List PV) : Option PV :=
  match v with
  | .fn (.func g) first cap => if (ann g).pure && hasBody P g then pureC (PV.maxRefs (first ++ l ++ cap)) (call g (first ++ l ++ cap) []) else none
  | _ => none
theorem callI_fn (g : FuncId) (first cap l : List PV) : callI P call ann (.fn (.func g) first cap) l =
    if (ann g).pure && hasBody P g then pureC (PV.maxRefs (first ++ l ++ cap)) (call g (first ++ l ++ cap) []) else none := rfl

theorem inert_move (x : Operand) : inertOp P call ann tk raw ρ (.move x) = some (if tk then raw x else ρ x) := rfl
theorem inert_assign (x : Operand) : inertOp P call ann tk raw ρ (.assign x) = some (raw x) := rfl
theorem inert_pick (c a b : Operand) : inertOp P call ann tk raw ρ (.pick c a b) = pickB (ρ c) (ρ a) (ρ b) := rfl
theorem inert_build (t : TypeId) (parts : Array (Nat × Operand)) : inertOp P call ann tk raw ρ (.build t parts) = pBuild P t (parts.toList.map fun p => (p.1, ρ p.2)) := rfl
theorem inert_buildSlice (t : TypeId) (n : Nat) (parts : Array (Nat × Operand)) : inertOp P call ann tk raw ρ (.buildSlice t n parts) = pBuildSlice P t n (parts.toList.map fun p => (p.1, ρ p.2)) := rfl
theorem inert_load (t : TypeId) (a : Operand) : inertOp P call ann tk raw ρ (.load t a) = loadI P t (ρ a) := rfl
theorem inert_nilCheck (x : Operand) : inertOp P call ann tk raw ρ (.nilCheck x) = nilI (ρ x) := rfl
theorem inert_binOp (op : BinOp) (t : TypeId) (x y : Operand) (u : TypeId) : inertOp P call ann tk raw ρ (.binOp op t x y u) = pBin P op t x y (ρ x) (ρ y) := rfl
theorem inert_unOp (op : UnOp) (t : TypeId) (x : Operand) : inertOp P call ann tk raw ρ (.unOp op t x) = unI P op (ρ x) := rfl
theorem inert_convert (a b : TypeId) (x : Operand) : inertOp P call ann tk raw ρ (.convert a b x) = pConvert P a b (ρ x) := rfl
theorem inert_slice (t : TypeId) (x : Operand) (lo hi mx : Option Operand) : inertOp P call ann tk raw ρ (.slice t x lo hi mx) = pSlice P t (ρ x) (lo.map ρ) (hi.map ρ) (mx.map ρ) := rfl
theorem inert_fieldAddr (t : TypeId) (x : Operand) (f : Nat) : inertOp P call ann tk raw ρ (.fieldAddr t x f) = pFieldAddr P t (ρ x) f := rfl
theorem inert_field (t : TypeId) (x : Operand) (f : Nat) : inertOp P call ann tk raw ρ (.field t x f) = fieldI P t (ρ x) f := by
  simp only [inertOp, fieldI]
  rfl
theorem inert_indexAddr (t : TypeId) (x i : Operand) : inertOp P call ann tk raw ρ (.indexAddr t x i) = pIndexAddr P t (ρ x) (ρ i) := rfl
theorem inert_index (t : TypeId) (x i : Operand) : inertOp P call ann tk raw ρ (.index t x i) = pIndex P t (ρ x) (ρ i) := rfl
theorem inert_extract (x : Operand) (i : Nat) : inertOp P call ann tk raw ρ (.extract x i) = extrI (ρ x) i := rfl
theorem inert_builtin (b : Builtin) (args : Array Operand) (tys : Array TypeId) : inertOp P call ann tk raw ρ (.call ⟨.builtin b, args, tys⟩) = pBuiltin P b tys raw ρ args.toList := rfl
theorem inert_call (f : Operand) (args : Array Operand) (tys : Array TypeId) : inertOp P call ann tk raw ρ (.call ⟨.value f, args, tys⟩) = callI P call ann (ρ f) (args.toList.map ρ) := by
  simp only [inertOp, callI, pureC]
  rfl
theorem inert_alloc (e : TypeId) : inertOp P call ann tk raw ρ (.alloc e) = none := rfl
theorem inert_box (e : TypeId) (x : Operand) : inertOp P call ann tk raw ρ (.box e x) = none := rfl
theorem inert_store (t : TypeId) (a x : Operand) : inertOp P call ann tk raw ρ (.store t a x) = none := rfl

def loadR (P : Program) (t : TypeId) (a : PV) (st : Store) : Option PV :=
  match a with
  | .ptr b off =>
    match st[b]? with
    | some (.cells cs) => getPart P t (cs.map PV.dn) off
    | _ => none
  | _ => none
def boxR (P : Program) (t : TypeId) (off : Nat) : Option PBox → Option PV
  | some (.cells cs) => getPart P t (cs.map PV.dn) off
  | _ => none
theorem loadR_ptr (t : TypeId) (b off : Nat) (st : Store) : loadR P t (.ptr b off) st = boxR P t off st[b]? := rfl
theorem boxR_cells (t : TypeId) (off : Nat) (cs : List PV) : boxR P t off (some (.cells cs)) = getPart P t (cs.map PV.dn) off := rfl
theorem read_load (t : TypeId) (a : Operand) (st : Store) : readOp P tk ρ st (.load t a) = if tk then none else loadR P t (ρ a) st := rfl
theorem read_alloc (e : TypeId) (st : Store) : readOp P tk ρ st (.alloc e) = none := rfl
theorem read_box (e : TypeId) (x : Operand) (st : Store) : readOp P tk ρ st (.box e x) = none := rfl
theorem read_store (t : TypeId) (a x : Operand) (st : Store) : readOp P tk ρ st (.store t a x) = none := rfl
theorem read_call (c : Call) (st : Store) : readOp P tk ρ st (.call c) = none := rfl

def loadL (a : PV) (st : Store) : Option (PV × Store) :=
  match a with
  | .ptr b off =>
    match st[b]? with
    | some (.cells cs) => (cs[off]?).map fun v => (v, st.set b (.cells (cs.set off v.dn)))
    | _ => none
  | _ => none
def boxL (b off : Nat) (st : Store) : Option PBox → Option (PV × Store)
  | some (.cells cs) => (cs[off]?).map fun v => (v, st.set b (.cells (cs.set off v.dn)))
  | _ => none
theorem loadL_ptr (b off : Nat) (st : Store) : loadL (.ptr b off) st = boxL b off st st[b]? := rfl
theorem boxL_cells (b off : Nat) (st : Store) (cs : List PV) : boxL b off st (some (.cells cs)) = (cs[off]?).map fun v => (v, st.set b (.cells (cs.set off v.dn))) := rfl

def storeL (P : Program) (base : Nat) (t : TypeId) (a v : PV) (st : Store) : Option (PV × Store) :=
  match a with
  | .ptr b off =>
    match st[b]? with
    | some (.cells cs) =>
      if v.solid = true ∧ tSize P t = some v.cells.length ∧ off + v.cells.length ≤ cs.length ∧ (base ≤ b ∨ v.maxRef ≤ b + 1) then
        some (.tup [], st.set b (.cells (cs.take off ++ v.cells ++ cs.drop (off + v.cells.length))))
      else none
    | _ => none
  | _ => none
def boxS (P : Program) (base b off : Nat) (t : TypeId) (v : PV) (st : Store) : Option PBox → Option (PV × Store)
  | some (.cells cs) =>
    if v.solid = true ∧ tSize P t = some v.cells.length ∧ off + v.cells.length ≤ cs.length ∧ (base ≤ b ∨ v.maxRef ≤ b + 1) then
      some (.tup [], st.set b (.cells (cs.take off ++ v.cells ++ cs.drop (off + v.cells.length))))
    else none
  | _ => none
theorem storeL_ptr (base : Nat) (t : TypeId) (b off : Nat) (v : PV) (st : Store) : storeL P base t (.ptr b off) v st = boxS P base b off t v st st[b]? := rfl
theorem boxS_cells (base b off : Nat) (t : TypeId) (v : PV) (st : Store) (cs : List PV) : boxS P base b off t v st (some (.cells cs)) =
    if v.solid = true ∧ tSize P t = some v.cells.length ∧ off + v.cells.length ≤ cs.length ∧ (base ≤ b ∨ v.maxRef ≤ b + 1) then
      some (.tup [], st.set b (.cells (cs.take off ++ v.cells ++ cs.drop (off + v.cells.length)))) else none := rfl

def boxN (x : PV) (st : Store) : Option (PV × Store) := if x.solid then some (.ptr st.length 0, st ++ [.cells x.cells]) else none
theorem boxN_eq (x : PV) (st : Store) : boxN x st = if x.solid = true then some (.ptr st.length 0, st ++ [.cells x.cells]) else none := rfl

def allocN (P : Program) (e : TypeId) (st : Store) : Option (PV × Store) :=
  match tZero P e with
  | some z => boxN z st
  | none => none

def callL (P : Program) (call : CallF) (ann : FuncId → Ann) (v : PV) (l : List PV) (st : Store) : Option (PV × Store) :=
  match v with
  | .fn (.func g) first cap => if (ann g).pure then none else if hasBody P g then call g (first ++ l ++ cap) st else none
  | _ => none
theorem callL_fn (g : FuncId) (first cap l : List PV) (st : Store) : callL P call ann (.fn (.func g) first cap) l st =
    if (ann g).pure then none else if hasBody P g then call g (first ++ l ++ cap) st else none := rfl

theorem loud_load (base : Nat) (bx : Bool) (t : TypeId) (a : Operand) (st : Store) : loudOp P call ann base bx tk raw ρ st (.load t a) = if tk && decide (tAgg P t = some false) then loadL (ρ a) st else none := by
  simp only [loudOp, loadL]
  rfl
theorem loud_store (base : Nat) (bx : Bool) (t : TypeId) (a x : Operand) (st : Store) : loudOp P call ann base bx tk raw ρ st (.store t a x) = storeL P base t (ρ a) (raw x) st := by
  simp only [loudOp, storeL]
  rfl
theorem loud_alloc (base : Nat) (bx : Bool) (e : TypeId) (st : Store) : loudOp P call ann base bx tk raw ρ st (.alloc e) = allocN P e st := by
  simp only [loudOp, allocN, boxN]
  rfl
theorem loud_box (base : Nat) (bx : Bool) (e : TypeId) (x : Operand) (st : Store) : loudOp P call ann base bx tk raw ρ st (.box e x) = boxN (ρ x) st := by
  simp only [loudOp, boxN]
theorem loud_call (base : Nat) (bx : Bool) (f : Operand) (args : Array Operand) (tys : Array TypeId) (st : Store) : loudOp P call ann base bx tk raw ρ st (.call ⟨.value f, args, tys⟩) = callL P call ann (ρ f) (args.toList.map ρ) st := by
  simp only [loudOp, callL]
  rfl
def appendL (P : Program) (bx : Bool) (x y : PV) (tys : List TypeId) (st : Store) : Option (PV × Store) :=
  if bx then
    match tys with
    | [t, u] => pAppendB P t u x y st
    | _ => none
  else none
theorem loud_append (base : Nat) (bx : Bool) (x y : Operand) (tys : Array TypeId) (st : Store) : loudOp P call ann base bx tk raw ρ st (.call ⟨.builtin .append, #[x, y], tys⟩) = appendL P bx (ρ x) (ρ y) tys.toList st := by
  simp only [loudOp, appendL]
  cases bx with
  | true => simp only [if_true]; rcases tys.toList with _ | ⟨t, _ | ⟨u, _ | _⟩⟩ <;> rfl
  | false => rfl
def copyL (P : Program) (x y : PV) (tys : List TypeId) (st : Store) : Option (PV × Store) :=
  match tys with
  | [t, u] => pCopyB P t u x y st
  | _ => none
theorem loud_copy (base : Nat) (bx : Bool) (x y : Operand) (tys : Array TypeId) (st : Store) : loudOp P call ann base bx tk raw ρ st (.call ⟨.builtin .copy, #[x, y], tys⟩) = copyL P (ρ x) (ρ y) tys.toList st := by
  simp only [loudOp, copyL]
  rcases tys.toList with _ | ⟨t, _ | ⟨u, _ | _⟩⟩ <;> rfl
def clearL (P : Program) (x : PV) (tys : List TypeId) (st : Store) : Option (PV × Store) :=
  match tys with
  | [t] => pClearB P t x st
  | _ => none
theorem loud_clear (base : Nat) (bx : Bool) (x : Operand) (tys : Array TypeId) (st : Store) : loudOp P call ann base bx tk raw ρ st (.call ⟨.builtin .clear, #[x], tys⟩) = clearL P (ρ x) tys.toList st := by
  simp only [loudOp, clearL]
  rcases tys.toList with _ | ⟨t, _ | _⟩ <;> rfl
theorem loud_make (base : Nat) (bx : Bool) (t : TypeId) (x y : Operand) (st : Store) : loudOp P call ann base bx tk raw ρ st (.makeSlice t x y) = if bx then pMakeB P t (ρ x) (ρ y) st else none := rfl
theorem inert_make (t : TypeId) (x y : Operand) : inertOp P call ann tk raw ρ (.makeSlice t x y) = pMakeF P t (ρ x) (ρ y) := rfl
theorem read_make (t : TypeId) (x y : Operand) (st : Store) : readOp P tk ρ st (.makeSlice t x y) = none := rfl
def arrayR (P : Program) (t : TypeId) (x : PV) (st : Store) : Option PV :=
  match x, tArr P t with
  | .ptr b off, some (n, e) =>
    match st[b]?, tSize P e with
    | some (.cells cs), some sz => if off + n * sz ≤ cs.length ∧ n ≤ maxLen then some (.vs b off n n sz) else none
    | _, _ => none
  | _, _ => none
theorem read_slice (t : TypeId) (x : Operand) (st : Store) : readOp P tk ρ st (.slice t x none none none) = arrayR P t (ρ x) st := by
  simp only [readOp, arrayR]
  rfl
end

/-! One operation, by its parts: what the store is asked comes only where it is wanted. -/

def restL (C : Ctx) (dst : Option Tmp) (op : Op) (ty : TypeId) (pos : String) (after : Array Edge) (env : Env) (st : Store) : Option (Cls × PS) :=
  match loudOp C.P C.call C.ann C.base (doesBox (C.ann C.fn).boxes ⟨dst, op, ty, pos, after, none⟩) (doesTake (C.ann C.fn).take ⟨dst, op, ty, pos, after, none⟩) (ev env) (fun x => (ev env x).dn) st op with
  | some (v, st1) => some (loudCls (fun x => (ev env x).dn) op, ⟨put (drop env (takes (C.ann C.fn).take ⟨dst, op, ty, pos, after, none⟩)) dst v, st1⟩)
  | none => none
def pickL (c : Cls) (r : Option (PV × Store)) (env : Env) (dst : Option Tmp) : Option (Cls × PS) :=
  match r with
  | some (v, st1) => some (c, ⟨put env dst v, st1⟩)
  | none => none
theorem pickL_some (c : Cls) (v : PV) (st1 : Store) (env : Env) (dst : Option Tmp) : pickL c (some (v, st1)) env dst = some (c, ⟨put env dst v, st1⟩) := rfl
theorem restL_eq (C : Ctx) (dst : Option Tmp) (op : Op) (ty : TypeId) (pos : String) (after : Array Edge) (env : Env) (st : Store) : restL C dst op ty pos after env st =
    pickL (loudCls (fun x => (ev env x).dn) op) (loudOp C.P C.call C.ann C.base (doesBox (C.ann C.fn).boxes ⟨dst, op, ty, pos, after, none⟩) (doesTake (C.ann C.fn).take ⟨dst, op, ty, pos, after, none⟩) (ev env) (fun x => (ev env x).dn) st op)
      (drop env (takes (C.ann C.fn).take ⟨dst, op, ty, pos, after, none⟩)) dst := rfl

def restR (C : Ctx) (dst : Option Tmp) (op : Op) (ty : TypeId) (pos : String) (after : Array Edge) (env : Env) (st : Store) : Option (Cls × PS) :=
  match readOp C.P (doesTake (C.ann C.fn).take ⟨dst, op, ty, pos, after, none⟩) (fun x => (ev env x).dn) st op with
  | some v => some (readCls (fun x => (ev env x).dn) op, ⟨put env dst v, st⟩)
  | none => restL C dst op ty pos after env st
def pickR (c : Cls) (r : Option PV) (env : Env) (dst : Option Tmp) (st : Store) (rest : Option (Cls × PS)) : Option (Cls × PS) :=
  match r with
  | some v => some (c, ⟨put env dst v, st⟩)
  | none => rest
theorem pickR_some (c : Cls) (v : PV) (env : Env) (dst : Option Tmp) (st : Store) (rest : Option (Cls × PS)) : pickR c (some v) env dst st rest = some (c, ⟨put env dst v, st⟩) := rfl
theorem pickR_none (C : Ctx) (c : Cls) (dst : Option Tmp) (op : Op) (ty : TypeId) (pos : String) (after : Array Edge) (env : Env) (st : Store) :
    pickR c none env dst st (restL C dst op ty pos after env st) = pickL (loudCls (fun x => (ev env x).dn) op) (loudOp C.P C.call C.ann C.base (doesBox (C.ann C.fn).boxes ⟨dst, op, ty, pos, after, none⟩) (doesTake (C.ann C.fn).take ⟨dst, op, ty, pos, after, none⟩) (ev env) (fun x => (ev env x).dn) st op)
      (drop env (takes (C.ann C.fn).take ⟨dst, op, ty, pos, after, none⟩)) dst := rfl

def pickI (r : Option PV) (env : Env) (dst : Option Tmp) (st : Store) (rest : Option (Cls × PS)) : Option (Cls × PS) :=
  match r with
  | some v => some (.inert, ⟨put env dst v, st⟩)
  | none => rest
theorem pickI_some (v : PV) (env : Env) (dst : Option Tmp) (st : Store) (rest : Option (Cls × PS)) : pickI (some v) env dst st rest = some (.inert, ⟨put env dst v, st⟩) := rfl
theorem pickI_none (C : Ctx) (dst : Option Tmp) (op : Op) (ty : TypeId) (pos : String) (after : Array Edge) (env0 env : Env) (st : Store) :
    pickI none env0 dst st (restR C dst op ty pos after env st) = pickR (readCls (fun x => (ev env x).dn) op) (readOp C.P (doesTake (C.ann C.fn).take ⟨dst, op, ty, pos, after, none⟩) (fun x => (ev env x).dn) st op) env dst st (restL C dst op ty pos after env st) := by
  simp only [pickI, restR, pickR]

section
variable (ρ : Operand → PV)
def atR (v : PV) : Cls := match v with
  | .ptr b _ => .readAt b
  | _ => .reader
def atS (v : PV) : Cls := match v with
  | .ptr b _ => .storeAt b
  | _ => .loud
theorem readCls_load (t : TypeId) (a : Operand) : readCls ρ (.load t a) = atR (ρ a) := by
  simp only [readCls, atR]
  rfl
theorem readCls_slice (t : TypeId) (x : Operand) (lo hi mx : Option Operand) : readCls ρ (.slice t x lo hi mx) = .reader := rfl
theorem loudCls_store (t : TypeId) (a x : Operand) : loudCls ρ (.store t a x) = atS (ρ a) := by
  simp only [loudCls, atS]
  rfl
theorem loudCls_alloc (t : TypeId) : loudCls ρ (.alloc t) = .fresh := rfl
theorem loudCls_box (t : TypeId) (x : Operand) : loudCls ρ (.box t x) = .fresh := rfl
theorem loudCls_call (c : Call) : loudCls ρ (.call c) = .loud := rfl
theorem atR_ptr (b o : Nat) : atR (.ptr b o) = .readAt b := rfl
theorem atS_ptr (b o : Nat) : atS (.ptr b o) = .storeAt b := rfl
end

theorem pop_plain (C : Ctx) (ops : Array Oper) (dst : Option Tmp) (op : Op) (ty : TypeId) (pos : String) (after : Array Edge) (env : Env) (st : Store) :
    pop C ops ⟨dst, op, ty, pos, after, none⟩ ⟨env, st⟩ = (if dstOk C.ntmps dst then
      pickI (unBox (doesBox (C.ann C.fn).boxes ⟨dst, op, ty, pos, after, none⟩) (inertOp C.P C.call C.ann (doesTake (C.ann C.fn).take ⟨dst, op, ty, pos, after, none⟩) (ev env) (fun x => (ev env x).dn) op))
        (drop env (takes (C.ann C.fn).take ⟨dst, op, ty, pos, after, none⟩)) dst st (restR C dst op ty pos after env st)
    else none) := by
  unfold pop
  by_cases hd : dstOk C.ntmps dst = true
  · rw [if_pos hd, if_pos hd]
    simp only [wantedP, restR, restL, pickI]
    generalize unBox _ (inertOp C.P C.call C.ann _ (ev env) (fun x => (ev env x).dn) op) = I
    cases I with
    | some v => rfl
    | none =>
      dsimp only
      generalize readOp C.P _ (fun x => (ev env x).dn) st op = R
      cases R with
      | some v => rfl
      | none =>
        dsimp only
        generalize loudOp C.P C.call C.ann C.base _ _ (ev env) (fun x => (ev env x).dn) st op = L
        cases L with
        | some v => rfl
        | none => rfl
  · rw [if_neg hd, if_neg hd]

theorem wantV_tup (w : Bool) : wantV (.tup []) w = some false := rfl
theorem wantV_t (b : Bool) : wantV (bv b) true = some b := by cases b <;> rfl
theorem wantV_f (b : Bool) : wantV (bv b) false = some (!b) := by cases b <;> rfl
def wantS (ops : Array Oper) (j : Nat) (w : Bool) (env : Env) : Option Bool :=
  match (ops[j]?).bind (·.dst) with
  | some d => wantV (lk env d) w
  | none => none
def wantD (d : Option Tmp) (w : Bool) (env : Env) : Option Bool :=
  match d with
  | some d => wantV (lk env d) w
  | none => none
theorem wantS_eq (l : List Oper) (j : Nat) (w : Bool) (env : Env) : wantS l.toArray j w env = wantD ((l[j]?).bind (·.dst)) w env := by
  unfold wantS wantD
  rw [List.getElem?_toArray]
theorem wantD_some (d : Tmp) (w : Bool) (env : Env) : wantD (some d) w env = wantV (lk env d) w := rfl

def guardP (g : Option Bool) (C : Ctx) (ops : Array Oper) (dst : Option Tmp) (op : Op) (ty : TypeId) (pos : String) (after : Array Edge) (env : Env) (st : Store) : Option (Cls × PS) :=
  match g with
  | some true => pop C ops ⟨dst, op, ty, pos, after, none⟩ ⟨env, st⟩
  | some false => if dstOk C.ntmps dst then some (.skip, ⟨put env dst (.tup []), st⟩) else none
  | none => none
theorem guardP_true (C : Ctx) (ops : Array Oper) (dst : Option Tmp) (op : Op) (ty : TypeId) (pos : String) (after : Array Edge) (env : Env) (st : Store) :
    guardP (some true) C ops dst op ty pos after env st = pop C ops ⟨dst, op, ty, pos, after, none⟩ ⟨env, st⟩ := rfl
theorem guardP_false (C : Ctx) (ops : Array Oper) (dst : Option Tmp) (op : Op) (ty : TypeId) (pos : String) (after : Array Edge) (env : Env) (st : Store) :
    guardP (some false) C ops dst op ty pos after env st = if dstOk C.ntmps dst then some (.skip, ⟨put env dst (.tup []), st⟩) else none := rfl

theorem pop_guard (C : Ctx) (ops : Array Oper) (dst : Option Tmp) (op : Op) (ty : TypeId) (pos : String) (after : Array Edge) (j : Nat) (w : Bool) (env : Env) (st : Store) :
    pop C ops ⟨dst, op, ty, pos, after, some (j, w)⟩ ⟨env, st⟩ = guardP (wantS ops j w env) C ops dst op ty pos after env st := by
  have hw : wantedP ops env ⟨dst, op, ty, pos, after, some (j, w)⟩ = wantS ops j w env := rfl
  unfold pop guardP
  dsimp only
  rw [hw]
  by_cases hd : dstOk C.ntmps dst = true
  · rw [if_pos hd]
    generalize wantS ops j w env = g
    cases g with
    | none => rfl
    | some b =>
      cases b with
      | false => dsimp only; rw [if_pos hd]
      | true =>
        dsimp only
        unfold pop
        rw [if_pos hd]
        rfl
  · rw [if_neg hd]
    generalize wantS ops j w env = g
    cases g with
    | none => rfl
    | some b =>
      cases b with
      | false => dsimp only; rw [if_neg hd]
      | true => dsimp only; unfold pop; rw [if_neg hd]

theorem unBox_false (r : Option PV) : unBox false r = r := rfl
theorem unBox_true (r : Option PV) : unBox true r = none := rfl

/-- Integers of the program's own size come round. -/
abbrev W (x : Int) : Int := IntKind.wrap .i64 x
theorem add_iv (P : Program) (t : TypeId) (a b : Int) (x y : Operand) : pBin P .add t x y (iv a) (iv b) = some (iv (W (a + b))) := by kernel_rfl
theorem sub_iv (P : Program) (t : TypeId) (a b : Int) (x y : Operand) : pBin P .sub t x y (iv a) (iv b) = some (iv (W (a - b))) := by kernel_rfl
theorem mul_iv (P : Program) (t : TypeId) (a b : Int) (x y : Operand) : pBin P .mul t x y (iv a) (iv b) = some (iv (W (a * b))) := by kernel_rfl
theorem lss_iv (P : Program) (t : TypeId) (a b : Int) (x y : Operand) : pBin P .lss t x y (iv a) (iv b) = some (bv (decide (a < b))) := by kernel_rfl
theorem leq_iv (P : Program) (t : TypeId) (a b : Int) (x y : Operand) : pBin P .leq t x y (iv a) (iv b) = some (bv (decide (a ≤ b))) := by kernel_rfl
theorem gtr_iv (P : Program) (t : TypeId) (a b : Int) (x y : Operand) : pBin P .gtr t x y (iv a) (iv b) = some (bv (decide (b < a))) := by kernel_rfl
theorem geq_iv (P : Program) (t : TypeId) (a b : Int) (x y : Operand) : pBin P .geq t x y (iv a) (iv b) = some (bv (decide (b ≤ a))) := by kernel_rfl
theorem eql_iv (P : Program) (t : TypeId) (a b : Int) (x y : Operand) : pBin P .eql t x y (iv a) (iv b) = some (bv (decide (a = b))) := by kernel_rfl
theorem neq_iv (P : Program) (t : TypeId) (a b : Int) (x y : Operand) : pBin P .neq t x y (iv a) (iv b) = some (bv (!decide (a = b))) := by kernel_rfl

theorem W_nat {n : Nat} (h : n < 2 ^ 62) : W (n : Int) = n := by
  have hb : IntKind.bits .i64 = 64 := rfl
  simp only [W, IntKind.wrap, hb]
  simp
  omega
theorem W_succ {n : Nat} (h : n < 2 ^ 61) : W ((n : Int) + 1) = ((n + 1 : Nat) : Int) := by
  have := W_nat (n := n + 1) (by omega)
  rwa [Int.natCast_add] at this

end Go.Proofs.YtnjlkgmcoengnaaGreat.PE
