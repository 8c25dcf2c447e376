/-
  PF, part 22: the walk's laws once more, not to be told by reckoning alone: for walks with values that are told. Holds for every Program; no condition.
-/
import Derived.Test.YtnjlkgmcoengnaaGreatPf21
set_option linter.unusedSimpArgs false
set_option linter.unusedVariables false
namespace Go.Proofs.YtnjlkgmcoengnaaGreat.PE
open Go

theorem pcS_skipN (C : Ctx) (fuel : Nat) (s : PS) : pcodeS C fuel .skip s = some (.normal, s) := (rfl)
theorem pcS_seqN (C : Ctx) (fuel : Nat) (s : PS) (a b : Code) : pcodeS C fuel (.seq a b) s = bindS (pcodeS C fuel a s) (pcodeS C fuel b) := (rfl)
theorem pcS_condN (C : Ctx) (fuel : Nat) (s : PS) (c : Operand) (x y : Code) : pcodeS C fuel (.cond c x y) s = condS (ev s.env c) (pcodeS C fuel x) (pcodeS C fuel y) s := (rfl)
theorem pcS_blockN (C : Ctx) (fuel : Nat) (s : PS) (id : Nat) (b : Code) : pcodeS C fuel (.block id b) s = blockS id (pcodeS C fuel b s) := (rfl)
theorem pcS_loopN (C : Ctx) (fuel : Nat) (s : PS) (b : Code) : pcodeS C fuel (.loop b) s = ploopC C fuel b fuel s := (rfl)
theorem pcS_exitN (C : Ctx) (fuel : Nat) (s : PS) (id : Nat) : pcodeS C fuel (.exit id) s = some (.exit id, s) := (rfl)
theorem pcS_retN (C : Ctx) (fuel : Nat) (s : PS) : pcodeS C fuel .ret s = some (.ret, s) := (rfl)
theorem popsL_nilN (C : Ctx) (s : PS) (ops : Array Oper) : popsL C ops [] s = some s := (rfl)
theorem bindS_normalN (s : PS) (k : PS → Option (PX × PS)) : bindS (some (.normal, s)) k = k s := (rfl)
theorem bindS_exitN (j : Nat) (s : PS) (k : PS → Option (PX × PS)) : bindS (some (.exit j, s)) k = some (.exit j, s) := (rfl)
theorem bindS_retN (s : PS) (k : PS → Option (PX × PS)) : bindS (some (.ret, s)) k = some (.ret, s) := (rfl)
theorem blockS_normalN (id : Nat) (s : PS) : blockS id (some (.normal, s)) = some (.normal, s) := (rfl)
theorem blockS_exitN (id j : Nat) (s : PS) : blockS id (some (.exit j, s)) = if j = id then some (.normal, s) else some (.exit j, s) := (rfl)
theorem blockS_retN (id : Nat) (s : PS) : blockS id (some (.ret, s)) = some (.ret, s) := (rfl)
theorem bindP_someN (c : Cls) (s : PS) (k : PS → Option PS) : bindP (some (c, s)) k = k s := (rfl)
theorem doneR_someN (keep : List Nat) (env : Env) (st : Store) : doneR keep (some ⟨env, st⟩) = some (.normal, ⟨restrict keep env, st⟩) := (rfl)
theorem condS_trueN (x y : PS → Option (PX × PS)) (s : PS) : condS (bv true) x y s = x s := (rfl)
theorem condS_falseN (x y : PS → Option (PX × PS)) (s : PS) : condS (bv false) x y s = y s := (rfl)
theorem pickI_someN (v : PV) (env : Env) (dst : Option Tmp) (st : Store) (rest : Option (Cls × PS)) : pickI (some v) env dst st rest = some (.inert, ⟨put env dst v, st⟩) := (rfl)
theorem pickR_someN (c : Cls) (v : PV) (env : Env) (dst : Option Tmp) (st : Store) (rest : Option (Cls × PS)) : pickR c (some v) env dst st rest = some (c, ⟨put env dst v, st⟩) := (rfl)
theorem pickL_someN (c : Cls) (v : PV) (st1 : Store) (env : Env) (dst : Option Tmp) : pickL c (some (v, st1)) env dst = some (c, ⟨put env dst v, st1⟩) := (rfl)
theorem endS_normalN (fz : Bool) (P : Program) (rs : List ResultVar) (st : Store) (s : PS) : endS fz P rs st (some (.normal, s)) = setS fz st (resV P rs s) s.st := (rfl)
theorem endS_retN (fz : Bool) (P : Program) (rs : List ResultVar) (st : Store) (s : PS) : endS fz P rs st (some (.ret, s)) = setS fz st (resV P rs s) s.st := (rfl)
theorem dynR_noN (C : Ctx) (ops : Array Oper) (d : Bool) (s : PS) : dynR false C ops d s = doneR (C.ann C.fn).keep (popsL C ops ops.toList s) := (rfl)

end Go.Proofs.YtnjlkgmcoengnaaGreat.PE
