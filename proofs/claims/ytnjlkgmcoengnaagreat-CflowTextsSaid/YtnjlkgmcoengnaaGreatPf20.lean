/-
  PF, part 20: a call, as an equation: for walks that go into what is called. Holds for every Program; no condition.
-/
import Derived.Test.YtnjlkgmcoengnaaGreatPf17
set_option linter.unusedSimpArgs false
set_option linter.unusedVariables false
namespace Go.Proofs.YtnjlkgmcoengnaaGreat.PE
open Go

theorem popsL_of_pops {C : Ctx} {ops : Array Oper} : ∀ (l : List Oper) (k : Nat) (s s' : PS) (cs : List (Nat × Cls)), (∀ (i : Nat) (o : Oper), l[i]? = some o → ops[k + i]? = some o) →
    pops C ops (List.range' k l.length) s = some (cs, s') → popsL C ops l s = some s'
  | [], k, s, s', cs, _, h => by
    simp only [List.length_nil, List.range'_zero, pops, Option.some.injEq, Prod.mk.injEq] at h
    rw [popsL, h.2]
  | o :: r, k, s, s', cs, ho, h => by
    have h0 := ho 0 o rfl
    rw [Nat.add_zero] at h0
    rw [List.length_cons, List.range'_succ] at h
    simp only [pops, h0] at h
    split at h
    · cases h
    · rename_i c s1 hp
      split at h
      · cases h
      · rename_i cs2 s2 hps
        simp only [Option.some.injEq, Prod.mk.injEq] at h
        obtain ⟨_, rfl⟩ := h
        simp only [popsL, hp]
        exact popsL_of_pops r (k + 1) s1 s2 cs2 (fun i o' hi => by
          have := ho (i + 1) o' (by simpa using hi)
          rwa [show k + (i + 1) = k + 1 + i by omega] at this) hps

theorem pregionS_of {C : Ctx} {ops : Array Oper} {draw : Bool} {s s' : PS} (h : pregion C ops draw s = some s') : pregionS C ops s = some s' := by
  unfold pregion at h
  split at h
  · cases h
  · rename_i cs s1 hp
    have hq : popsL C ops ops.toList s = some s1 := by
      refine popsL_of_pops ops.toList 0 s s1 cs (fun i o hi => by rw [Nat.zero_add, ← Array.getElem?_toList]; exact hi) ?_
      rw [Array.length_toList, ← List.range_eq_range']
      exact hp
    simp only [pregionS, hq]
    split at h
    · cases h
    · exact h

theorem ploop_to {f g : PS → Option (PX × PS)} (h : ∀ s, f s = g s) : ∀ n s, ploop f n s = ploop g n s
  | 0, s => rfl
  | n + 1, s => by
    simp only [ploop, h]
    split
    · rename_i s1 h1
      exact ploop_to h n s1
    · rfl

theorem pcode_eq {C : Ctx} {fuel : Nat} : ∀ (c : Code), regionsOk C c = true → ∀ (s : PS), pcodeS C fuel c s = pcode C fuel c s := by
  intro c
  induction c with
  | skip => intro _ s; rfl
  | region id ops draw =>
    intro hok s
    have hx : (if (C.ann C.fn).dyn.contains id then pregion C ops draw s else pregionS C ops s) = pregion C ops draw s := by
      cases hdy : (C.ann C.fn).dyn.contains id with
      | true => rw [if_pos rfl]
      | false =>
        rw [if_neg (by simp)]
        simp only [regionsOk, hdy, Bool.false_or] at hok
        cases hp : pregion C ops draw s with
        | some s1 => exact pregionS_of hp
        | none =>
          cases hq : pregionS C ops s with
          | none => rfl
          | some s1 => rw [pregion_of hok hq] at hp; cases hp
    simp only [pcodeS, pcode, hx]
    cases pregion C ops draw s <;> rfl
  | seq a b iha ihb =>
    intro hok s
    simp only [regionsOk, Bool.and_eq_true] at hok
    simp only [pcodeS, pcode, iha hok.1]
    split
    · rename_i s1 h1
      simp only [h1, ihb hok.2]
    · rename_i hno
      split
      · rename_i s1 h1
        exact absurd h1 (hno s1)
      · rfl
  | cond c a b iha ihb =>
    intro hok s
    simp only [regionsOk, Bool.and_eq_true] at hok
    simp only [pcodeS, pcode, iha hok.1, ihb hok.2]
    rfl
  | block id b ih =>
    intro hok s
    simp only [regionsOk] at hok
    simp only [pcodeS, pcode, ih hok]
    rfl
  | loop b ih =>
    intro hok s
    simp only [regionsOk] at hok
    simp only [pcodeS, pcode]
    exact ploop_to (ih hok) fuel s
  | exit id => intro _ s; rfl
  | ret => intro _ s; rfl
  | rangeFunc f ps as bd _ _ => intro _ s; simp [pcodeS, pcode]
  | scope b _ => intro _ s; simp [pcodeS, pcode]
  | label l => intro _ s; simp [pcodeS, pcode]
  | goto l => intro _ s; simp [pcodeS, pcode]
  | refuse y => intro _ s; simp [pcodeS, pcode]

/-- A CALL, AS AN EQUATION. -/
theorem pcall_eqn {P : Program} {ann : FuncId → Ann} {sums : Sums} {k : Nat} {f : FuncId} {fn : Func} {c : Code} {args : List PV} {st : Store} {rs : List ResultVar} {n : Nat}
    (hs : sums f = none) (hf : P.funcs[f]? = some fn) (hb : fn.body = some c) (hrs : fn.results.toList = rs) (hnt : fn.ntmps = n)
    (hok : ∀ call base, regionsOk { P, ann, call, fn := f, ntmps := n, base } c = true) (hn : decide (args.length ≤ n) = true) :
    pcall P ann sums (k + 1) f args st = endS (ann f).fz P rs st (pcodeS { P, ann, call := pcall P ann sums k, fn := f, ntmps := n, base := st.length } k c { env := params args, st }) := by
  subst hrs
  subst hnt
  have hres : ∀ s, resV P fn.results.toList s = resultsOf P fn s := fun s => rfl
  rw [pcode_eq c (hok _ _)]
  simp only [pcall, hs, hf, hb, if_pos (of_decide_eq_true hn), endS, hres]
  split
  · rename_i s h; rw [h]
  · rename_i s h; rw [h]
  · rename_i h1 h2
    split
    · rename_i s h; exact absurd h (h1 s)
    · rename_i s h; exact absurd h (h2 s)
    · rfl

/-- A loop's round. -/
def loopS (r : Option (PX × PS)) (f : PS → Option (PX × PS)) : Option (PX × PS) :=
  match r with
  | some (.normal, s1) => f s1
  | r => r
theorem ploopC_succ (C : Ctx) (fuel n : Nat) (b : Code) (s : PS) : ploopC C fuel b (n + 1) s = loopS (pcodeS C fuel b s) (ploopC C fuel b n) := rfl
theorem loopS_normal (s : PS) (f : PS → Option (PX × PS)) : loopS (some (.normal, s)) f = f s := rfl
theorem loopS_exit (j : Nat) (s : PS) (f : PS → Option (PX × PS)) : loopS (some (.exit j, s)) f = some (.exit j, s) := rfl
theorem loopS_ret (s : PS) (f : PS → Option (PX × PS)) : loopS (some (.ret, s)) f = some (.ret, s) := rfl

theorem doneK_if (C : Ctx) (ops : Array Oper) (cs : List (Nat × Cls)) (env : Env) (st : Store) : doneK C ops true (some (cs, ⟨env, st⟩)) = if drawOk C ops cs = true then some (.normal, ⟨restrict (C.ann C.fn).keep env, st⟩) else none := by
  simp only [doneK]
  cases drawOk C ops cs <;> rfl

/-- Two results or more. -/
def consR (v : Option PV) (l : Option (List PV)) : Option (List PV) :=
  match v, l with
  | some v, some l => some (v.dn :: l)
  | _, _ => none
def resM (P : Program) (s : PS) : List ResultVar → Option (List PV)
  | [] => some []
  | r :: rs => consR (resultOf P s r) (resM P s rs)
theorem consR_some (v : PV) (l : List PV) : consR (some v) (some l) = some (v.dn :: l) := rfl
theorem resM_nil (P : Program) (s : PS) : resM P s [] = some [] := rfl
theorem resM_cons (P : Program) (s : PS) (r : ResultVar) (rs : List ResultVar) : resM P s (r :: rs) = consR (resultOf P s r) (resM P s rs) := rfl
theorem resM_eq (P : Program) (s : PS) : ∀ rs : List ResultVar, (rs.mapM (resultOf P s)).map (fun l => l.map PV.dn) = resM P s rs
  | [] => rfl
  | r :: rs => by
    rw [resM_cons, ← resM_eq P s rs, List.mapM_cons]
    cases resultOf P s r with
    | none => rfl
    | some v =>
      cases rs.mapM (resultOf P s) with
      | none => rfl
      | some l => rfl
theorem resV_two (P : Program) (s : PS) (a b : ResultVar) (rs : List ResultVar) : resV P (a :: b :: rs) s = (resM P s (a :: b :: rs)).map .tup := by
  rw [← resM_eq]
  simp only [resV, Option.map_map]
  rfl

end Go.Proofs.YtnjlkgmcoengnaaGreat.PE
