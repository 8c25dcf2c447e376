/-
  PE, part 16: the evaluator without the question of order, where a function's regions have been looked at once: the road for values that are not told. Holds for every Program; no condition.
-/
import Derived.Test.YtfmelnhlljgooaaPe15
set_option linter.unusedSimpArgs false
set_option linter.unusedVariables false
namespace Go.Proofs.Ytfmelnhlljgooaa.PE
open Go

/-- The kind of an operation, at the worst. -/
def statCls (ann : FuncId → Ann) (take : List Nat) (o : Oper) : Cls :=
  match o.op with
  | .load .. => if doesTake take o then .loud else .reader
  | .store .. | .alloc _ | .box .. => .loud
  | .call { callee := .value f, .. } =>
    match f with
    | .func g => if (ann g).pure then .inert else .loud
    | _ => .loud
  | _ => .inert

def Cls.le : Cls → Cls → Prop
  | .loud, c => c = .loud
  | .reader, c => c = .reader ∨ c = .loud
  | _, _ => True

theorem popF_cls {C : Ctx} {ops : Array Oper} {o : Oper} {s s' : PS} {c : Cls} (h : pop C ops o s = some (c, s')) : c.le (statCls C.ann (C.ann C.fn).take o) := by
  unfold pop at h
  split at h
  · rename_i hd0
    clear hd0
    split at h
    · cases h
    · simp only [Option.some.injEq, Prod.mk.injEq] at h
      obtain ⟨rfl, _⟩ := h
      exact trivial
    · rename_i hw0
      clear hw0
      dsimp only at h
      split at h
      · simp only [Option.some.injEq, Prod.mk.injEq] at h
        obtain ⟨rfl, _⟩ := h
        exact trivial
      · rename_i hni
        split at h
        · rename_i v hr
          simp only [Option.some.injEq, Prod.mk.injEq] at h
          obtain ⟨rfl, _⟩ := h
          clear hni
          obtain ⟨dst, op, ty, pos, after, guard⟩ := o
          cases op <;> try (simp only [readOp] at hr; cases hr; done)
          simp only [statCls]
          split
          · exact .inr rfl
          · exact .inl rfl
        · rename_i hnr
          clear hnr hni
          split at h
          · rename_i v st' hl
            simp only [Option.some.injEq, Prod.mk.injEq] at h
            obtain ⟨rfl, hz⟩ := h
            clear hz
            show statCls C.ann (C.ann C.fn).take o = .loud
            obtain ⟨dst, op, ty, pos, after, guard⟩ := o
            cases op <;> try (simp only [loudOp] at hl; cases hl; done)
            case load t y =>
              simp only [loudOp] at hl
              split at hl
              · rename_i htk
                simp only [Bool.and_eq_true] at htk
                simp only [statCls]
                rw [if_pos htk.1]
              · cases hl
            case store t y z => rfl
            case alloc e => rfl
            case box e y => rfl
            case call cl =>
              obtain ⟨callee, args, tys⟩ := cl
              cases callee with
              | builtin b => simp [loudOp] at hl
              | invoke r m => simp [loudOp] at hl
              | value f =>
                simp only [statCls]
                split
                · rename_i g
                  simp only [loudOp, ev, PV.dn] at hl
                  split
                  · rename_i hp; rw [if_pos hp] at hl; cases hl
                  · rfl
                · rfl
          · cases h
  · cases h

theorem free_mono {take : List Nat} {ops : Array Oper} {i j : Nat} {c d c' d' : Cls} (hc : c.le c') (hd : d.le d') (h : free take ops (i, c') (j, d') = true) : free take ops (i, c) (j, d) = true := by
  unfold free at h ⊢
  dsimp only at h ⊢
  split at h
  · simp only [Bool.and_eq_true] at h ⊢
    refine ⟨⟨?_, h.1.2⟩, h.2⟩
    have := h.1.1
    cases c <;> cases d <;> simp [Cls.le] at hc hd ⊢
    · rcases hc with rfl | rfl <;> simp [hd] at this
    · rcases hd with rfl | rfl <;> simp [hc] at this
    · simp [hc, hd] at this
  · cases h

def statics (C : Ctx) (ops : Array Oper) : List (Nat × Cls) :=
  ops.toList.zipIdx.map fun p => (p.2, statCls C.ann (C.ann C.fn).take p.1)

def regionsOk (C : Ctx) : Code → Bool
  | .region _ ops draw => !draw || drawOk C ops (statics C ops)
  | .seq a b => regionsOk C a && regionsOk C b
  | .cond _ a b => regionsOk C a && regionsOk C b
  | .block _ b => regionsOk C b
  | .loop b => regionsOk C b
  | _ => true

theorem pops_cls {C : Ctx} {ops : Array Oper} : ∀ (l : List Nat) (s s' : PS) (cs : List (Nat × Cls)), pops C ops l s = some (cs, s') →
    ∀ p, p ∈ cs → ∃ o, ops[p.1]? = some o ∧ p.2.le (statCls C.ann (C.ann C.fn).take o)
  | [], s, s', cs, h, p, hp => by
    simp only [pops, Option.some.injEq, Prod.mk.injEq] at h
    obtain ⟨rfl, rfl⟩ := h
    cases hp
  | i :: r, s, s', cs, h, p, hp => by
    simp only [pops] at h
    split at h
    · cases h
    · rename_i o ho
      split at h
      · cases h
      · rename_i c s1 hpop
        split at h
        · cases h
        · rename_i cs2 s2 hps
          simp only [Option.some.injEq, Prod.mk.injEq] at h
          obtain ⟨rfl, rfl⟩ := h
          rcases List.mem_cons.1 hp with rfl | hp
          · exact ⟨o, ho, popF_cls hpop⟩
          · exact pops_cls r s1 s2 cs2 hps p hp

theorem drawOk_of {C : Ctx} {ops : Array Oper} (h : drawOk C ops (statics C ops) = true) {l : List Nat} {s s' : PS} {cs : List (Nat × Cls)} (hp : pops C ops l s = some (cs, s')) : drawOk C ops cs = true := by
  unfold drawOk at h ⊢
  simp only [Bool.and_eq_true] at h ⊢
  refine ⟨h.1, ?_⟩
  have h2 := h.2
  unfold orderOk at h2 ⊢
  refine List.all_eq_true.2 fun p hpm => List.all_eq_true.2 fun q hqm => ?_
  have hmem : ∀ p, p ∈ cs → ∃ c, (p.1, c) ∈ statics C ops ∧ p.2.le c := by
    intro p hpm
    obtain ⟨o, ho, hle⟩ := pops_cls l s s' cs hp p hpm
    refine ⟨_, List.mem_map.2 ⟨(o, p.1), ?_, rfl⟩, hle⟩
    rw [List.mem_zipIdx_iff_getElem?]
    simpa using ho
  obtain ⟨c, hc, hcl⟩ := hmem p hpm
  obtain ⟨d, hd, hdl⟩ := hmem q hqm
  have := List.all_eq_true.1 (List.all_eq_true.1 h2 _ hc) _ hd
  simp only [Bool.or_eq_true] at this ⊢
  rcases this with hx | hx
  · exact .inl hx
  · exact .inr (free_mono hcl hdl hx)

/-- The operations of a region, one by one. -/
def popsL (C : Ctx) (ops : Array Oper) : List Oper → PS → Option PS
  | [], s => some s
  | o :: r, s =>
    match pop C ops o s with
    | none => none
    | some (_, s1) => popsL C ops r s1

theorem pops_of_popsL {C : Ctx} {ops : Array Oper} : ∀ (l : List Oper) (k : Nat) (s s' : PS), (∀ (i : Nat) (o : Oper), l[i]? = some o → ops[k + i]? = some o) → popsL C ops l s = some s' →
    ∃ cs, pops C ops (List.range' k l.length) s = some (cs, s')
  | [], k, s, s', _, h => by
    simp only [popsL, Option.some.injEq] at h
    subst h
    exact ⟨[], rfl⟩
  | o :: r, k, s, s', ho, h => by
    simp only [popsL] at h
    split at h
    · cases h
    · rename_i c s1 hp
      obtain ⟨cs, hcs⟩ := pops_of_popsL r (k + 1) s1 s' (fun i o' hi => by
        have := ho (i + 1) o' (by simpa using hi)
        rwa [show k + (i + 1) = k + 1 + i by omega] at this) h
      have h0 := ho 0 o rfl
      rw [Nat.add_zero] at h0
      refine ⟨(k, c) :: cs, ?_⟩
      rw [List.length_cons, List.range'_succ]
      simp only [pops, h0, hp, hcs]

def pregionS (C : Ctx) (ops : Array Oper) (s : PS) : Option PS :=
  match popsL C ops ops.toList s with
  | none => none
  | some s1 => some { s1 with env := restrict (C.ann C.fn).keep s1.env }

theorem pregion_of {C : Ctx} {ops : Array Oper} {draw : Bool} {s s' : PS} (hok : (!draw || drawOk C ops (statics C ops)) = true) (h : pregionS C ops s = some s') : pregion C ops draw s = some s' := by
  unfold pregionS at h
  split at h
  · cases h
  · rename_i s1 hs
    obtain ⟨cs, hcs⟩ := pops_of_popsL ops.toList 0 s s1 (fun i o hi => by rw [Nat.zero_add, ← Array.getElem?_toList]; exact hi) hs
    rw [Array.length_toList, ← List.range_eq_range'] at hcs
    unfold pregion
    rw [hcs]
    dsimp only
    have : (draw && !drawOk C ops cs) = false := by
      cases draw with
      | false => rfl
      | true =>
        have := drawOk_of (by simpa using hok) hcs
        rw [this]
        rfl
    rw [this]
    simpa using h

def pcodeS (C : Ctx) (fuel : Nat) : Code → PS → Option (PX × PS)
  | .skip, s => some (.normal, s)
  | .region _ ops _, s =>
    match pregionS C ops s with
    | none => none
    | some s1 => some (.normal, s1)
  | .seq a b, s =>
    match pcodeS C fuel a s with
    | some (.normal, s1) => pcodeS C fuel b s1
    | r => r
  | .cond c x y, s =>
    match ev s.env c with
    | .s (.bool true) => pcodeS C fuel x s
    | .s (.bool false) => pcodeS C fuel y s
    | _ => none
  | .block id b, s =>
    match pcodeS C fuel b s with
    | some (.exit j, s1) => if j = id then some (.normal, s1) else some (.exit j, s1)
    | r => r
  | .loop b, s => ploop (pcodeS C fuel b) fuel s
  | .exit id, s => some (.exit id, s)
  | .ret, s => some (.ret, s)
  | _, _ => none

theorem ploop_of {f g : PS → Option (PX × PS)} (h : ∀ s r, f s = some r → g s = some r) : ∀ n s r, ploop f n s = some r → ploop g n s = some r
  | 0, s, r, hp => by simp [ploop] at hp
  | n + 1, s, r, hp => by
    simp only [ploop] at hp ⊢
    split at hp
    · rename_i s1 h1
      rw [h s _ h1]
      exact ploop_of h n s1 r hp
    · rename_i hno
      have := h s r hp
      rw [this]
      obtain ⟨x, s1⟩ := r
      cases x with
      | normal => exact absurd hp (hno s1)
      | exit j => rfl
      | ret => rfl

theorem pcode_of {C : Ctx} {fuel : Nat} : ∀ (c : Code), regionsOk C c = true → ∀ (s : PS) (r : PX × PS), pcodeS C fuel c s = some r → pcode C fuel c s = some r := by
  intro c
  induction c with
  | skip => intro _ s r h; exact h
  | region id ops draw =>
    intro hok s r h
    simp only [pcodeS] at h
    split at h
    · cases h
    · rename_i s1 h1
      simp only [pcode, pregion_of hok h1, Option.map_some]
      exact h
  | seq a b iha ihb =>
    intro hok s r h
    simp only [regionsOk, Bool.and_eq_true] at hok
    simp only [pcodeS] at h
    simp only [pcode]
    split at h
    · rename_i s1 h1
      rw [iha hok.1 s _ h1]
      exact ihb hok.2 s1 r h
    · rename_i hno
      have := iha hok.1 s r h
      rw [this]
      obtain ⟨x, s1⟩ := r
      cases x with
      | normal => exact absurd h (hno s1)
      | exit j => rfl
      | ret => rfl
  | cond c a b iha ihb =>
    intro hok s r h
    simp only [regionsOk, Bool.and_eq_true] at hok
    simp only [pcodeS] at h
    simp only [pcode]
    split at h
    · rename_i he; rw [he]; exact iha hok.1 s r h
    · rename_i he; rw [he]; exact ihb hok.2 s r h
    · cases h
  | block id b ih =>
    intro hok s r h
    simp only [regionsOk] at hok
    simp only [pcodeS] at h
    simp only [pcode]
    split at h
    · rename_i j s1 h1
      rw [ih hok s _ h1]
      exact h
    · rename_i hno
      rw [ih hok s r h]
      obtain ⟨x, s1⟩ := r
      cases x with
      | normal => rfl
      | exit j => exact absurd h (hno j s1)
      | ret => rfl
  | loop b ih =>
    intro hok s r h
    simp only [pcodeS] at h
    simp only [pcode]
    exact ploop_of (ih hok) fuel s r h
  | exit id => intro _ s r h; exact h
  | ret => intro _ s r h; exact h
  | rangeFunc f ps as bd _ _ => intro _ s r h; simp [pcodeS] at h
  | scope b _ => intro _ s r h; simp [pcodeS] at h
  | label l => intro _ s r h; simp [pcodeS] at h
  | goto l => intro _ s r h; simp [pcodeS] at h
  | refuse y => intro _ s r h; simp [pcodeS] at h

/-- A CALL, BY THE ROAD FOR VALUES THAT ARE NOT TOLD. -/
theorem pcall_of {P : Program} {ann : FuncId → Ann} {sums : Sums} {k : Nat} {f : FuncId} {fn : Func} {c : Code} {args : List PV} {st : Store} {x : PX} {s : PS} {r : PV}
    (hs : sums f = none) (hf : P.funcs[f]? = some fn) (hb : fn.body = some c) (hn : args.length ≤ fn.ntmps)
    (hok : ∀ call base, regionsOk { P, ann, call, fn := f, ntmps := fn.ntmps, base } c = true)
    (hp : pcodeS { P, ann, call := pcall P ann sums k, fn := f, ntmps := fn.ntmps, base := st.length } k c { env := params args, st } = some (x, s))
    (hx : x = .normal ∨ x = .ret) (hr : resultsOf P fn s = some r) : pcall P ann sums (k + 1) f args st = some (settle st r s.st) := by
  have := pcode_of c (hok _ _) _ _ hp
  simp only [pcall, hs, hf, hb, if_pos hn, this]
  rcases hx with rfl | rfl
  · simp only [hr, Option.map_some]
  · simp only [hr, Option.map_some]

end Go.Proofs.Ytfmelnhlljgooaa.PE
