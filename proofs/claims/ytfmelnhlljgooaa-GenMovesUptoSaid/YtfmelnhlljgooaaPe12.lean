/-
  PE, part 12: two operations that are apart change places; a region in every order. Holds for every Program; no condition.
-/
import Derived.Test.YtfmelnhlljgooaaPe11
set_option linter.unusedSimpArgs false
set_option linter.unusedVariables false
namespace Go.Proofs.Ytfmelnhlljgooaa.PE
open Go

theorem dropF_dn (e : FE) (x : Option Nat) (t : Nat) : (dropF e x t).dn = (e t).dn := by
  unfold dropF
  cases x with
  | none => rfl
  | some x =>
    dsimp only
    by_cases h : t = x
    · rw [if_pos h, h]; exact dn_dn _
    · rw [if_neg h]

theorem operand_looksAt {ops : Array Oper} {o : Oper} {t : Nat} (h : Operand.tmp t ∈ o.op.operands) : t ∈ looksAt ops o := by
  unfold looksAt
  refine List.mem_append.2 (.inr (List.mem_filterMap.2 ⟨.tmp t, Array.mem_toList_iff.2 h, rfl⟩))

theorem rawOf_operand {tk : Bool} {op : Op} {x : Operand} (h : x ∈ rawOf tk op) : x ∈ op.operands := by
  cases op <;> simp only [rawOf, List.not_mem_nil] at h
  case move y =>
    cases tk with
    | true => simp at h; simp [Op.operands, h]
    | false => simp at h
  case assign y => simp at h; simp [Op.operands, h]
  case store t a z => simp at h; simp [Op.operands, h]
  case call c =>
    obtain ⟨callee, args, tys⟩ := c
    cases callee with
    | builtin b =>
      cases b <;> simp only [List.not_mem_nil] at h
      rw [Option.mem_toList] at h
      simp only [Op.operands, Call.operands, Array.mem_append]
      exact .inr (Array.mem_of_getElem? h)
    | value f => simp at h
    | invoke r m => simp at h

theorem rawOf_takes {take : List Nat} {o : Oper} {t : Nat} (h : Operand.tmp t ∈ rawOf (doesTake take o) o.op) : takes take o = some t := by
  obtain ⟨dst, op, ty, pos, after, guard⟩ := o
  cases op <;> simp only [rawOf, List.not_mem_nil] at h
  case move y =>
    cases htk : doesTake take ⟨dst, .move y, ty, pos, after, guard⟩ with
    | true =>
      rw [htk] at h
      simp only [if_true, List.mem_singleton] at h
      subst h
      cases dst with
      | none => simp [doesTake] at htk
      | some d =>
        simp only [doesTake] at htk
        simp only [takes]
        rw [if_pos htk]
    | false => rw [htk] at h; simp at h
  case assign y => simp at h; subst h; rfl
  case store u a z => simp at h; subst h; rfl
  case call c =>
    obtain ⟨callee, args, tys⟩ := c
    cases callee with
    | builtin b =>
      cases b <;> simp only [List.not_mem_nil] at h
      rw [Option.mem_toList] at h
      have h' : args[0]? = some (.tmp t) := h
      simp only [takes, h']
    | value f => simp at h
    | invoke r m => simp at h

theorem takes_looksAt {take : List Nat} {ops : Array Oper} {o : Oper} {t : Nat} (h : takes take o = some t) : t ∈ looksAt ops o := by
  refine operand_looksAt ?_
  obtain ⟨dst, op, ty, pos, after, guard⟩ := o
  unfold takes at h
  dsimp only at h ⊢
  split at h
  · split at h
    · split at h
      · simp only [Option.some.injEq] at h; subst h; simp [Op.operands]
      · cases h
    · cases h
  · simp only [Option.some.injEq] at h; subst h; simp [Op.operands]
  · simp only [Option.some.injEq] at h; subst h; simp [Op.operands]
  · split at h
    · rename_i h0
      simp only [Option.some.injEq] at h
      subst h
      simp only [Op.operands, Call.operands, Array.mem_append]
      exact .inr (Array.mem_of_getElem? h0)
    · cases h
  · cases h

/-- Two states of the slots that an operation cannot tell apart. -/
structure Alike (take : List Nat) (ops : Array Oper) (o : Oper) (e e' : FE) : Prop where
  dn : ∀ t, t ∈ looksAt ops o → (e t).dn = (e' t).dn
  raw : ∀ t, takes take o = some t → e t = e' t

theorem Alike.symm {take : List Nat} {ops : Array Oper} {o : Oper} {e e' : FE} (h : Alike take ops o e e') : Alike take ops o e' e :=
  ⟨fun t ht => (h.dn t ht).symm, fun t ht => (h.raw t ht).symm⟩

theorem wantedF_congr {take : List Nat} {ops : Array Oper} {o : Oper} {e e' : FE} (h : Alike take ops o e e') : wantedF ops e o = wantedF ops e' o := by
  unfold wantedF
  cases hg : o.guard with
  | none => rfl
  | some p =>
    obtain ⟨j, want⟩ := p
    dsimp only
    cases hd : (ops[j]?).bind (·.dst) with
    | none => rfl
    | some d =>
      dsimp only
      have hdn : (e d).dn = (e' d).dn := by
        refine h.dn d ?_
        unfold looksAt
        rw [hg]
        refine List.mem_append.2 (.inl ?_)
        dsimp only
        rw [hd]
        simp
      rw [wantV_dn (e d), wantV_dn (e' d), hdn]

theorem evF_dn {take : List Nat} {ops : Array Oper} {o : Oper} {e e' : FE} (h : Alike take ops o e e') : ∀ x, x ∈ o.op.operands → (evF e x).dn = (evF e' x).dn := by
  intro x hx
  cases x with
  | tmp t => exact h.dn t (operand_looksAt hx)
  | const v => rfl
  | global k => rfl
  | func f => rfl

theorem evF_raw {take : List Nat} {ops : Array Oper} {o : Oper} {e e' : FE} (h : Alike take ops o e e') : ∀ x, x ∈ rawOf (doesTake take o) o.op → evF e x = evF e' x := by
  intro x hx
  cases x with
  | tmp t => exact h.raw t (rawOf_takes hx)
  | const v => rfl
  | global k => rfl
  | func f => rfl

theorem actF_congr {C : Ctx} {ops : Array Oper} {o : Oper} {e e' : FE} (h : Alike (C.ann C.fn).take ops o e e') (st : Store) : actF C ops o e st = actF C ops o e' st := by
  unfold actF
  rw [wantedF_congr h, inertOp_congr (evF_dn h) (evF_raw h), readOp_congr (evF_dn h), loudOp_congr (evF_dn h) (evF_raw h)]

/-- What an operation does that does not turn the store. -/
theorem actF_st {C : Ctx} {ops : Array Oper} {o : Oper} {e : FE} {st st' : Store} {c : Cls} {v : PV} (h : actF C ops o e st = some (c, v, st')) (hc : c ≠ .loud) : st' = st := by
  unfold actF at h
  split at h
  · split at h
    · cases h
    · simp only [Option.some.injEq, Prod.mk.injEq] at h; exact h.2.2.symm
    · split at h
      · simp only [Option.some.injEq, Prod.mk.injEq] at h; exact h.2.2.symm
      · split at h
        · simp only [Option.some.injEq, Prod.mk.injEq] at h; exact h.2.2.symm
        · split at h
          · simp only [Option.some.injEq, Prod.mk.injEq] at h; exact absurd h.1.symm hc
          · cases h
  · cases h

/-- What an operation does that does not look at the store. -/
theorem actF_any {C : Ctx} {ops : Array Oper} {o : Oper} {e : FE} {st st' : Store} {c : Cls} {v : PV} (h : actF C ops o e st = some (c, v, st')) (hc : c ≠ .loud) (hc' : c ≠ .reader) (st2 : Store) :
    actF C ops o e st2 = some (c, v, st2) := by
  unfold actF at h ⊢
  split at h
  · rename_i hd
    rw [if_pos hd]
    split at h
    · cases h
    · rename_i hw
      simp only [Option.some.injEq, Prod.mk.injEq] at h
      obtain ⟨rfl, rfl, _⟩ := h
      rfl
    · rename_i hw
      split at h
      · rename_i x hx
        simp only [Option.some.injEq, Prod.mk.injEq] at h
        obtain ⟨rfl, rfl, _⟩ := h
        rfl
      · split at h
        · simp only [Option.some.injEq, Prod.mk.injEq] at h; exact absurd h.1.symm hc'
        · split at h
          · simp only [Option.some.injEq, Prod.mk.injEq] at h; exact absurd h.1.symm hc
          · cases h
  · cases h

theorem taken_takes {take : List Nat} {c : Cls} {o : Oper} {t : Nat} (h : taken take c o = some t) : takes take o = some t := by
  cases c <;> simp [taken] at h <;> exact h

structure Apart (take : List Nat) (ops : Array Oper) (x y : Oper) : Prop where
  xy : ∀ d, x.dst = some d → d ∉ looksAt ops y
  yx : ∀ d, y.dst = some d → d ∉ looksAt ops x
  dd : ∀ d, x.dst = some d → y.dst ≠ some d
  tk : ∀ t, takes take x = some t → takes take y ≠ some t

theorem apart_spec {ops : Array Oper} {take : List Nat} {x y : Oper} (h : apart ops x y = true) (ht : (match takes take x, takes take y with | some a, some b => a != b | _, _ => true) = true) : Apart take ops x y := by
  refine ⟨fun d hd => ?_, fun d hd => ?_, fun d hd => ?_, fun t hx hy => ?_⟩
  · simp [apart, hd] at h; exact h.1.1
  · simp [apart, hd] at h; exact h.2
  · simp [apart, hd] at h; exact h.1.2
  · rw [hx, hy] at ht; simp at ht

/-- What stands behind the first, is to the second as if the first had not been. -/
theorem alike_after {take : List Nat} {ops : Array Oper} {x y : Oper} (h : Apart take ops x y) (e : FE) (c : Cls) (v : PV) :
    Alike take ops y (upd (dropF e (taken take c x)) x.dst v) e := by
  have hne : ∀ t, t ∈ looksAt ops y → x.dst ≠ some t := fun t ht hd => h.xy t hd ht
  have hu : ∀ t, t ∈ looksAt ops y → upd (dropF e (taken take c x)) x.dst v t = dropF e (taken take c x) t := by
    intro t ht
    unfold upd
    cases hd : x.dst with
    | none => rfl
    | some d =>
      dsimp only
      rw [if_neg]
      rintro rfl
      exact hne _ ht hd
  refine ⟨fun t ht => by rw [hu t ht]; exact dropF_dn _ _ _, fun t ht => ?_⟩
  rw [hu t (takes_looksAt ht)]
  unfold dropF
  cases hk : taken take c x with
  | none => rfl
  | some a =>
    dsimp only
    rw [if_neg]
    rintro rfl
    exact h.tk _ (taken_takes hk) ht

/-- The slots behind both are the same in either order. -/
theorem slots_swap {take : List Nat} {ops : Array Oper} {x y : Oper} (h : Apart take ops x y) (e : FE) (cx cy : Cls) (vx vy : PV) :
    upd (dropF (upd (dropF e (taken take cx x)) x.dst vx) (taken take cy y)) y.dst vy = upd (dropF (upd (dropF e (taken take cy y)) y.dst vy) (taken take cx x)) x.dst vx := by
  have hx : ∀ a, taken take cx x = some a → y.dst ≠ some a := fun a ha hd => h.yx a hd (takes_looksAt (taken_takes ha))
  have hy : ∀ a, taken take cy y = some a → x.dst ≠ some a := fun a ha hd => h.xy a hd (takes_looksAt (taken_takes ha))
  have hxy : ∀ a, taken take cx x = some a → taken take cy y ≠ some a := fun a ha hb => h.tk a (taken_takes ha) (taken_takes hb)
  have hd := h.dd
  funext t
  generalize taken take cx x = ax at *
  generalize taken take cy y = ay at *
  generalize x.dst = dx at *
  generalize y.dst = dy at *
  unfold upd dropF
  cases ax <;> cases ay <;> cases dx <;> cases dy <;> simp only [Option.some.injEq, ne_eq, forall_eq', reduceCtorEq, not_false_eq_true, implies_true] at hx hy hxy hd ⊢ <;> grind

/-- THE SWAP. -/
theorem swap {C : Ctx} {ops : Array Oper} {x y : Oper} (h : Apart (C.ann C.fn).take ops x y) {e e1 e2 : FE} {st st1 st2 : Store} {cx cy : Cls}
    (hc : cx = .loud → cy ≠ .loud ∧ cy ≠ .reader) (hc' : cy = .loud → cx ≠ .reader)
    (hx : popF C ops x e st = some (cx, e1, st1)) (hy : popF C ops y e1 st1 = some (cy, e2, st2)) :
    ∃ e' st', popF C ops y e st = some (cy, e', st') ∧ popF C ops x e' st' = some (cx, e2, st2) := by
  have h' : Apart (C.ann C.fn).take ops y x := ⟨h.yx, h.xy, fun d hd hd' => h.dd d hd' hd, fun t ht ht' => h.tk t ht' ht⟩
  unfold popF at hx hy
  cases hax : actF C ops x e st with
  | none => rw [hax] at hx; cases hx
  | some rx =>
    obtain ⟨kx, vx, sx⟩ := rx
    rw [hax] at hx
    simp only [Option.some.injEq, Prod.mk.injEq] at hx
    obtain ⟨rfl, rfl, rfl⟩ := hx
    rw [actF_congr (alike_after h e kx vx)] at hy
    cases hay : actF C ops y e sx with
    | none => rw [hay] at hy; cases hy
    | some ry =>
      obtain ⟨ky, vy, sy⟩ := ry
      rw [hay] at hy
      simp only [Option.some.injEq, Prod.mk.injEq] at hy
      obtain ⟨rfl, rfl, rfl⟩ := hy
      -- the second, first
      obtain ⟨st', hy', hx'⟩ : ∃ st', actF C ops y e st = some (ky, vy, st') ∧ actF C ops x e st' = some (kx, vx, sy) := by
        by_cases hkx : kx = .loud
        · obtain ⟨h1, h2⟩ := hc hkx
          have := actF_st hay h1
          subst this
          exact ⟨st, actF_any hay h1 h2 st, hax⟩
        · have := actF_st hax hkx
          subst this
          refine ⟨sy, hay, ?_⟩
          by_cases hky : ky = .loud
          · exact actF_any hax hkx (hc' hky) sy
          · have := actF_st hay hky
            subst this
            exact hax
      refine ⟨_, st', by unfold popF; rw [hy'], ?_⟩
      unfold popF
      rw [actF_congr (alike_after h' e ky vy), hx']
      simp only [Option.some.injEq, Prod.mk.injEq, true_and, and_true]
      exact (slots_swap h e kx ky vx vy).symm

end Go.Proofs.Ytfmelnhlljgooaa.PE
