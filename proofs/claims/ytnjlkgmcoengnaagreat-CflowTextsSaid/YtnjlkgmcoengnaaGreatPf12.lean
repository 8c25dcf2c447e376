/-
  PE, part 12: two operations that are apart change places; a region in every order. Holds for every Program; no condition.
-/
import Derived.Test.YtnjlkgmcoengnaaGreatPf11
set_option linter.unusedSimpArgs false
set_option linter.unusedVariables false
namespace Go.Proofs.YtnjlkgmcoengnaaGreat.PE
open Go

theorem dropF_dn (e : FE) (x : Option Nat) (t : Nat) : (dropF e x t).dn = (e t).dn := by
  unfold dropF
  cases x with
  | none => rfl
  | some x =>
    dsimp only
    by_cases h : t = x
    · rw [if_pos h, h]; exact dn_dn _
    · rw [if_neg h]

theorem operand_looksAt {ops : Array Oper} {o : Oper} {t : Nat} (h : Operand.tmp t ∈ o.op.operands) : t ∈ looksAt ops o := by
  unfold looksAt
  refine List.mem_append.2 (.inr (List.mem_filterMap.2 ⟨.tmp t, Array.mem_toList_iff.2 h, rfl⟩))

theorem rawOf_operand {tk : Bool} {op : Op} {x : Operand} (h : x ∈ rawOf tk op) : x ∈ op.operands := by
  cases op <;> simp only [rawOf, List.not_mem_nil] at h
  case move y =>
    cases tk with
    | true => simp at h; simp [Op.operands, h]
    | false => simp at h
  case assign y => simp at h; simp [Op.operands, h]
  case store t a z => simp at h; simp [Op.operands, h]
  case call c =>
    obtain ⟨callee, args, tys⟩ := c
    cases callee with
    | builtin b =>
      cases b <;> simp only [List.not_mem_nil] at h
      rw [Option.mem_toList] at h
      simp only [Op.operands, Call.operands, Array.mem_append]
      exact .inr (Array.mem_of_getElem? h)
    | value f => simp at h
    | invoke r m => simp at h

theorem rawOf_takes {take : List Nat} {o : Oper} {t : Nat} (h : Operand.tmp t ∈ rawOf (doesTake take o) o.op) : takes take o = some t := by
  obtain ⟨dst, op, ty, pos, after, guard⟩ := o
  cases op <;> simp only [rawOf, List.not_mem_nil] at h
  case move y =>
    cases htk : doesTake take ⟨dst, .move y, ty, pos, after, guard⟩ with
    | true =>
      rw [htk] at h
      simp only [if_true, List.mem_singleton] at h
      subst h
      cases dst with
      | none => simp [doesTake] at htk
      | some d =>
        simp only [doesTake] at htk
        simp only [takes]
        rw [if_pos htk]
    | false => rw [htk] at h; simp at h
  case assign y => simp at h; subst h; rfl
  case store u a z => simp at h; subst h; rfl
  case call c =>
    obtain ⟨callee, args, tys⟩ := c
    cases callee with
    | builtin b =>
      cases b <;> simp only [List.not_mem_nil] at h
      rw [Option.mem_toList] at h
      have h' : args[0]? = some (.tmp t) := h
      simp only [takes, h']
    | value f => simp at h
    | invoke r m => simp at h

theorem takes_looksAt {take : List Nat} {ops : Array Oper} {o : Oper} {t : Nat} (h : takes take o = some t) : t ∈ looksAt ops o := by
  refine operand_looksAt ?_
  obtain ⟨dst, op, ty, pos, after, guard⟩ := o
  unfold takes at h
  dsimp only at h ⊢
  split at h
  · split at h
    · split at h
      · simp only [Option.some.injEq] at h; subst h; simp [Op.operands]
      · cases h
    · cases h
  · simp only [Option.some.injEq] at h; subst h; simp [Op.operands]
  · simp only [Option.some.injEq] at h; subst h; simp [Op.operands]
  · split at h
    · rename_i h0
      simp only [Option.some.injEq] at h
      subst h
      simp only [Op.operands, Call.operands, Array.mem_append]
      exact .inr (Array.mem_of_getElem? h0)
    · cases h
  · cases h

/-- Two states of the slots that an operation cannot tell apart. -/
structure Alike (take : List Nat) (ops : Array Oper) (o : Oper) (e e' : FE) : Prop where
  dn : ∀ t, t ∈ looksAt ops o → (e t).dn = (e' t).dn
  raw : ∀ t, takes take o = some t → e t = e' t

theorem Alike.symm {take : List Nat} {ops : Array Oper} {o : Oper} {e e' : FE} (h : Alike take ops o e e') : Alike take ops o e' e :=
  ⟨fun t ht => (h.dn t ht).symm, fun t ht => (h.raw t ht).symm⟩

theorem wantedF_congr {take : List Nat} {ops : Array Oper} {o : Oper} {e e' : FE} (h : Alike take ops o e e') : wantedF ops e o = wantedF ops e' o := by
  unfold wantedF
  cases hg : o.guard with
  | none => rfl
  | some p =>
    obtain ⟨j, want⟩ := p
    dsimp only
    cases hd : (ops[j]?).bind (·.dst) with
    | none => rfl
    | some d =>
      dsimp only
      have hdn : (e d).dn = (e' d).dn := by
        refine h.dn d ?_
        unfold looksAt
        rw [hg]
        refine List.mem_append.2 (.inl ?_)
        dsimp only
        rw [hd]
        simp
      rw [wantV_dn (e d), wantV_dn (e' d), hdn]

theorem evF_dn {take : List Nat} {ops : Array Oper} {o : Oper} {e e' : FE} (h : Alike take ops o e e') : ∀ x, x ∈ o.op.operands → (evF e x).dn = (evF e' x).dn := by
  intro x hx
  cases x with
  | tmp t => exact h.dn t (operand_looksAt hx)
  | const v => rfl
  | global k => rfl
  | func f => rfl

theorem evF_raw {take : List Nat} {ops : Array Oper} {o : Oper} {e e' : FE} (h : Alike take ops o e e') : ∀ x, x ∈ rawOf (doesTake take o) o.op → evF e x = evF e' x := by
  intro x hx
  cases x with
  | tmp t => exact h.raw t (rawOf_takes hx)
  | const v => rfl
  | global k => rfl
  | func f => rfl

theorem readCls_congr {ρ ρ' : Operand → PV} {op : Op} (hρ : ∀ x, x ∈ op.operands → ρ x = ρ' x) : readCls ρ op = readCls ρ' op := by
  cases op <;> try rfl
  case load t a => simp only [readCls]; rw [hρ a (by simp [Op.operands])]
theorem loudCls_congr {ρ ρ' : Operand → PV} {op : Op} (hρ : ∀ x, x ∈ op.operands → ρ x = ρ' x) : loudCls ρ op = loudCls ρ' op := by
  cases op <;> try rfl
  case store t a x => simp only [loudCls]; rw [hρ a (by simp [Op.operands])]

theorem actF_congr {C : Ctx} {ops : Array Oper} {o : Oper} {e e' : FE} (h : Alike (C.ann C.fn).take ops o e e') (st : Store) : actF C ops o e st = actF C ops o e' st := by
  unfold actF
  rw [wantedF_congr h, inertOp_congr (evF_dn h) (evF_raw h), readOp_congr (evF_dn h), loudOp_congr (evF_dn h) (evF_raw h), readCls_congr (evF_dn h), loudCls_congr (evF_dn h)]

def Cls.quiet : Cls → Bool
  | .skip => true
  | .inert => true
  | _ => false
def Cls.reads : Cls → Bool
  | .reader => true
  | .readAt _ => true
  | _ => false

theorem readCls_reads (ρ : Operand → PV) (op : Op) : (readCls ρ op).reads = true := by
  unfold readCls
  split
  · split <;> rfl
  · rfl
theorem loudCls_not (ρ : Operand → PV) (op : Op) : (loudCls ρ op).quiet = false ∧ (loudCls ρ op).reads = false := by
  unfold loudCls
  split
  · split <;> exact ⟨rfl, rfl⟩
  all_goals exact ⟨rfl, rfl⟩

/-- What an operation does that does not look at the store. -/
theorem actF_any {C : Ctx} {ops : Array Oper} {o : Oper} {e : FE} {st st' : Store} {c : Cls} {v : PV} (h : actF C ops o e st = some (c, v, st')) (hc : c.quiet = true) (st2 : Store) :
    st' = st ∧ actF C ops o e st2 = some (c, v, st2) := by
  unfold actF at h ⊢
  by_cases hd : dstOk C.ntmps o.dst = true
  · simp only [if_pos hd] at h ⊢
    generalize wantedF ops e o = W at h ⊢
    generalize unBox (doesBox (C.ann C.fn).boxes o) (inertOp C.P C.call C.ann (doesTake (C.ann C.fn).take o) (evF e) (fun x => (evF e x).dn) o.op) = I at h ⊢
    cases W with
    | none => cases h
    | some b =>
      cases b with
      | false =>
        simp only [Option.some.injEq, Prod.mk.injEq] at h ⊢
        exact ⟨h.2.2.symm, h.1, h.2.1, trivial⟩
      | true =>
        cases I with
        | some x =>
          simp only [Option.some.injEq, Prod.mk.injEq] at h ⊢
          exact ⟨h.2.2.symm, h.1, h.2.1, trivial⟩
        | none =>
          dsimp only at h ⊢
          split at h
          · simp only [Option.some.injEq, Prod.mk.injEq] at h
            have := readCls_reads (fun x => (evF e x).dn) o.op
            rw [h.1] at this
            cases c <;> simp [Cls.quiet, Cls.reads] at hc this
          · split at h
            · simp only [Option.some.injEq, Prod.mk.injEq] at h
              have := (loudCls_not (fun x => (evF e x).dn) o.op).1
              rw [h.1, hc] at this
              cases this
            · cases h
  · simp only [if_neg hd] at h
    cases h

/-- A store that says the same of all that is read. -/
theorem readOp_grow {P : Program} {tk : Bool} {ρ : Operand → PV} {st : Store} {op : Op} {v : PV} (h : readOp P tk ρ st op = some v) (bx : PBox) : readOp P tk ρ (st ++ [bx]) op = some v := by
  have hg : ∀ (b : Nat) (x : PBox), st[b]? = some x → (st ++ [bx])[b]? = some x := fun b x hb => by
    rw [List.getElem?_append_left (List.getElem?_eq_some_iff.1 hb).1]; exact hb
  cases op <;> try (simp only [readOp] at h; cases h; done)
  case load t a =>
    simp only [readOp] at h ⊢
    split at h
    · cases h
    · rename_i htk
      rw [if_neg htk]
      split at h
      · split at h
        · rename_i hst
          rw [hg _ _ hst]
          exact h
        · cases h
      · cases h
  case slice t x lo hi mx =>
    cases lo with
    | some q => simp only [readOp] at h; cases h
    | none =>
    cases hi with
    | some q => simp only [readOp] at h; cases h
    | none =>
    cases mx with
    | some q => simp only [readOp] at h; cases h
    | none =>
      simp only [readOp] at h ⊢
      split at h
      · split at h
        · rename_i hst hsz
          rw [hg _ _ hst, hsz]
          exact h
        · cases h
      · cases h
  case lookup t x k ok =>
    simp only [readOp, pLookup] at h ⊢
    split at h
    · split at h
      · rename_i hst hm
        rw [hg _ _ hst, hm]
        exact h
      · cases h
    · cases h

theorem actF_read {C : Ctx} {ops : Array Oper} {o : Oper} {e : FE} {st st' : Store} {c : Cls} {v : PV} (h : actF C ops o e st = some (c, v, st')) (hc : c.reads = true) :
    st' = st ∧ (∀ bx, actF C ops o e (st ++ [bx]) = some (c, v, st ++ [bx])) ∧ ∀ b, c = .readAt b → ∀ st2 : Store, st2[b]? = st[b]? → actF C ops o e st2 = some (c, v, st2) := by
  unfold actF at h ⊢
  by_cases hd : dstOk C.ntmps o.dst = true
  · simp only [if_pos hd] at h ⊢
    generalize wantedF ops e o = W at h ⊢
    generalize unBox (doesBox (C.ann C.fn).boxes o) (inertOp C.P C.call C.ann (doesTake (C.ann C.fn).take o) (evF e) (fun x => (evF e x).dn) o.op) = I at h ⊢
    cases W with
    | none => cases h
    | some b =>
      cases b with
      | false =>
        simp only [Option.some.injEq, Prod.mk.injEq] at h
        obtain ⟨rfl, _, _⟩ := h
        cases hc
      | true =>
        cases I with
        | some x =>
          simp only [Option.some.injEq, Prod.mk.injEq] at h
          obtain ⟨rfl, _, _⟩ := h
          cases hc
        | none =>
          dsimp only at h ⊢
          split at h
          · rename_i x hx
            simp only [Option.some.injEq, Prod.mk.injEq] at h
            obtain ⟨rfl, rfl, rfl⟩ := h
            refine ⟨rfl, fun bx => by rw [readOp_grow hx bx], fun b hb st2 h2 => ?_⟩
            have : readOp C.P (doesTake (C.ann C.fn).take o) (fun x => (evF e x).dn) st2 o.op = some x := by
              unfold readCls at hb
              split at hb
              · rename_i hop
                rw [hop] at hx ⊢
                split at hb
                · rename_i hp
                  simp only [Cls.readAt.injEq] at hb
                  subst hb
                  simp only [readOp, hp] at hx ⊢
                  rw [h2]
                  exact hx
                · cases hb
              · cases hb
            rw [this]
          · split at h
            · simp only [Option.some.injEq, Prod.mk.injEq] at h
              have := (loudCls_not (fun x => (evF e x).dn) o.op).2
              rw [h.1, hc] at this
              cases this
            · cases h
  · simp only [if_neg hd] at h
    cases h

theorem actF_turn {C : Ctx} {ops : Array Oper} {o : Oper} {e : FE} {st st' : Store} {c : Cls} {v : PV} (h : actF C ops o e st = some (c, v, st')) :
    (c = .fresh → ∃ bx, st' = st ++ [bx]) ∧ ∀ b, c = .storeAt b → ∀ a : Nat, a ≠ b → st'[a]? = st[a]? := by
  unfold actF at h
  split at h
  · split at h
    · cases h
    · simp only [Option.some.injEq, Prod.mk.injEq] at h
      obtain ⟨rfl, _, _⟩ := h
      exact ⟨by rintro ⟨⟩, by rintro _ ⟨⟩⟩
    · split at h
      · simp only [Option.some.injEq, Prod.mk.injEq] at h
        obtain ⟨rfl, _, _⟩ := h
        exact ⟨by rintro ⟨⟩, by rintro _ ⟨⟩⟩
      · split at h
        · simp only [Option.some.injEq, Prod.mk.injEq] at h
          have := readCls_reads (fun x => (evF e x).dn) o.op
          rw [h.1] at this
          refine ⟨fun hc => ?_, fun b hc => ?_⟩ <;> (rw [hc] at this; cases this)
        · split at h
          · rename_i x st1 hl
            simp only [Option.some.injEq, Prod.mk.injEq] at h
            obtain ⟨rfl, rfl, rfl⟩ := h
            unfold loudCls
            split
            · rename_i t a y hop
              rw [hop] at hl
              split
              · rename_i b off hp
                refine ⟨by rintro ⟨⟩, fun b' hb k hk => ?_⟩
                simp only [Cls.storeAt.injEq] at hb
                subst hb
                simp only [loudOp, hp] at hl
                split at hl
                · split at hl
                  · simp only [Option.some.injEq, Prod.mk.injEq] at hl
                    obtain ⟨_, rfl⟩ := hl
                    rw [List.getElem?_set_ne (Ne.symm hk)]
                  · cases hl
                · cases hl
              · exact ⟨by rintro ⟨⟩, by rintro _ ⟨⟩⟩
            · rename_i t hop
              rw [hop] at hl
              refine ⟨fun _ => ?_, by rintro _ ⟨⟩⟩
              simp only [loudOp] at hl
              split at hl
              · split at hl
                · simp only [Option.some.injEq, Prod.mk.injEq] at hl
                  exact ⟨_, hl.2.symm⟩
                · cases hl
              · cases hl
            · rename_i t y hop
              rw [hop] at hl
              refine ⟨fun _ => ?_, by rintro _ ⟨⟩⟩
              simp only [loudOp] at hl
              split at hl
              · simp only [Option.some.injEq, Prod.mk.injEq] at hl
                exact ⟨_, hl.2.symm⟩
              · cases hl
            · exact ⟨by rintro ⟨⟩, by rintro _ ⟨⟩⟩
          · cases h
  · cases h

theorem taken_takes {take : List Nat} {c : Cls} {o : Oper} {t : Nat} (h : taken take c o = some t) : takes take o = some t := by
  cases c <;> simp [taken] at h <;> exact h

structure Apart (take : List Nat) (ops : Array Oper) (x y : Oper) : Prop where
  xy : ∀ d, x.dst = some d → d ∉ looksAt ops y
  yx : ∀ d, y.dst = some d → d ∉ looksAt ops x
  dd : ∀ d, x.dst = some d → y.dst ≠ some d
  tk : ∀ t, takes take x = some t → takes take y ≠ some t

theorem apart_spec {ops : Array Oper} {take : List Nat} {x y : Oper} (h : apart ops x y = true) (ht : (match takes take x, takes take y with | some a, some b => a != b | _, _ => true) = true) : Apart take ops x y := by
  refine ⟨fun d hd => ?_, fun d hd => ?_, fun d hd => ?_, fun t hx hy => ?_⟩
  · simp [apart, hd] at h; exact h.1.1
  · simp [apart, hd] at h; exact h.2
  · simp [apart, hd] at h; exact h.1.2
  · rw [hx, hy] at ht; simp at ht

/-- What stands behind the first, is to the second as if the first had not been. -/
theorem alike_after {take : List Nat} {ops : Array Oper} {x y : Oper} (h : Apart take ops x y) (e : FE) (c : Cls) (v : PV) :
    Alike take ops y (upd (dropF e (taken take c x)) x.dst v) e := by
  have hne : ∀ t, t ∈ looksAt ops y → x.dst ≠ some t := fun t ht hd => h.xy t hd ht
  have hu : ∀ t, t ∈ looksAt ops y → upd (dropF e (taken take c x)) x.dst v t = dropF e (taken take c x) t := by
    intro t ht
    unfold upd
    cases hd : x.dst with
    | none => rfl
    | some d =>
      dsimp only
      rw [if_neg]
      rintro rfl
      exact hne _ ht hd
  refine ⟨fun t ht => by rw [hu t ht]; exact dropF_dn _ _ _, fun t ht => ?_⟩
  rw [hu t (takes_looksAt ht)]
  unfold dropF
  cases hk : taken take c x with
  | none => rfl
  | some a =>
    dsimp only
    rw [if_neg]
    rintro rfl
    exact h.tk _ (taken_takes hk) ht

/-- The slots behind both are the same in either order. -/
theorem slots_swap {take : List Nat} {ops : Array Oper} {x y : Oper} (h : Apart take ops x y) (e : FE) (cx cy : Cls) (vx vy : PV) :
    upd (dropF (upd (dropF e (taken take cx x)) x.dst vx) (taken take cy y)) y.dst vy = upd (dropF (upd (dropF e (taken take cy y)) y.dst vy) (taken take cx x)) x.dst vx := by
  have hx : ∀ a, taken take cx x = some a → y.dst ≠ some a := fun a ha hd => h.yx a hd (takes_looksAt (taken_takes ha))
  have hy : ∀ a, taken take cy y = some a → x.dst ≠ some a := fun a ha hd => h.xy a hd (takes_looksAt (taken_takes ha))
  have hxy : ∀ a, taken take cx x = some a → taken take cy y ≠ some a := fun a ha hb => h.tk a (taken_takes ha) (taken_takes hb)
  have hd := h.dd
  funext t
  generalize taken take cx x = ax at *
  generalize taken take cy y = ay at *
  generalize x.dst = dx at *
  generalize y.dst = dy at *
  unfold upd dropF
  cases ax <;> cases ay <;> cases dx <;> cases dy <;> simp only [Option.some.injEq, ne_eq, forall_eq', reduceCtorEq, not_false_eq_true, implies_true] at hx hy hxy hd ⊢ <;> grind

/-- THE SWAP. -/
theorem swap {C : Ctx} {ops : Array Oper} {x y : Oper} (h : Apart (C.ann C.fn).take ops x y) {e e1 e2 : FE} {st st1 st2 : Store} {cx cy : Cls}
    (hc : lets cx cy = true)
    (hx : popF C ops x e st = some (cx, e1, st1)) (hy : popF C ops y e1 st1 = some (cy, e2, st2)) :
    ∃ e' st', popF C ops y e st = some (cy, e', st') ∧ popF C ops x e' st' = some (cx, e2, st2) := by
  have h' : Apart (C.ann C.fn).take ops y x := ⟨h.yx, h.xy, fun d hd hd' => h.dd d hd' hd, fun t ht ht' => h.tk t ht' ht⟩
  unfold popF at hx hy
  cases hax : actF C ops x e st with
  | none => rw [hax] at hx; cases hx
  | some rx =>
    obtain ⟨kx, vx, sx⟩ := rx
    rw [hax] at hx
    simp only [Option.some.injEq, Prod.mk.injEq] at hx
    obtain ⟨rfl, rfl, rfl⟩ := hx
    rw [actF_congr (alike_after h e kx vx)] at hy
    cases hay : actF C ops y e sx with
    | none => rw [hay] at hy; cases hy
    | some ry =>
      obtain ⟨ky, vy, sy⟩ := ry
      rw [hay] at hy
      simp only [Option.some.injEq, Prod.mk.injEq] at hy
      obtain ⟨rfl, rfl, rfl⟩ := hy
      -- the second, first
      obtain ⟨st', hy', hx'⟩ : ∃ st', actF C ops y e st = some (ky, vy, st') ∧ actF C ops x e st' = some (kx, vx, sy) := by
        cases hqx : kx.quiet with
        | true =>
          obtain ⟨rfl, _⟩ := actF_any hax hqx st
          exact ⟨sy, hay, (actF_any hax hqx sy).2⟩
        | false =>
          cases hqy : ky.quiet with
          | true =>
            obtain ⟨rfl, h1⟩ := actF_any hay hqy st
            exact ⟨st, h1, hax⟩
          | false =>
            cases hrx : kx.reads with
            | false => cases kx <;> cases ky <;> simp [Cls.quiet, Cls.reads, lets] at hqx hqy hrx hc
            | true =>
              obtain ⟨rfl, h1, h2⟩ := actF_read hax hrx
              refine ⟨sy, hay, ?_⟩
              cases hry : ky.reads with
              | true =>
                obtain ⟨rfl, _⟩ := actF_read hay hry
                exact hax
              | false =>
                obtain ⟨h3, h4⟩ := actF_turn hay
                cases ky <;> simp [Cls.quiet, Cls.reads] at hqy hry
                · cases kx <;> simp [lets, Cls.quiet] at hc hqx
                · rename_i b
                  cases kx with
                  | readAt a => exact h2 a rfl sy (h4 b rfl a (by simpa [lets] using hc))
                  | _ => simp [lets, Cls.quiet] at hc hqx
                · obtain ⟨bx, rfl⟩ := h3 rfl
                  exact h1 bx
      refine ⟨_, st', by unfold popF; rw [hy'], ?_⟩
      unfold popF
      rw [actF_congr (alike_after h' e ky vy), hx']
      simp only [Option.some.injEq, Prod.mk.injEq, true_and, and_true]
      exact (slots_swap h e kx ky vx vy).symm

end Go.Proofs.YtnjlkgmcoengnaaGreat.PE
