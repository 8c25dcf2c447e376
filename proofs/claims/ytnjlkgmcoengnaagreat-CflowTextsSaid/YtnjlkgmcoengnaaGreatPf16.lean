/-
  PE, part 16: the evaluator without the question of order, where a function's regions have been looked at once: the road for values that are not told. Holds for every Program; no condition.
-/
import Derived.Test.YtnjlkgmcoengnaaGreatPf15
set_option linter.unusedSimpArgs false
set_option linter.unusedVariables false
namespace Go.Proofs.YtnjlkgmcoengnaaGreat.PE
open Go

/-- The kind of an operation, at the worst. -/
def statCls (ann : FuncId → Ann) (take boxes : List Nat) (o : Oper) : Cls :=
  match o.op with
  | .load .. => if doesTake take o then .loud else .reader
  | .slice _ _ none none none => .reader
  | .alloc _ | .box .. => .fresh
  | .store .. | .makeMap .. | .insert .. => .loud
  | .lookup .. => .reader
  | .makeSlice .. => if doesBox boxes o then .loud else .inert
  | .call { callee := .builtin .append, .. } => if doesBox boxes o then .loud else .inert
  | .call { callee := .builtin .copy, .. } => .loud
  | .call { callee := .builtin .clear, .. } => .loud
  | .call { callee := .value f, .. } =>
    match f with
    | .func g => if (ann g).pure then .inert else .loud
    | _ => .loud
  | _ => .inert

def Cls.le : Cls → Cls → Prop
  | .loud, c => c = .loud
  | .reader, c => c = .reader ∨ c = .loud
  | .readAt b, c => c = .readAt b ∨ c = .reader ∨ c = .loud
  | .storeAt b, c => c = .storeAt b ∨ c = .loud
  | .fresh, c => c = .fresh ∨ c = .loud
  | _, _ => True

theorem lets_mono {c d c' d' : Cls} (hc : c.le c') (hd : d.le d') (h : lets c' d' = true) : lets c d = true := by
  cases c <;> cases d <;> simp only [Cls.le] at hc hd <;> first
    | rfl
    | (rcases hc with rfl | rfl | rfl <;> rcases hd with rfl | rfl | rfl <;> simp_all [lets]; done)
    | (rcases hc with rfl | rfl | rfl <;> rcases hd with rfl | rfl <;> simp_all [lets]; done)
    | (rcases hc with rfl | rfl | rfl <;> subst hd <;> simp_all [lets]; done)
    | (rcases hc with rfl | rfl <;> rcases hd with rfl | rfl | rfl <;> simp_all [lets]; done)
    | (rcases hc with rfl | rfl <;> rcases hd with rfl | rfl <;> simp_all [lets]; done)
    | (rcases hc with rfl | rfl <;> subst hd <;> simp_all [lets]; done)
    | (subst hc <;> rcases hd with rfl | rfl | rfl <;> simp_all [lets]; done)
    | (subst hc <;> rcases hd with rfl | rfl <;> simp_all [lets]; done)
    | (subst hc <;> subst hd <;> simp_all [lets]; done)

theorem slice_cls {P : Program} {tk : Bool} {ρ : Operand → PV} {st : Store} {ann : FuncId → Ann} {take boxes : List Nat} {t ty : TypeId} {x : Operand} {lo hi mx : Option Operand} {v : PV} {dst : Option Tmp} {pos : String} {after : Array Edge}
    {guard : Option (Nat × Bool)} (h : readOp P tk ρ st (.slice t x lo hi mx) = some v) : statCls ann take boxes ⟨dst, .slice t x lo hi mx, ty, pos, after, guard⟩ = .reader := by
  cases lo <;> cases hi <;> cases mx <;> first | rfl | (simp only [readOp] at h; cases h)

theorem popF_cls {C : Ctx} {ops : Array Oper} {o : Oper} {s s' : PS} {c : Cls} (h : pop C ops o s = some (c, s')) : c.le (statCls C.ann (C.ann C.fn).take (C.ann C.fn).boxes o) := by
  unfold pop at h
  split at h
  · rename_i hd0
    clear hd0
    split at h
    · cases h
    · simp only [Option.some.injEq, Prod.mk.injEq] at h
      obtain ⟨rfl, _⟩ := h
      exact trivial
    · rename_i hw0
      clear hw0
      dsimp only at h
      split at h
      · simp only [Option.some.injEq, Prod.mk.injEq] at h
        obtain ⟨rfl, _⟩ := h
        exact trivial
      · rename_i hni
        split at h
        · rename_i v hr
          simp only [Option.some.injEq, Prod.mk.injEq] at h
          obtain ⟨rfl, _⟩ := h
          clear hni
          obtain ⟨dst, op, ty, pos, after, guard⟩ := o
          cases op <;> try (simp only [readOp] at hr; cases hr; done)
          case slice => exact .inl (slice_cls hr)
          case lookup => exact .inl rfl
          simp only [readCls, statCls]
          split <;> split
          · exact .inr (.inr rfl)
          · exact .inr (.inl rfl)
          · exact .inr rfl
          · exact .inl rfl
        · rename_i hnr
          clear hnr hni
          split at h
          · rename_i v st' hl
            simp only [Option.some.injEq, Prod.mk.injEq] at h
            obtain ⟨rfl, hz⟩ := h
            clear hz
            obtain ⟨dst, op, ty, pos, after, guard⟩ := o
            cases op <;> try (simp only [loudOp] at hl; cases hl; done)
            case store t y z =>
              simp only [loudCls]
              split
              · exact .inr rfl
              · exact rfl
            case alloc e => exact .inl rfl
            case box e y => exact .inl rfl
            all_goals show statCls C.ann (C.ann C.fn).take (C.ann C.fn).boxes _ = .loud
            case load t y =>
              simp only [loudOp] at hl
              split at hl
              · rename_i htk
                simp only [Bool.and_eq_true] at htk
                simp only [statCls]
                rw [if_pos htk.1]
              · cases hl
            case makeMap => rfl
            case insert => rfl
            case makeSlice t y z =>
              simp only [loudOp] at hl
              simp only [statCls]
              split at hl
              · rename_i hb; rw [if_pos hb]
              · cases hl
            case call cl =>
              obtain ⟨callee, args, tys⟩ := cl
              cases callee with
              | builtin b =>
                cases b <;> try (simp only [loudOp] at hl; cases hl; done)
                case append =>
                  simp only [loudOp] at hl
                  simp only [statCls]
                  split at hl
                  · rename_i hb; rw [if_pos hb]
                  · cases hl
                case copy => rfl
                case clear => rfl
              | invoke r m => simp [loudOp] at hl
              | value f =>
                simp only [statCls]
                split
                · rename_i g
                  simp only [loudOp, ev, PV.dn] at hl
                  split
                  · rename_i hp; rw [if_pos hp] at hl; cases hl
                  · rfl
                · rfl
          · cases h
  · cases h

theorem free_mono {take : List Nat} {ops : Array Oper} {i j : Nat} {c d c' d' : Cls} (hc : c.le c') (hd : d.le d') (h : free take ops (i, c') (j, d') = true) : free take ops (i, c) (j, d) = true := by
  unfold free at h ⊢
  dsimp only at h ⊢
  split at h
  · simp only [Bool.and_eq_true] at h ⊢
    refine ⟨⟨?_, h.1.2⟩, h.2⟩
    exact lets_mono hc hd h.1.1
  · cases h

def statics (C : Ctx) (ops : Array Oper) : List (Nat × Cls) :=
  ops.toList.zipIdx.map fun p => (p.2, statCls C.ann (C.ann C.fn).take (C.ann C.fn).boxes p.1)

def regionsOk (C : Ctx) : Code → Bool
  | .region id ops draw => (C.ann C.fn).dyn.contains id || !draw || drawOk C ops (statics C ops)
  | .seq a b => regionsOk C a && regionsOk C b
  | .cond _ a b => regionsOk C a && regionsOk C b
  | .block _ b => regionsOk C b
  | .loop b => regionsOk C b
  | _ => true

theorem pops_cls {C : Ctx} {ops : Array Oper} : ∀ (l : List Nat) (s s' : PS) (cs : List (Nat × Cls)), pops C ops l s = some (cs, s') →
    ∀ p, p ∈ cs → ∃ o, ops[p.1]? = some o ∧ p.2.le (statCls C.ann (C.ann C.fn).take (C.ann C.fn).boxes o)
  | [], s, s', cs, h, p, hp => by
    simp only [pops, Option.some.injEq, Prod.mk.injEq] at h
    obtain ⟨rfl, rfl⟩ := h
    cases hp
  | i :: r, s, s', cs, h, p, hp => by
    simp only [pops] at h
    split at h
    · cases h
    · rename_i o ho
      split at h
      · cases h
      · rename_i c s1 hpop
        split at h
        · cases h
        · rename_i cs2 s2 hps
          simp only [Option.some.injEq, Prod.mk.injEq] at h
          obtain ⟨rfl, rfl⟩ := h
          rcases List.mem_cons.1 hp with rfl | hp
          · exact ⟨o, ho, popF_cls hpop⟩
          · exact pops_cls r s1 s2 cs2 hps p hp

theorem modeOk_of {C : Ctx} {ops : Array Oper} {md : Region.Mode} {T : List Nat} (h : modeOk md T (C.ann C.fn).take ops (statics C ops) = true) {l : List Nat} {s s' : PS} {cs : List (Nat × Cls)} (hp : pops C ops l s = some (cs, s')) :
    modeOk md T (C.ann C.fn).take ops cs = true := by
  unfold modeOk at h ⊢
  simp only [Bool.and_eq_true] at h ⊢
  refine ⟨h.1, ?_⟩
  have h2 := h.2
  unfold orderOk at h2 ⊢
  refine List.all_eq_true.2 fun p hpm => List.all_eq_true.2 fun q hqm => ?_
  have hmem : ∀ p, p ∈ cs → ∃ c, (p.1, c) ∈ statics C ops ∧ p.2.le c := by
    intro p hpm
    obtain ⟨o, ho, hle⟩ := pops_cls l s s' cs hp p hpm
    refine ⟨_, List.mem_map.2 ⟨(o, p.1), ?_, rfl⟩, hle⟩
    rw [List.mem_zipIdx_iff_getElem?]
    simpa using ho
  obtain ⟨c, hc, hcl⟩ := hmem p hpm
  obtain ⟨d, hd, hdl⟩ := hmem q hqm
  have := List.all_eq_true.1 (List.all_eq_true.1 h2 _ hc) _ hd
  simp only [Bool.or_eq_true] at this ⊢
  rcases this with hx | hx
  · exact .inl hx
  · exact .inr (free_mono hcl hdl hx)

theorem drawOk_of {C : Ctx} {ops : Array Oper} (h : drawOk C ops (statics C ops) = true) {l : List Nat} {s s' : PS} {cs : List (Nat × Cls)} (hp : pops C ops l s = some (cs, s')) : drawOk C ops cs = true := by
  unfold drawOk at h ⊢
  split at h
  · rename_i hm
    rw [if_pos hm]
    exact modeOk_of h hp
  · rename_i hm
    rw [if_neg hm]
    rw [Bool.and_eq_true] at h ⊢
    exact ⟨modeOk_of h.1 hp, modeOk_of h.2 hp⟩

/-- The operations of a region, one by one. -/
def popsL (C : Ctx) (ops : Array Oper) : List Oper → PS → Option PS
  | [], s => some s
  | o :: r, s =>
    match pop C ops o s with
    | none => none
    | some (_, s1) => popsL C ops r s1

theorem pops_of_popsL {C : Ctx} {ops : Array Oper} : ∀ (l : List Oper) (k : Nat) (s s' : PS), (∀ (i : Nat) (o : Oper), l[i]? = some o → ops[k + i]? = some o) → popsL C ops l s = some s' →
    ∃ cs, pops C ops (List.range' k l.length) s = some (cs, s')
  | [], k, s, s', _, h => by
    simp only [popsL, Option.some.injEq] at h
    subst h
    exact ⟨[], rfl⟩
  | o :: r, k, s, s', ho, h => by
    simp only [popsL] at h
    split at h
    · cases h
    · rename_i c s1 hp
      obtain ⟨cs, hcs⟩ := pops_of_popsL r (k + 1) s1 s' (fun i o' hi => by
        have := ho (i + 1) o' (by simpa using hi)
        rwa [show k + (i + 1) = k + 1 + i by omega] at this) h
      have h0 := ho 0 o rfl
      rw [Nat.add_zero] at h0
      refine ⟨(k, c) :: cs, ?_⟩
      rw [List.length_cons, List.range'_succ]
      simp only [pops, h0, hp, hcs]

def pregionS (C : Ctx) (ops : Array Oper) (s : PS) : Option PS :=
  match popsL C ops ops.toList s with
  | none => none
  | some s1 => some { s1 with env := restrict (C.ann C.fn).keep s1.env }

theorem pregion_of {C : Ctx} {ops : Array Oper} {draw : Bool} {s s' : PS} (hok : (!draw || drawOk C ops (statics C ops)) = true) (h : pregionS C ops s = some s') : pregion C ops draw s = some s' := by
  unfold pregionS at h
  split at h
  · cases h
  · rename_i s1 hs
    obtain ⟨cs, hcs⟩ := pops_of_popsL ops.toList 0 s s1 (fun i o hi => by rw [Nat.zero_add, ← Array.getElem?_toList]; exact hi) hs
    rw [Array.length_toList, ← List.range_eq_range'] at hcs
    unfold pregion
    rw [hcs]
    dsimp only
    have : (draw && !drawOk C ops cs) = false := by
      cases draw with
      | false => rfl
      | true =>
        have := drawOk_of (by simpa using hok) hcs
        rw [this]
        rfl
    rw [this]
    simpa using h

def pcodeS (C : Ctx) (fuel : Nat) : Code → PS → Option (PX × PS)
  | .skip, s => some (.normal, s)
  | .region id ops draw, s =>
    match (if (C.ann C.fn).dyn.contains id then pregion C ops draw s else pregionS C ops s) with
    | none => none
    | some s1 => some (.normal, s1)
  | .seq a b, s =>
    match pcodeS C fuel a s with
    | some (.normal, s1) => pcodeS C fuel b s1
    | r => r
  | .cond c x y, s =>
    match ev s.env c with
    | .s (.bool true) => pcodeS C fuel x s
    | .s (.bool false) => pcodeS C fuel y s
    | _ => none
  | .block id b, s =>
    match pcodeS C fuel b s with
    | some (.exit j, s1) => if j = id then some (.normal, s1) else some (.exit j, s1)
    | r => r
  | .loop b, s => ploop (pcodeS C fuel b) fuel s
  | .exit id, s => some (.exit id, s)
  | .ret, s => some (.ret, s)
  | _, _ => none

theorem ploop_of {f g : PS → Option (PX × PS)} (h : ∀ s r, f s = some r → g s = some r) : ∀ n s r, ploop f n s = some r → ploop g n s = some r
  | 0, s, r, hp => by simp [ploop] at hp
  | n + 1, s, r, hp => by
    simp only [ploop] at hp ⊢
    split at hp
    · rename_i s1 h1
      rw [h s _ h1]
      exact ploop_of h n s1 r hp
    · rename_i hno
      have := h s r hp
      rw [this]
      obtain ⟨x, s1⟩ := r
      cases x with
      | normal => exact absurd hp (hno s1)
      | exit j => rfl
      | ret => rfl

theorem pcode_of {C : Ctx} {fuel : Nat} : ∀ (c : Code), regionsOk C c = true → ∀ (s : PS) (r : PX × PS), pcodeS C fuel c s = some r → pcode C fuel c s = some r := by
  intro c
  induction c with
  | skip => intro _ s r h; exact h
  | region id ops draw =>
    intro hok s r h
    simp only [pcodeS] at h
    split at h
    · cases h
    · rename_i s1 h1
      have h2 : pregion C ops draw s = some s1 := by
        simp only [regionsOk] at hok
        cases hdy : (C.ann C.fn).dyn.contains id with
        | true => rw [hdy, if_pos rfl] at h1; exact h1
        | false =>
          rw [hdy, if_neg (by simp)] at h1
          rw [hdy, Bool.false_or] at hok
          exact pregion_of hok h1
      simp only [pcode, h2, Option.map_some]
      exact h
  | seq a b iha ihb =>
    intro hok s r h
    simp only [regionsOk, Bool.and_eq_true] at hok
    simp only [pcodeS] at h
    simp only [pcode]
    split at h
    · rename_i s1 h1
      rw [iha hok.1 s _ h1]
      exact ihb hok.2 s1 r h
    · rename_i hno
      have := iha hok.1 s r h
      rw [this]
      obtain ⟨x, s1⟩ := r
      cases x with
      | normal => exact absurd h (hno s1)
      | exit j => rfl
      | ret => rfl
  | cond c a b iha ihb =>
    intro hok s r h
    simp only [regionsOk, Bool.and_eq_true] at hok
    simp only [pcodeS] at h
    simp only [pcode]
    split at h
    · rename_i he; rw [he]; exact iha hok.1 s r h
    · rename_i he; rw [he]; exact ihb hok.2 s r h
    · cases h
  | block id b ih =>
    intro hok s r h
    simp only [regionsOk] at hok
    simp only [pcodeS] at h
    simp only [pcode]
    split at h
    · rename_i j s1 h1
      rw [ih hok s _ h1]
      exact h
    · rename_i hno
      rw [ih hok s r h]
      obtain ⟨x, s1⟩ := r
      cases x with
      | normal => rfl
      | exit j => exact absurd h (hno j s1)
      | ret => rfl
  | loop b ih =>
    intro hok s r h
    simp only [pcodeS] at h
    simp only [pcode]
    exact ploop_of (ih hok) fuel s r h
  | exit id => intro _ s r h; exact h
  | ret => intro _ s r h; exact h
  | rangeFunc f ps as bd _ _ => intro _ s r h; simp [pcodeS] at h
  | scope b _ => intro _ s r h; simp [pcodeS] at h
  | label l => intro _ s r h; simp [pcodeS] at h
  | goto l => intro _ s r h; simp [pcodeS] at h
  | refuse y => intro _ s r h; simp [pcodeS] at h

/-- A CALL, BY THE ROAD FOR VALUES THAT ARE NOT TOLD. -/
theorem pcall_of {P : Program} {ann : FuncId → Ann} {sums : Sums} {k : Nat} {f : FuncId} {fn : Func} {c : Code} {args : List PV} {st : Store} {x : PX} {s : PS} {r : PV}
    (hs : sums f = none) (hf : P.funcs[f]? = some fn) (hb : fn.body = some c) (hn : args.length ≤ fn.ntmps)
    (hok : ∀ call base, regionsOk { P, ann, call, fn := f, ntmps := fn.ntmps, base } c = true)
    (hp : pcodeS { P, ann, call := pcall P ann sums k, fn := f, ntmps := fn.ntmps, base := st.length } k c { env := params args, st } = some (x, s))
    (hx : x = .normal ∨ x = .ret) (hr : resultsOf P fn s = some r) : pcall P ann sums (k + 1) f args st = some (settle (ann f).fz st r s.st) := by
  have := pcode_of c (hok _ _) _ _ hp
  simp only [pcall, hs, hf, hb, if_pos hn, this]
  rcases hx with rfl | rfl
  · simp only [hr, Option.map_some]
  · simp only [hr, Option.map_some]

end Go.Proofs.YtnjlkgmcoengnaaGreat.PE
