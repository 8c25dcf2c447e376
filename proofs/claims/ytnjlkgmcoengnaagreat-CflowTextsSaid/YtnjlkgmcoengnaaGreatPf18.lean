/-
  PE, part 18: more fuel answers the same. Holds for every Program; no condition.
-/
import Derived.Test.YtnjlkgmcoengnaaGreatPf17
set_option linter.unusedSimpArgs false
set_option linter.unusedVariables false
namespace Go.Proofs.YtnjlkgmcoengnaaGreat.PE
open Go

def CallF.le (c c' : CallF) : Prop := ∀ f args st r, c f args st = some r → c' f args st = some r

theorem inertOp_other {P : Program} {call call' : CallF} {ann : FuncId → Ann} {tk : Bool} {raw ρ : Operand → PV} {op : Op} (h : isCall op = false) :
    inertOp P call ann tk raw ρ op = inertOp P call' ann tk raw ρ op := by
  cases op <;> try rfl
  case call c =>
    obtain ⟨callee, args, tys⟩ := c
    cases callee with
    | builtin b => rfl
    | value f => simp [isCall] at h
    | invoke r m => rfl

theorem loudOp_other {P : Program} {call call' : CallF} {ann : FuncId → Ann} {base : Nat} {bx tk : Bool} {raw ρ : Operand → PV} {st : Store} {op : Op} (h : isCall op = false) :
    loudOp P call ann base bx tk raw ρ st op = loudOp P call' ann base bx tk raw ρ st op := by
  cases op <;> try rfl
  case makeMap t rs => cases rs <;> rfl
  case call c =>
    obtain ⟨callee, args, tys⟩ := c
    cases callee with
    | builtin b => cases b <;> rfl
    | value f => simp [isCall] at h
    | invoke r m => rfl

def Ctx.with (C : Ctx) (call : CallF) : Ctx := { C with call }

theorem pop_mono {C : Ctx} {call' : CallF} (hc : C.call.le call') {ops : Array Oper} {o : Oper} {s : PS} {r : Cls × PS} (h : pop C ops o s = some r) : pop (C.with call') ops o s = some r := by
  cases hic : isCall o.op with
  | false =>
    have : pop (C.with call') ops o s = pop C ops o s := by
      unfold pop
      simp only [Ctx.with]
      rw [inertOp_other (call := call') (call' := C.call) hic, loudOp_other (call := call') (call' := C.call) hic]
      rfl
    rw [this]; exact h
  | true =>
    obtain ⟨dst, op, ty, pos, after, guard⟩ := o
    cases op <;> simp [isCall] at hic
    rename_i cl
    obtain ⟨callee, args, tys⟩ := cl
    cases callee <;> simp at hic
    rename_i f
    unfold pop at h ⊢
    split at h
    · rename_i hd
      have hd' : dstOk (C.with call').ntmps (⟨dst, .call ⟨.value f, args, tys⟩, ty, pos, after, guard⟩ : Oper).dst = true := hd
      rw [if_pos hd']
      split at h
      · cases h
      · exact h
      · dsimp only [Ctx.with] at h ⊢
        rw [inert_call, read_call, loud_call] at h ⊢
        generalize doesBox (C.ann C.fn).boxes ⟨dst, .call ⟨.value f, args, tys⟩, ty, pos, after, guard⟩ = bx at h ⊢
        cases hv : (ev s.env f).dn with
        | fn fn first cap =>
          rw [hv] at h
          cases fn with
          | func g =>
            rw [callI_fn, callL_fn] at h ⊢
            cases hp : (C.ann g).pure with
            | true =>
              rw [hp] at h
              simp only [Bool.true_and, if_true] at h ⊢
              cases hb : hasBody C.P g with
              | true =>
                rw [hb] at h
                simp only [if_true] at h ⊢
                cases hcall : C.call g (first ++ List.map (fun x => (ev s.env x).dn) args.toList ++ cap) [] with
                | none =>
                  rw [hcall] at h
                  cases bx <;> (simp only [pureC, unBox] at h; simp at h)
                | some rr =>
                  rw [hcall] at h
                  rw [hc _ _ _ _ hcall]
                  exact h
              | false => rw [hb] at h; exact h
            | false =>
              rw [hp] at h
              simp only [Bool.false_and, Bool.false_eq_true, if_false] at h ⊢
              cases hb : hasBody C.P g with
              | true =>
                rw [hb] at h
                simp only [if_true] at h ⊢
                cases hcall : C.call g (first ++ List.map (fun x => (ev s.env x).dn) args.toList ++ cap) s.st with
                | none => rw [hcall] at h; cases bx <;> (simp only [unBox] at h; simp at h)
                | some rr =>
                  rw [hcall] at h
                  rw [hc _ _ _ _ hcall]
                  exact h
              | false => rw [hb] at h; exact h
          | _ => exact h
        | _ => rw [hv] at h; exact h
    · cases h

theorem pops_mono {C : Ctx} {call' : CallF} (hc : C.call.le call') {ops : Array Oper} : ∀ (l : List Nat) (s : PS) (r : List (Nat × Cls) × PS), pops C ops l s = some r → pops (C.with call') ops l s = some r
  | [], s, r, h => h
  | i :: l, s, r, h => by
    simp only [pops] at h ⊢
    split at h
    · cases h
    · split at h
      · cases h
      · rename_i hp
        rw [pop_mono hc hp]
        dsimp only
        split at h
        · cases h
        · rename_i hps
          rw [pops_mono hc l _ _ hps]
          exact h

theorem pregion_mono {C : Ctx} {call' : CallF} (hc : C.call.le call') {ops : Array Oper} {draw : Bool} {s r : PS} (h : pregion C ops draw s = some r) : pregion (C.with call') ops draw s = some r := by
  unfold pregion at h ⊢
  split at h
  · cases h
  · rename_i hps
    rw [pops_mono hc _ _ _ hps]
    exact h

theorem ploop_mono {f g : PS → Option (PX × PS)} (h : ∀ s r, f s = some r → g s = some r) : ∀ n n' s r, n ≤ n' → ploop f n s = some r → ploop g n' s = some r
  | 0, n', s, r, hn, hp => by simp [ploop] at hp
  | n + 1, n', s, r, hn, hp => by
    cases n' with
    | zero => omega
    | succ n' =>
      simp only [ploop] at hp ⊢
      split at hp
      · rename_i s1 h1
        rw [h s _ h1]
        exact ploop_mono h n n' s1 r (by omega) hp
      · rename_i hno
        rw [h s r hp]
        obtain ⟨x, s1⟩ := r
        cases x with
        | normal => exact absurd hp (hno s1)
        | exit j => rfl
        | ret => rfl

theorem pcode_mono {C : Ctx} {call' : CallF} (hc : C.call.le call') {fuel fuel' : Nat} (hf : fuel ≤ fuel') : ∀ (c : Code) (s : PS) (r : PX × PS), pcode C fuel c s = some r → pcode (C.with call') fuel' c s = some r := by
  intro c
  induction c with
  | skip => intro s r h; exact h
  | region id ops draw =>
    intro s r h
    simp only [pcode, Option.map_eq_some_iff] at h ⊢
    obtain ⟨s1, h1, h2⟩ := h
    exact ⟨s1, pregion_mono hc h1, h2⟩
  | seq a b iha ihb =>
    intro s r h
    simp only [pcode] at h ⊢
    split at h
    · rename_i s1 h1
      rw [iha s _ h1]
      exact ihb s1 r h
    · rename_i hno
      rw [iha s r h]
      obtain ⟨x, s1⟩ := r
      cases x with
      | normal => exact absurd h (hno s1)
      | exit j => rfl
      | ret => rfl
  | cond c a b iha ihb =>
    intro s r h
    simp only [pcode] at h ⊢
    split at h
    · exact iha s r h
    · exact ihb s r h
    · cases h
  | block id b ih =>
    intro s r h
    simp only [pcode] at h ⊢
    split at h
    · rename_i j s1 h1
      rw [ih s _ h1]
      exact h
    · rename_i hno
      rw [ih s r h]
      obtain ⟨x, s1⟩ := r
      cases x with
      | normal => rfl
      | exit j => exact absurd h (hno j s1)
      | ret => rfl
  | loop b ih =>
    intro s r h
    simp only [pcode] at h ⊢
    exact ploop_mono ih fuel fuel' s r hf h
  | exit id => intro s r h; exact h
  | ret => intro s r h; exact h
  | rangeFunc f ps as bd _ _ => intro s r h; simp [pcode] at h
  | scope b _ => intro s r h; simp [pcode] at h
  | label l => intro s r h; simp [pcode] at h
  | goto l => intro s r h; simp [pcode] at h
  | refuse y => intro s r h; simp [pcode] at h

theorem pcall_succ {P : Program} {ann : FuncId → Ann} {sums : Sums} : ∀ k, (pcall P ann sums k).le (pcall P ann sums (k + 1)) := by
  intro k
  induction k with
  | zero => intro f args st r h; simp [pcall] at h
  | succ k ih =>
    intro f args st r h
    unfold pcall at h ⊢
    cases hg : sums f with
    | some g => rw [hg] at h; exact h
    | none =>
      rw [hg] at h
      dsimp only at h ⊢
      cases hf : P.funcs[f]? with
      | none => rw [hf] at h; cases h
      | some fn =>
        rw [hf] at h
        dsimp only at h ⊢
        cases hb : fn.body with
        | none => rw [hb] at h; cases h
        | some c =>
          rw [hb] at h
          dsimp only at h ⊢
          split at h
          · rename_i hn
            rw [if_pos hn]
            cases hp : pcode { P, ann, call := pcall P ann sums k, fn := f, ntmps := fn.ntmps, base := st.length } k c { env := params args, st } with
            | none => rw [hp] at h; cases h
            | some q =>
              have := pcode_mono (C := { P, ann, call := pcall P ann sums k, fn := f, ntmps := fn.ntmps, base := st.length }) ih (Nat.le_succ k) c _ _ hp
              simp only [Ctx.with] at this
              rw [hp] at h
              rw [this]
              exact h
          · cases h

/-- MORE FUEL ANSWERS THE SAME. -/
theorem pcall_mono {P : Program} {ann : FuncId → Ann} {sums : Sums} {k k' : Nat} (hk : k ≤ k') {f : FuncId} {args : List PV} {st : Store} {r : PV × Store} (h : pcall P ann sums k f args st = some r) : pcall P ann sums k' f args st = some r := by
  induction hk with
  | refl => exact h
  | step _ ih => exact pcall_succ _ f args st r ih

end Go.Proofs.YtnjlkgmcoengnaaGreat.PE
