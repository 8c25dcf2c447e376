/-
  PE, part 10: any operation at work in a frame, and a row of them, one behind the other. Holds for every Program; no condition.
-/
import Derived.Test.YtnjlkgmcoengnaaGreatPfE
import Derived.Orders
set_option linter.unusedSimpArgs false
set_option linter.unusedVariables false
namespace Go.Proofs.YtnjlkgmcoengnaaGreat.PE
open Go

theorem undef_not_bool {tmps : Array Value} {d : Nat} {b : Bool} (h : tmps.getD d undef = .bool b) : tmps[d]? = some (.bool b) := by
  rw [Array.getD_eq_getD_getElem?] at h
  cases hd : tmps[d]? with
  | none => rw [hd] at h; simp [undef] at h
  | some v => rw [hd] at h; simp at h; rw [h]

theorem cell_at {w : World} {b : Nat} {vs : Array Value} {e : TypeId} (h : w.heap[b]? = some (.cells vs e (0, 0))) (o : Nat) : w.cell? ⟨b, o, none⟩ = vs[o]? := by
  simp [World.cell?, h]

theorem wanted_sound {E : Entry} {n : Nat} {g : Gh} {w : World} {env : Env} {tmps : Array Value} {st : Store} (h : St E n g w env tmps st) {ops : Array Oper} {o : Oper} {b : Bool}
    (hw : wantedP ops env o = some b) : Region.wanted o (yielded ops tmps) = b := by
  unfold wantedP at hw
  unfold Region.wanted
  split at hw
  · rename_i hg; rw [hg]; simp at hw; exact hw.symm
  · rename_i j want hg
    rw [hg]
    split at hw
    · rename_i d hd
      have hr := h.regs d
      unfold wantV at hw
      split at hw
      · rename_i b' hb
        simp only [Option.some.injEq] at hw
        rw [hb] at hr
        have hv : tmps.getD d undef = .bool b' := by
          have := hr.toR rfl
          generalize tmps.getD d undef = u at this
          cases this
          rfl
        have hy : yielded ops tmps j = some b' := by simp [yielded, hd, undef_not_bool hv]
        simp only [hy]
        rw [← hw]
        simp
      · rename_i hb
        simp only [Option.some.injEq] at hw
        rw [hb] at hr
        have hv : ∃ vs, tmps.getD d undef = .tuple vs := by
          have := hr.toR rfl
          generalize tmps.getD d undef = u at this
          cases this
          exact ⟨_, rfl⟩
        obtain ⟨vs, hv⟩ := hv
        have hy : yielded ops tmps j = none := by
          simp only [yielded, hd, Option.bind_some]
          rw [Array.getD_eq_getD_getElem?] at hv
          cases ht : tmps[d]? with
          | none => rfl
          | some u => rw [ht] at hv; simp only [Option.getD_some] at hv; rw [hv]
        simp only [hy]
        rw [← hw]
        simp
      · cases hw
    · cases hw

theorem hasBody_fn {P : Program} {f : FuncId} (h : hasBody P f = true) : ∃ fn, P.funcs[f]? = some fn ∧ fn.body.isSome = true ∧ (fn.name == "runtime.NumGoroutine") = false := by
  unfold hasBody at h
  split at h
  · rename_i fn hf
    simp only [Bool.and_eq_true, bne_iff_ne, ne_eq] at h
    exact ⟨fn, hf, h.1, by simpa using h.2⟩
  · cases h

theorem run_callFunc {P : Program} {f : FuncId} (h : hasBody P f = true) (args : Array Value) (w : World) : (callFunc f args).run P w = .ok (.enter f args) w := by
  obtain ⟨fn, hf, hb, hn⟩ := hasBody_fn h
  obtain ⟨c, hc⟩ := Option.isSome_iff_exists.1 hb
  simp only [callFunc, Sem.run_bind, run_program, Result.andThen_ok, hf, hn, Bool.false_eq_true, if_false, hc, Option.isNone_some]
  rfl

/-- A call, taken apart: which function, with which values. -/
theorem run_call {P : Program} {g : Gh} {w : World} {a : Act} {o : Oper} {f : Operand} {args : Array Operand} {tys : Array TypeId} {k : FuncId} {first cap : List PV} {ρ : Operand → PV}
    (ho : o.op = .call { callee := .value f, args, argTypes := tys }) (hρ : ∀ x, R g w (ρ x) (a.eval x)) (hf : ρ f = .fn (.func k) first cap) (hb : hasBody P k = true) :
    ∃ vs : Array Value, (execOp a.eval o).run P w = .ok (.enter k vs) w ∧ (first ++ args.toList.map ρ ++ cap).length = vs.size ∧
      ∀ (i : Nat) (c : PV) (v : Value), (first ++ args.toList.map ρ ++ cap)[i]? = some c → vs[i]? = some v → R g w c v := by
  have hfv := hρ f
  rw [hf] at hfv
  generalize hev : a.eval f = u at hfv
  cases hfv with
  | @fn _ _ _ fvs cvs hl hl' hw hw' h h' =>
    refine ⟨fvs ++ args.map a.eval ++ cvs, ?_, by simp [hl, hl'], ?_⟩
    · have : (execOp a.eval o).run P w = (callFunc k (fvs ++ args.map a.eval ++ cvs)).run P w := by
        simp only [execOp, ho, resolve, hev, Deferred.ofValue, Sem.run_bind, Sem.run_pure, Result.andThen_ok, invoke]
      rw [this]
      exact run_callFunc hb _ w
    · intro i c v hc hv
      have hargs := map_RL hρ args
      rcases Nat.lt_or_ge i (first ++ args.toList.map ρ).length with hi | hi
      · rw [List.getElem?_append_left hi] at hc
        have hi' : i < (fvs ++ args.map a.eval).size := by simp [← hl] at hi ⊢; omega
        rw [Array.getElem?_append_left hi'] at hv
        rcases Nat.lt_or_ge i first.length with hj | hj
        · rw [List.getElem?_append_left hj] at hc
          rw [Array.getElem?_append_left (by omega)] at hv
          exact h i c v hc hv
        · rw [List.getElem?_append_right hj] at hc
          rw [Array.getElem?_append_right (by omega), ← hl] at hv
          exact hargs _ c v hc hv
      · rw [List.getElem?_append_right hi] at hc
        have hsz : (fvs ++ args.map a.eval).size = (first ++ args.toList.map ρ).length := by simp [hl]
        rw [Array.getElem?_append_right (by omega), hsz] at hv
        exact h' _ c v hc hv

theorem takes_call {take : List Nat} {o : Oper} (h : isCall o.op = true) : takes take o = none := by
  obtain ⟨dst, op, ty, pos, after, guard⟩ := o
  cases op <;> simp [isCall] at h
  rename_i c
  obtain ⟨callee, args, tys⟩ := c
  cases callee <;> simp at h
  rfl

theorem maxRefs_zero {l : List PV} (h : PV.maxRefs l = 0) {i : Nat} {c : PV} (hc : l[i]? = some c) : c.maxRef = 0 := by
  have := maxRefs_mem hc
  omega

theorem put_defers (a : Act) (d : Option Tmp) (v : Value) : (a.put d v).defers = a.defers := by cases d <;> rfl

/-- What stands behind an operation. -/
def Next1 (E : Entry) (C : Ctx) (a : Act) (s' : PS) : Act → World → Prop :=
  fun a' w' => a'.defers = a.defers ∧ ∃ g', St E C.ntmps g' w' s'.env a'.tmps s'.st

theorem wp_value {P : Program} {o : Oper} {a : Act} {w w' : World} {v : Value} {K : Act → World → Prop} {Q : Exit → Act → World → Prop}
    (h : (execOp a.eval o).run P w = .ok (.value v) w') (hk : K (a.put o.dst v) w') : o.wp P a w K Q := by
  unfold Oper.wp
  rw [h]
  exact hk

theorem wp_skip' {P : Program} {o : Oper} {a : Act} {w w' : World} {K : Act → World → Prop} {Q : Exit → Act → World → Prop}
    (h : (execOp a.eval o).run P w = .ok .skip w') (hk : K (a.put o.dst undef) w') : o.wp P a w K Q := by
  unfold Oper.wp
  rw [h]
  exact hk

theorem wp_enter {P : Program} {o : Oper} {a : Act} {w : World} {f : FuncId} {vs : Array Value} {K : Act → World → Prop} {Q : Exit → Act → World → Prop}
    (h : (execOp a.eval o).run P w = .ok (.enter f vs) w) (hk : Calls P f vs w fun e w'' => ∃ v, e = .returned v ∧ K (a.put o.dst v) w'') : o.wp P a w K Q := by
  unfold Oper.wp
  rw [h]
  refine Calls.mono hk fun e w' ⟨v, he, hv⟩ => ?_
  subst he
  exact hv

theorem unBox_some {bx : Bool} {r : Option PV} {v : PV} (h : unBox bx r = some v) : bx = false ∧ r = some v := by
  cases bx with
  | true => simp [unBox] at h
  | false => exact ⟨rfl, h⟩

/-- A slot written behind an operation that took, perhaps. -/
theorem St.after {E : Entry} {n : Nat} {g : Gh} {w : World} {env : Env} {a : Act} {st : Store} {x : PV} {v : Value} {src dst : Option Nat} (h : St E n g w env a.tmps st) (hx : R g w x v) (hd : dstOk n dst = true) :
    St E n g w (PE.put (PE.drop env src) dst x) (a.put dst v).tmps st := by
  have h1 := h.drop src
  cases dst with
  | none => exact h1
  | some d =>
    simp only [dstOk, decide_eq_true_eq] at hd
    exact h1.put0 hd hx

/-- ANY OPERATION. -/
theorem pop_sound {C : Ctx} (hcall : CallSound C.P C.call) {E : Entry} (hE : C.base = E.st.length) {ops : Array Oper} {o : Oper} {s s' : PS} {a : Act} {g : Gh} {w : World} {c : Cls}
    (h : St E C.ntmps g w s.env a.tmps s.st) (hp : pop C ops o s = some (c, s')) (Q : Exit → Act → World → Prop) :
    (Region.wanted o (yielded ops a.tmps) = false ∧ St E C.ntmps g w s'.env (a.put o.dst undef).tmps s'.st) ∨
    (Region.wanted o (yielded ops a.tmps) = true ∧ o.wp C.P a w (Next1 E C a s') Q) := by
  unfold pop at hp
  split at hp
  · rename_i hd
    split at hp
    · cases hp
    · -- not wanted
      rename_i hw
      simp only [Option.some.injEq, Prod.mk.injEq] at hp
      obtain ⟨_, rfl⟩ := hp
      refine .inl ⟨wanted_sound h hw, ?_⟩
      cases hdst : o.dst with
      | none => exact h
      | some d =>
        rw [hdst] at hd
        simp only [dstOk, decide_eq_true_eq] at hd
        exact h.put0 hd (.tup rfl rfl (by simp))
    · rename_i hw
      refine .inr ⟨wanted_sound h hw, ?_⟩
      have hρ : ∀ x, R g w (ev s.env x).dn (a.eval x) := fun x => (h.ev x).1
      dsimp only at hp
      split at hp
      · -- it touches no store
        rename_i x hx0
        have hx := (unBox_some hx0).2
        clear hx0
        simp only [Option.some.injEq, Prod.mk.injEq] at hp
        obtain ⟨_, rfl⟩ := hp
        cases hic : isCall o.op with
        | false =>
          obtain ⟨v, g', w', T, hr, hev, hrho, hrt, hpx, hown, hT⟩ := inert_sound h hic hx
          exact wp_value hr ⟨put_defers _ _ _, g', h.finish hev hrho hrt hpx hT hown hd⟩
        | true =>
          -- a call with no boxes
          obtain ⟨dst, op, ty, pos, after, guard⟩ := o
          cases op <;> simp [isCall] at hic
          rename_i cl
          obtain ⟨callee, args, tys⟩ := cl
          cases callee <;> simp at hic
          rename_i f
          simp only [inertOp] at hx
          split at hx
          · rename_i k first cap hf
            split at hx
            · rename_i hpb
              simp only [Bool.and_eq_true] at hpb
              split at hx
              · rename_i hmr
                split at hx
                · rename_i r hcl
                  split at hx
                  · rename_i hrm
                    simp only [Option.some.injEq] at hx
                    subst hx
                    obtain ⟨vs, hrun, hlen, hargs⟩ := run_call (P := C.P) (w := w) (o := ⟨dst, .call ⟨.value f, args, tys⟩, ty, pos, after, guard⟩) rfl hρ hf hpb.2
                    refine wp_enter hrun ?_
                    have hs0 : SInv ⟨[], g.prot⟩ w [] := by
                      refine ⟨rfl, by simp, fun b b' cs cs' blk hb => by simp at hb, fun b cs blk hb => by simp at hb, by simp, h.s.pex, ?_, fun b b' es es' blk hb => by simp at hb⟩
                      rintro b o' b' o'' blk ⟨cs, x, rb, v, hb, _⟩
                      simp at hb
                    refine (hcall k _ [] r [] hcl ⟨[], g.prot⟩ w vs hs0 hlen fun i c v hc hv => ?_).mono fun e w' ⟨v, g1, he, hpost⟩ => ⟨v, he, ?_⟩
                    · have := (hargs i c v hc hv).cut 0 (by rw [maxRefs_zero hmr hc]; exact Nat.le_refl _)
                      simpa using this
                    · have hWc : ∀ blk, ¬ Wc ⟨⟨[], g.prot⟩, w, []⟩ blk := by
                        rintro blk (hb | ⟨b, o', cs, x, rb, v, hb, _⟩)
                        · simp at hb
                        · simp at hb
                      have hev : Evo g w ⟨g.ρ, g1.prot⟩ w' (fun _ => False) := by
                        refine ⟨⟨[], by simp, by simp⟩, hpost.evo.prot, fun b o' hb => ?_, hpost.evo.cell, hpost.evo.size, fun b hb _ => hpost.evo.keep b hb (hWc b), hpost.evo.os, hpost.evo.tape, hpost.evo.output, hpost.evo.shape⟩
                        rcases hpost.evo.protNew b o' hb with hx | hx | hx
                        · exact .inl hx
                        · exact absurd hx (hWc b)
                        · exact .inr (.inr hx)
                      have hown : ∀ blk, owns r v blk → w.heap.size ≤ blk := by
                        intro blk hb
                        rcases (hpost.own blk hb).1 with hx | hx
                        · exact absurd hx (hWc blk)
                        · exact hx
                      have hg1 : g1.ρ = [] := List.eq_nil_of_length_eq_zero (by simpa using hpost.s.len)
                      refine ⟨put_defers _ _ _, ⟨g.ρ, g1.prot⟩, ?_⟩
                      have hrt : RT ⟨g.ρ, g1.prot⟩ w' r v := by
                        refine ⟨R.grow (g := g1) (g' := ⟨g.ρ, g1.prot⟩) ⟨g.ρ, by rw [hg1]; rfl⟩ (fun _ _ hx => hx) hpost.res.1, fun sz els hr => ?_⟩
                        obtain ⟨blk, cap', cur, e', hv, hbl, hcs, _, hsp⟩ := hpost.res.2 sz els hr
                        refine ⟨blk, cap', cur, e', hv, hbl, hcs, fun hm => ?_, hsp⟩
                        have := hown blk ⟨by rw [hr]; rfl, _, _, hv⟩
                        have := rho_lt h.s hm
                        omega
                      have := h.finish (src := none) (dst := dst) hev rfl hrt (fun b o' hb => hpost.s.pex b o' hb) (fun _ hx => hx.elim) (fun blk hb => .inr (hown blk hb)) hd
                      simpa [takes, PE.drop] using this
                  · cases hx
                · cases hx
              · cases hx
            · cases hx
          · cases hx
      · rename_i hni
        clear hni
        split at hp
        · -- it reads the store
          rename_i x hx
          simp only [Option.some.injEq, Prod.mk.injEq] at hp
          obtain ⟨hcls, rfl⟩ := hp
          clear hcls
          obtain ⟨dst, op, ty, pos, after, guard⟩ := o
          cases op <;> try (simp only [readOp] at hx; cases hx; done)
          case lookup t y z ok =>
            simp only [readOp] at hx
            obtain ⟨v, h1, h2⟩ := lookup_sound (P := C.P) h.s hx (hρ y) (hρ z)
            refine wp_value (v := v) (w' := w) ?_ ⟨put_defers _ _ _, g, ?_⟩
            · simp [execOp, h1]
            · exact h.after (src := none) h2 hd
          case slice t y lo hi mx =>
            cases lo with
            | some q => simp only [readOp] at hx; cases hx
            | none =>
            cases hi with
            | some q => simp only [readOp] at hx; cases hx
            | none =>
            cases mx with
            | some q => simp only [readOp] at hx; cases hx
            | none =>
            obtain ⟨v, h1, h2⟩ := arraySlice_sound (P := C.P) h.s rfl hx (hρ y)
            refine wp_value (v := v) (w' := w) ?_ ⟨put_defers _ _ _, g, ?_⟩
            · simp [execOp, h1]
            · exact h.after (src := none) h2 hd
          rename_i t y
          simp only [readOp] at hx
          split at hx
          · cases hx
          · have hy := hρ y
            split at hx
            · rename_i b off he
              rw [he] at hy
              generalize hevy : a.eval y = u at hy
              cases hy with
              | @ptr _ _ blk hb =>
                split at hx
                · rename_i cs hst
                  obtain ⟨vs, e, hh, hsz, hcell⟩ := h.s.box b _ blk hst hb
                  have hget : ∀ j, j < vs.size → vs[j]? = some (vs.getD j undef) := fun j hj => by
                    simp [Array.getD_eq_getD_getElem?, Array.getElem?_eq_getElem hj]
                  obtain ⟨v, h1, h2⟩ := run_loadVar (P := C.P) (w := w) (g := g) (blk := blk) (o := 0) (V := fun j => vs.getD j undef) hx
                    (fun j hj => by
                      have hj' : j < cs.length := by simpa using hj
                      have hv := hget j (by omega)
                      refine ⟨by rw [cell_at hh, Nat.zero_add]; exact hv, (hcell j cs[j] _ (List.getElem?_eq_getElem hj') hv).2⟩)
                    (fun j c hc => by
                      rw [List.getElem?_map, Option.map_eq_some_iff] at hc
                      obtain ⟨c', hc', rfl⟩ := hc
                      have hj := (List.getElem?_eq_some_iff.1 hc').1
                      exact (hcell j c' _ hc' (hget j (by omega))).1.1)
                  refine wp_value (v := v) (w' := w) ?_ ⟨put_defers _ _ _, g, ?_⟩
                  · rw [Nat.zero_add] at h1
                    simp [execOp, hevy, Instr.loadAt, Instr.sureAddr, h1]
                  · cases dst with
                    | none => exact h
                    | some d =>
                      simp only [dstOk, decide_eq_true_eq] at hd
                      exact h.put0 hd h2
                · cases hx
            · cases hx
        · rename_i hni
          clear hni
          split at hp
          · -- it turns the store
            rename_i x st1 hx
            simp only [Option.some.injEq, Prod.mk.injEq] at hp
            obtain ⟨hcls, rfl⟩ := hp
            clear hcls
            obtain ⟨dst, op, ty, pos, after, guard⟩ := o
            cases op <;> try (simp only [loudOp] at hx; cases hx; done)
            case load t y =>
              simp only [loudOp] at hx
              split at hx
              · rename_i htk
                simp only [Bool.and_eq_true, decide_eq_true_eq] at htk
                have hy := hρ y
                split at hx
                · rename_i b off he
                  rw [he] at hy
                  generalize hevy : a.eval y = u at hy
                  cases hy with
                  | @ptr _ _ blk hb =>
                    split at hx
                    · rename_i cs hst
                      rw [Option.map_eq_some_iff] at hx
                      obtain ⟨c', hc', hx⟩ := hx
                      simp only [Prod.mk.injEq] at hx
                      obtain ⟨rfl, rfl⟩ := hx
                      obtain ⟨vs, e, hh, hsz, hcell⟩ := h.s.box b _ blk hst hb
                      have hoff := (List.getElem?_eq_some_iff.1 hc').1
                      have hv : vs[off]? = some (vs[off]'(by omega)) := Array.getElem?_eq_getElem _
                      have hcv : w.cell? ⟨blk, off, none⟩ = some (vs[off]'(by omega)) := by simp [World.cell?, hh, hv]
                      refine wp_value (v := vs[off]'(by omega)) (w' := w) ?_ ⟨put_defers _ _ _, g, ?_⟩
                      · simp [execOp, hevy, Instr.loadAt, Instr.sureAddr, loadVar, run_isAgg htk.2, hcv]
                      · have := h.take (dst := dst) hst hb hc' hcv hd
                        simpa [takes, PE.drop] using this
                    · cases hx
                · cases hx
              · cases hx
            case store t y z =>
              simp only [loudOp] at hx
              have hy := hρ y
              split at hx
              · rename_i b off he
                rw [he] at hy
                generalize hevy : a.eval y = u at hy
                cases hy with
                | @ptr _ _ blk hb =>
                  split at hx
                  · rename_i cs hst
                    split at hx
                    · rename_i hc
                      obtain ⟨hsol, hsize, hle, hm⟩ := hc
                      simp only [Option.some.injEq, Prod.mk.injEq] at hx
                      obtain ⟨rfl, rfl⟩ := hx
                      obtain ⟨vs, e, hh, hsz, hcell⟩ := h.s.box b _ blk hst hb
                      have hrt := h.ev z
                      -- how many cells the value has
                      have hcells : (ev s.env z).cells.length = (a.eval z).cells.toList.length ∧ ∀ v, v ∈ (a.eval z).cells.toList → v.oneCell' = true := by
                        cases how : (ev s.env z).isOw with
                        | true =>
                          obtain ⟨sz, els, hz⟩ := isOw_iff.1 how
                          rw [hz] at hrt
                          obtain ⟨_, cap, _, _, hv, _⟩ := hrt.2 sz els rfl
                          rw [hz, hv]
                          refine ⟨rfl, fun v hv' => ?_⟩
                          simp [Value.cells] at hv'
                          subst hv'
                          rfl
                        | false =>
                          have hrc := R.cells (hrt.toR how) hsol
                          refine ⟨hrc.1, fun v hv => ?_⟩
                          obtain ⟨k, hk, rfl⟩ := List.mem_iff_getElem.1 hv
                          have hk' : k < (ev s.env z).cells.length := by rw [hrc.1]; exact hk
                          exact (hrc.2 k _ _ (List.getElem?_eq_getElem hk') (List.getElem?_eq_getElem hk)).2
                      have hst' := run_storeCells_at C.P blk off e (a.eval z).cells.toList 0 vs w hh (by rw [← hcells.1]; omega) hcells.2
                      simp only [Nat.add_zero] at hst'
                      have hsz' : ¬ (a.eval z).cells.size ≠ (ev s.env z).cells.length := by rw [hcells.1]; simp
                      refine wp_skip' (w' := w.setRow blk (vs.toList.take off ++ (a.eval z).cells.toList ++ vs.toList.drop (off + (a.eval z).cells.toList.length)).toArray) ?_ ⟨put_defers _ _ _, g, ?_⟩
                      · simp only [execOp, Instr.storeAt, hevy, Instr.sureAddr, storeVar, Sem.run_bind, Sem.run_pure, Result.andThen_ok, run_sizeOf hsize]
                        rw [if_neg hsz']
                        simp only [Result.andThen_ok, hst']
                      · refine h.store hst hb hh hsol hrt hle (by rw [← hE]; exact hm) (fun k hk => ?_) hd
                        cases z with
                        | tmp t => exact ⟨t, rfl, hk⟩
                        | const v => exact (not_owns_of (R.ofVal g w v).not_ow hk).elim
                        | global k => exact (not_owns_of rfl hk).elim
                        | func f => exact (not_owns_of rfl hk).elim
                    · cases hx
                  · cases hx
              · cases hx
            case alloc e =>
              simp only [loudOp] at hx
              split at hx
              · rename_i z hz
                split at hx
                · rename_i hsol
                  simp only [Option.some.injEq, Prod.mk.injEq] at hx
                  obtain ⟨rfl, rfl⟩ := hx
                  simp only [tZero, Option.map_eq_some_iff] at hz
                  obtain ⟨zv, hz, rfl⟩ := hz
                  obtain ⟨ie, hie, hz⟩ := Option.bind_eq_some_iff.1 hz
                  have hrc := R.cells (R.ofVal g w zv) hsol
                  refine wp_value (v := .pointer (some ⟨w.heap.size, 0, none⟩)) (w' := w.alloc (.cells zv.cells e)) ?_ ⟨put_defers _ _ _, ⟨g.ρ ++ [w.heap.size], g.prot⟩, ?_⟩
                  · simp [execOp, Instr.alloc, zeroValue, typeInfo, hie, hz, newVar, newRow]
                  · have := h.newBox (e := e) (dst := dst) hrc hd
                    simpa [takes, PE.drop] using this
                · cases hx
              · cases hx
            case box e y =>
              simp only [loudOp] at hx
              split at hx
              · rename_i hsol
                simp only [Option.some.injEq, Prod.mk.injEq] at hx
                obtain ⟨rfl, rfl⟩ := hx
                have hrc := R.cells (hρ y) hsol
                refine wp_value (v := .pointer (some ⟨w.heap.size, 0, none⟩)) (w' := w.alloc (.cells (a.eval y).cells e)) ?_ ⟨put_defers _ _ _, ⟨g.ρ ++ [w.heap.size], g.prot⟩, ?_⟩
                · simp [execOp, Instr.box, newVar, newRow]
                · have := h.newBox (e := e) (dst := dst) hrc hd
                  simpa [takes, PE.drop] using this
              · cases hx
            case makeMap t rs =>
              cases rs with
              | some _ => simp only [loudOp] at hx; cases hx
              | none =>
                simp only [loudOp, Option.some.injEq, Prod.mk.injEq] at hx
                obtain ⟨rfl, rfl⟩ := hx
                refine wp_value (v := .map (some w.heap.size)) (w' := w.alloc (.map #[] 0)) ?_ ⟨put_defers _ _ _, ⟨g.ρ ++ [w.heap.size], g.prot⟩, ?_⟩
                · simp [execOp, Instr.makeMap]
                · exact h.newMap.after (src := none) (.mp (rho_last g.ρ s.st _ h.s.len)) hd
            case insert t y z q =>
              simp only [loudOp] at hx
              obtain ⟨w', h1, h2, rfl⟩ := insert_sound (P := C.P) h hx (hρ y) (hρ z) (hρ q)
              refine wp_skip' (w' := w') ?_ ⟨put_defers _ _ _, g, ?_⟩
              · simp [execOp, h1]
              · exact h2.after (src := none) (.tup rfl rfl (by simp)) hd
            case makeSlice t y z =>
              simp only [loudOp] at hx
              split at hx
              · obtain ⟨v, g', w', h1, h2, h3⟩ := makeB_sound (P := C.P) h hx (hρ y) (hρ z)
                refine wp_value (v := v) (w' := w') ?_ ⟨put_defers _ _ _, g', ?_⟩
                · simp [execOp, h1]
                · exact h2.after h3 hd
              · cases hx
            case call cl =>
              obtain ⟨callee, args, tys⟩ := cl
              cases callee with
              | builtin b =>
                have hargs : (args.map a.eval).toList = args.toList.map a.eval := by simp
                cases b <;> try (simp only [loudOp] at hx; cases hx; done)
                case append =>
                  simp only [loudOp] at hx
                  split at hx
                  · split at hx
                    · rename_i y z t u hy htu
                      have htys : tys = #[t, u] := by apply Array.ext'; simpa using htu
                      have harr : args.map a.eval = #[a.eval y, a.eval z] := by apply Array.ext'; rw [hargs, hy]; rfl
                      obtain ⟨v, g', w', h1, h2, h3⟩ := appendB_sound (P := C.P) (ty := ty) h hx (hρ y) (hρ z)
                      refine wp_value (v := v) (w' := w') ?_ ⟨put_defers _ _ _, g', ?_⟩
                      · subst htys
                        simp [execOp, resolve, invoke, builtin, harr, h1]
                      · exact h2.after h3 hd
                    · cases hx
                  · cases hx
                case copy =>
                  simp only [loudOp] at hx
                  split at hx
                  · rename_i y z t u hy htu
                    have htys : tys = #[t, u] := by apply Array.ext'; simpa using htu
                    have harr : args.map a.eval = #[a.eval y, a.eval z] := by apply Array.ext'; rw [hargs, hy]; rfl
                    obtain ⟨v, w', h1, h2, h3⟩ := copyB_sound (P := C.P) (ty := ty) h hx (hρ y) (hρ z)
                    refine wp_value (v := v) (w' := w') ?_ ⟨put_defers _ _ _, g, ?_⟩
                    · subst htys
                      simp [execOp, resolve, invoke, builtin, harr, h1]
                    · exact h2.after h3 hd
                  · cases hx
                case clear =>
                  simp only [loudOp] at hx
                  split at hx
                  · rename_i y t hy htu
                    have htys : tys = #[t] := by apply Array.ext'; simpa using htu
                    have harr : args.map a.eval = #[a.eval y] := by apply Array.ext'; rw [hargs, hy]; rfl
                    obtain ⟨v, w', h1, h2, h3⟩ := clearB_sound (P := C.P) (ty := ty) h hx (hρ y)
                    refine wp_value (v := v) (w' := w') ?_ ⟨put_defers _ _ _, g, ?_⟩
                    · subst htys
                      simp [execOp, resolve, invoke, builtin, harr, h1]
                    · exact h2.after h3 hd
                  · cases hx
              | invoke r m => simp [loudOp] at hx
              | value f =>
                simp only [loudOp] at hx
                split at hx
                · rename_i k first cap hf
                  split at hx
                  · cases hx
                  · split at hx
                    · rename_i hb
                      obtain ⟨vs, hrun, hlen, hargs⟩ := run_call (P := C.P) (w := w) (o := ⟨dst, .call ⟨.value f, args, tys⟩, ty, pos, after, guard⟩) rfl hρ hf hb
                      refine wp_enter hrun ?_
                      refine (hcall k _ s.st x st1 hx g w vs h.s hlen hargs).mono fun e w' ⟨v, g1, he, hpost⟩ => ⟨v, he, put_defers _ _ _, g1, ?_⟩
                      have := h.call (dst := dst) hpost hd
                      simpa [takes, PE.drop] using this
                    · cases hx
                · cases hx
          · cases hp
  · cases hp

/-- A ROW OF OPERATIONS, one behind the other. -/
theorem pops_sound {C : Ctx} (hcall : CallSound C.P C.call) {E : Entry} (hE : C.base = E.st.length) {ops : Array Oper} (Q : Exit → Act → World → Prop) : ∀ (l : List Nat) (s s' : PS) (cs : List (Nat × Cls)) (a : Act) (g : Gh) (w : World),
    pops C ops l s = some (cs, s') → St E C.ntmps g w s.env a.tmps s.st →
    (∀ a' g' w', a'.defers = a.defers → St E C.ntmps g' w' s'.env a'.tmps s'.st → Q .normal a' w') → wpOps C.P ops Q l a w
  | [], s, s', cs, a, g, w, h, hs, hq => by
    simp only [pops, Option.some.injEq, Prod.mk.injEq] at h
    obtain ⟨_, rfl⟩ := h
    exact hq a g w rfl hs
  | i :: r, s, s', cs, a, g, w, h, hs, hq => by
    simp only [pops] at h
    split at h
    · cases h
    · rename_i o ho
      split at h
      · cases h
      · rename_i c s1 hp
        split at h
        · cases h
        · rename_i cs2 s2 hps
          simp only [Option.some.injEq, Prod.mk.injEq] at h
          obtain ⟨_, rfl⟩ := h
          simp only [wpOps, ho]
          rcases pop_sound hcall hE hs hp Q with ⟨hw, h1⟩ | ⟨hw, h1⟩
          · rw [hw]
            exact pops_sound hcall hE Q r s1 s2 cs2 _ g w hps h1 fun a' g' w' hd hst => hq a' g' w' (hd.trans (put_defers _ _ _)) hst
          · rw [hw]
            refine .inl (Oper.wp_mono (fun a1 w1 ⟨hd, g1, hst⟩ => ?_) h1)
            exact pops_sound hcall hE Q r s1 s2 cs2 a1 g1 w1 hps hst fun a' g' w' hd' hst' => hq a' g' w' (hd'.trans hd) hst'

end Go.Proofs.YtnjlkgmcoengnaaGreat.PE
