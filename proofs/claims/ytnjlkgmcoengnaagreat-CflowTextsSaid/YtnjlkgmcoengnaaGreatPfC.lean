/-
  PF, between parts 9 and 10: copy, clear and make at work on boxes; an array as a slice. Holds for every Program; no condition.
-/
import Derived.Test.YtnjlkgmcoengnaaGreatPfB
set_option linter.unusedSimpArgs false
set_option linter.unusedVariables false
namespace Go.Proofs.YtnjlkgmcoengnaaGreat.PE
open Go

theorem wr_nil (cs : List PV) (off : Nat) : wr cs off [] = cs := by simp [wr]

theorem set_self {st : Store} {b : Nat} {x : PBox} (h : st[b]? = some x) : st.set b x = st := by
  apply List.ext_getElem?
  intro i
  rw [List.getElem?_set]
  by_cases hi : b = i
  · subst hi
    have hlt := (List.getElem?_eq_some_iff.1 h).1
    rw [if_pos rfl, if_pos hlt, h]
  · rw [if_neg hi]

section
variable {P : Program} {E : Entry} {n : Nat} {g : Gh} {w : World} {env : Env} {a : Act} {st : Store}

theorem maxRefs_append (l r : List PV) : PV.maxRefs (l ++ r) = max (PV.maxRefs l) (PV.maxRefs r) := by
  induction l with
  | nil => simp [PV.maxRefs]
  | cons c l ih => simp [PV.maxRefs, ih, Nat.max_assoc]

theorem maxRefs_replicate {cs : List PV} (h : PV.maxRefs cs = 0) : ∀ k, PV.maxRefs (List.replicate k cs).flatten = 0
  | 0 => by simp [PV.maxRefs]
  | k + 1 => by rw [List.replicate_succ, List.flatten_cons, maxRefs_append, h, maxRefs_replicate h k]; rfl

/-- Cells laid over a box's. -/
theorem write_sound (h : St E n g w env a.tmps st) {b blk off : Nat} {cs news : List PV} {vs : List Value} (hb : st[b]? = some (.cells cs)) (hr : g.ρ[b]? = some blk) (hle : off + news.length ≤ cs.length) (hn : RCs g w news vs)
    (hm : PV.maxRefs news = 0) : ∃ w', (storeCells ⟨blk, off, none⟩ vs).run P w = .ok () w' ∧ St E n g w' env a.tmps (st.set b (.cells (wr cs off news))) := by
  obtain ⟨old, e, h1, h2, h3⟩ := h.s.box b _ blk hb hr
  have h1c : ∀ v, v ∈ vs → v.oneCell' = true := by
    intro v hv
    obtain ⟨q, hq, rfl⟩ := List.mem_iff_getElem.1 hv
    have hq' : q < news.length := by rw [hn.1]; exact hq
    exact (hn.2 q _ vs[q] (List.getElem?_eq_getElem hq') (List.getElem?_eq_getElem hq)).2
  have hst := run_storeCells_at P blk off e vs 0 old w h1 (by rw [← hn.1]; omega) h1c
  simp only [Nat.add_zero] at hst
  refine ⟨_, hst, ?_⟩
  have := h.store (src := none) (dst := none) (x := .agg news) (v := .agg vs.toArray) (off := off) hb hr h1 rfl (.of hn.agg) (by simpa [PV.cells] using hle) (.inr (by simp [PV.maxRef, hm]))
    (fun k hk => (not_owns_of rfl hk).elim) rfl
  simpa [PE.put, PE.drop, Act.put, PV.cells, Value.cells, wr] using this

theorem copyB_sound (h : St E n g w env a.tmps st) {t u ty : TypeId} {x y r : PV} {va vb : Value} {st' : Store} (hp : pCopyB P t u x y st = some (r, st')) (hx : R g w x va) (hy : R g w y vb) :
    ∃ v w', (Builtin.copy_ #[t, u] ty #[va, vb]).run P w = .ok v w' ∧ St E n g w' env a.tmps st' ∧ R g w' r v := by
  unfold pCopyB at hp
  split at hp
  · cases hp
  · rename_i e he
    have hut := tElem_und he
    split at hp
    · cases hp
    · rename_i sz hsz
      have hso : (sizeOf e).run P w = .ok sz w := run_sizeOf hsz
      split at hp
      · cases hp
      · rename_i k news hsrc
        obtain ⟨hd, hnl, vs, hvs, hrun⟩ := src_sound h.s he hsrc hy
        obtain ⟨hm, hf⟩ := hrun w rfl
        split at hp
        · rename_i b off m c sz'
          split at hp
          · rename_i cs hst
            split at hp
            · rename_i hc
              obtain ⟨rfl, hkm, hle, hmr⟩ := hc
              simp only [Option.some.injEq, Prod.mk.injEq] at hp
              obtain ⟨rfl, rfl⟩ := hp
              cases hx with
              | @vs _ _ off' _ _ cap _ blk hb ha hn hc hmx hs =>
                have hmin : Nat.min k m = k := Nat.min_eq_left hkm
                rcases Nat.eq_zero_or_pos k with hk | hk
                · subst hk
                  have hnews : news = [] := List.eq_nil_of_length_eq_zero (by rw [hnl]; simp)
                  subst hnews
                  have hvs0 : vs = [] := List.eq_nil_of_length_eq_zero (by rw [← hvs.1]; rfl)
                  subst hvs0
                  refine ⟨goInt 0, w, ?_, ?_, .s _⟩
                  · simp [Builtin.copy_, run_underlying hut, hm, hmin, hso, hf, storeCells]
                  · rw [wr_nil, set_self hst]; exact h
                · have h0 := ha (by omega)
                  subst h0
                  have hle2 : off' + news.length ≤ cs.length := by
                    rw [hnl]
                    exact Nat.le_trans (Nat.add_le_add_left (Nat.mul_le_mul_right _ hkm) _) hle
                  obtain ⟨w', h1, h2⟩ := write_sound (P := P) h hst hb hle2 hvs hmr
                  refine ⟨goInt k, w', ?_, h2, .s _⟩
                  simp [Builtin.copy_, run_underlying hut, hm, hmin, hso, hf, h1]
            · cases hp
          · cases hp
        · cases hp

theorem clearB_sound (h : St E n g w env a.tmps st) {t ty : TypeId} {x r : PV} {va : Value} {st' : Store} (hp : pClearB P t x st = some (r, st')) (hx : R g w x va) :
    ∃ v w', (Builtin.clear_ #[t] ty #[va]).run P w = .ok v w' ∧ St E n g w' env a.tmps st' ∧ R g w' r v := by
  have htup : ∀ w', R g w' (.tup []) (.tuple #[]) := fun w' => .tup rfl rfl (by simp)
  unfold pClearB at hp
  split at hp
  · cases hp
  · rename_i e he
    have hut := tElem_und he
    split at hp
    · cases hp
    · rename_i sz hsz
      split at hp
      · rename_i zc b off m c sz' hz
        split at hp
        · rename_i cs hst
          split at hp
          · rename_i hc
            obtain ⟨rfl, hle⟩ := hc
            simp only [Option.some.injEq, Prod.mk.injEq] at hp
            obtain ⟨rfl, rfl⟩ := hp
            obtain ⟨i, z, hi, hz, hzl, hsz0, hzm, hzc⟩ := zeroCs_sound (g := g) (w := w) hz
            cases hx with
            | @vs _ _ off' _ _ cap _ blk hb ha hn hc hmx hs =>
              rcases Nat.eq_zero_or_pos m with hm | hm
              · subst hm
                refine ⟨.tuple #[], w, ?_, ?_, htup w⟩
                · simp [Builtin.clear_, run_underlying hut]
                · simp only [List.replicate_zero, List.flatten_nil]
                  rw [wr_nil, set_self hst]
                  exact h
              · have h0 := ha (by omega)
                subst h0
                have hall := hzc.replicate m
                have hlen : (List.replicate m zc).flatten.length = m * sz' := by simp [hzl]
                obtain ⟨w', h1, h2⟩ := write_sound (P := P) h hst hb (by rw [hlen]; exact hle) hall (maxRefs_replicate hzm m)
                refine ⟨.tuple #[], w', ?_, h2, htup w'⟩
                have hcl : (Builtin.zeroCells z.cells m).toList = (List.replicate m z.cells.toList).flatten := cyc_list z.cells m
                obtain ⟨m, rfl⟩ : ∃ j, m = j + 1 := ⟨m - 1, by omega⟩
                simp [Builtin.clear_, run_underlying hut, zeroValue, typeInfo, hi, hz, hcl, h1]
          · cases hp
        · cases hp
      · simp only [Option.some.injEq, Prod.mk.injEq] at hp
        obtain ⟨rfl, rfl⟩ := hp
        cases hx
        exact ⟨.tuple #[], w, by simp [Builtin.clear_, run_underlying hut], h, htup w⟩
      · cases hp

theorem makeB_sound (h : St E n g w env a.tmps st) {t : TypeId} {x y r : PV} {va vb : Value} {st' : Store} (hp : pMakeB P t x y st = some (r, st')) (hx : R g w x va) (hy : R g w y vb) :
    ∃ v g' w', (Instr.makeSlice t va vb).run P w = .ok v w' ∧ St E n g' w' env a.tmps st' ∧ R g' w' r v := by
  unfold pMakeB at hp
  split at hp
  · cases hp
  · rename_i e he
    have hut := tElem_und he
    split at hp
    · cases hp
    · rename_i sz hsz
      split at hp
      · rename_i zc m c hz hxm hyc
        split at hp
        · rename_i hc
          obtain ⟨h0, hmc, hro⟩ := hc
          simp only [Option.some.injEq, Prod.mk.injEq] at hp
          obtain ⟨rfl, rfl⟩ := hp
          obtain ⟨i, z, hi, hz, hzl, hsz0, hzm, hzc⟩ := zeroCs_sound (g := g) (w := w) hz
          simp only [tSize, hi, Option.map_some, Option.some.injEq] at hsz
          obtain ⟨kx, rfl⟩ := asI_eq hxm hx
          obtain ⟨ky, rfl⟩ := asI_eq hyc hy
          simp only [roomOk, hi, decide_eq_true_eq] at hro
          obtain ⟨hby, hml⟩ := hro
          have hzs : z.cells.size = sz := by have := hzc.1; rw [hzl] at this; simpa using this.symm
          have hrun := run_make (P := P) w t e i z hut hi hz kx ky m c h0 hmc (by
            have : ((i.bytes : Int) * c) = ((c.toNat * i.bytes : Nat) : Int) := by
              rw [Int.natCast_mul, Int.toNat_of_nonneg (by omega), Int.mul_comm]
            rw [this]; omega) (by unfold maxLen at hml; omega)
          have hall := hzc.replicate c.toNat
          have hcl : (madeCells z.cells (c.toNat * i.size)).toList = (List.replicate c.toNat z.cells.toList).flatten := by
            have := cyc_list z.cells c.toNat
            rw [hzs] at this
            rw [hsz, madeCells, hzs]
            exact this
          have hlen : (List.replicate c.toNat zc).flatten.length = c.toNat * sz := by simp [hzl]
          have hsize : (madeCells z.cells (c.toNat * i.size)).size = c.toNat * sz := by rw [size_madeCells, hsz]
          have hst := h.freshBox (vs := madeCells z.cells (c.toNat * i.size)) (e := e) (cs := (List.replicate c.toNat zc).flatten) (by rw [hlen, hsize]; exact Nat.le_refl _) hall.noOw (fun j q v hq hv => by
            rw [← Array.getElem?_toList, hcl] at hv
            exact hall.2 j q v hq hv)
          refine ⟨_, _, _, hrun, hst, .vs (cap := c.toNat) (off' := 0) (rho_last g.ρ st _ h.s.len) (fun _ => rfl) (by omega) (Nat.le_refl _) hml ⟨_, e, alloc_new w _, by rw [hsize]; omega⟩⟩
        · cases hp
      · cases hp

/-- An array as a slice. -/
theorem arraySlice_sound (hs : SInv g w st) {t : TypeId} {x r : PV} {va : Value} {ρ : Operand → PV} {y : Operand} {tk : Bool} (hρ : ρ y = x) (hp : readOp P tk ρ st (.slice t y none none none) = some r) (hx : R g w x va) :
    ∃ v, (Instr.sliceAt t va none none none).run P w = .ok v w ∧ R g w r v := by
  simp only [readOp, hρ] at hp
  split at hp
  · rename_i b off m e hta
    have hu := tArr_und hta
    split at hp
    · rename_i cs sz hst hsz
      split at hp
      · rename_i hc
        simp only [Option.some.injEq] at hp
        subst hp
        cases hx with
        | @ptr _ _ blk hb =>
          obtain ⟨vs, et, h1, h2, _⟩ := hs.box b _ blk hst hb
          have hso : (sizeOf e).run P w = .ok sz w := run_sizeOf hsz
          refine ⟨.slice (some ⟨blk, off, none⟩) m m, ?_, .vs (cap := m) (off' := off) hb (fun _ => rfl) (Nat.le_refl _) (Nat.le_refl _) hc.2 ⟨vs, et, h1, by omega⟩⟩
          simp only [Instr.sliceAt, Sem.run_bind, run_underlying hu, Result.andThen_ok, Instr.sureAddr, Instr.sliceBounds, Sem.run_pure, hso]
          simp [add_lit]
      · cases hp
    · cases hp
  · cases hp

end
end Go.Proofs.YtnjlkgmcoengnaaGreat.PE
