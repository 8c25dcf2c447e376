/-
  PE, part 4: each operation that touches no store answers, in the model, what the evaluator says; those that turn no memory. Holds for every Program; no condition.
-/
import Derived.Test.YtnjlkgmcoengnaaGreatPf3
import Derived.Great.BuildSlice
import Derived.Laws.BytesString
import Derived.Lib.AppendStr
import Derived.Lib.SliceRun
import Derived.WalkSpells
set_option linter.unusedSimpArgs false
set_option linter.unusedVariables false
namespace Go.Proofs.YtnjlkgmcoengnaaGreat.PE
open Go

theorem add_lit (b o j : Nat) : (⟨b, o, none⟩ : Addr).add j = ⟨b, o + j, none⟩ := by
  unfold Addr.add
  split
  · rename_i h; subst h; rfl
  · rfl

theorem pureRun_run {α : Type} {P : Program} {s : Sem α} {a : α} (h : pureRun P s = some a) (w : World) : s.run P w = .ok a w := by
  induction s with
  | pure b => simp only [pureRun, Option.some.injEq] at h; subst h; rfl
  | program k ih => simp only [pureRun] at h; simp only [Sem.run]; exact ih P h
  | _ => simp [pureRun] at h

/-- Cells, one for one. -/
def RCs (g : Gh) (w : World) (cs : List PV) (vs : List Value) : Prop :=
  cs.length = vs.length ∧ ∀ (i : Nat) (c : PV) (v : Value), cs[i]? = some c → vs[i]? = some v → R g w c v ∧ v.oneCell' = true

theorem RCs.nil (g : Gh) (w : World) : RCs g w [] [] := ⟨rfl, by simp⟩

theorem RCs.append {g : Gh} {w : World} {cs ds : List PV} {vs us : List Value} (h : RCs g w cs vs) (k : RCs g w ds us) : RCs g w (cs ++ ds) (vs ++ us) := by
  refine ⟨by simp [h.1, k.1], fun i c v hc hv => ?_⟩
  rcases Nat.lt_or_ge i cs.length with hi | hi
  · rw [List.getElem?_append_left hi] at hc
    rw [List.getElem?_append_left (by rw [← h.1]; exact hi)] at hv
    exact h.2 i c v hc hv
  · rw [List.getElem?_append_right hi] at hc
    rw [List.getElem?_append_right (by rw [← h.1]; exact hi), ← h.1] at hv
    exact k.2 _ c v hc hv

theorem RCs.take {g : Gh} {w : World} {cs : List PV} {vs : List Value} (h : RCs g w cs vs) (n : Nat) : RCs g w (cs.take n) (vs.take n) := by
  refine ⟨by simp [h.1], fun i c v hc hv => ?_⟩
  rw [List.getElem?_take] at hc hv
  split at hc
  · rename_i hi; rw [if_pos hi] at hv; exact h.2 i c v hc hv
  · cases hc

theorem RCs.drop {g : Gh} {w : World} {cs : List PV} {vs : List Value} (h : RCs g w cs vs) (n : Nat) : RCs g w (cs.drop n) (vs.drop n) := by
  refine ⟨by simp [h.1], fun i c v hc hv => ?_⟩
  rw [List.getElem?_drop] at hc hv
  exact h.2 _ c v hc hv

theorem RCs.noOw {g : Gh} {w : World} {cs : List PV} {vs : List Value} (h : RCs g w cs vs) : noOw cs = true := by
  refine noOw_of fun c hc => ?_
  obtain ⟨i, hi, rfl⟩ := List.mem_iff_getElem.1 hc
  have hi' : i < vs.length := by rw [← h.1]; exact hi
  exact (h.2 i _ vs[i] (List.getElem?_eq_getElem hi) (List.getElem?_eq_getElem hi')).1.not_ow

theorem RCs.agg {g : Gh} {w : World} {cs : List PV} {vs : List Value} (h : RCs g w cs vs) : R g w (.agg cs) (.agg vs.toArray) :=
  .agg (by simp [h.1]) h.noOw (fun i v hv => by
    have hv' : vs[i]? = some v := by simpa using hv
    have hi := (List.getElem?_eq_some_iff.1 hv').1
    have hi' : i < cs.length := by rw [h.1]; exact hi
    exact (h.2 i cs[i] v (List.getElem?_eq_getElem hi') hv').2) fun i c v hc hv => (h.2 i c v hc (by simpa using hv)).1

theorem RCs.of_agg {g : Gh} {w : World} {cs : List PV} {v : Value} (h : R g w (.agg cs) v) : ∃ vs : Array Value, v = .agg vs ∧ RCs g w cs vs.toList := by
  cases h with
  | @agg _ vs hl hw h1 h => exact ⟨vs, rfl, by simpa using hl, fun i c v hc hv => ⟨h i c v hc (by simpa using hv), h1 i v (by simpa using hv)⟩⟩

theorem RCs.one {g : Gh} {w : World} {c : PV} {v : Value} (h : R g w c v) (h1 : v.oneCell' = true) : RCs g w [c] [v] := by
  refine ⟨rfl, fun i d u hd hu => ?_⟩
  cases i with
  | zero => simp at hd hu; subst hd; subst hu; exact ⟨h, h1⟩
  | succ i => simp at hd

/-- The cells of a value that a variable may hold. -/
theorem R.cells {g : Gh} {w : World} {x : PV} {v : Value} (h : R g w x v) (hs : x.solid = true) : RCs g w x.cells v.cells.toList := by
  cases h with
  | junk => simp [PV.solid] at hs
  | tup => simp [PV.solid] at hs
  | s v =>
    simp only [PV.solid] at hs
    have hv : v.cells = #[v] := by cases v <;> first | rfl | simp [Value.oneCell'] at hs
    simp only [PV.cells, hs, if_true, hv]
    exact .one (.s v) hs
  | agg hl hw h1 h => exact ⟨by simpa [PV.cells, Value.cells] using hl, fun i c v hc hv => ⟨h i c v hc (by simpa [Value.cells] using hv), h1 i v (by simpa [Value.cells] using hv)⟩⟩
  | nilsl => exact .one .nilsl rfl
  | sl V ht hn hm hex hwf hc hr => exact .one (.sl V ht hn hm hex hwf hc hr) rfl
  | ptr h => exact .one (.ptr h) rfl
  | vs h h0 h1 h2 h3 h4 => exact .one (.vs h h0 h1 h2 h3 h4) rfl
  | ep V hm hw hc hr => exact .one (.ep V hm hw hc hr) rfl
  | fn hl hl' hw hw' h h' => exact .one (.fn hl hl' hw hw' h h') rfl
  | mp h => exact .one (.mp h) rfl
  | ifc hw h => exact .one (.ifc hw h) rfl

theorem solid_of_cells {x : PV} {n : Nat} (h : x.cells.length = n + 1) : x.solid = true := by
  cases x <;> first | rfl | (simp [PV.cells] at h; done) | skip
  rename_i v
  simp only [PV.cells] at h
  split at h
  · rename_i hv; exact hv
  · simp at h

/-! ### The model's own values -/
mutual
theorem toVal_eq {g : Gh} {w : World} : ∀ (x : PV) (u v : Value), toVal x = some u → R g w x v → v = u
  | .s a, u, v, h, hr => by simp only [toVal, Option.some.injEq] at h; subst h; cases hr; rfl
  | .nilsl, u, v, h, hr => by simp only [toVal, Option.some.injEq] at h; subst h; cases hr; rfl
  | .agg cs, u, v, h, hr => by
    simp only [toVal, Option.map_eq_some_iff] at h
    obtain ⟨l, hl, rfl⟩ := h
    obtain ⟨vs, rfl, hv⟩ := RCs.of_agg hr
    rw [← toVals_eq cs l vs.toList hl hv.1 fun i c v hc hv' => (hv.2 i c v hc hv').1]
  | .ifc t x, u, v, h, hr => by
    simp only [toVal, Option.map_eq_some_iff] at h
    obtain ⟨y, hy, rfl⟩ := h
    cases hr with
    | ifc hw hr => rw [toVal_eq x y _ hy hr]
  | .junk, u, v, h, hr => by simp [toVal] at h
  | .tup _, u, v, h, hr => by simp [toVal] at h
  | .sl _ _ _, u, v, h, hr => by simp [toVal] at h
  | .ptr _ _, u, v, h, hr => by simp [toVal] at h
  | .ep _ _, u, v, h, hr => by simp [toVal] at h
  | .fn _ _ _, u, v, h, hr => by simp [toVal] at h
  | .mp _, u, v, h, hr => by simp [toVal] at h
theorem toVals_eq {g : Gh} {w : World} : ∀ (cs : List PV) (l vs : List Value), toVals cs = some l → cs.length = vs.length →
    (∀ (i : Nat) (c : PV) (v : Value), cs[i]? = some c → vs[i]? = some v → R g w c v) → vs = l
  | [], l, vs, h, hl, hr => by
    simp only [toVals, Option.some.injEq] at h; subst h
    exact List.eq_nil_of_length_eq_zero (by simpa using hl.symm)
  | c :: r, l, vs, h, hl, hr => by
    simp only [toVals, Option.bind_eq_some_iff, Option.map_eq_some_iff] at h
    obtain ⟨u, hu, l', hl', rfl⟩ := h
    cases vs with
    | nil => simp at hl
    | cons v vs =>
      rw [toVal_eq c u v hu (hr 0 c v rfl rfl), toVals_eq r l' vs hl' (by simpa using hl) fun i c v hc hv => hr (i + 1) c v (by simpa using hc) (by simpa using hv)]
end

theorem R.ofVal (g : Gh) (w : World) (v : Value) : R g w (ofVal v) v := by
  unfold PE.ofVal
  split
  · rename_i cs
    split
    · rename_i hall
      refine .agg (by simp) (noOw_map_cellOf _) ?_ ?_
      · intro i v hv
        exact List.all_eq_true.1 hall v (by rw [Array.mem_toList_iff]; exact Array.mem_of_getElem? hv)
      · intro i c v hc hv
        simp only [List.getElem?_map, Array.getElem?_toList, hv, Option.map_some, Option.some.injEq] at hc
        subst hc
        exact .ofCell g w v
    · exact .junk _
  · rename_i cs
    refine .tup (by simp) (noOw_map_cellOf _) ?_
    intro i c v hc hv
    simp only [List.getElem?_map, Array.getElem?_toList, hv, Option.map_some, Option.some.injEq] at hc
    subst hc
    exact .ofCell g w v
  · exact .ofCell g w _

/-! ### Types -/
section
variable {P : Program} {w : World}
theorem run_isAgg {t : TypeId} {b : Bool} (h : tAgg P t = some b) : (isAgg t).run P w = .ok b w := by
  unfold tAgg at h
  cases hu : P.underlying t with
  | none => simp [hu] at h
  | some d =>
    rw [hu] at h
    simp only [isAgg, Sem.run_bind, run_underlying hu, Result.andThen_ok]
    cases d <;> simp_all

theorem run_sizeOf {t : TypeId} {n : Nat} (h : tSize P t = some n) : (sizeOf t).run P w = .ok n w := by
  unfold tSize at h
  cases hi : P.info? t with
  | none => simp [hi] at h
  | some i => simp [hi] at h; subst h; simp [sizeOf, typeInfo, hi]

theorem tElem_und {t e : TypeId} (h : tElem P t = some e) : P.underlying t = some (.slice e) := by
  unfold tElem at h
  split at h
  · rename_i d hu; simp at h; rw [hu, h]
  · cases h

theorem tArr_und {t : TypeId} {n : Nat} {e : TypeId} (h : tArr P t = some (n, e)) : P.underlying t = some (.array n e) := by
  unfold tArr at h
  split at h
  · rename_i d hu; simp at h; rw [hu, h.1, h.2]
  · cases h

theorem tString_und {t : TypeId} (h : tString P t = true) : P.underlying t = some .string := by
  unfold tString at h
  split at h
  · assumption
  · cases h

theorem tU8_und {t : TypeId} (h : tU8 P t = true) : P.underlying t = some (.int .u8) := by
  unfold tU8 at h
  split at h
  · assumption
  · cases h

theorem tField_und {s f off ft : Nat} (h : tField P s f = some (off, ft)) : ∃ fs x, P.underlying s = some (.struct fs) ∧ fs[f]? = some x ∧ x.offset = off ∧ x.type = ft := by
  unfold tField at h
  split at h
  · rename_i fs hu
    cases hx : fs[f]? with
    | none => simp [hx] at h
    | some x => simp [hx] at h; exact ⟨fs, x, hu, hx, h.1, h.2⟩
  · cases h

/-! ### Parts of rows -/
/-- What 'loadVar' reads where the cells are known. -/
theorem run_loadVar {t : TypeId} {g : Gh} {blk o off : Nat} {cs : List PV} {x : PV} {V : Nat → Value} (h : getPart P t cs off = some x)
    (hc : ∀ j, j < cs.length → w.cell? ⟨blk, o + j, none⟩ = some (V j) ∧ (V j).oneCell' = true) (hr : ∀ (j : Nat) (c : PV), cs[j]? = some c → R g w c (V j)) :
    ∃ v, (loadVar t ⟨blk, o + off, none⟩).run P w = .ok v w ∧ R g w x v := by
  unfold getPart at h
  split at h
  · rename_i ha
    split at h
    · rename_i n hn
      split at h
      · rename_i hle
        simp only [Option.some.injEq] at h
        subst h
        have hcells := run_loadCells (P := P) w ⟨blk, o + off, none⟩ n (fun j => V (off + j)) fun j hj => by
          rw [add_lit, Nat.add_assoc]; exact (hc (off + j) (by omega)).1
        refine ⟨.agg ((List.range n).map fun j => V (off + j)).toArray, by simp [loadVar, run_isAgg ha, run_sizeOf hn, hcells], ?_⟩
        refine RCs.agg ⟨by simp; omega, fun i c v hci hv => ?_⟩
        simp only [List.getElem?_take, List.getElem?_drop, List.getElem?_map] at hci hv
        split at hci
        · rename_i hin
          rw [List.getElem?_range hin] at hv
          simp at hv
          subst hv
          exact ⟨hr _ _ hci, (hc (off + i) (by have := (List.getElem?_eq_some_iff.1 hci).1; exact this)).2⟩
        · cases hci
      · cases h
    · cases h
  · rename_i ha
    have hlt := (List.getElem?_eq_some_iff.1 h).1
    exact ⟨V off, by simp [loadVar, run_isAgg ha, (hc off hlt).1], hr off x h⟩
  · cases h

theorem run_part {t : TypeId} {g : Gh} {off : Nat} {cs : List PV} {vs : Array Value} {x : PV} (h : getPart P t cs off = some x) (hr : RCs g w cs vs.toList) :
    ∃ v, (part t vs off).run P w = .ok v w ∧ R g w x v := by
  unfold getPart at h
  split at h
  · rename_i ha
    split at h
    · rename_i n hn
      split at h
      · rename_i hle
        simp only [Option.some.injEq] at h
        subst h
        refine ⟨.agg (vs.extract off (off + n)), by simp [part, run_isAgg ha, run_sizeOf hn], ?_⟩
        have := ((hr.drop off).take n).agg
        have e : ((vs.toList.drop off).take n).toArray = vs.extract off (off + n) := by
          apply Array.ext'
          simp [List.extract_eq_take_drop]
        rwa [e] at this
      · cases h
    · cases h
  · rename_i ha
    have hlt := (List.getElem?_eq_some_iff.1 h).1
    have hv : vs[off]? = some (vs.toList[off]'(by rw [← hr.1]; exact hlt)) := by
      rw [← Array.getElem?_toList]; exact List.getElem?_eq_getElem _
    refine ⟨_, ?_, (hr.2 off x _ h (by rw [Array.getElem?_toList]; exact hv)).1⟩
    simp [part, run_isAgg ha, hv]
  · cases h
end

/-! ### Operations -/
section
variable {P : Program} {g : Gh} {w : World}

theorem bin_sound {op : BinOp} {t : TypeId} {ox oy : Operand} {x y r : PV} {a b : Value} (h : pBin P op t ox oy x y = some r) (hx : R g w x a) (hy : R g w y b) :
    ∃ v, (do eqGuard op t ox oy a b; binOp op t a b : Sem Value).run P w = .ok v w ∧ R g w r v := by
  have key : ∀ {r : PV}, pEq P op t ox oy x y = some r → ∃ v, (do eqGuard op t ox oy a b; binOp op t a b : Sem Value).run P w = .ok v w ∧ R g w r v := by
    intro r h
    unfold pEq at h
    split at h
    · rename_i u v hu hv
      rw [← toVal_eq x u a hu hx, ← toVal_eq y v b hv hy, Option.map_eq_some_iff] at h
      obtain ⟨z, hz, rfl⟩ := h
      exact ⟨z, pureRun_run hz w, .ofVal g w z⟩
    · cases h
  unfold pBin at h
  split at h
  · split at h
    · rename_i hs
      obtain ⟨e, he⟩ := Option.isSome_iff_exists.1 hs
      have hu := tElem_und he
      simp only [Option.some.injEq] at h
      subst h
      cases hx with
      | sl V ht hn hm hex hwf hc hr =>
        cases hy
        exact ⟨.bool false, by simp [eqGuard, Lib.run_eql_slice_nil w t e _ _ _ 0 0 hu], .s _⟩
    · cases h
  · split at h
    · rename_i hs
      obtain ⟨e, he⟩ := Option.isSome_iff_exists.1 hs
      have hu := tElem_und he
      simp only [Option.some.injEq] at h
      subst h
      cases hx with
      | sl V ht hn hm hex hwf hc hr =>
        cases hy
        exact ⟨.bool true, by simp [eqGuard, run_neq_slice_nil_any w t e _ _ _ 0 0 hu], .s _⟩
    · cases h
  · split at h
    · rename_i hs
      obtain ⟨e, he⟩ := Option.isSome_iff_exists.1 hs
      have hu := tElem_und he
      simp only [Option.some.injEq] at h
      subst h
      cases hx with
      | vs hb ha hn hc hm hs =>
        cases hy
        exact ⟨.bool false, by simp [eqGuard, Lib.run_eql_slice_nil w t e _ _ _ 0 0 hu], .s _⟩
    · cases h
  · split at h
    · rename_i hs
      obtain ⟨e, he⟩ := Option.isSome_iff_exists.1 hs
      have hu := tElem_und he
      simp only [Option.some.injEq] at h
      subst h
      cases hx with
      | vs hb ha hn hc hm hs =>
        cases hy
        exact ⟨.bool true, by simp [eqGuard, run_neq_slice_nil_any w t e _ _ _ 0 0 hu], .s _⟩
    · cases h
  · exact key h

theorem un_sound {op : UnOp} {x r : PV} {a : Value} (h : ((toVal x).bind fun v => (pureRun P (Op.unary op v)).map ofVal) = some r) (hx : R g w x a) :
    ∃ v, (Op.unary op a).run P w = .ok v w ∧ R g w r v := by
  simp only [Option.bind_eq_some_iff, Option.map_eq_some_iff] at h
  obtain ⟨u, hu, z, hz, rfl⟩ := h
  rw [toVal_eq x u a hu hx]
  exact ⟨z, pureRun_run hz w, .ofVal g w z⟩

theorem asI_eq {x : PV} {v : Value} {i : Int} (h : asI x = some i) (hr : R g w x v) : ∃ k, v = .int k i := by
  unfold asI at h
  split at h
  · simp only [Option.some.injEq] at h; subst h; cases hr; exact ⟨_, rfl⟩
  · cases h

theorem fieldAddr_sound {t : TypeId} {f : Nat} {x r : PV} {a : Value} (h : pFieldAddr P t x f = some r) (hx : R g w x a) :
    ∃ v, (Instr.fieldAt t a f).run P w = .ok v w ∧ R g w r v := by
  unfold pFieldAddr at h
  split at h
  · rename_i off ft hf
    obtain ⟨fs, fd, hu, hfd, rfl, rfl⟩ := tField_und hf
    split at h
    · rename_i m hm
      have hsz : (sizeOf fd.type).run P w = .ok (m + 1) w := run_sizeOf hm
      split at h
      · rename_i b o
        simp only [Option.some.injEq] at h
        subst h
        cases hx with
        | ptr hb => exact ⟨.pointer (some ⟨_, o + fd.offset, none⟩), by simp [Instr.fieldAt, run_underlying hu, hfd, Instr.sureAddr, fieldPlace, hsz, add_lit], .ptr hb⟩
      · rename_i el o
        simp only [Option.some.injEq] at h
        subst h
        cases hx with
        | @ep _ _ blk o' V hmr hw hc hr =>
          refine ⟨.pointer (some ⟨blk, o' + o + fd.offset, none⟩), by simp [Instr.fieldAt, run_underlying hu, hfd, Instr.sureAddr, fieldPlace, hsz, add_lit], ?_⟩
          rw [Nat.add_assoc]
          exact .ep V hmr hw hc hr
      · cases h
    · cases h
  · cases h

theorem index_row {t : Tag} {sz : Nat} {els : List PV} {v : Value} (h : R g w (.sl t sz els) v) {i : Nat} {el : PV} (hi : els[i]? = some el) :
    ∃ blk off cap, v = .slice (some ⟨blk, off, none⟩) els.length cap ∧ R g w (.ep el 0) (.pointer (some ⟨blk, off + i * sz, none⟩)) := by
  cases h with
  | @sl _ _ _ blk off cap V ht hn hm hex hwf hc hr =>
    have hlt := (List.getElem?_eq_some_iff.1 hi).1
    have hw := hwf el (List.mem_of_getElem? hi)
    refine ⟨blk, off, cap, rfl, ?_⟩
    exact .ep (o := off + i * sz) (V i) hw.2.1 hw.2.2 (fun j hj => hc i j hlt (by rw [← hw.1]; exact hj)) fun j c hcc => hr i j el c hi hcc

theorem indexAddr_sound {t : TypeId} {x ix r : PV} {a b : Value} (h : pIndexAddr P t x ix = some r) (hx : R g w x a) (hix : R g w ix b) :
    ∃ v, (Instr.indexAt t a b).run P w = .ok v w ∧ R g w r v := by
  unfold pIndexAddr at h
  split at h
  · rename_i i hi
    obtain ⟨k, rfl⟩ := asI_eq hi hix
    split at h
    · rename_i tag sz els
      split at h
      · rename_i e he
        have hu := tElem_und he
        split at h
        · rename_i hc
          rw [Option.map_eq_some_iff] at h
          obtain ⟨el, hel, rfl⟩ := h
          obtain ⟨blk, off, cap, rfl, hep⟩ := index_row hx hel
          have hlt := (List.getElem?_eq_some_iff.1 hel).1
          have hlt' : i < (els.length : Int) := by omega
          exact ⟨_, by simp [Instr.indexAt, asIntOf, run_underlying hu, hc.2, hlt', run_sizeOf hc.1, add_lit], hep⟩
        · cases h
      · cases h
    · rename_i bx off n cp sz
      split at h
      · rename_i e he
        have hu := tElem_und he
        split at h
        · rename_i hc
          simp only [Option.some.injEq] at h
          subst h
          cases hx with
          | vs hb h0 h1 h2 h3 h4 =>
            have := h0 (by omega)
            subst this
            exact ⟨.pointer (some ⟨_, _ + i.toNat * sz, none⟩), by simp [Instr.indexAt, asIntOf, run_underlying hu, hc.2.1, hc.2.2, run_sizeOf hc.1, add_lit], .ptr hb⟩
        · cases h
      · cases h
    · rename_i bx o
      split at h
      · rename_i n e he
        have hu := tArr_und he
        split at h
        · rename_i sz hsz
          split at h
          · rename_i hc
            simp only [Option.some.injEq] at h
            subst h
            cases hx with
            | ptr hb => exact ⟨.pointer (some ⟨_, o + i.toNat * sz, none⟩), by simp [Instr.indexAt, asIntOf, run_underlying hu, hc.1, hc.2, run_sizeOf hsz, add_lit, Instr.sureAddr], .ptr hb⟩
          · cases h
        · cases h
      · cases h
    · rename_i el o
      split at h
      · rename_i n e he
        have hu := tArr_und he
        split at h
        · rename_i sz hsz
          split at h
          · rename_i hc
            simp only [Option.some.injEq] at h
            subst h
            cases hx with
            | @ep _ _ blk o' V hmr hw hcc hr =>
              refine ⟨.pointer (some ⟨blk, o' + o + i.toNat * sz, none⟩), by simp [Instr.indexAt, asIntOf, run_underlying hu, hc.1, hc.2, run_sizeOf hsz, add_lit, Instr.sureAddr], ?_⟩
              rw [Nat.add_assoc]
              exact .ep V hmr hw hcc hr
          · cases h
        · cases h
      · cases h
    · cases h
  · cases h

theorem index_sound {t : TypeId} {x ix r : PV} {a b : Value} (h : pIndex P t x ix = some r) (hx : R g w x a) (hix : R g w ix b) :
    ∃ v, (Instr.index t a b).run P w = .ok v w ∧ R g w r v := by
  unfold pIndex at h
  split at h
  · rename_i i hi
    obtain ⟨k, rfl⟩ := asI_eq hi hix
    split at h
    · rename_i bs
      split at h
      · rename_i hc
        rw [Option.map_eq_some_iff] at h
        obtain ⟨c, hcc, rfl⟩ := h
        cases hx
        exact ⟨.int .u8 c.toNat, by simp [Instr.index, asIntOf, run_underlying (tString_und hc.1), hc.2, hcc], .s _⟩
      · cases h
    · rename_i cs
      split at h
      · rename_i n e he
        have hu := tArr_und he
        split at h
        · rename_i sz hsz
          split at h
          · rename_i hc
            obtain ⟨vs, rfl, hv⟩ := RCs.of_agg hx
            obtain ⟨v, hv1, hv2⟩ := run_part (w := w) h hv
            exact ⟨v, by simp [Instr.index, asIntOf, run_underlying hu, hc.1, hc.2, run_sizeOf hsz, hv1], hv2⟩
          · cases h
        · cases h
      · cases h
    · cases h
  · cases h

theorem len_sound {t : TypeId} {ty : TypeId} {tys : Array TypeId} {x r : PV} {a : Value} {args : Array Value} (ht : tys[0]? = some t) (ha : args[0]? = some a)
    (h : pLen P t x = some r) (hx : R g w x a) : ∃ v, (Builtin.len_ tys ty args).run P w = .ok v w ∧ R g w r v := by
  unfold pLen at h
  split at h
  · split at h
    · rename_i hs
      simp only [Option.some.injEq] at h
      subst h
      cases hx
      exact ⟨_, by simp [Builtin.len_, ht, ha, run_underlying (tString_und hs)], .s _⟩
    · cases h
  · split at h
    · rename_i hs
      obtain ⟨e, he⟩ := Option.isSome_iff_exists.1 hs
      simp only [Option.some.injEq] at h
      subst h
      cases hx
      exact ⟨_, by simp [Builtin.len_, ht, ha, run_underlying (tElem_und he)], .s _⟩
    · cases h
  · split at h
    · rename_i hs
      obtain ⟨e, he⟩ := Option.isSome_iff_exists.1 hs
      simp only [Option.some.injEq] at h
      subst h
      cases hx
      exact ⟨_, by simp [Builtin.len_, ht, ha, run_underlying (tElem_und he)], .s _⟩
    · cases h
  · split at h
    · rename_i hs
      obtain ⟨e, he⟩ := Option.isSome_iff_exists.1 hs
      simp only [Option.some.injEq] at h
      subst h
      cases hx
      exact ⟨_, by simp [Builtin.len_, ht, ha, run_underlying (tElem_und he)], .s _⟩
    · cases h
  · split at h
    · rename_i hs
      obtain ⟨e, he⟩ := Option.isSome_iff_exists.1 hs
      simp only [Option.some.injEq] at h
      subst h
      cases hx
      exact ⟨_, by simp [Builtin.len_, ht, ha, run_underlying (tElem_und he)], .s _⟩
    · cases h
  · rw [Option.map_eq_some_iff] at h
    obtain ⟨⟨n, e⟩, he, rfl⟩ := h
    exact ⟨_, by simp [Builtin.len_, ht, ha, run_underlying (tArr_und he)], .s _⟩
  · cases h

end
end Go.Proofs.YtnjlkgmcoengnaaGreat.PE
