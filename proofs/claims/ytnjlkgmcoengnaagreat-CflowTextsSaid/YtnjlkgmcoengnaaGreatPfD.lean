/-
  PF, between parts 7 and 8: zero cells, over and over; make of a slice that nobody will write. Holds for every Program; no condition.
-/
import Derived.Test.YtnjlkgmcoengnaaGreatPf7
import Derived.Laws.MakeOwn
set_option linter.unusedSimpArgs false
set_option linter.unusedVariables false
namespace Go.Proofs.YtnjlkgmcoengnaaGreat.PE
open Go

/-- A row of so many, over and over. -/
theorem cyc_list (z : Array Value) : ∀ n : Nat, ((Array.range (n * z.size)).map (z[· % z.size]!)).toList = (List.replicate n z.toList).flatten := by
  intro n
  rw [Array.toList_map, Array.toList_range]
  induction n with
  | zero => simp
  | succ n ih =>
    rw [List.replicate_succ, List.flatten_cons, ← ih, Nat.add_mul, Nat.one_mul, Nat.add_comm, List.range_add, List.map_append, List.map_map]
    congr 1
    · apply List.ext_getElem?
      intro i
      by_cases hi : i < z.size
      · rw [List.getElem?_map, List.getElem?_range hi, Array.getElem?_toList]
        simp [Nat.mod_eq_of_lt hi, hi]
      · rw [List.getElem?_map, List.getElem?_eq_none (by simp; omega), Array.getElem?_toList, Array.getElem?_eq_none (by omega)]
        rfl
    · refine List.map_congr_left fun i _ => ?_
      simp [Function.comp]

theorem elOf_cells (l : List PV) : (elOf l).cells = l := by
  unfold elOf
  split
  · rename_i c
    split
    · rename_i hc
      cases c with
      | agg cs => simp [PV.isCell] at hc
      | junk => simp [PV.isCell, PV.solid] at hc
      | tup cs => simp [PV.isCell, PV.solid] at hc
      | s v => simp only [PV.isCell, PV.solid] at hc; simp [PV.cells, hc]
      | _ => rfl
    · rfl
  · rfl

theorem elOf_maxRef (l : List PV) (h : PV.maxRefs l = 0) : (elOf l).maxRef = 0 := by
  unfold elOf
  split
  · rename_i c
    simp [PV.maxRefs] at h
    split
    · exact h
    · simp [PV.maxRef, PV.maxRefs, h]
  · simpa [PV.maxRef] using h


section
variable {P : Program} {g : Gh} {w : World}

theorem RCs.replicate {cs : List PV} {vs : List Value} (h : RCs g w cs vs) : ∀ k, RCs g w (List.replicate k cs).flatten (List.replicate k vs).flatten
  | 0 => .nil g w
  | k + 1 => by
    rw [List.replicate_succ, List.replicate_succ, List.flatten_cons, List.flatten_cons]
    exact h.append (h.replicate k)

theorem zeroCs_sound {e : TypeId} {sz : Nat} {zc : List PV} (h : zeroCs P e sz = some zc) :
    ∃ (i : TypeInfo) (z : Value), P.info? e = some i ∧ i.zero = some z ∧ zc.length = sz ∧ sz ≠ 0 ∧ PV.maxRefs zc = 0 ∧ RCs g w zc z.cells.toList := by
  unfold zeroCs at h
  split at h
  · rename_i zp hz
    split at h
    · rename_i hc
      simp only [Option.some.injEq] at h
      subst h
      simp only [tZero, Option.map_eq_some_iff] at hz
      obtain ⟨z, hz, rfl⟩ := hz
      obtain ⟨i, hi, hz⟩ := Option.bind_eq_some_iff.1 hz
      exact ⟨i, z, hi, hz, hc.1, hc.2.1, hc.2.2.2, R.cells (R.ofVal g w z) hc.2.2.1⟩
    · cases h
  · cases h


theorem flat_replicate (el : PV) : ∀ k, (List.replicate k el).flatMap PV.cells = (List.replicate k el.cells).flatten
  | 0 => rfl
  | k + 1 => by rw [List.replicate_succ, List.replicate_succ, List.flatMap_cons, List.flatten_cons, flat_replicate el k]

theorem makeF_sound (hpx : ∀ b o, g.prot b o → b < w.heap.size) {t : TypeId} {x y r : PV} {va vb : Value} (hp : pMakeF P t x y = some r) (hx : R g w x va) (hy : R g w y vb) :
    Made P g w (Sem.run P (Instr.makeSlice t va vb)) r (fun _ => False) := by
  unfold pMakeF at hp
  split at hp
  · cases hp
  · rename_i e he
    have hut := tElem_und he
    split at hp
    · cases hp
    · rename_i sz hsz
      split at hp
      · rename_i zc m c hz hxm hyc
        split at hp
        · rename_i hc
          obtain ⟨h0, hmc, hro⟩ := hc
          simp only [Option.some.injEq] at hp
          subst hp
          obtain ⟨i, z, hi, hz, hzl, hsz0, hzm, hzc⟩ := zeroCs_sound (g := g) (w := w) hz
          simp only [tSize, hi, Option.map_some, Option.some.injEq] at hsz
          obtain ⟨kx, rfl⟩ := asI_eq hxm hx
          obtain ⟨ky, rfl⟩ := asI_eq hyc hy
          simp only [roomOk, hi, decide_eq_true_eq] at hro
          obtain ⟨hby, hml⟩ := hro
          have hzs : z.cells.size = sz := by have := hzc.1; rw [hzl] at this; simpa using this.symm
          have hrun := run_make (P := P) w t e i z hut hi hz kx ky m c h0 hmc (by
            have : ((i.bytes : Int) * c) = ((c.toNat * i.bytes : Nat) : Int) := by
              rw [Int.natCast_mul, Int.toNat_of_nonneg (by omega), Int.mul_comm]
            rw [this]; omega) (by unfold maxLen at hml; omega)
          have hcl : (madeCells z.cells (c.toNat * i.size)).toList = (List.replicate c.toNat z.cells.toList).flatten := by
            have := cyc_list z.cells c.toNat
            rw [hzs] at this
            rw [hsz, madeCells, hzs]
            exact this
          have hall := hzc.replicate m.toNat
          have hmn : m.toNat ≤ c.toNat := by omega
          have hpre : ∀ (j : Nat) (v : Value), (List.replicate m.toNat z.cells.toList).flatten[j]? = some v → (madeCells z.cells (c.toNat * i.size))[j]? = some v := by
            intro j v hj
            rw [← Array.getElem?_toList, hcl]
            obtain ⟨d, hd⟩ : ∃ d, c.toNat = m.toNat + d := ⟨c.toNat - m.toNat, by omega⟩
            rw [hd, ← List.replicate_append_replicate, List.flatten_append, List.getElem?_append_left (List.getElem?_eq_some_iff.1 hj).1]
            exact hj
          have hev := evo_alloc hpx (.cells (madeCells z.cells (c.toNat * i.size)) e) (m.toNat * sz)
          have hk := row_slice (g := g.add w.heap.size (m.toNat * sz)) (w := w.alloc (.cells (madeCells z.cells (c.toNat * i.size)) e)) (t := if m = c then .ex else .sh) (sz := sz) (els := List.replicate m.toNat (elOf zc))
            (vs := (List.replicate m.toNat z.cells.toList).flatten) (blk := w.heap.size) (cap := c.toNat) (fun el hel => by
              obtain rfl := List.eq_of_mem_replicate hel
              refine ⟨by rw [elOf_cells]; exact hzl, elOf_maxRef _ hzm, ?_⟩
              rw [elOf_cells]; exact hzc.noOw)
            (by rw [flat_replicate, elOf_cells]; exact ⟨hall.1, fun j q v hq hv => ⟨hev.keepR (hall.2 j q v hq hv).1, (hall.2 j q v hq hv).2⟩⟩) (alloc_new w _) hpre
            (fun o ho => .inr ⟨rfl, by simpa using ho⟩) (by split <;> simp) (by simp; omega) hml (fun h => by
              split at h
              · rename_i hmc'; subst hmc'; simp
              · cases h)
          rw [List.length_replicate] at hk
          exact ⟨_, _, _, hrun, hev, rfl, .of hk, prot_add_alloc hpx _ _, fun _ ho => (not_owns_of (by split <;> rfl) ho).elim⟩
        · cases hp
      · cases hp

end
end Go.Proofs.YtnjlkgmcoengnaaGreat.PE
