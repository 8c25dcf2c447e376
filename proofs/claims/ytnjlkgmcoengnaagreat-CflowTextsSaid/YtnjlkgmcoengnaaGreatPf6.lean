/-
  PE, part 6: structs and slices that are built, conversions, appends. Holds for every Program; no condition.
-/
import Derived.Test.YtnjlkgmcoengnaaGreatPf5
set_option linter.unusedSimpArgs false
set_option linter.unusedVariables false
namespace Go.Proofs.YtnjlkgmcoengnaaGreat.PE
open Go

/-! ### Cells laid into a row -/
theorem splice_get (off : Nat) : ∀ (l : List Value) (k : Nat) (cs : Array Value), off + k + l.length ≤ cs.size → ∀ i : Nat,
    ((l.zipIdx k).foldl (fun (cs : Array Value) (x : Value × Nat) => cs.setIfInBounds (off + x.2) x.1) cs)[i]? = if off + k ≤ i ∧ i < off + k + l.length then l[i - (off + k)]? else cs[i]?
  | [], k, cs, _, i => by simp only [List.zipIdx_nil, List.foldl_nil, List.length_nil]; rw [if_neg (by omega)]
  | v :: r, k, cs, h, i => by
    simp only [List.length_cons] at h
    simp only [List.zipIdx_cons, List.foldl_cons]
    rw [splice_get off r (k + 1) _ (by simp; omega) i, Array.getElem?_setIfInBounds]
    by_cases h1 : off + k = i
    · subst h1
      rw [if_neg (by omega), if_pos rfl, if_pos (by omega), if_pos (by simp)]
      simp
    · rw [if_neg h1]
      by_cases h2 : off + (k + 1) ≤ i ∧ i < off + (k + 1) + r.length
      · rw [if_pos h2, if_pos (by simp; omega)]
        have : i - (off + k) = (i - (off + (k + 1))) + 1 := by omega
        rw [this, List.getElem?_cons_succ]
      · rw [if_neg h2, if_neg (by simp; omega)]

theorem splice_size (off : Nat) : ∀ (l : List Value) (k : Nat) (cs : Array Value),
    ((l.zipIdx k).foldl (fun (cs : Array Value) (x : Value × Nat) => cs.setIfInBounds (off + x.2) x.1) cs).size = cs.size
  | [], _, cs => rfl
  | v :: r, k, cs => by simp only [List.zipIdx_cons, List.foldl_cons]; rw [splice_size off r (k + 1)]; simp

/-- One part laid. -/
theorem splice_list (off : Nat) (v : Value) (cs : Array Value) (h : off + v.cells.size ≤ cs.size) :
    (v.cells.zipIdx.foldl (fun (cs : Array Value) (x : Value × Nat) => cs.setIfInBounds (off + x.2) x.1) cs).toList =
      cs.toList.take off ++ v.cells.toList ++ cs.toList.drop (off + v.cells.size) := by
  rw [← Array.foldl_toList, Array.toList_zipIdx]
  apply List.ext_getElem?
  intro i
  rw [Array.getElem?_toList, splice_get off v.cells.toList 0 cs (by simpa using h) i]
  simp only [Nat.add_zero, Array.length_toList]
  by_cases h1 : i < off
  · rw [if_neg (by omega), List.append_assoc, List.getElem?_append_left (by simp; omega), List.getElem?_take, if_pos h1, Array.getElem?_toList]
  · by_cases h2 : i < off + v.cells.size
    · rw [if_pos (by omega), List.append_assoc, List.getElem?_append_right (by simp; omega), List.getElem?_append_left (by simp; omega)]
      congr 1
      simp; omega
    · rw [if_neg (by omega), List.getElem?_append_right (by simp; omega), List.getElem?_drop, Array.getElem?_toList]
      congr 1
      simp; omega

section
variable {P : Program} {g : Gh} {w : World}

theorem fill_sound {place : Nat → Option (Nat × Nat)} : ∀ (parts : List (Nat × PV)) (vals : List (Nat × Value)) (cells out : List PV) (cur : Array Value),
    fillP place cells parts = some out → parts.length = vals.length →
    (∀ (i : Nat) (p : Nat × PV) (q : Nat × Value), parts[i]? = some p → vals[i]? = some q → p.1 = q.1 ∧ R g w p.2 q.2) → RCs g w cells cur.toList →
    ∃ out', Instr.fill place cur vals = some out' ∧ RCs g w out out'.toList
  | [], vals, cells, out, cur, h, hl, _, hc => by
    cases vals with
    | nil => simp only [fillP, Option.some.injEq] at h; subst h; exact ⟨cur, rfl, hc⟩
    | cons q r => simp at hl
  | (i, x) :: rest, vals, cells, out, cur, h, hl, hp, hc => by
    cases vals with
    | nil => simp at hl
    | cons q r =>
      obtain ⟨j, v⟩ := q
      obtain ⟨hij, hr⟩ := hp 0 (i, x) (j, v) rfl rfl
      simp only at hij hr
      subst hij
      simp only [fillP] at h
      cases hpl : place i with
      | none => simp [hpl] at h
      | some os =>
        obtain ⟨off, size⟩ := os
        rw [hpl] at h
        dsimp only at h
        split at h
        · cases h
        · rename_i hcond
          simp only [not_or] at hcond
          obtain ⟨hs, hlen, hle⟩ := hcond
          have hsol : x.solid = true := by cases hx : x.solid <;> simp_all
          have hcells := R.cells hr hsol
          have hvs : v.cells.size = x.cells.length := by rw [hcells.1]; simp
          have hcur : cells.length = cur.size := by simpa using hc.1
          have hlen' : x.cells.length = size := by simpa using hlen
          have hsp := splice_list off v cur (by omega)
          obtain ⟨out', ho, hr'⟩ := fill_sound rest r _ out (v.cells.zipIdx.foldl (fun (cs : Array Value) (x : Value × Nat) => cs.setIfInBounds (off + x.2) x.1) cur) h
            (by simpa using hl) (fun k p q hp' hq' => hp (k + 1) p q (by simpa using hp') (by simpa using hq')) (by
              rw [hsp]
              refine ((hc.take off).append hcells).append ?_
              rw [hvs]
              exact hc.drop _)
          refine ⟨out', ?_, hr'⟩
          have hc' : ¬ (v.cells.size ≠ size ∨ off + v.cells.size > cur.size) := by omega
          simp only [Instr.fill, hpl]
          simp only [ne_eq, decide_not, Bool.or_eq_true, Bool.not_eq_eq_eq_not, Bool.not_true, decide_eq_false_iff_not, decide_eq_true_eq] at *
          rw [if_neg hc']
          exact ho

theorem build_sound {t : TypeId} {parts : List (Nat × PV)} {vals : List (Nat × Value)} {r : PV} (h : pBuild P t parts = some r) (hl : parts.length = vals.length)
    (hp : ∀ (i : Nat) (p : Nat × PV) (q : Nat × Value), parts[i]? = some p → vals[i]? = some q → p.1 = q.1 ∧ R g w p.2 q.2) :
    ∃ v, (Instr.build t vals.toArray).run P w = .ok v w ∧ R g w r v := by
  unfold pBuild at h
  split at h
  · rename_i zero hz
    simp only [tZero, Option.map_eq_some_iff] at hz
    obtain ⟨z, hz, hzz⟩ := hz
    obtain ⟨it, hit, hz⟩ := Option.bind_eq_some_iff.1 hz
    have hR := R.ofVal g w z
    rw [hzz] at hR
    obtain ⟨zs, rfl, hzc⟩ := RCs.of_agg hR
    split at h
    · rename_i fs hu
      split at h
      · rename_i places hpl
        rw [Option.map_eq_some_iff] at h
        obtain ⟨out, hf, rfl⟩ := h
        obtain ⟨out', ho, hr⟩ := fill_sound parts vals zero out zs hf hl hp hzc
        refine ⟨.agg out', run_build w t vals.toArray out' ?_, ?_⟩
        · simp only [Program.built, hit, hu, hz, hpl, Value.cells]
          simpa using ho
        · have := hr.agg
          simpa using this
      · cases h
    · rename_i n e hu
      split at h
      · rename_i sz hsz
        simp only [tSize, Option.map_eq_some_iff] at hsz
        obtain ⟨ie, hie, rfl⟩ := hsz
        rw [Option.map_eq_some_iff] at h
        obtain ⟨out, hf, rfl⟩ := h
        obtain ⟨out', ho, hr⟩ := fill_sound parts vals zero out zs hf hl hp hzc
        refine ⟨.agg out', run_build w t vals.toArray out' ?_, ?_⟩
        · simp only [Program.built, hit, hu, hz, hie, Value.cells]
          simpa using ho
        · have := hr.agg
          simpa using this
      · cases h
    · cases h
  · cases h

/-- Whole elements laid in their order. -/
theorem fill_order {sz : Nat} : ∀ (vals : List (Nat × Value)) (k : Nat) (cur : Array Value), (∀ (i : Nat) (q : Nat × Value), vals[i]? = some q → q.1 = k + i ∧ q.2.cells.size = sz) →
    (k + vals.length) * sz ≤ cur.size → ∃ out, Instr.fill (fun i => some (i * sz, sz)) cur vals = some out ∧
      out.toList = cur.toList.take (k * sz) ++ vals.flatMap (fun q => q.2.cells.toList) ++ cur.toList.drop ((k + vals.length) * sz)
  | [], k, cur, _, _ => ⟨cur, rfl, by simp⟩
  | (j, v) :: r, k, cur, hv, hle => by
    obtain ⟨hj, hs⟩ := hv 0 (j, v) rfl
    simp only [Nat.add_zero] at hj hs
    subst hj
    simp only [List.length_cons] at hle
    have hle1 : j * sz + sz ≤ cur.size := by
      have : (j + 1) * sz ≤ (j + (r.length + 1)) * sz := Nat.mul_le_mul_right _ (by omega)
      rw [Nat.add_mul, Nat.one_mul] at this
      omega
    have hsp := splice_list (j * sz) v cur (by omega)
    obtain ⟨out, ho, hout⟩ := fill_order r (j + 1) (v.cells.zipIdx.foldl (fun (cs : Array Value) (x : Value × Nat) => cs.setIfInBounds (j * sz + x.2) x.1) cur)
      (fun i q hq => by have := hv (i + 1) q (by simpa using hq); exact ⟨by omega, this.2⟩)
      (by rw [← Array.foldl_toList, Array.toList_zipIdx, splice_size]; have : j + 1 + r.length = j + (r.length + 1) := by omega
          rw [this]; exact hle)
    refine ⟨out, ?_, ?_⟩
    · have hc' : ¬ (v.cells.size ≠ sz ∨ j * sz + v.cells.size > cur.size) := by omega
      simp only [Instr.fill]
      simp only [ne_eq, decide_not, Bool.or_eq_true, Bool.not_eq_eq_eq_not, Bool.not_true, decide_eq_false_iff_not, decide_eq_true_eq] at *
      rw [if_neg hc']
      exact ho
    · rw [hout, hsp, hs]
      have e1 : (j + 1) * sz = j * sz + sz := by rw [Nat.add_mul, Nat.one_mul]
      have e2 : j + 1 + r.length = j + (r.length + 1) := by omega
      rw [e1, e2]
      have l1 : (cur.toList.take (j * sz)).length = j * sz := by simp; omega
      have l2 : (cur.toList.take (j * sz) ++ v.cells.toList).length = j * sz + sz := by simp [hs]; omega
      rw [List.take_append_of_le_length (by omega), List.take_of_length_le (by omega)]
      simp only [List.flatMap_cons, List.append_assoc, List.length_cons]
      congr 3
      have hbig : j * sz + sz ≤ (j + (r.length + 1)) * sz := by
        have : (j + 1) * sz ≤ (j + (r.length + 1)) * sz := Nat.mul_le_mul_right _ (by omega)
        rw [Nat.add_mul, Nat.one_mul] at this
        exact this
      rw [← List.append_assoc, List.drop_append, List.drop_of_length_le (by omega), List.nil_append, l2, List.drop_drop]
      congr 1
      omega

theorem inOrder_get : ∀ (parts : List (Nat × PV)) (k : Nat), inOrder k parts = true → ∀ (i : Nat) (p : Nat × PV), parts[i]? = some p → p.1 = k + i
  | [], _, _, i, p, h => by simp at h
  | (j, x) :: r, k, ho, i, p, h => by
    simp only [inOrder, Bool.and_eq_true, decide_eq_true_eq] at ho
    cases i with
    | zero => simp at h; subst h; exact ho.1.symm
    | succ i => have := inOrder_get r (k + 1) ho.2 i p (by simpa using h); omega

theorem flat_RCs : ∀ (xs : List PV) (vs : List Value), xs.length = vs.length → (∀ (i : Nat) (x : PV) (v : Value), xs[i]? = some x → vs[i]? = some v → R g w x v ∧ x.solid = true) →
    RCs g w (xs.flatMap PV.cells) (vs.flatMap fun v => v.cells.toList)
  | [], vs, hl, _ => by cases vs with | nil => exact .nil g w | cons v r => simp at hl
  | x :: r, vs, hl, h => by
    cases vs with
    | nil => simp at hl
    | cons v s =>
      obtain ⟨h0, h1⟩ := h 0 x v rfl rfl
      simp only [List.flatMap_cons]
      exact (R.cells h0 h1).append (flat_RCs r s (by simpa using hl) fun i x v hx hv => h (i + 1) x v (by simpa using hx) (by simpa using hv))

theorem buildSlice_sound (hpx : ∀ b o, g.prot b o → b < w.heap.size) {t : TypeId} {len : Nat} {parts : List (Nat × PV)} {vals : List (Nat × Value)} {r : PV}
    (h : pBuildSlice P t len parts = some r) (hl : parts.length = vals.length)
    (hp : ∀ (i : Nat) (p : Nat × PV) (q : Nat × Value), parts[i]? = some p → vals[i]? = some q → p.1 = q.1 ∧ R g w p.2 q.2) :
    Made P g w (Sem.run P (Instr.buildSlice t len vals.toArray)) r (fun _ => False) := by
  unfold pBuildSlice at h
  split at h
  · rename_i e he
    have hu := tElem_und he
    split at h
    · rename_i m hm
      split at h
      · rename_i hc
        obtain ⟨hlen, hord, hall, hsmall, hzs⟩ := hc
        simp only [Option.some.injEq] at h
        subst h
        simp only [tSize, Option.map_eq_some_iff] at hm
        obtain ⟨ie, hie, hsz⟩ := hm
        have hsz : ie.size = m + 1 := hsz
        have hvl : vals.length = len := by omega
        obtain ⟨zp, hz⟩ := Option.isSome_iff_exists.1 hzs
        simp only [tZero, Option.map_eq_some_iff] at hz
        obtain ⟨z, hz, _⟩ := hz
        simp only [hie, Option.bind_some] at hz
        have hfit : ∀ (i : Nat) (p : Nat × PV), parts[i]? = some p → p.2.cells.length = m + 1 ∧ p.2.maxRef = 0 ∧ noOw p.2.cells = true := by
          intro i p hi
          have := List.all_eq_true.1 hall p (List.mem_of_getElem? hi)
          simp only [fits, Bool.and_eq_true, decide_eq_true_eq] at this
          exact ⟨this.1.1.1, this.1.1.2, this.1.2⟩
        have hsol : ∀ (i : Nat) (p : Nat × PV), parts[i]? = some p → p.2.solid = true := fun i p hi => solid_of_cells (hfit i p hi).1
        have some_of : ∀ (i : Nat) (q : Nat × Value), vals[i]? = some q → ∃ p, parts[i]? = some p := by
          intro i q hq
          have := (List.getElem?_eq_some_iff.1 hq).1
          have hi : i < parts.length := by omega
          exact ⟨parts[i], List.getElem?_eq_getElem hi⟩
        have hvals : ∀ (i : Nat) (q : Nat × Value), vals[i]? = some q → q.1 = 0 + i ∧ q.2.cells.size = m + 1 := by
          intro i q hq
          obtain ⟨p, hpp⟩ := some_of i q hq
          obtain ⟨e1, hr⟩ := hp i p q hpp hq
          have hcc := R.cells hr (hsol i p hpp)
          refine ⟨by rw [← e1]; exact inOrder_get parts 0 hord i p hpp, ?_⟩
          have := hcc.1
          rw [(hfit i p hpp).1] at this
          simpa using this.symm
        have hrun : ∃ out : Array Value, (Instr.buildSlice t len vals.toArray).run P w = .ok (.slice (some ⟨w.heap.size, 0, none⟩) len len) (w.alloc (.cells out e)) ∧
            out.toList = vals.flatMap (fun q => q.2.cells.toList) := by
          by_cases h0 : len = 0
          · subst h0
            have hv0 : vals = [] := List.eq_nil_of_length_eq_zero (by omega)
            subst hv0
            refine ⟨#[], ?_, rfl⟩
            simp [Instr.buildSlice, run_underlying hu, sizeOf, typeInfo, hie, Instr.fill, newRow]
            congr 2
            apply Array.eq_empty_of_size_eq_zero
            simp
          · have hne : ¬ len * ie.size = 0 := by
              rw [hsz]
              intro h1
              rcases Nat.mul_eq_zero.1 h1 with h2 | h2
              · exact h0 h2
              · omega
            obtain ⟨out, hf, ho⟩ := fill_order (sz := m + 1) vals 0 ((Array.range (len * ie.size)).map (z.cells[· % z.cells.size]!)) hvals (by rw [hsz, hvl]; simp)
            refine ⟨out, run_buildSlice w t e len vals.toArray out ie z hu hie hz (by rw [hsz]; omega) hne ?_, ?_⟩
            · rw [hsz] at hf ⊢
              simpa using hf
            · rw [ho]
              simp only [Nat.zero_mul, List.take_zero, List.nil_append, Nat.zero_add]
              rw [List.drop_of_length_le (by rw [hsz, hvl]; simp), List.append_nil]
        obtain ⟨out, hr, ho⟩ := hrun
        have hrc : RCs g w ((parts.map (·.2)).flatMap PV.cells) (vals.flatMap fun q => q.2.cells.toList) := by
          have := flat_RCs (g := g) (w := w) (parts.map (·.2)) (vals.map (·.2)) (by simpa using hl) fun i x v hx hv => by
            simp only [List.getElem?_map, Option.map_eq_some_iff] at hx hv
            obtain ⟨p, hpp, rfl⟩ := hx
            obtain ⟨q, hq, rfl⟩ := hv
            exact ⟨(hp i p q hpp hq).2, hsol i p hpp⟩
          simpa [List.flatMap_map] using this
        have hev := evo_alloc hpx (.cells out e) (len * (m + 1))
        have hlen' : (parts.map (·.2)).length = len := by simpa using hlen
        have hk := row_slice (g := g.add w.heap.size (len * (m + 1))) (w := w.alloc (.cells out e)) (t := .ex) (sz := m + 1) (els := parts.map (·.2)) (vs := vals.flatMap fun q => q.2.cells.toList)
          (blk := w.heap.size) (cap := len) (fun el hel => by
            obtain ⟨p, hpm, rfl⟩ := List.mem_map.1 hel
            obtain ⟨i, hi, rfl⟩ := List.mem_iff_getElem.1 hpm
            exact hfit i _ (List.getElem?_eq_getElem hi))
          ⟨hrc.1, fun i c v hc hv => ⟨hev.keepR (hrc.2 i c v hc hv).1, (hrc.2 i c v hc hv).2⟩⟩ (alloc_new w _) (fun i v hv => by rw [← Array.getElem?_toList, ho]; exact hv)
          (fun o ho => .inr ⟨rfl, by rw [hlen'] at ho; exact ho⟩) (by simp) (by rw [hlen']; exact Nat.le_refl _)
          (by
            have : len ≤ len * (m + 1) := Nat.le_mul_of_pos_right _ (by omega)
            unfold maxLen
            omega) (fun _ => hlen'.symm)
        rw [hlen'] at hk
        exact ⟨_, _, _, hr, hev, rfl, .of hk, prot_add_alloc hpx _ _, fun _ ho => (not_owns_of rfl ho).elim⟩
      · cases h
    · cases h
  · cases h

end
end Go.Proofs.YtnjlkgmcoengnaaGreat.PE
