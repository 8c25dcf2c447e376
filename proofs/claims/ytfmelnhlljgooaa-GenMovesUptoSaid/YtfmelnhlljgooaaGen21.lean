/-
  How a tree that came in reads: as PE has it. No condition.
-/
import Derived.Test.YtfmelnhlljgooaaRows
import Derived.Test.YtfmelnhlljgooaaGen20
import Derived.Deep.Slices
import Derived.Test.YtfmelnhlljgooaaPe19
set_option linter.unusedSimpArgs false
set_option linter.unusedVariables false
namespace Go.Proofs.Ytfmelnhlljgooaa.PE
open Go Go.ChangeShapes Go.WideShapes

/-- Cells of a part, in memory, stand for it. -/
def NodeAt (w : World) (t : T) (cs : List Value) : Prop :=
  cs.length = 4 ∧ ∀ (j : Nat) (c : PV) (v : Value), t.pv.cells[j]? = some c → cs[j]? = some v → R (g0 w) w c v ∧ v.oneCell' = true

section
variable {H : Type} {enc : TypeId × Value → H} {w : World} {base : Nat} {sp : Nat → Bool} {held : Bool}

theorem cells39 : Try.prog.cellsOf 39 = 4 := by kernel_rfl
theorem cells22 : Try.prog.cellsOf 22 = 1 := by kernel_rfl
theorem cells3 : Try.prog.cellsOf 3 = 1 := by kernel_rfl

/-- One family of parts, at so much fuel. -/
def NodesAt (enc : TypeId × Value → H) (w : World) (base : Nat) (sp : Nat → Bool) (held : Bool) (n : Nat) : Prop :=
  ∀ (cs : List Value) (x : DataW H × List MemPlace), DataW.trod enc Try.prog w base sp held n 39 cs = some x → ∃ t : T, NodeAt w t cs ∧ t.wt + 2 ≤ 4 * Rows.uptoBulk x.1

def RowsAt (enc : TypeId × Value → H) (w : World) (base : Nat) (sp : Nat → Bool) (held : Bool) (n : Nat) : Prop :=
  ∀ (cs : List Value) (x : DataW H × List MemPlace), DataW.trod enc Try.prog w base sp held n 22 cs = some x → ∃ (f : E) (l : List T) (v : Value), cs = [v] ∧ R (g0 w) w (pvL f l) v ∧ v.oneCell' = true ∧ wts l ≤ 4 * Rows.uptoBulk x.1

theorem wts_map (n : Nat) : ∀ (F : Nat → T) (elems : List (DataW H × List MemPlace)) (s : Nat), elems.length = n → (∀ i, i < n → ∀ x, elems[i]? = some x → (F (s + i)).wt + 2 ≤ 4 * Rows.uptoBulk x.1) →
    wts ((List.range' s n).map F) ≤ 4 * Rows.uptoBulkAll (elems.map (·.1)) + 2 := by
  induction n with
  | zero => intro F elems s hl h; simp [wts]
  | succ n ih =>
    intro F elems s hl h
    cases elems with
    | nil => simp at hl
    | cons x r =>
      have h0 := h 0 (by omega) x rfl
      have hr := ih F r (s + 1) (by simpa using hl) (fun i hi y hy => by
        have := h (i + 1) (by omega) y (by simpa using hy)
        rwa [show s + (i + 1) = s + 1 + i by omega] at this)
      rw [List.range'_succ]
      simp only [List.map_cons, wts, Rows.uptoBulkAll]
      simp only [Nat.add_zero] at h0
      omega

instance : Inhabited T := ⟨.mk 0 0 .nil [] .nil []⟩

theorem rows_of {n : Nat} (h : NodesAt enc w base sp held n) : RowsAt enc w base sp held (n + 1) := by
  intro cs x hx
  rcases DataW.trod_slice Try.underlying22 hx with ⟨rfl, rfl⟩ | ⟨a, len, cap, elems, rest, m, hm, rfl, rfl, hb, hl, hc, hlen, hel, _, _⟩
  · refine ⟨.nil, [], _, rfl, ?_, rfl, by simp [wts, Rows.uptoBulk]⟩
    simp only [pvL, noneV]
    exact .nilsl
  · simp only [Nat.add_right_cancel_iff] at hm
    subst hm
    have each : ∀ i, i < len → ∃ t : T, ∃ (cs' : List Value) (x : DataW H × List MemPlace), w.cells? base (a.add (i * 4)) 4 = some cs' ∧ elems[i]? = some x ∧ NodeAt w t cs' ∧ t.wt + 2 ≤ 4 * Rows.uptoBulk x.1 := by
      intro i hi
      have := hel i hi
      rw [List.getElem?_eq_getElem (by omega), cells39] at this
      obtain ⟨cs', h1, h2⟩ := Option.bind_eq_some_iff.1 this
      obtain ⟨t, h3, h4⟩ := h cs' _ h2
      exact ⟨t, cs', _, h1, List.getElem?_eq_getElem (by omega), h3, h4⟩
    obtain ⟨F, hF⟩ := Go.Deep.choose_lt each
    have hw := wts_map len F elems 0 hlen (fun i hi x hx => by
      obtain ⟨cs', y, _, hy, _, hb⟩ := hF i hi
      rw [hx] at hy
      simp only [Option.some.injEq] at hy
      subst hy
      rwa [Nat.zero_add])
    have hbulk : wts ((List.range' 0 len).map F) ≤ 4 * Rows.uptoBulk (DataW.slice (elems.map (·.1)) (rest.map (·.1))) := by
      simp only [Rows.uptoBulk]
      omega
    rcases Nat.eq_zero_or_pos len with h0 | h0
    · subst h0
      refine ⟨.odd a cap, [], _, rfl, ?_, rfl, by simpa using hbulk⟩
      simp only [pvL, noneV]
      exact .s _
    · refine ⟨.emp, (List.range' 0 len).map F, _, rfl, ?_, rfl, hbulk⟩
      obtain ⟨blk, off, spot⟩ := a
      have hspot : spot = none := by
        obtain ⟨cs', x, h1, _⟩ := hF 0 h0
        obtain ⟨_, hcl, h2⟩ := World.cells?_some h1
        have := h2 0 (by omega)
        rw [List.getElem?_eq_getElem (by omega)] at this
        simp only [Nat.zero_mul, Addr.add, if_true] at this
        unfold World.cell? at this
        cases spot with
        | none => rfl
        | some s => simp at this; split at this <;> simp at this
      subst hspot
      have hget : ∀ i, i < len → ((List.range' 0 len).map F)[i]? = some (F i) := by
        intro i hi
        rw [List.getElem?_map, List.getElem?_range' (by omega)]
        simp
      have hcell : ∀ i j, i < len → j < 4 → ∃ v c, w.cell? ⟨blk, off + i * 4 + j, none⟩ = some v ∧ (F i).pv.cells[j]? = some c ∧ R (g0 w) w c v ∧ v.oneCell' = true := by
        intro i j hi hj
        obtain ⟨cs', x, h1, _, ⟨hl4, hR⟩, _⟩ := hF i hi
        obtain ⟨_, hcl, h2⟩ := World.cells?_some h1
        have h3 := h2 j hj
        rw [List.getElem?_eq_getElem (by omega), add_lit, add_lit] at h3
        have hc4 : (F i).pv.cells.length = 4 := by cases F i; rw [pv_cells]; rfl
        have hcj : (F i).pv.cells[j]? = some ((F i).pv.cells[j]'(by omega)) := List.getElem?_eq_getElem (by omega)
        have := hR j _ _ hcj (List.getElem?_eq_getElem (by omega))
        exact ⟨_, _, h3, hcj, this⟩
      have hlen' : (((List.range' 0 len).map F).map T.pv).length = len := by simp
      have hform : pvL .emp ((List.range' 0 len).map F) = .sl .sh 4 (((List.range' 0 len).map F).map T.pv) := by
        cases hq : (List.range' 0 len).map F with
        | nil => have := congrArg List.length hq; simp at this; omega
        | cons t r => rw [pvL_cons]
      rw [hform]
      have := @R.sl (g0 w) w .sh 4 (((List.range' 0 len).map F).map T.pv) blk off cap (fun i j => (w.cell? ⟨blk, off + i * 4 + j, none⟩).getD undef) (by decide) (by omega) hc (by simp)
        (fun el hel => by
          obtain ⟨t, _, rfl⟩ := List.mem_map.1 hel
          refine ⟨by cases t; rw [pv_cells]; rfl, pv_maxRef t, ?_⟩
          cases t
          rw [pv_cells]
          simp [noOw, ow_pvL, ow_iv])
        (fun i j hi hj => by
          rw [hlen'] at hi
          obtain ⟨v, c, h1, _, _, h4⟩ := hcell i j hi hj
          simp only [h1, Option.getD_some]
          exact ⟨g0_prot h1, trivial, h4⟩)
        (fun i j el c he hc => by
          rw [List.getElem?_map] at he
          obtain ⟨t, ht, rfl⟩ := Option.map_eq_some_iff.1 he
          have hi : i < len := by
            have := (List.getElem?_eq_some_iff.1 ht).1
            simpa using this
          rw [hget i hi] at ht
          simp only [Option.some.injEq] at ht
          subst ht
          have hj : j < 4 := by
            have := (List.getElem?_eq_some_iff.1 hc).1
            have hc4 : (F i).pv.cells.length = 4 := by cases F i; rw [pv_cells]; rfl
            omega
          obtain ⟨v, c', h1, h2, h3, _⟩ := hcell i j hi hj
          rw [hc] at h2
          simp only [Option.some.injEq] at h2
          subst h2
          simp only [h1, Option.getD_some]
          exact h3)
      rw [hlen'] at this
      exact this

theorem nodes_of {n : Nat} (h : RowsAt enc w base sp held n) : NodesAt enc w base sp held (n + 1) := by
  intro cs x hx
  obtain ⟨xs, m, hm, rfl, hl, hxs, hf⟩ := DataW.trod_struct Try.underlying39 hx
  simp only [Nat.add_right_cancel_iff] at hm
  subst hm
  rw [cells39] at hl
  match cs, hl with
  | [c0, c1, c2, c3], _ =>
    match xs, hxs with
    | [x0, x1, x2, x3], _ =>
      have f0 : DataW.trod enc Try.prog w base sp held n 3 (([c0, c1, c2, c3].drop 0).take (Try.prog.cellsOf 3)) = some x0 := hf 0 _ rfl
      rw [cells3] at f0
      have f0 : DataW.trod enc Try.prog w base sp held n 3 [c0] = some x0 := f0
      have f1 : DataW.trod enc Try.prog w base sp held n 3 (([c0, c1, c2, c3].drop 1).take (Try.prog.cellsOf 3)) = some x1 := hf 1 _ rfl
      rw [cells3] at f1
      have f1 : DataW.trod enc Try.prog w base sp held n 3 [c1] = some x1 := f1
      have f2 : DataW.trod enc Try.prog w base sp held n 22 (([c0, c1, c2, c3].drop 2).take (Try.prog.cellsOf 22)) = some x2 := hf 2 _ rfl
      rw [cells22] at f2
      have f2 : DataW.trod enc Try.prog w base sp held n 22 [c2] = some x2 := f2
      have f3 : DataW.trod enc Try.prog w base sp held n 22 (([c0, c1, c2, c3].drop 3).take (Try.prog.cellsOf 22)) = some x3 := hf 3 _ rfl
      rw [cells22] at f3
      have f3 : DataW.trod enc Try.prog w base sp held n 22 [c3] = some x3 := f3
      obtain ⟨k, e0, rfl, _⟩ := DataW.trod_int Try.underlying3 f0
      obtain ⟨nn, e1, rfl, _⟩ := DataW.trod_int Try.underlying3 f1
      obtain ⟨fa, A, v2, e2, r2, o2, b2⟩ := h _ _ f2
      obtain ⟨fb, B, v3, e3, r3, o3, b3⟩ := h _ _ f3
      simp only [List.cons.injEq, and_true] at e0 e1 e2 e3
      subst e0 e1 e2 e3
      refine ⟨.mk k nn fa A fb B, ⟨rfl, ?_⟩, ?_⟩
      · intro j c v hc hv
        rw [pv_cells] at hc
        match j, hc, hv with
        | 0, hc, hv => simp at hc hv; subst hc hv; exact ⟨.s _, rfl⟩
        | 1, hc, hv => simp at hc hv; subst hc hv; exact ⟨.s _, rfl⟩
        | 2, hc, hv => simp at hc hv; subst hc hv; exact ⟨r2, o2⟩
        | 3, hc, hv => simp at hc hv; subst hc hv; exact ⟨r3, o3⟩
        | j + 4, hc, _ => simp at hc
      · simp only [List.map_cons, List.map_nil, Rows.uptoBulk, Rows.uptoBulkAll, T.wt]
        omega

theorem rows_at : ∀ n, RowsAt enc w base sp held n ∧ NodesAt enc w base sp held n := by
  intro n
  induction n with
  | zero => exact ⟨fun cs x hx => by simp [DataW.trod] at hx, fun cs x hx => by simp [DataW.trod] at hx⟩
  | succ n ih => exact ⟨rows_of ih.2, nodes_of ih.1⟩

/-- A ROW OF PARTS THAT CAME IN. -/
theorem open_tree {v : Value} {d : DataW H} {p : List MemPlace} (h : DataW.Trod enc Try.prog w base sp held 22 v d p) (hv : v.cells = #[v]) :
    ∃ (f : E) (l : List T), R (g0 w) w (pvL f l) v ∧ wts l ≤ 4 * Rows.uptoBulk d := by
  obtain ⟨fuel, h⟩ := h
  rw [hv] at h
  obtain ⟨f, l, v', e, r, _, b⟩ := (rows_at fuel).1 _ _ h
  simp only [List.cons.injEq, and_true] at e
  subst e
  exact ⟨f, l, r, b⟩
end

end Go.Proofs.Ytfmelnhlljgooaa.PE
