/-
  PF, between parts 9 and 10: append, copy, clear and make at work on boxes. Holds for every Program; no condition.
-/
import Derived.Test.YtnjlkgmcoengnaaGreatPfA
set_option linter.unusedSimpArgs false
set_option linter.unusedVariables false
namespace Go.Proofs.YtnjlkgmcoengnaaGreat.PE
open Go

section
variable {P : Program} {E : Entry} {n : Nat} {g : Gh} {w : World} {env : Env} {a : Act} {st : Store}

/-- The cells of a box, where they lie. -/
theorem box_cells (hs : SInv g w st) {b blk : Nat} {cs : List PV} (hb : st[b]? = some (.cells cs)) (hr : g.ρ[b]? = some blk) :
    ∃ (vs : Array Value) (e : TypeId), w.heap[blk]? = some (.cells vs e (0, 0)) ∧ cs.length ≤ vs.size ∧ RCs g w (cs.map PV.dn) (vs.toList.take cs.length) := by
  obtain ⟨vs, e, h1, h2, h3⟩ := hs.box b _ blk hb hr
  refine ⟨vs, e, h1, h2, by simp; omega, fun i c v hc hv => ?_⟩
  rw [List.getElem?_map, Option.map_eq_some_iff] at hc
  obtain ⟨c', hc', rfl⟩ := hc
  have hi := (List.getElem?_eq_some_iff.1 hc').1
  rw [List.getElem?_take, if_pos hi, Array.getElem?_toList] at hv
  exact ⟨(h3 i c' v hc' hv).1.1, (h3 i c' v hc' hv).2⟩

theorem piece_len {cs : List PV} {off m : Nat} (h : off + m ≤ cs.length) : (((cs.drop off).take m).map PV.dn).length = m := by
  simp; omega

/-- What is copied, or appended, as it lies in memory. -/
theorem src_sound (hs : SInv g w st) {t u e : TypeId} {sz k : Nat} {y : PV} {b : Value} {news : List PV} (hu : tElem P t = some e) (h : srcCells P t u e sz st y = some (k, news)) (hy : R g w y b) :
    (P.underlying u = some (.slice e) ∨ P.underlying u = some .string) ∧ news.length = k * sz ∧ ∃ vs : List Value, RCs g w news vs ∧
      ∀ w' : World, w'.heap = w.heap → (Builtin.lenOf b).run P w' = .ok k w' ∧ (Builtin.firstCells sz k b).run P w' = .ok vs.toArray w' := by
  unfold srcCells at h
  split at h
  · rename_i vb off m c sz'
    split at h
    · rename_i hc
      obtain ⟨rfl, rfl⟩ := hc
      split at h
      · rename_i cs hst
        split at h
        · rename_i hle
          simp only [Option.some.injEq, Prod.mk.injEq] at h
          obtain ⟨rfl, rfl⟩ := h
          cases hy with
          | @vs _ _ off' _ _ cap _ blk hb ha hn hc hm hsz =>
            obtain ⟨vs, et, h1, h2, h3⟩ := box_cells hs hst hb
            have h4 := (h3.drop off).take (m * sz')
            rw [← List.map_drop, ← List.map_take] at h4
            refine ⟨.inl (tElem_und hu), piece_len hle, _, h4, fun w' hw' => ⟨by simp [Builtin.lenOf], ?_⟩⟩
            refine run_firstCells_some w' _ _ ⟨blk, off', none⟩ _ cap _ ?_ fun j v hj => ?_
            · rw [← h4.1, piece_len hle]
            · have hj' : j < m * sz' := by
                have := (List.getElem?_eq_some_iff.1 hj).1
                rw [← h4.1, piece_len hle] at this
                exact this
              have hm0 : 0 < m := by rcases Nat.eq_zero_or_pos m with h0 | h0 <;> (first | exact h0 | (subst h0; simp at hj'))
              rw [ha (by omega), add_lit]
              rw [List.getElem?_take, if_pos hj', List.getElem?_drop, List.getElem?_take, if_pos (by omega), Array.getElem?_toList] at hj
              simp only [World.cell?, hw', h1, Option.isSome_none, Bool.false_eq_true, if_false]
              exact hj
        · cases h
      · cases h
    · cases h
  · rw [Option.map_eq_some_iff] at h
    obtain ⟨l, hl, h⟩ := h
    simp only [Prod.mk.injEq] at h
    obtain ⟨rfl, rfl⟩ := h
    obtain ⟨hd, hw, vs, hvs, hrun⟩ := news_sound hu hl hy
    refine ⟨hd, flat_length _ fun el hel => (hw el hel).1, vs, hvs, fun w' hw' => hrun w' fun bb o _ => ?_⟩
    simp [World.cell?, hw']

/-- A box over new memory. -/
theorem St.freshBox {tmps : Array Value} (h : St E n g w env tmps st) {vs : Array Value} {e : TypeId} {cs : List PV} (hsz : cs.length ≤ vs.size) (hno : noOw cs = true)
    (hc : ∀ (i : Nat) (c : PV) (v : Value), cs[i]? = some c → vs[i]? = some v → R g w c v ∧ v.oneCell' = true) :
    St E n ⟨g.ρ ++ [w.heap.size], g.prot⟩ (w.alloc (.cells vs e)) env tmps (st ++ [.cells cs]) :=
  h.addBox (blk := w.heap.size) (vs := vs) (e := e)
    ⟨⟨[], by simp, by simp⟩, fun _ _ hx => hx, fun _ _ hx => .inl hx, fun b o hb => cell_same (alloc_old w _ b (h.s.pex b o hb)) o, by simp, fun b hb _ => alloc_old w _ b hb, rfl, rfl, rfl, .of_old fun b hb => alloc_old w _ b hb⟩
    (fun b ds _ hr => by have := rho_lt h.s (List.mem_of_getElem? hr); omega) (fun ms q hm => by rw [Array.getElem?_eq_none (Nat.le_refl _)] at hm; cases hm) (fun o ho => by have := h.s.pex _ o ho; omega) (fun t ht => by have := ((h.regs t).own_fresh ht).1; omega)
    (fun b o ho => by have := (ho.at h.s).1; omega) (by simp) (.inr h.evo.size) (alloc_new w _) hsz hno hc

theorem St.drew {tmps : Array Value} (h : St E n g w env tmps st) : St E n g w.drew env tmps st :=
  h.step (evo_drew g w) rfl (fun _ h => h.elim) (fun _ _ _ _ h => h) (fun _ _ _ h => h) h.s.pex

theorem rho_last (ρ : List Nat) (st : Store) (k : Nat) (h : ρ.length = st.length) : (ρ ++ [k])[st.length]? = some k := by
  rw [List.getElem?_append_right (by omega), show st.length - ρ.length = 0 by omega]
  rfl

/-- append into a box. -/
theorem appendB_sound (h : St E n g w env a.tmps st) {t u ty : TypeId} {x y r : PV} {va vb : Value} {st' : Store} (hp : pAppendB P t u x y st = some (r, st')) (hx : R g w x va) (hy : R g w y vb) :
    ∃ v g' w', (Builtin.append_ #[t, u] ty #[va, vb]).run P w = .ok v w' ∧ St E n g' w' env a.tmps st' ∧ R g' w' r v := by
  unfold pAppendB at hp
  split at hp
  · cases hp
  · rename_i e he
    have hut := tElem_und he
    split at hp
    · cases hp
    · rename_i sz hsz
      simp only [tSize, Option.map_eq_some_iff] at hsz
      obtain ⟨i, hi, rfl⟩ := hsz
      split at hp
      · cases hp
      · -- nothing is appended
        rename_i news hsrc
        obtain ⟨hd, hnl, vs, hvs, hrun⟩ := src_sound h.s he hsrc hy
        obtain ⟨hm, hf⟩ := hrun w rfl
        have hvs0 : vs = [] := List.eq_nil_of_length_eq_zero (by rw [← hvs.1, hnl]; simp)
        subst hvs0
        split at hp
        · simp only [Option.some.injEq, Prod.mk.injEq] at hp
          obtain ⟨rfl, rfl⟩ := hp
          cases hx
          exact ⟨_, g, w, run_append_zero t u ty e i hut hd hi none 0 0 (Nat.le_refl _) vb hm hf, h, .nilsl⟩
        · split at hp
          · simp only [Option.some.injEq, Prod.mk.injEq] at hp
            obtain ⟨rfl, rfl⟩ := hp
            have hx' := hx
            cases hx with
            | vs hb ha hn hc hm' hs => exact ⟨_, g, w, run_append_zero t u ty e i hut hd hi _ _ _ (by omega) vb hm hf, h, hx'⟩
          · cases hp
        · cases hp
      · rename_i k news hsrc
        obtain ⟨hd, hnl, vs, hvs, hrun⟩ := src_sound h.s he hsrc hy
        obtain ⟨hm, hf⟩ := hrun w rfl
        obtain ⟨_, hfd⟩ := hrun w.drew rfl
        have hvl : vs.length = (k + 1) * i.size := by rw [← hvs.1, hnl]
        have room : ∀ {k : Nat}, roomOk P e k = true → k * i.bytes ≤ 140737488355328 ∧ k ≤ maxLen := by
          intro k hk
          simp only [roomOk, hi, decide_eq_true_eq] at hk
          exact hk
        have zero : zeroOk P e i.size = true → ∃ z, i.zero = some z ∧ z.cells.size = i.size := by
          intro hz
          simp only [zeroOk, hi, Option.bind_some] at hz
          cases hz' : i.zero with
          | none => simp [hz'] at hz
          | some z => simp only [hz', decide_eq_true_eq] at hz; exact ⟨z, rfl, hz⟩
        -- it grows, whatever it was
        have grow : ∀ (base : Option Addr) (m sc : Nat) (olds : List Value) (ocs : List PV), (Builtin.firstCells i.size m (.slice base m sc)).run P w.drew = .ok olds.toArray w.drew → RCs g w ocs olds → ocs.length = m * i.size →
            sc < m + (k + 1) → roomOk P e (m + (k + 1)) = true → zeroOk P e i.size = true → ∀ (b : Nat), ∃ v g' w', (Builtin.append_ #[t, u] ty #[.slice base m sc, vb]).run P w = .ok v w' ∧
              St E n g' w' env a.tmps (st.set b .dead ++ [.cells (ocs ++ news)]) ∧ R g' w' (.vs st.length 0 (m + (k + 1)) (m + (k + 1)) i.size) v := by
          intro base m sc olds ocs hfo hoc hol hlt hro hzo b
          obtain ⟨hb, hml⟩ := room hro
          obtain ⟨z, hz, hzs⟩ := zero hzo
          have hge := grownCap_ge w (m + (k + 1)) sc e
          have hcm := grownCap_le_maxLen w (m + (k + 1)) sc e hml
          have hml' : (((m + (k + 1) : Nat)) : Int) ≤ 9223372036854775807 := by unfold maxLen at hml; omega
          have hr := run_append_grow' (w := w) t u ty e i z hut hd hi hz base m sc olds hfo vb (k + 1) vs hm hfd hlt hml' (growslice_fits hlt hb)
          have hol' : olds.length = m * i.size := by rw [← hoc.1, hol]
          have hall := hoc.append hvs
          have hcz : (olds.toArray ++ vs.toArray ++ Builtin.zeroCells z.cells (grownCap w (m + (k + 1)) sc e - (m + (k + 1)))).size = grownCap w (m + (k + 1)) sc e * i.size := by
            simp only [Array.size_append, List.size_toArray, size_zeroCells, hzs, hvl, hol', ← Nat.add_mul]
            congr 1; omega
          have hlen : (ocs ++ news).length = (m + (k + 1)) * i.size := by rw [List.length_append, hol, hnl, ← Nat.add_mul]
          have hst := (((h.kill b).drew).freshBox (vs := olds.toArray ++ vs.toArray ++ Builtin.zeroCells z.cells (grownCap w (m + (k + 1)) sc e - (m + (k + 1)))) (e := e) (cs := ocs ++ news)
            (by rw [hcz, hlen]; exact Nat.mul_le_mul_right _ hge) hall.noOw (fun j c v hc hv => by
              have hj := (List.getElem?_eq_some_iff.1 hc).1
              have hj' : j < (olds ++ vs).length := by rw [← hall.1]; exact hj
              have hv' : (olds ++ vs)[j]? = some v := by
                simp only [List.append_toArray] at hv
                rw [Array.getElem?_append_left (by simpa using hj')] at hv
                simpa using hv
              have := hall.2 j c v hc hv'
              exact ⟨(evo_drew g w).keepR this.1, this.2⟩))
          refine ⟨_, _, _, hr, hst, ?_⟩
          refine .vs (cap := grownCap w (m + (k + 1)) sc e) (off' := 0) ?_ (fun _ => rfl) (Nat.le_refl _) hge hcm ⟨_, e, alloc_new w.drew _, by rw [hcz]; omega⟩
          exact rho_last g.ρ st _ h.s.len
        split at hp
        · split at hp
          · rename_i hc
            simp only [Option.some.injEq, Prod.mk.injEq] at hp
            obtain ⟨rfl, rfl⟩ := hp
            cases hx
            obtain ⟨v, g', w', h1, h2, h3⟩ := grow none 0 0 [] [] (by simp [Builtin.firstCells]) (.nil g w) (by simp) (by omega) (by simpa using hc.1) hc.2 st.length
            rw [List.set_eq_of_length_le (Nat.le_refl _)] at h2
            exact ⟨v, g', w', h1, by simpa using h2, by simpa using h3⟩
          · cases hp
        · rename_i sz' els
          split at hp
          · rename_i hc
            obtain ⟨rfl, hro, hzo⟩ := hc
            simp only [Option.some.injEq, Prod.mk.injEq] at hp
            obtain ⟨rfl, rfl⟩ := hp
            obtain ⟨hwo, blk, off, cap, vo, rfl, hn, hcap, hex, hvo, hcell⟩ := slice_cells hx
            have hcl := hex rfl
            have hol := flat_length els fun el hel => (hwo el hel).1
            obtain ⟨v, g', w', h1, h2, h3⟩ := grow (some ⟨blk, off, none⟩) els.length cap vo (els.flatMap PV.cells)
              (run_firstCells_some w.drew _ _ ⟨blk, off, none⟩ _ cap vo (by rw [← hvo.1, hol]) fun j v hj => (hcell j v hj).1) hvo hol (by omega) hro hzo st.length
            rw [List.set_eq_of_length_le (Nat.le_refl _)] at h2
            exact ⟨v, g', w', h1, h2, h3⟩
          · cases hp
        · rename_i b m c sz'
          split at hp
          · rename_i cs hst
            split at hp
            · rename_i hc
              obtain ⟨rfl, hm0, hle, hro, hzo⟩ := hc
              simp only [Option.some.injEq, Prod.mk.injEq] at hp
              obtain ⟨rfl, rfl⟩ := hp
              cases hx with
              | @vs _ _ off' _ _ cap _ blk hb ha hn hc hmx hs =>
                have h0 := ha (by omega)
                subst h0
                obtain ⟨cur, et, h1, h2, h3⟩ := box_cells h.s hst hb
                have h4 := h3.take (m * i.size)
                rw [← List.map_take] at h4
                have h4l : ((cs.take (m * i.size)).map PV.dn).length = m * i.size := by simp; omega
                have h4v : (cur.toList.take cs.length).take (m * i.size) = cur.toList.take (m * i.size) := by rw [List.take_take, Nat.min_eq_left hle]
                rw [h4v] at h4
                have hol : (cur.toList.take (m * i.size)).length = m * i.size := by rw [← h4.1]; exact h4l
                by_cases hroom : m + (k + 1) ≤ cap
                · -- in place
                  have h1' : ∀ v, v ∈ vs → v.oneCell' = true := by
                    intro v hv
                    obtain ⟨q, hq, rfl⟩ := List.mem_iff_getElem.1 hv
                    have hq' : q < news.length := by rw [hvs.1]; exact hq
                    exact (hvs.2 q _ vs[q] (List.getElem?_eq_getElem hq') (List.getElem?_eq_getElem hq)).2
                  obtain ⟨us, ue, hs1, hs2⟩ := hs
                  rw [h1] at hs1
                  simp only [Option.some.injEq, Obj.cells.injEq, and_true] at hs1
                  obtain ⟨rfl, rfl⟩ := hs1
                  have hfit : m * i.size + vs.length ≤ cur.size := by
                    rw [hvl, ← Nat.add_mul]
                    exact Nat.le_trans (Nat.mul_le_mul_right _ hroom) (by omega)
                  have hr := run_append_room' (w := w) t u ty e et i hut hd hi blk m cap cur h1 vb (k + 1) vs hm hf h1' hroom hfit
                  generalize hnew : (cur.toList.take (m * i.size) ++ vs ++ cur.toList.drop (m * i.size + vs.length)).toArray = new at hr
                  have hns : new.size = cur.size := by rw [← hnew]; simp; omega
                  have hother : ∀ q, q ≠ blk → (w.setRow blk new).heap[q]? = w.heap[q]? := fun q hq => setRow_other w blk q _ hq
                  have hnewh : (w.setRow blk new).heap[blk]? = some (.cells new et (0, 0)) := setRow_heap w blk cur _ et (0, 0) h1
                  have hsize : (w.setRow blk new).heap.size = w.heap.size := by simp [World.setRow]
                  have hmem := List.mem_of_getElem? hb
                  have hk := h.kill b
                  have hall := h4.append hvs
                  have hlen : ((cs.take (m * i.size)).map PV.dn ++ news).length = (m + (k + 1)) * i.size := by rw [List.length_append, h4l, hnl, ← Nat.add_mul]
                  have hev : Evo g w g (w.setRow blk new) (fun q => q = blk) :=
                    ⟨⟨[], by simp, by simp⟩, fun _ _ hx => hx, fun _ _ hx => .inl hx, fun q o hq => cell_same (hother q fun he => h.s.rnp b cs blk hst hb o (he ▸ hq)) o, by rw [hsize]; exact Nat.le_refl _,
                      fun q _ hq => hother q hq, rfl, rfl, rfl, .of_one hother h1 hnewh hns⟩
                  have hst2 := hk.addBox (blk := blk) (w' := w.setRow blk new) (vs := new) (e := et) (cs := (cs.take (m * i.size)).map PV.dn ++ news) hev
                    (fun q ds hq hr => by obtain ⟨hne, hq⟩ := dead_get hq; exact hne (h.s.nodup q b ds cs blk hq hst hr hb)) (fun ms q hm => by rw [h1] at hm; cases hm) (h.s.rnp b cs blk hst hb) (fun t ht => ((h.regs t).own_fresh ht).2 hmem) (fun q o ho => (ho.at hk.s).2 hmem)
                    (by rw [hsize]; exact h.s.lt _ hmem) (Wc_up h (.inl hmem)) hnewh (by rw [hlen, hns]; exact Nat.le_trans (Nat.mul_le_mul_right _ hroom) (by omega)) hall.noOw (fun j c v hc hv => by
                      have hj := (List.getElem?_eq_some_iff.1 hc).1
                      have hj' : j < (cur.toList.take (m * i.size) ++ vs).length := by rw [← hall.1]; exact hj
                      rw [← hnew, List.getElem?_toArray, List.getElem?_append_left hj'] at hv
                      exact hall.2 j c v hc hv)
                  refine ⟨_, _, _, hr, hst2, .vs (cap := cap) (off' := 0) ?_ (fun _ => rfl) (Nat.le_refl _) hroom hmx ⟨new, et, hnewh, by rw [hns]; omega⟩⟩
                  exact rho_last g.ρ st _ h.s.len
                · -- it grows
                  obtain ⟨v, g', w', q1, q2, q3⟩ := grow (some ⟨blk, 0, none⟩) m cap (cur.toList.take (m * i.size)) ((cs.take (m * i.size)).map PV.dn)
                    (run_firstCells_some w.drew _ _ ⟨blk, 0, none⟩ _ cap _ hol fun j v hj => by
                      have hj' := (List.getElem?_eq_some_iff.1 hj).1
                      rw [hol] at hj'
                      rw [add_lit, Nat.zero_add]
                      rw [List.getElem?_take, if_pos hj', Array.getElem?_toList] at hj
                      have hh : w.drew.heap[blk]? = some (.cells cur et (0, 0)) := h1
                      simp only [World.cell?, hh, Option.isSome_none, Bool.false_eq_true, if_false]
                      exact hj) h4 h4l (by omega) hro hzo b
                  exact ⟨v, g', w', q1, q2, q3⟩
            · cases hp
          · cases hp
        · cases hp

end
end Go.Proofs.YtnjlkgmcoengnaaGreat.PE
