/-
  PE, part 7: appends and conversions. Holds for every Program; no condition.
-/
import Derived.Test.YtnjlkgmcoengnaaGreatPf6
set_option linter.unusedSimpArgs false
set_option linter.unusedVariables false
namespace Go.Proofs.YtnjlkgmcoengnaaGreat.PE
open Go

section
variable {P : Program} {g : Gh} {w : World}

theorem run_append_room' (t u ty e e' : TypeId) (i : TypeInfo) (ht : P.underlying t = some (.slice e)) (hu : P.underlying u = some (.slice e) ∨ P.underlying u = some .string) (hi : P.info? e = some i)
    (b sLen sCap : Nat) (cur : Array Value) (hg : w.heap[b]? = some (.cells cur e' (0, 0))) (x : Value) (m : Nat) (news : List Value) (hm : (Builtin.lenOf x).run P w = .ok m w)
    (hf : (Builtin.firstCells i.size m x).run P w = .ok news.toArray w) (h1 : ∀ v, v ∈ news → v.oneCell' = true) (hroom : sLen + m ≤ sCap) (hfit : sLen * i.size + news.length ≤ cur.size) :
    (Builtin.append_ #[t, u] ty #[.slice (some ⟨b, 0, none⟩) sLen sCap, x]).run P w =
      .ok (.slice (some ⟨b, 0, none⟩) (sLen + m) sCap) (w.setRow b (cur.toList.take (sLen * i.size) ++ news ++ cur.toList.drop (sLen * i.size + news.length)).toArray) := by
  have hst := run_storeCells_at P b (sLen * i.size) e' news 0 cur w hg (by simpa using hfit) h1
  simp only [Nat.add_zero] at hst
  rcases hu with hu | hu
  · simp [Builtin.append_, run_underlying ht, run_underlying hu, sizeOf, typeInfo, hi, hm, hroom, hf, Addr.add_lit, hst]
  · simp [Builtin.append_, run_underlying ht, run_underlying hu, sizeOf, typeInfo, hi, hm, hroom, hf, Addr.add_lit, hst]

theorem run_append_grow' (t u ty e : TypeId) (i : TypeInfo) (z : Value) (ht : P.underlying t = some (.slice e)) (hu : P.underlying u = some (.slice e) ∨ P.underlying u = some .string) (hi : P.info? e = some i)
    (hz : i.zero = some z) (base : Option Addr) (sLen sCap : Nat) (olds : List Value) (hfo : (Builtin.firstCells i.size sLen (.slice base sLen sCap)).run P w.drew = .ok olds.toArray w.drew)
    (x : Value) (m : Nat) (news : List Value) (hm : (Builtin.lenOf x).run P w = .ok m w) (hf : (Builtin.firstCells i.size m x).run P w.drew = .ok news.toArray w.drew)
    (hg : sCap < sLen + m) (h63 : ((sLen + m : Nat) : Int) ≤ 9223372036854775807) (hfit : Builtin.nextslicecap (sLen + m) sCap * i.bytes ≤ 281474976710656) :
    (Builtin.append_ #[t, u] ty #[.slice base sLen sCap, x]).run P w =
      .ok (.slice (some ⟨w.heap.size, 0, none⟩) (sLen + m) (grownCap w (sLen + m) sCap e))
        (w.drew.alloc (.cells (olds.toArray ++ news.toArray ++ Builtin.zeroCells z.cells (grownCap w (sLen + m) sCap e - (sLen + m))) e)) := by
  have hn : ¬ (sLen + m ≤ sCap) := by omega
  have h63' : ¬ (9223372036854775807 < ((sLen : Int) + (m : Int))) := by omega
  have h48' : ¬ (281474976710656 < Builtin.nextslicecap (sLen + m) sCap * i.bytes) := by omega
  rcases hu with hu | hu
  · simp [Builtin.append_, run_underlying ht, run_underlying hu, sizeOf, typeInfo, zeroValue, hi, hz, hm, hn, h63', h48', Question.forced, hf, hfo, newRow, grownCap]
    congr 2; apply Array.ext'; simp [List.append_assoc]
  · simp [Builtin.append_, run_underlying ht, run_underlying hu, sizeOf, typeInfo, zeroValue, hi, hz, hm, hn, h63', h48', Question.forced, hf, hfo, newRow, grownCap]
    congr 2; apply Array.ext'; simp [List.append_assoc]

theorem run_append_zero (t u ty e : TypeId) (i : TypeInfo) (ht : P.underlying t = some (.slice e)) (hu : P.underlying u = some (.slice e) ∨ P.underlying u = some .string) (hi : P.info? e = some i)
    (base : Option Addr) (sLen sCap : Nat) (hle : sLen ≤ sCap) (x : Value) (hm : (Builtin.lenOf x).run P w = .ok 0 w) (hf : (Builtin.firstCells i.size 0 x).run P w = .ok #[] w) :
    (Builtin.append_ #[t, u] ty #[.slice base sLen sCap, x]).run P w = .ok (.slice base sLen sCap) w := by
  rcases hu with hu | hu
  · cases base <;> simp [Builtin.append_, run_underlying ht, run_underlying hu, sizeOf, typeInfo, hi, hm, hle, hf, storeCells]
  · cases base <;> simp [Builtin.append_, run_underlying ht, run_underlying hu, sizeOf, typeInfo, hi, hm, hle, hf, storeCells]

theorem strRun (s : ByteArray) (size : Nat) : (Builtin.firstCells size s.size (.string s)).run P w = .ok (s.data.toList.map fun b => Value.int .u8 b.toNat).toArray w := by
  have h : s.extract 0 s.size = s := by simp
  simp only [Builtin.firstCells, h, Sem.run_pure]
  congr 1
  apply Array.ext'
  simp

/-- What is appended, as it lies in memory: its length, its cells. -/
theorem news_sound {t u e : TypeId} {sz : Nat} {y : PV} {b : Value} {news : List PV} (hu : tElem P t = some e) (h : newsOf P t u e sz y = some news) (hy : R g w y b) :
    (P.underlying u = some (.slice e) ∨ P.underlying u = some .string) ∧ (∀ el, el ∈ news → el.cells.length = sz ∧ el.maxRef = 0 ∧ noOw el.cells = true) ∧
    ∃ vs, RCs g w (news.flatMap PV.cells) vs ∧ ∀ w', (∀ bb o, g.prot bb o → w'.cell? ⟨bb, o, none⟩ = w.cell? ⟨bb, o, none⟩) →
      (Builtin.lenOf b).run P w' = .ok news.length w' ∧ (Builtin.firstCells sz news.length b).run P w' = .ok vs.toArray w' := by
  unfold newsOf at h
  split at h
  · split at h
    · rename_i hut
      simp only [Option.some.injEq] at h
      subst h; subst hut
      cases hy
      exact ⟨.inl (tElem_und hu), by simp, [], .nil g w, fun w' _ => ⟨by simp [Builtin.lenOf], by simp [Builtin.firstCells]⟩⟩
    · cases h
  · split at h
    · rename_i ao cap hut
      simp only [Option.some.injEq] at h
      subst h; subst hut
      cases hy
      refine ⟨.inl (tElem_und hu), by simp, [], .nil g w, fun w' _ => ⟨by simp [Builtin.lenOf], ?_⟩⟩
      cases ao with
      | none => simp [Builtin.firstCells]
      | some a => exact run_firstCells_some w' _ _ a _ cap [] (by simp) (fun j v hj => by simp at hj)
    · cases h
  · split at h
    · rename_i hc
      obtain ⟨rfl, rfl⟩ := hc
      simp only [Option.some.injEq] at h
      subst h
      obtain ⟨hwf, blk, off, cap, vs, rfl, hn, hm, hex, hrc, hcell⟩ := slice_cells hy
      refine ⟨.inl (tElem_und hu), hwf, vs, hrc, fun w' hw' => ⟨by simp [Builtin.lenOf], ?_⟩⟩
      refine run_firstCells_some w' _ _ ⟨blk, off, none⟩ _ cap vs ?_ fun j v hj => ?_
      · rw [← hrc.1, flat_length _ fun el hel => (hwf el hel).1]
      · rw [add_lit, hw' _ _ (hcell j v hj).2, ← add_lit]
        exact (hcell j v hj).1
    · cases h
  · split at h
    · rename_i s hc
      obtain ⟨hu8, rfl, hs⟩ := hc
      simp only [Option.some.injEq] at h
      subst h
      cases hy
      refine ⟨.inr (tString_und hs), ?_, s.data.toList.map fun b => Value.int .u8 b.toNat, ?_, fun w' _ => ⟨by simp [Builtin.lenOf], ?_⟩⟩
      · intro el hel
        obtain ⟨x, _, rfl⟩ := List.mem_map.1 hel
        exact ⟨rfl, rfl, rfl⟩
      · have e : (s.data.toList.map fun x : UInt8 => PV.s (.int .u8 x.toNat)).flatMap PV.cells = s.data.toList.map fun x : UInt8 => PV.s (.int .u8 x.toNat) := by
          generalize s.data.toList = l
          induction l with
          | nil => rfl
          | cons x r ih => simp only [List.map_cons, List.flatMap_cons, ih]; rfl
        rw [e]
        refine ⟨by simp, fun i c v hc hv => ?_⟩
        simp only [List.getElem?_map, Option.map_eq_some_iff] at hc hv
        obtain ⟨x, hx, rfl⟩ := hc
        obtain ⟨y, hy, rfl⟩ := hv
        rw [hx] at hy
        simp only [Option.some.injEq] at hy
        subst hy
        exact ⟨.s _, rfl⟩
      · have := strRun (P := P) (w := w') s 1
        have e : (s.data.toList.map fun x : UInt8 => PV.s (.int .u8 x.toNat)).length = s.size := by rw [List.length_map]; rfl
        rw [e]
        exact this
    · cases h
  · cases h

/-- A new row that is owned. -/
theorem own_new (hpx : ∀ b o, g.prot b o → b < w.heap.size) (hrho : ∀ b, b ∈ g.ρ → b < w.heap.size) {sz : Nat} {els : List PV} {vs : List Value} {cap : Nat} {cur : Array Value} {e : TypeId}
    (hw : ∀ el, el ∈ els → el.cells.length = sz ∧ el.maxRef = 0 ∧ noOw el.cells = true) (hc : RCs g w (els.flatMap PV.cells) vs)
    (hpre : ∀ (i : Nat) (v : Value), vs[i]? = some v → cur[i]? = some v) (hsz : cur.size = cap * sz) (hn : els.length ≤ cap) (hm : cap ≤ maxLen) :
    Evo g w (g.add w.heap.size (els.length * sz)) (w.drew.alloc (.cells cur e)) (fun _ => False) ∧
    RT (g.add w.heap.size (els.length * sz)) (w.drew.alloc (.cells cur e)) (.sl .ow sz els) (.slice (some ⟨w.heap.size, 0, none⟩) els.length cap) ∧
    (∀ b o, (g.add w.heap.size (els.length * sz)).prot b o → b < (w.drew.alloc (.cells cur e)).heap.size) := by
  have hev : Evo g w (g.add w.heap.size (els.length * sz)) (w.drew.alloc (.cells cur e)) (fun _ => False) :=
    ((evo_drew g w).trans (evo_alloc (w := w.drew) hpx (.cells cur e) (els.length * sz))).mono (by simp)
  refine ⟨hev, ⟨?_, ?_⟩, prot_add_alloc (w := w.drew) hpx _ _⟩
  · exact row_slice hw ⟨hc.1, fun i c v hci hv => ⟨hev.keepR (hc.2 i c v hci hv).1, (hc.2 i c v hci hv).2⟩⟩ (alloc_new w.drew _) hpre (fun o ho => .inr ⟨rfl, ho⟩) (by simp) hn hm (by simp)
  · intro sz' els' he
    simp only [PV.sl.injEq, true_and] at he
    obtain ⟨rfl, rfl⟩ := he
    refine ⟨w.heap.size, cap, cur, e, rfl, alloc_new w.drew _, hsz, fun hb => absurd (hrho _ hb) (by omega), fun o ho => ?_⟩
    rintro (hp | ⟨_, hp⟩)
    · exact absurd (hpx _ _ hp) (by omega)
    · omega

theorem append_sound (hpx : ∀ b o, g.prot b o → b < w.heap.size) (hrho : ∀ b, b ∈ g.ρ → b < w.heap.size) {t u ty : TypeId} {x y r : PV} {a b : Value}
    (h : pAppend P t u x y = some r) (hx : RT g w x a) (hy : R g w y b) :
    Made P g w (Sem.run P (Builtin.append_ #[t, u] ty #[a, b])) r (owns x a) := by
  unfold pAppend at h
  split at h
  · cases h
  · rename_i e he
    have hut := tElem_und he
    split at h
    · cases h
    · rename_i sz hsz
      simp only [tSize, Option.map_eq_some_iff] at hsz
      obtain ⟨i, hi, rfl⟩ := hsz
      split at h
      · cases h
      · -- nothing is appended
        rename_i hnews
        obtain ⟨hd, _, vs, hvs, hrun⟩ := news_sound he hnews hy
        obtain ⟨hm, hf⟩ := hrun w fun _ _ _ => rfl
        have hvs0 : vs = [] := List.eq_nil_of_length_eq_zero (by simpa using hvs.1.symm)
        subst hvs0
        split at h
        · simp only [Option.some.injEq] at h
          subst h
          have := hx.toR rfl
          cases this
          exact .of hpx (run_append_zero t u ty e i hut hd hi none 0 0 (Nat.le_refl _) b hm hf) .nilsl _
        · rename_i tag sz' els
          split at h
          · rename_i hs
            subst hs
            simp only [Option.some.injEq] at h
            subst h
            have hsh : ∃ tag', R g w (.sl tag' i.size els) a := by
              cases tag with
              | ow => exact ⟨.sh, hx.1⟩
              | sh => exact ⟨.sh, hx.1⟩
              | ex => exact ⟨.ex, hx.1⟩
            obtain ⟨tag', hR⟩ := hsh
            obtain ⟨_, blk, off, cap, vs', rfl, hn, _⟩ := slice_cells hR
            exact ⟨_, g, w, run_append_zero t u ty e i hut hd hi _ _ _ hn b hm hf, .refl g w _, rfl, hx, hpx, fun blk ho => .inl ho⟩
          · cases h
        · cases h
      · rename_i n ns hnews
        obtain ⟨hd, hwn, vs, hvs, hrun⟩ := news_sound he hnews hy
        obtain ⟨hm, hf⟩ := hrun w fun _ _ _ => rfl
        obtain ⟨_, hfd⟩ := hrun w.drew fun _ _ _ => rfl
        simp only [List.length_cons] at hm hf hfd
        have hvl := hvs.1
        rw [flat_length _ fun el hel => (hwn el hel).1] at hvl
        have room : ∀ {k : Nat}, roomOk P e k = true → k * i.bytes ≤ 140737488355328 ∧ k ≤ maxLen := by
          intro k hk
          simp only [roomOk, hi, decide_eq_true_eq] at hk
          exact hk
        have zero : zeroOk P e i.size = true → ∃ z, i.zero = some z ∧ z.cells.size = i.size := by
          intro hz
          simp only [zeroOk, hi, Option.bind_some] at hz
          cases hz' : i.zero with
          | none => simp [hz'] at hz
          | some z => simp only [hz', decide_eq_true_eq] at hz; exact ⟨z, rfl, hz⟩
        split at h
        · split at h
          · rename_i hc
            simp only [Option.some.injEq] at h
            subst h
            have := hx.toR rfl
            cases this
            obtain ⟨hb, hml⟩ := room hc.1
            obtain ⟨z, hz, hzs⟩ := zero hc.2
            have hge := grownCap_ge w (ns.length + 1) 0 e
            have hcm := grownCap_le_maxLen w (ns.length + 1) 0 e hml
            have hml' : (((ns.length + 1 : Nat)) : Int) ≤ 9223372036854775807 := by unfold maxLen at hml; omega
            have hr := run_append_grow' (w := w) t u ty e i z hut hd hi hz none 0 0 [] (by simp [Builtin.firstCells]) b (ns.length + 1) vs hm hfd (by omega) (by simpa using hml')
              (growslice_fits (by omega) (by simpa using hb))
            simp only [Nat.zero_add] at hr
            obtain ⟨hev, hrt, hp⟩ := own_new (e := e) (cap := grownCap w (ns.length + 1) 0 e)
              (cur := [].toArray ++ vs.toArray ++ Builtin.zeroCells z.cells (grownCap w (ns.length + 1) 0 e - (ns.length + 1))) hpx hrho hwn hvs
              (fun j v hj => by
                have hlt := (List.getElem?_eq_some_iff.1 hj).1
                simp only [List.append_toArray, List.nil_append]
                rw [Array.getElem?_append_left (by simpa using hlt)]
                simpa using hj)
              (by
                simp only [Array.size_append, List.size_toArray, List.length_nil, Nat.zero_add, size_zeroCells, hzs, ← hvl, List.length_cons, ← Nat.add_mul]
                congr 1; omega) hge hcm
            exact ⟨_, _, _, hr, hev.mono (fun _ _ hx => hx.elim), rfl, hrt, hp, fun blk ho => by
              obtain ⟨_, _, _, hv⟩ := ho
              simp at hv
              exact .inr (by omega)⟩
          · cases h
        · rename_i tag sz' els
          split at h
          · rename_i hc
            obtain ⟨rfl, htag, hro, hzo⟩ := hc
            simp only [Option.some.injEq] at h
            subst h
            obtain ⟨hb, hml⟩ := room hro
            obtain ⟨z, hz, hzs⟩ := zero hzo
            have hsh : ∃ tag', (tag' = tag ∨ tag' = .sh ∧ tag = .ow) ∧ R g w (.sl tag' i.size els) a := by
              cases tag with
              | ow => exact ⟨.sh, .inr ⟨rfl, rfl⟩, hx.1⟩
              | sh => exact absurd rfl htag
              | ex => exact ⟨.ex, .inl rfl, hx.1⟩
            obtain ⟨tag', htag', hR⟩ := hsh
            obtain ⟨hwo, blk, off, cap, vo, rfl, hn, hcap, hex, hvo, hcell⟩ := slice_cells hR
            have hol := hvo.1
            rw [flat_length _ fun el hel => (hwo el hel).1] at hol
            have hwall : ∀ el, el ∈ els ++ n :: ns → el.cells.length = i.size ∧ el.maxRef = 0 ∧ noOw el.cells = true := by
              intro el hel
              rcases List.mem_append.1 hel with hel | hel
              · exact hwo el hel
              · exact hwn el hel
            have hall : RCs g w ((els ++ n :: ns).flatMap PV.cells) (vo ++ vs) := by
              rw [List.flatMap_append]
              exact hvo.append hvs
            have hlen : (els ++ n :: ns).length = els.length + (ns.length + 1) := by simp
            by_cases hroom : els.length + (ns.length + 1) ≤ cap
            · -- in place
              have htow : tag = .ow := by
                cases tag with
                | ow => rfl
                | sh => exact absurd rfl htag
                | ex =>
                  rcases htag' with h1 | ⟨_, h1⟩
                  · have := hex h1; omega
                  · cases h1
              subst htow
              obtain ⟨b', c', cur, e', hv, hbl, hcs, hnr, hsp⟩ := hx.2 _ _ rfl
              simp only [Value.slice.injEq, Option.some.injEq, Addr.mk.injEq, true_and, and_true] at hv
              obtain ⟨⟨rfl, rfl⟩, rfl⟩ := hv
              have h1 : ∀ v, v ∈ vs → v.oneCell' = true := by
                intro v hv
                obtain ⟨k, hk, rfl⟩ := List.mem_iff_getElem.1 hv
                have hk' : k < ((n :: ns).flatMap PV.cells).length := by rw [hvs.1]; exact hk
                exact (hvs.2 k _ vs[k] (List.getElem?_eq_getElem hk') (List.getElem?_eq_getElem hk)).2
              have hfit : els.length * i.size + vs.length ≤ cur.size := by
                rw [← hvl, hcs, ← Nat.add_mul]
                exact Nat.mul_le_mul_right _ hroom
              have hr := run_append_room' (w := w) t u ty e e' i hut hd hi blk els.length cap cur hbl b (ns.length + 1) vs hm hf h1 hroom hfit
              have hvo' : cur.toList.take (els.length * i.size) = vo := by
                apply List.ext_getElem?
                intro k
                rw [List.getElem?_take]
                by_cases hk : k < els.length * i.size
                · rw [if_pos hk]
                  have hk' : k < vo.length := by rw [← hol]; exact hk
                  have := (hcell k vo[k] (List.getElem?_eq_getElem hk')).1
                  rw [add_lit] at this
                  simp only [World.cell?, hbl, Nat.zero_add, Option.isSome_none, Bool.false_eq_true, if_false] at this
                  rw [Array.getElem?_toList, this, List.getElem?_eq_getElem hk']
                · rw [if_neg hk, List.getElem?_eq_none (by omega)]
              rw [hvo'] at hr
              let w' := w.setRow blk (vo ++ vs ++ cur.toList.drop (els.length * i.size + vs.length)).toArray
              have hother : ∀ k, k ≠ blk → w'.heap[k]? = w.heap[k]? := fun k hk => setRow_other w blk k _ hk
              have hnew : w'.heap[blk]? = some (.cells (vo ++ vs ++ cur.toList.drop (els.length * i.size + vs.length)).toArray e' (0, 0)) := setRow_heap w blk cur _ e' (0, 0) hbl
              have hsize : w'.heap.size = w.heap.size := by simp [w', World.setRow]
              have hev : Evo g w (g.add blk ((els.length + (ns.length + 1)) * i.size)) w' (fun k => k = blk) := by
                refine ⟨⟨[], by simp [Gh.add], by simp⟩, fun _ _ h => .inl h, ?_, ?_, by rw [hsize]; exact Nat.le_refl _, fun k _ hk => hother k hk, rfl, rfl, rfl, .of_one hother hbl hnew (by simp [← hvo']; omega)⟩
                · rintro k o (hk | ⟨rfl, _⟩)
                  · exact .inl hk
                  · exact .inr (.inl rfl)
                · intro k o hk
                  by_cases hkb : k = blk
                  · subst hkb
                    have ho : o < els.length * i.size := by
                      rcases Nat.lt_or_ge o (els.length * i.size) with h | h
                      · exact h
                      · exact absurd hk (hsp o h)
                    simp only [World.cell?, hnew, hbl, Option.isSome_none, Bool.false_eq_true, if_false]
                    rw [← Array.getElem?_toList (xs := cur)]
                    have : cur.toList[o]? = vo[o]? := by rw [← hvo', List.getElem?_take, if_pos ho]
                    rw [this]
                    simp only [List.getElem?_toArray]
                    rw [List.append_assoc, List.getElem?_append_left (by omega)]
                  · exact cell_same (hother k hkb) o
              have hT : ∀ k, k = blk → owns (.sl .ow i.size els) (.slice (some ⟨blk, 0, none⟩) els.length cap) k := by
                rintro k rfl
                exact ⟨rfl, _, _, rfl⟩
              have hk := row_slice (g := g.add blk ((els.length + (ns.length + 1)) * i.size)) (w := w') (t := .sh) (sz := i.size) (els := els ++ n :: ns) (vs := vo ++ vs) (blk := blk) (cap := cap) hwall
                ⟨hall.1, fun j c v hc hv => ⟨hev.keepR (hall.2 j c v hc hv).1, (hall.2 j c v hc hv).2⟩⟩ hnew
                (fun j v hj => by
                  have hlt := (List.getElem?_eq_some_iff.1 hj).1
                  simp only [List.getElem?_toArray]
                  rw [List.getElem?_append_left hlt]
                  exact hj)
                (fun o ho => .inr ⟨rfl, by rw [hlen] at ho; exact ho⟩) (by simp) (by rw [hlen]; exact hroom) hcap (by simp)
              rw [hlen] at hk
              refine ⟨_, _, w', hr, hev.mono (fun k _ hk => hT k hk), rfl, ⟨hk, ?_⟩, ?_, ?_⟩
              · intro sz' els' he'
                simp only [PV.sl.injEq, true_and] at he'
                obtain ⟨rfl, rfl⟩ := he'
                refine ⟨blk, cap, _, e', by rw [hlen], hnew, ?_, hnr, fun o ho => ?_⟩
                · rw [← hcs]
                  simp only [List.size_toArray, List.length_append, List.length_drop, Array.length_toList]
                  omega
                · rw [hlen] at ho
                  rintro (hp | ⟨_, hp⟩)
                  · have : els.length * i.size ≤ (els.length + (ns.length + 1)) * i.size := Nat.mul_le_mul_right _ (by omega)
                    exact hsp o (by omega) hp
                  · omega
              · rintro k o (hp | ⟨rfl, _⟩)
                · rw [hsize]; exact hpx k o hp
                · rw [hsize]; exact block_lt hbl
              · intro k ho
                obtain ⟨_, _, _, hv⟩ := ho
                simp only [Value.slice.injEq, Option.some.injEq, Addr.mk.injEq, and_true] at hv
                exact .inl (hT k hv.1.symm)
            · -- it grows
              have hge := grownCap_ge w (els.length + (ns.length + 1)) cap e
              have hcm := grownCap_le_maxLen w (els.length + (ns.length + 1)) cap e hml
              have hml' : (((els.length + (ns.length + 1) : Nat)) : Int) ≤ 9223372036854775807 := by unfold maxLen at hml; omega
              have hr := run_append_grow' (w := w) t u ty e i z hut hd hi hz (some ⟨blk, off, none⟩) els.length cap vo
                (run_firstCells_some w.drew _ _ ⟨blk, off, none⟩ _ cap vo (by rw [← hol]) fun j v hj => (hcell j v hj).1) b (ns.length + 1) vs hm hfd (by omega) hml'
                (growslice_fits (by omega) hb)
              obtain ⟨hev, hrt, hp⟩ := own_new (e := e) (cap := grownCap w (els.length + (ns.length + 1)) cap e)
                (cur := vo.toArray ++ vs.toArray ++ Builtin.zeroCells z.cells (grownCap w (els.length + (ns.length + 1)) cap e - (els.length + (ns.length + 1)))) hpx hrho hwall hall
                (fun j v hj => by
                  have hlt := (List.getElem?_eq_some_iff.1 hj).1
                  simp only [List.append_toArray]
                  rw [Array.getElem?_append_left (by simpa using hlt)]
                  simpa using hj)
                (by
                  simp only [Array.size_append, List.size_toArray, size_zeroCells, hzs, ← hvl, ← hol, List.length_cons, ← Nat.add_mul]
                  congr 1; omega) (by rw [hlen]; exact hge) hcm
              rw [hlen] at hrt hev hp
              refine ⟨_, _, _, hr, hev.mono (fun _ _ hx => hx.elim), rfl, hrt, hp, fun k ho => ?_⟩
              obtain ⟨_, _, _, hv⟩ := ho
              simp only [Value.slice.injEq, Option.some.injEq, Addr.mk.injEq, and_true] at hv
              exact .inr (by omega)
          · cases h
        · cases h

end
end Go.Proofs.YtnjlkgmcoengnaaGreat.PE
