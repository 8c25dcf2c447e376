/-
  PF, between parts C and 10: maps from strings: made, filled, looked into. Holds for every Program; no condition.
-/
import Derived.Test.YtnjlkgmcoengnaaGreatPfC
set_option linter.unusedSimpArgs false
set_option linter.unusedVariables false
namespace Go.Proofs.YtnjlkgmcoengnaaGreat.PE
open Go

/-- A world with an object turned. -/
def objSet (w : World) (r : Nat) (o : Obj) : World := { w with heap := w.heap.setIfInBounds r o }

theorem run_setMap {P : Program} {w : World} {r : Nat} {ms : Array MapEntry} {k : Nat} (h : w.heap[r]? = some (.map ms k)) (o : Obj) : (setObj r o).run P w = .ok () (objSet w r o) := by
  simp only [setObj, Sem.run, h]; rfl

theorem run_getMap {P : Program} {w : World} {r : Nat} {ms : Array MapEntry} {k : Nat} (h : w.heap[r]? = some (.map ms k)) : (getObj r).run P w = .ok (.map ms k) w := by
  simp only [getObj, Sem.run, h]

theorem tMapS_spec {P : Program} {t e : TypeId} (h : tMapS P t = some e) : ∃ k, P.underlying t = some (.map k e) ∧ P.underlying k = some .string := by
  unfold tMapS at h
  split at h
  · rename_i k e' hk
    split at h
    · rename_i hs
      simp only [Option.some.injEq] at h
      subst h
      exact ⟨k, hk, hs⟩
    · cases h
  · cases h

theorem run_underlying' {P : Program} {t : TypeId} {d : TypeDesc} {w : World} (h : P.underlying t = some d) : (underlying t).run P w = .ok d w := by
  simp [underlying, h]

theorem run_checkKey {P : Program} {t : TypeId} {w : World} {b : Bool} {k : ByteArray} (h : P.underlying t = some .string) : (Instr.checkKey b 10000 t (.string k)).run P w = .ok () w := by
  unfold Instr.checkKey
  simp only [Sem.run_bind, run_underlying' h, Result.andThen_ok, Sem.run_pure]

/-- What stands at a key. -/
theorem findNow_spec {g : Gh} {w : World} (key : ByteArray) : ∀ (es : List (ByteArray × PV)) (ms : List MapEntry) (i : Nat), es.length = ms.length →
    (∀ (j : Nat) (p : ByteArray × PV) (m : MapEntry), es[j]? = some p → ms[j]? = some m → m.key = .string p.1 ∧ R g w p.2 m.val ∧ p.2.maxRef = 0) →
    (pFind key es = none ∧ Instr.findNow .string (.string key) ms i = some none) ∨ ∃ x j v, pFind key es = some x ∧ Instr.findNow .string (.string key) ms i = some (some (j, v)) ∧ R g w x v
  | [], [], _, _, _ => .inl ⟨rfl, rfl⟩
  | [], _ :: _, _, h, _ => by simp at h
  | _ :: _, [], _, h, _ => by simp at h
  | (k, x) :: es, m :: ms, i, h, hh => by
    obtain ⟨h1, h2, _⟩ := hh 0 (k, x) m rfl rfl
    simp only at h1
    unfold pFind Instr.findNow
    simp only [h1, Instr.sameNow]
    cases hb : key == k with
    | true => exact .inr ⟨x, i, m.val, by simp, by simp, h2⟩
    | false =>
      simp only [Bool.false_eq_true, if_false]
      exact findNow_spec key es ms (i + 1) (by simpa using h) fun j p m' hp hm => hh (j + 1) p m' (by simpa using hp) (by simpa using hm)

variable {E : Entry} {n : Nat} {g : Gh} {w : World} {env : Env} {st : Store} {P : Program}

theorem lookup_sound (hs : SInv g w st) {t : TypeId} {ok : Bool} {m k r : PV} {vm vk : Value} (h : pLookup P t ok m k st = some r) (hm : R g w m vm) (hk : R g w k vk) :
    ∃ v, (Instr.lookup t vm vk ok).run P w = .ok v w ∧ R g w r v := by
  unfold pLookup at h
  split at h
  · rename_i b key
    cases hm with
    | @mp _ blk hb =>
      cases hk with
      | s _ =>
        split at h
        · rename_i es e hst he
          obtain ⟨kt, hu, hks⟩ := tMapS_spec he
          obtain ⟨ms, q, h1, h2, h3⟩ := hs.box b _ blk hst hb
          have hf := findNow_spec (g := g) (w := w) key es ms.toList 0 (by simpa using h2) (fun j p m hp hm => h3 j p m hp (by simpa using hm))
          have run0 : ∀ (x : Option (Nat × Value)), Instr.findNow .string (.string key) ms.toList 0 = some x → (Instr.findKey kt (.string key) ms.toList).run P w = .ok x w := by
            intro x hx
            unfold Instr.findKey
            simp only [Sem.run_bind, run_underlying' hks, Result.andThen_ok, hx, Sem.run_pure]
          rcases hf with ⟨hp, hn⟩ | ⟨x, j, v, hp, hn, hr⟩
          · rw [hp] at h
            simp only [Option.map_eq_some_iff] at h
            obtain ⟨z, hz, rfl⟩ := h
            simp only [tZero, Option.map_eq_some_iff] at hz
            obtain ⟨zv, hz, rfl⟩ := hz
            obtain ⟨ie, hie, hz⟩ := Option.bind_eq_some_iff.1 hz
            refine ⟨if ok then .tuple #[zv, .bool false] else zv, ?_, ?_⟩
            · unfold Instr.lookup
              simp only [Sem.run_bind, run_underlying' hu, Result.andThen_ok, run_getMap h1, Sem.run_pure, run_checkKey hks, run0 _ hn]
              simp [zeroValue, typeInfo, hie, hz]
            · cases ok with
              | false => exact R.ofVal g w zv
              | true =>
                refine .tup rfl (noOw_of fun c hc => ?_) fun i c v hc hv => ?_
                · simp at hc
                  rcases hc with rfl | rfl
                  · exact (R.ofVal g w zv).not_ow
                  · rfl
                · match i with
                  | 0 => simp at hc hv; subst hc; subst hv; exact R.ofVal g w zv
                  | 1 => simp at hc hv; subst hc; subst hv; exact .s _
                  | i + 2 => simp at hc
          · rw [hp] at h
            simp only [Option.some.injEq] at h
            subst h
            refine ⟨if ok then .tuple #[v, .bool true] else v, ?_, ?_⟩
            · unfold Instr.lookup
              simp only [Sem.run_bind, run_underlying' hu, Result.andThen_ok, run_getMap h1, Sem.run_pure, run_checkKey hks, run0 _ hn]
            · cases ok with
              | false => exact hr
              | true =>
                refine .tup rfl (noOw_of fun c hc => ?_) fun i c v hc hv => ?_
                · simp at hc
                  rcases hc with rfl | rfl
                  · exact hr.not_ow
                  · rfl
                · match i with
                  | 0 => simp at hc hv; subst hc; subst hv; exact hr
                  | 1 => simp at hc hv; subst hc; subst hv; exact .s _
                  | i + 2 => simp at hc
        · cases h
  · cases h

theorem objSet_other {w : World} {r b : Nat} {o : Obj} (h : b ≠ r) : (objSet w r o).heap[b]? = w.heap[b]? := by
  have h' : ¬ r = b := fun e => h e.symm
  simp only [objSet, Array.getElem?_setIfInBounds, if_neg h']

theorem objSet_same {w : World} {r : Nat} {o : Obj} (h : r < w.heap.size) : (objSet w r o).heap[r]? = some o := by
  simp [objSet, h]

/-- A map written. -/
theorem St.setMap {tmps : Array Value} (h : St E n g w env tmps st) {b blk : Nat} {es es' : List (ByteArray × PV)} {ms ms' : Array MapEntry} {q q' : Nat} (hst : st[b]? = some (.map es)) (hb : g.ρ[b]? = some blk)
    (hh : w.heap[blk]? = some (.map ms q)) (hl : es'.length = ms'.size)
    (hm : ∀ (i : Nat) (p : ByteArray × PV) (m : MapEntry), es'[i]? = some p → ms'[i]? = some m → m.key = .string p.1 ∧ R g w p.2 m.val ∧ p.2.maxRef = 0) :
    St E n g (objSet w blk (.map ms' q')) env tmps (st.set b (.map es')) := by
  have hmem := List.mem_of_getElem? hb
  have hlt := rho_lt h.s hmem
  have hsize : (objSet w blk (.map ms' q')).heap.size = w.heap.size := by simp [objSet]
  have hother : ∀ k, k ≠ blk → (objSet w blk (.map ms' q')).heap[k]? = w.heap[k]? := fun k hk => objSet_other hk
  have hcell : ∀ k o, (objSet w blk (.map ms' q')).cell? ⟨k, o, none⟩ = w.cell? ⟨k, o, none⟩ := by
    intro k o
    by_cases hk : k = blk
    · subst hk
      simp [World.cell?, objSet_same hlt, hh]
    · exact cell_same (hother k hk) o
  have hev : Evo g w g (objSet w blk (.map ms' q')) (fun k => k = blk) := by
    refine ⟨⟨[], by simp, by simp⟩, fun _ _ hx => hx, fun _ _ hx => .inl hx, fun k o _ => hcell k o, by rw [hsize]; exact Nat.le_refl _, fun k _ hk => hother k hk, rfl, rfl, rfl, ?_⟩
    intro k vs e fr hk
    by_cases hx : k = blk
    · subst hx; rw [hh] at hk; cases hk
    · exact ⟨vs, by rw [hother k hx]; exact hk, rfl⟩
  have hget : ∀ (k : Nat) (cs : List PV), (st.set b (.map es'))[k]? = some (.cells cs) → k ≠ b ∧ st[k]? = some (.cells cs) := by
    intro k cs hk
    rcases set_get hk with ⟨_, hk⟩ | hk
    · cases hk
    · exact hk
  have oc : ∀ b' o k, OwnCell g (objSet w blk (.map ms' q')) (st.set b (.map es')) b' o k → OwnCell g w st b' o k := by
    rintro b' o k ⟨cs, x, rb, v, hb', hx, hr, hv, ho⟩
    exact ⟨cs, x, rb, v, (hget b' cs hb').2, hx, hr, by rw [← hcell]; exact hv, ho⟩
  have hT : ∀ {c : PV} {u : Value}, RT g w c u → ∀ k, owns c u k → ¬ k = blk := fun hc k hk he => (hc.own_fresh hk).2 (he ▸ hmem)
  refine ⟨⟨by simp [h.s.len], ?_, fun b1 b2 c1 c2 k h1 h2 => h.s.nodup b1 b2 c1 c2 k (hget b1 c1 h1).2 (hget b2 c2 h2).2, fun b1 c1 k h1 => h.s.rnp b1 c1 k (hget b1 c1 h1).2,
    fun k hk => by rw [hsize]; exact h.s.lt k hk, fun k o hk => by rw [hsize]; exact h.s.pex k o hk, fun b1 o1 b2 o2 k h1 h2 => h.s.own b1 o1 b2 o2 k (oc b1 o1 k h1) (oc b2 o2 k h2), ?_⟩,
    fun t => hev.keepRT (h.regs t) (hT (h.regs t)), h.size, h.own2, fun t b' o k ht hx => h.own3 t b' o k ht (oc b' o k hx), by simp; exact h.base,
    (h.evo.trans hev).mono fun k hk hx => ?_, h.in1, fun b' o k hx => h.in2 b' o k (oc b' o k hx), fun L hL h0 b' ds c hb hcs hcc => h.levs L hL h0 b' ds c hb (hget b' ds hcs).2 hcc⟩
  · intro b' bx k hb' hk
    rcases set_get hb' with ⟨rfl, rfl⟩ | ⟨hne, hb'⟩
    · rw [hb] at hk
      simp only [Option.some.injEq] at hk
      subst hk
      exact ⟨ms', q', objSet_same hlt, hl, fun i p m hp hm' => ⟨(hm i p m hp hm').1, hev.keepR (hm i p m hp hm').2.1, (hm i p m hp hm').2.2⟩⟩
    · have hbox := h.s.box b' bx k hb' hk
      cases bx with
      | map ds =>
        have hne' : k ≠ blk := fun he => hne (h.s.ndm b' b ds es k hb' hst hk (he ▸ hb))
        exact hbox.keep hev (hother k hne')
      | dead => exact trivial
      | cells ds =>
        obtain ⟨us, e', hh', hsz', hcc⟩ := hbox
        have hne' : k ≠ blk := by
          intro he
          subst he
          rw [hh] at hh'
          cases hh'
        exact ⟨us, e', by rw [hother k hne']; exact hh', hsz', fun i c v hci hvi => ⟨hev.keepRT (hcc i c v hci hvi).1 (hT (hcc i c v hci hvi).1), (hcc i c v hci hvi).2⟩⟩
  · have old : ∀ (k : Nat) (ds : List (ByteArray × PV)), (st.set b (.map es'))[k]? = some (.map ds) → ∃ ds' : List (ByteArray × PV), st[k]? = some (.map ds') := by
      intro k ds hk
      rcases set_get hk with ⟨rfl, _⟩ | ⟨_, hk⟩
      · exact ⟨es, hst⟩
      · exact ⟨ds, hk⟩
    intro b1 b2 e1 e2 k h1 h2 h3 h4
    obtain ⟨d1, h1⟩ := old b1 e1 h1
    obtain ⟨d2, h2⟩ := old b2 e2 h2
    exact h.s.ndm b1 b2 d1 d2 k h1 h2 h3 h4
  · rcases hx with hx | rfl
    · exact hx
    · rcases Wc_up h (.inl hmem) with hy | hy
      · exact hy
      · omega

/-- A map made. -/
theorem St.newMap {tmps : Array Value} (h : St E n g w env tmps st) : St E n ⟨g.ρ ++ [w.heap.size], g.prot⟩ (w.alloc (.map #[] 0)) env tmps (st ++ [.map []]) := by
  have hev : Evo g w ⟨g.ρ ++ [w.heap.size], g.prot⟩ (w.alloc (.map #[] 0)) (fun _ => False) := by
    refine ⟨⟨[w.heap.size], rfl, fun b hb => .inl (by simp at hb; omega)⟩, fun _ _ hx => hx, fun _ _ hx => .inl hx, fun b o hb => cell_same (alloc_old w _ b (h.s.pex b o hb)) o, by simp, fun b hb _ => alloc_old w _ b hb, rfl, rfl, rfl, .of_old fun b hb => alloc_old w _ b hb⟩
  have hlen := h.s.len
  have hold : ∀ (b k : Nat), b < st.length → ((g.ρ ++ [w.heap.size])[b]? = some k ↔ g.ρ[b]? = some k) := by
    intro b k hb
    rw [List.getElem?_append_left (by omega)]
  have hlast : ∀ (b k : Nat), ¬ b < st.length → (g.ρ ++ [w.heap.size])[b]? = some k → b = st.length ∧ k = w.heap.size := by
    intro b k hb h1
    have hl := (List.getElem?_eq_some_iff.1 h1).1
    simp at hl
    rw [List.getElem?_append_right (by omega), show b - g.ρ.length = 0 by omega] at h1
    exact ⟨by omega, by simpa using h1.symm⟩
  have hget : ∀ (b : Nat) (bx : PBox), (st ++ [PBox.map []])[b]? = some bx → (b < st.length ∧ st[b]? = some bx) ∨ (b = st.length ∧ bx = .map []) := by
    intro b bx hb
    rcases Nat.lt_or_ge b st.length with hlt | hge
    · rw [List.getElem?_append_left hlt] at hb; exact .inl ⟨hlt, hb⟩
    · have hl := (List.getElem?_eq_some_iff.1 hb).1
      simp at hl
      rw [List.getElem?_append_right hge, show b - st.length = 0 by omega] at hb
      exact .inr ⟨by omega, by simpa using hb.symm⟩
  have hcs : ∀ (b : Nat) (cs : List PV), (st ++ [PBox.map []])[b]? = some (.cells cs) → b < st.length ∧ st[b]? = some (.cells cs) := by
    intro b cs hb
    rcases hget b _ hb with hb | ⟨_, hb⟩
    · exact hb
    · cases hb
  have oc : ∀ b o k, OwnCell ⟨g.ρ ++ [w.heap.size], g.prot⟩ (w.alloc (.map #[] 0)) (st ++ [.map []]) b o k → OwnCell g w st b o k := by
    rintro b o k ⟨cs', x, rb, v, hb, hx, hr, hv, ho⟩
    obtain ⟨hlt, hb⟩ := hcs b cs' hb
    have hr := (hold b rb hlt).1 hr
    refine ⟨cs', x, rb, v, hb, hx, hr, ?_, ho⟩
    rw [← hv]
    exact (cell_same (alloc_old w _ rb (rho_lt h.s (List.mem_of_getElem? hr))) o).symm
  refine ⟨⟨by simp [hlen], ?_, ?_, ?_, ?_, fun b o hb => by have := h.s.pex b o hb; simp; omega, fun b o b' o' k h1 h2 => h.s.own b o b' o' k (oc b o k h1) (oc b' o' k h2), ?_⟩,
    fun t => hev.keepRT (h.regs t) fun _ _ hx => hx, h.size, h.own2, fun t b o k ht hx => h.own3 t b o k ht (oc b o k hx), by simp; have := h.base; omega,
    (h.evo.trans hev).mono fun b _ hx => hx.elim id False.elim, h.in1, fun b o k hx => h.in2 b o k (oc b o k hx), fun L hL h0 b ds c hb hds hcc => h.levs L hL h0 b ds c hb (hcs b ds hds).2 hcc⟩
  · intro b bx k hb hk
    rcases hget b _ hb with ⟨hlt', hb⟩ | ⟨rfl, rfl⟩
    · have hk := (hold b k hlt').1 hk
      have hbox := h.s.box b bx k hb hk
      cases bx with
      | map es => exact hbox.keep hev (alloc_old w _ k hbox.lt)
      | dead => exact trivial
      | cells ds =>
        obtain ⟨us, e', hh, hsz', hcc⟩ := hbox
        exact ⟨us, e', by rw [alloc_old w _ k (block_lt hh)]; exact hh, hsz', fun i c v hci hvi => ⟨hev.keepRT (hcc i c v hci hvi).1 fun _ _ hx => hx, (hcc i c v hci hvi).2⟩⟩
    · obtain ⟨_, rfl⟩ := hlast _ k (by omega) hk
      exact ⟨#[], 0, alloc_new w _, rfl, fun i p m hp => by simp at hp⟩
  · intro b b' ds ds' k hb hb' hr hr'
    obtain ⟨h1, hb⟩ := hcs b ds hb
    obtain ⟨h2, hb'⟩ := hcs b' ds' hb'
    exact h.s.nodup b b' ds ds' k hb hb' ((hold b k h1).1 hr) ((hold b' k h2).1 hr')
  · intro b ds k hb hr o hpo
    obtain ⟨h1, hb⟩ := hcs b ds hb
    exact h.s.rnp b ds k hb ((hold b k h1).1 hr) o hpo
  · intro b hb
    have hb : b ∈ g.ρ ++ [w.heap.size] := hb
    rcases List.mem_append.1 hb with hb | hb
    · have := rho_lt h.s hb; simp; omega
    · simp at hb; subst hb; simp
  · intro b b' e1 e2 k hb hb' hr hr'
    rcases hget b _ hb with ⟨h1, hb⟩ | ⟨h1, _⟩ <;> rcases hget b' _ hb' with ⟨h2, hb'⟩ | ⟨h2, _⟩
    · exact h.s.ndm b b' e1 e2 k hb hb' ((hold b k h1).1 hr) ((hold b' k h2).1 hr')
    · obtain ⟨_, rfl⟩ := hlast b' k (by omega) hr'
      have := rho_lt h.s (List.mem_of_getElem? ((hold b _ h1).1 hr))
      omega
    · obtain ⟨_, rfl⟩ := hlast b k (by omega) hr
      have := rho_lt h.s (List.mem_of_getElem? ((hold b' _ h2).1 hr'))
      omega
    · omega

theorem insert_sound {tmps : Array Value} (h : St E n g w env tmps st) {t : TypeId} {m k x r : PV} {st' : Store} {vm vk vx : Value} (hp : pInsert P t m k x st = some (r, st')) (hm : R g w m vm) (hk : R g w k vk) (hx : R g w x vx) :
    ∃ w', (Instr.mapUpdate t vm vk vx).run P w = .ok () w' ∧ St E n g w' env tmps st' ∧ r = .tup [] := by
  unfold pInsert at hp
  split at hp
  · rename_i b key
    cases hm with
    | @mp _ blk hb =>
      cases hk with
      | s _ =>
        split at hp
        · rename_i es hst
          split at hp
          · rename_i hc
            obtain ⟨hc1, hc2, hc3⟩ := hc
            simp only [Option.some.injEq, Prod.mk.injEq] at hp
            obtain ⟨rfl, rfl⟩ := hp
            obtain ⟨e, he⟩ := Option.isSome_iff_exists.1 hc1
            obtain ⟨kt, hu, hks⟩ := tMapS_spec he
            obtain ⟨ms, q, h1, h2, h3⟩ := h.s.box b _ blk hst hb
            have hf := findNow_spec (g := g) (w := w) key es ms.toList 0 (by simpa using h2) (fun j p m hp hm => h3 j p m hp (by simpa using hm))
            rcases hf with ⟨_, hn⟩ | ⟨x, j, v, hp', _⟩
            · refine ⟨objSet w blk (.map (ms.push { key := .string key, val := vx, born := q }) (q + 1)), ?_, h.setMap hst hb h1 (by simp [h2]) fun i p m hp hm => ?_, rfl⟩
              · unfold Instr.mapUpdate
                have run0 : (Instr.findKey kt (.string key) ms.toList).run P w = .ok none w := by
                  unfold Instr.findKey
                  simp only [Sem.run_bind, run_underlying' hks, Result.andThen_ok, hn, Sem.run_pure]
                simp only [Sem.run_bind, run_underlying' hu, Result.andThen_ok, run_getMap h1, run_checkKey hks, run0, run_setMap h1]
              · rcases Nat.lt_or_ge i es.length with hi | hi
                · rw [List.getElem?_append_left hi] at hp
                  rw [Array.getElem?_push, if_neg (by omega)] at hm
                  exact h3 i p m hp hm
                · have hl := (List.getElem?_eq_some_iff.1 hp).1
                  simp at hl
                  have : i = ms.size := by omega
                  subst this
                  rw [List.getElem?_append_right hi] at hp
                  rw [Array.getElem?_push, if_pos rfl] at hm
                  simp [h2] at hp hm
                  subst hp
                  subst hm
                  exact ⟨rfl, hx, hc3⟩
            · rw [hp'] at hc2
              cases hc2
          · cases hp
        · cases hp
  · cases hp

end Go.Proofs.YtnjlkgmcoengnaaGreat.PE
