/-
  PF, between parts 9 and 10: boxes that slices lie over: a new one, one that is named no more, one that nobody writes any more; append, copy, clear and make at work. Holds for every Program; no condition.
-/
import Derived.Test.YtnjlkgmcoengnaaGreatPf9
import Derived.Laws.MakeOwn
set_option linter.unusedSimpArgs false
set_option linter.unusedVariables false
namespace Go.Proofs.YtnjlkgmcoengnaaGreat.PE
open Go

/-- A box laid over a block that no live box, no slot and no cell holds. -/
theorem St.addBox {E : Entry} {n : Nat} {g : Gh} {w w' : World} {env : Env} {tmps : Array Value} {st : Store} {blk : Nat} {vs : Array Value} {e : TypeId} {cs : List PV} (h : St E n g w env tmps st)
    (hev : Evo g w g w' (fun k => k = blk)) (hlive : ∀ (b : Nat) (ds : List PV), st[b]? = some (.cells ds) → g.ρ[b]? ≠ some blk) (hmap : ∀ (ms : Array MapEntry) (q : Nat), w.heap[blk]? ≠ some (.map ms q)) (hprot : ∀ o, ¬ g.prot blk o)
    (hslot : ∀ t, ¬ slotOwns env tmps t blk) (hcell : ∀ b o, ¬ OwnCell g w st b o blk) (hlt : blk < w'.heap.size) (hWc : Wc E blk ∨ E.w.heap.size ≤ blk)
    (hheap : w'.heap[blk]? = some (.cells vs e (0, 0))) (hsz : cs.length ≤ vs.size) (hno : noOw cs = true)
    (hc : ∀ (i : Nat) (c : PV) (v : Value), cs[i]? = some c → vs[i]? = some v → R g w c v ∧ v.oneCell' = true) :
    St E n ⟨g.ρ ++ [blk], g.prot⟩ w' env tmps (st ++ [.cells cs]) := by
  have hev' : Evo g w ⟨g.ρ ++ [blk], g.prot⟩ w' (fun k => k = blk) :=
    ⟨⟨[blk], rfl, fun b hb => .inr (by simpa using hb)⟩, fun _ _ hx => hx, fun _ _ hx => .inl hx, hev.cell, hev.size, hev.keep, hev.os, hev.tape, hev.output, hev.shape⟩
  have hlen := h.s.len
  have hold : ∀ (b k : Nat), b < st.length → ((g.ρ ++ [blk])[b]? = some k ↔ g.ρ[b]? = some k) := by
    intro b k hb
    rw [List.getElem?_append_left (by omega)]
  have hlast : ∀ (b k : Nat), ¬ b < st.length → (g.ρ ++ [blk])[b]? = some k → b = st.length ∧ k = blk := by
    intro b k hb h1
    have hl := (List.getElem?_eq_some_iff.1 h1).1
    simp at hl
    rw [List.getElem?_append_right (by omega), show b - g.ρ.length = 0 by omega] at h1
    exact ⟨by omega, by simpa using h1.symm⟩
  have hget : ∀ (b : Nat) (bx : PBox), (st ++ [PBox.cells cs])[b]? = some bx → (b < st.length ∧ st[b]? = some bx) ∨ (b = st.length ∧ bx = .cells cs) := by
    intro b bx hb
    rcases Nat.lt_or_ge b st.length with hlt | hge
    · rw [List.getElem?_append_left hlt] at hb; exact .inl ⟨hlt, hb⟩
    · have hl := (List.getElem?_eq_some_iff.1 hb).1
      simp at hl
      rw [List.getElem?_append_right hge, show b - st.length = 0 by omega] at hb
      exact .inr ⟨by omega, by simpa using hb.symm⟩
  have oc : ∀ b o k, OwnCell ⟨g.ρ ++ [blk], g.prot⟩ w' (st ++ [.cells cs]) b o k → OwnCell g w st b o k := by
    rintro b o k ⟨cs', x, rb, v, hb, hx, hr, hv, ho⟩
    rcases hget b _ hb with ⟨hlt, hb⟩ | ⟨_, hb⟩
    · have hr := (hold b rb hlt).1 hr
      have hne : rb ≠ blk := fun he => hlive b cs' hb (he ▸ hr)
      refine ⟨cs', x, rb, v, hb, hx, hr, ?_, ho⟩
      rw [← hv]
      exact (cell_same (hev.keep rb (rho_lt h.s (List.mem_of_getElem? hr)) hne) o).symm
    · simp only [PBox.cells.injEq] at hb
      subst hb
      exact (not_owns_of (noOw_get hno hx) ho).elim
  refine ⟨⟨by simp [hlen], ?_, ?_, ?_, ?_, fun b o hb => Nat.lt_of_lt_of_le (h.s.pex b o hb) hev.size, fun b o b' o' k h1 h2 => h.s.own b o b' o' k (oc b o k h1) (oc b' o' k h2), newBox_ndm h.s (by rintro _ ⟨⟩)⟩,
    fun t => hev'.keepRT (h.regs t) fun k hk he => hslot t (he ▸ hk), h.size, h.own2, fun t b o k ht hx => h.own3 t b o k ht (oc b o k hx), by simp; have := h.base; omega,
    (h.evo.trans hev').mono fun b hb hx => ?_, h.in1, fun b o k hx => h.in2 b o k (oc b o k hx), ?_⟩
  · intro b bx k hb hk
    rcases hget b _ hb with ⟨hlt', hb⟩ | ⟨rfl, rfl⟩
    · have hk := (hold b k hlt').1 hk
      have hbox := h.s.box b bx k hb hk
      cases bx with
      | map es =>
        refine hbox.keep hev' (hev.keep k hbox.lt fun he => ?_)
        obtain ⟨ms, q, hm, _⟩ := hbox
        exact hmap ms q (he ▸ hm)
      | dead => exact trivial
      | cells ds =>
        have hne : k ≠ blk := fun he => hlive b ds hb (he ▸ hk)
        obtain ⟨us, e', hh, hsz', hcc⟩ := hbox
        refine ⟨us, e', by rw [hev.keep k (block_lt hh) hne]; exact hh, hsz', fun i c v hci hvi => ⟨hev'.keepRT (hcc i c v hci hvi).1 fun m hm he => ?_, (hcc i c v hci hvi).2⟩⟩
        exact hcell b i ⟨ds, c, k, v, hb, hci, hk, by simp [World.cell?, hh, hvi], he ▸ hm⟩
    · obtain ⟨_, rfl⟩ := hlast _ k (by omega) hk
      exact ⟨vs, e, hheap, hsz, fun i c v hci hvi => ⟨.of (hev'.keepR (hc i c v hci hvi).1), (hc i c v hci hvi).2⟩⟩
  · intro b b' ds ds' k hb hb' hr hr'
    have hr : (g.ρ ++ [blk])[b]? = some k := hr
    have hr' : (g.ρ ++ [blk])[b']? = some k := hr'
    rcases hget b _ hb with ⟨h1, hb⟩ | ⟨h1, hb⟩ <;> rcases hget b' _ hb' with ⟨h2, hb'⟩ | ⟨h2, hb'⟩
    · exact h.s.nodup b b' ds ds' k hb hb' ((hold b k h1).1 hr) ((hold b' k h2).1 hr')
    · obtain ⟨_, rfl⟩ := hlast b' k (by omega) hr'
      exact absurd ((hold b _ h1).1 hr) (hlive b ds hb)
    · obtain ⟨_, rfl⟩ := hlast b k (by omega) hr
      exact absurd ((hold b' _ h2).1 hr') (hlive b' ds' hb')
    · omega
  · intro b ds k hb hr o hpo
    have hr : (g.ρ ++ [blk])[b]? = some k := hr
    have hpo : g.prot k o := hpo
    rcases hget b _ hb with ⟨h1, hb⟩ | ⟨h1, hb⟩
    · exact h.s.rnp b ds k hb ((hold b k h1).1 hr) o hpo
    · obtain ⟨_, rfl⟩ := hlast b k (by omega) hr
      exact hprot o hpo
  · intro b hb
    have hb : b ∈ g.ρ ++ [blk] := hb
    rcases List.mem_append.1 hb with hb | hb
    · exact Nat.lt_of_lt_of_le (rho_lt h.s hb) hev.size
    · simp at hb; subst hb; exact hlt
  · rcases hx with hx | rfl
    · exact hx
    · rcases hWc with hx | hx
      · exact hx
      · omega
  · intro L hL h0 b ds c hb hcs hcc
    rcases hget b _ hcs with ⟨_, hcs⟩ | ⟨h1, _⟩
    · exact h.levs L hL h0 b ds c hb hcs hcc
    · have := h.base; omega

theorem dead_get {st : Store} {b k : Nat} {cs : List PV} (h : (st.set b .dead)[k]? = some (PBox.cells cs)) : k ≠ b ∧ st[k]? = some (PBox.cells cs) := by
  rcases set_get h with ⟨_, h⟩ | h
  · cases h
  · exact h

theorem dead_own {g : Gh} {w : World} {st : Store} {b b' o k : Nat} (h : OwnCell g w (st.set b .dead) b' o k) : OwnCell g w st b' o k := by
  obtain ⟨cs, x, rb, v, hb, hx, hr, hv, ho⟩ := h
  exact ⟨cs, x, rb, v, (dead_get hb).2, hx, hr, hv, ho⟩

/-- A box that is named no more. -/
theorem St.kill {E : Entry} {n : Nat} {g : Gh} {w : World} {env : Env} {tmps : Array Value} {st : Store} (h : St E n g w env tmps st) (b : Nat) : St E n g w env tmps (st.set b .dead) := by
  refine ⟨⟨by simp [h.s.len], ?_, fun b1 b2 c1 c2 k h1 h2 => h.s.nodup b1 b2 c1 c2 k (dead_get h1).2 (dead_get h2).2, fun b1 c1 k h1 => h.s.rnp b1 c1 k (dead_get h1).2, h.s.lt, h.s.pex,
    fun b1 o1 b2 o2 k h1 h2 => h.s.own b1 o1 b2 o2 k (dead_own h1) (dead_own h2), setBox_ndm h.s (by rintro _ ⟨⟩)⟩, h.regs, h.size, h.own2, fun t b' o k ht hx => h.own3 t b' o k ht (dead_own hx), by simp; exact h.base, h.evo, h.in1,
    fun b' o k hx => h.in2 b' o k (dead_own hx), fun L hL h0 b' ds c hb hcs hcc => h.levs L hL h0 b' ds c hb (dead_get hcs).2 hcc⟩
  intro b' bx k hb hk
  rcases set_get hb with ⟨rfl, rfl⟩ | ⟨_, hb⟩
  · exact trivial
  · exact h.s.box b' bx k hb hk

/-- A box that nobody writes any more. -/
theorem St.freeze {E : Entry} {n : Nat} {g : Gh} {w : World} {env : Env} {tmps : Array Value} {st : Store} {b blk : Nat} {cs : List PV} (h : St E n g w env tmps st) (hb : st[b]? = some (.cells cs)) (hr : g.ρ[b]? = some blk) :
    St E n ⟨g.ρ, fun k o => g.prot k o ∨ k = blk⟩ w env tmps (st.set b .dead) := by
  have hmem := List.mem_of_getElem? hr
  have hev : Evo g w ⟨g.ρ, fun k o => g.prot k o ∨ k = blk⟩ w (fun k => k = blk) :=
    ⟨⟨[], by simp, by simp⟩, fun _ _ hx => .inl hx, fun k o hx => hx.imp id .inl, fun _ _ _ => rfl, Nat.le_refl _, fun _ _ _ => rfl, rfl, rfl, rfl, .of_heap rfl⟩
  have hT : ∀ {c : PV} {u : Value}, RT g w c u → ∀ k, owns c u k → ¬ k = blk := fun hc k hk he => (hc.own_fresh hk).2 (he ▸ hmem)
  have oc : ∀ b' o k, OwnCell ⟨g.ρ, fun k o => g.prot k o ∨ k = blk⟩ w (st.set b .dead) b' o k → OwnCell g w st b' o k := by
    rintro b' o k ⟨cs, x, rb, v, hb, hx, hr, hv, ho⟩
    exact ⟨cs, x, rb, v, (dead_get hb).2, hx, hr, hv, ho⟩
  refine ⟨⟨by simp [h.s.len], ?_, fun b1 b2 c1 c2 k h1 h2 => h.s.nodup b1 b2 c1 c2 k (dead_get h1).2 (dead_get h2).2, ?_, h.s.lt, ?_,
    fun b1 o1 b2 o2 k h1 h2 => h.s.own b1 o1 b2 o2 k (oc b1 o1 k h1) (oc b2 o2 k h2), setBox_ndm (g := g) h.s (by rintro _ ⟨⟩)⟩, fun t => hev.keepRT (h.regs t) (hT (h.regs t)), h.size, h.own2, fun t b' o k ht hx => h.own3 t b' o k ht (oc b' o k hx), by simp; exact h.base,
    (h.evo.trans hev).mono fun k hk hx => ?_, h.in1, fun b' o k hx => h.in2 b' o k (oc b' o k hx), fun L hL h0 b' ds c hb hcs hcc => h.levs L hL h0 b' ds c hb (dead_get hcs).2 hcc⟩
  · intro b' bx k hb' hk
    rcases set_get hb' with ⟨rfl, rfl⟩ | ⟨_, hb'⟩
    · exact trivial
    · have hbox := h.s.box b' bx k hb' hk
      cases bx with
      | map es => exact hbox.keep hev rfl
      | dead => exact trivial
      | cells ds =>
        obtain ⟨us, e', hh, hsz', hcc⟩ := hbox
        exact ⟨us, e', hh, hsz', fun i c v hci hvi => ⟨hev.keepRT (hcc i c v hci hvi).1 (hT (hcc i c v hci hvi).1), (hcc i c v hci hvi).2⟩⟩
  · intro b' ds k hb' hk o hpo
    obtain ⟨hne, hb'⟩ := dead_get hb'
    rcases hpo with hpo | rfl
    · exact h.s.rnp b' ds k hb' hk o hpo
    · exact hne (h.s.nodup b' b ds cs k hb' hb hk hr)
  · rintro k o (hx | rfl)
    · exact h.s.pex k o hx
    · exact h.s.lt _ hmem
  · rcases hx with hx | rfl
    · exact hx
    · rcases Wc_up h (.inl hmem) with hy | hy
      · exact hy
      · omega

end Go.Proofs.YtnjlkgmcoengnaaGreat.PE
