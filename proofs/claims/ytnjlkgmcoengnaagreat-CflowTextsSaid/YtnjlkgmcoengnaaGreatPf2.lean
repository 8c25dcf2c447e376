/-
  PE, part 2: what it means that a pure value, a store of boxes and a frame's slots stand for what lies in the model's memory, and that this is kept while memory grows. Holds for every Program; no condition.
-/
import Derived.Test.YtnjlkgmcoengnaaGreatPf1
import Derived.Laws.AppendOwn
import Derived.Laws.Cells
import Derived.Laws.Sem
import Derived.Laws.World
set_option linter.unusedSimpArgs false
set_option linter.unusedVariables false
namespace Go.Proofs.YtnjlkgmcoengnaaGreat.PE
open Go

/-- What the reckoning adds to a world: where each box lies, and which cells are never written again. -/
structure Gh where
  ρ : List Nat
  prot : Nat → Nat → Prop

/-- 'v', in world 'w', is the pure value: none that owns its row. -/
inductive R (g : Gh) (w : World) : PV → Value → Prop where
  | junk (v : Value) : R g w .junk v
  | s (v : Value) : R g w (.s v) v
  | agg {cs : List PV} {vs : Array Value} (hl : cs.length = vs.size) (hw : noOw cs = true) (h1 : ∀ (i : Nat) (v : Value), vs[i]? = some v → v.oneCell' = true)
      (h : ∀ (i : Nat) (c : PV) (v : Value), cs[i]? = some c → vs[i]? = some v → R g w c v) : R g w (.agg cs) (.agg vs)
  | tup {cs : List PV} {vs : Array Value} (hl : cs.length = vs.size) (hw : noOw cs = true)
      (h : ∀ (i : Nat) (c : PV) (v : Value), cs[i]? = some c → vs[i]? = some v → R g w c v) : R g w (.tup cs) (.tuple vs)
  | nilsl : R g w .nilsl (.slice none 0 0)
  | sl {t : Tag} {sz : Nat} {els : List PV} {blk off cap : Nat} (V : Nat → Nat → Value) (ht : t ≠ .ow) (hn : els.length ≤ cap) (hm : cap ≤ maxLen)
      (hex : t = .ex → cap = els.length)
      (hwf : ∀ el, el ∈ els → el.cells.length = sz ∧ el.maxRef = 0 ∧ noOw el.cells = true)
      (hc : ∀ i j, i < els.length → j < sz → g.prot blk (off + i * sz + j) ∧ w.cell? ⟨blk, off + i * sz + j, none⟩ = some (V i j) ∧ (V i j).oneCell' = true)
      (hr : ∀ (i j : Nat) (el c : PV), els[i]? = some el → el.cells[j]? = some c → R g w c (V i j)) :
      R g w (.sl t sz els) (.slice (some ⟨blk, off, none⟩) els.length cap)
  | ptr {b off blk : Nat} (h : g.ρ[b]? = some blk) : R g w (.ptr b off) (.pointer (some ⟨blk, off, none⟩))
  | vs {b off off' n c cap sz blk : Nat} (h : g.ρ[b]? = some blk) (ha : 0 < c → off' = off) (hn : n ≤ c) (hc : c ≤ cap) (hm : cap ≤ maxLen)
      (hs : ∃ (vs : Array Value) (e : TypeId), w.heap[blk]? = some (.cells vs e (0, 0)) ∧ off' + cap * sz ≤ vs.size) : R g w (.vs b off n c sz) (.slice (some ⟨blk, off', none⟩) n cap)
  | ep {el : PV} {off blk o : Nat} (V : Nat → Value) (hm : el.maxRef = 0) (hw : noOw el.cells = true)
      (hc : ∀ j, j < el.cells.length → g.prot blk (o + j) ∧ w.cell? ⟨blk, o + j, none⟩ = some (V j) ∧ (V j).oneCell' = true)
      (hr : ∀ (j : Nat) (c : PV), el.cells[j]? = some c → R g w c (V j)) : R g w (.ep el off) (.pointer (some ⟨blk, o + off, none⟩))
  | fn {f : Fn} {fs cs : List PV} {fvs cvs : Array Value} (hl : fs.length = fvs.size) (hl' : cs.length = cvs.size) (hw : noOw fs = true) (hw' : noOw cs = true)
      (h : ∀ (i : Nat) (c : PV) (v : Value), fs[i]? = some c → fvs[i]? = some v → R g w c v) (h' : ∀ (i : Nat) (c : PV) (v : Value), cs[i]? = some c → cvs[i]? = some v → R g w c v) :
      R g w (.fn f fs cs) (.func f fvs cvs)
  | mp {b blk : Nat} (h : g.ρ[b]? = some blk) : R g w (.mp b) (.map (some blk))
  | ifc {t : TypeId} {x : PV} {v : Value} (hw : x.isOw = false) (h : R g w x v) : R g w (.ifc t x) (.iface t v)

/-- The row of 'n' elements that 'v' is, is written by none but who holds it. -/
def OwnOK (g : Gh) (w : World) (sz n : Nat) (v : Value) : Prop :=
  ∃ blk cap cur e, v = .slice (some ⟨blk, 0, none⟩) n cap ∧ w.heap[blk]? = some (.cells cur e (0, 0)) ∧ cur.size = cap * sz ∧ blk ∉ g.ρ ∧ ∀ o, n * sz ≤ o → ¬ g.prot blk o

/-- The relation at the top of a slot, or of a box's cell: a value that owns its row, too. -/
def RT (g : Gh) (w : World) (x : PV) (v : Value) : Prop :=
  R g w x.dn v ∧ ∀ sz els, x = .sl .ow sz els → OwnOK g w sz els.length v

/-- The row that a value owns. -/
def owns (x : PV) (v : Value) (blk : Nat) : Prop := x.isOw = true ∧ ∃ n cap, v = .slice (some ⟨blk, 0, none⟩) n cap

/-- A block of cells stays one, of so many. -/
def SameShape (w w' : World) : Prop := ∀ (b : Nat) (vs : Array Value) (e : TypeId) (fr : Nat × Nat), w.heap[b]? = some (.cells vs e fr) → ∃ vs' : Array Value, w'.heap[b]? = some (.cells vs' e fr) ∧ vs'.size = vs.size

theorem SameShape.of_heap {w w' : World} (h : w'.heap = w.heap) : SameShape w w' := fun b vs e fr hb => ⟨vs, by rw [h]; exact hb, rfl⟩
theorem SameShape.trans {a b c : World} (h : SameShape a b) (k : SameShape b c) : SameShape a c := fun i vs e fr hi => by
  obtain ⟨v1, h1, h2⟩ := h i vs e fr hi
  obtain ⟨v2, h3, h4⟩ := k i v1 e fr h1
  exact ⟨v2, h3, h4.trans h2⟩
theorem SameShape.of_old {w w' : World} (h : ∀ b, b < w.heap.size → w'.heap[b]? = w.heap[b]?) : SameShape w w' := fun b vs e fr hb => ⟨vs, by rw [h b (Array.getElem?_eq_some_iff.1 hb).1]; exact hb, rfl⟩
theorem SameShape.of_one {w w' : World} {blk : Nat} {old new : Array Value} {e : TypeId} {fr : Nat × Nat} (h : ∀ b, b ≠ blk → w'.heap[b]? = w.heap[b]?) (ho : w.heap[blk]? = some (.cells old e fr)) (hn : w'.heap[blk]? = some (.cells new e fr))
    (hs : new.size = old.size) : SameShape w w' := fun b vs e' fr' hb => by
  by_cases hx : b = blk
  · subst hx
    rw [ho] at hb
    simp only [Option.some.injEq, Obj.cells.injEq] at hb
    obtain ⟨rfl, rfl, rfl⟩ := hb
    exact ⟨new, hn, hs⟩
  · exact ⟨vs, by rw [h b hx]; exact hb, rfl⟩

/-- From one world to a later one: what is protected is as it was; of old blocks none has turned but those in 'T'. -/
structure Evo (g : Gh) (w : World) (g' : Gh) (w' : World) (T : Nat → Prop) : Prop where
  rho : ∃ l, g'.ρ = g.ρ ++ l ∧ ∀ b, b ∈ l → w.heap.size ≤ b ∨ T b
  prot : ∀ b o, g.prot b o → g'.prot b o
  protNew : ∀ b o, g'.prot b o → g.prot b o ∨ T b ∨ w.heap.size ≤ b
  cell : ∀ b o, g.prot b o → w'.cell? ⟨b, o, none⟩ = w.cell? ⟨b, o, none⟩
  size : w.heap.size ≤ w'.heap.size
  keep : ∀ b, b < w.heap.size → ¬ T b → w'.heap[b]? = w.heap[b]?
  os : w'.os = w.os
  tape : w'.tape = w.tape
  output : w'.output = w.output
  shape : SameShape w w'

theorem Evo.refl (g : Gh) (w : World) (T : Nat → Prop) : Evo g w g w T :=
  ⟨⟨[], by simp, by simp⟩, fun _ _ h => h, fun _ _ h => .inl h, fun _ _ _ => rfl, Nat.le_refl _, fun _ _ _ => rfl, rfl, rfl, rfl, .of_heap rfl⟩

theorem Evo.mono {g g' : Gh} {w w' : World} {T T' : Nat → Prop} (h : Evo g w g' w' T) (hT : ∀ b, b < w.heap.size → T b → T' b) : Evo g w g' w' T' :=
  ⟨by
    obtain ⟨l, hl, hlb⟩ := h.rho
    refine ⟨l, hl, fun b hb => ?_⟩
    rcases hlb b hb with h1 | h1
    · exact .inl h1
    · rcases Nat.lt_or_ge b w.heap.size with h2 | h2
      · exact .inr (hT b h2 h1)
      · exact .inl h2, h.prot, fun b o hp => by
    rcases h.protNew b o hp with h1 | h1 | h1
    · exact .inl h1
    · rcases Nat.lt_or_ge b w.heap.size with hb | hb
      · exact .inr (.inl (hT b hb h1))
      · exact .inr (.inr hb)
    · exact .inr (.inr h1), h.cell, h.size, fun b hb ht => h.keep b hb fun h1 => ht (hT b hb h1), h.os, h.tape, h.output, h.shape⟩

theorem Evo.trans {g g1 g2 : Gh} {w w1 w2 : World} {T T1 : Nat → Prop} (h : Evo g w g1 w1 T) (h1 : Evo g1 w1 g2 w2 T1) :
    Evo g w g2 w2 fun b => T b ∨ T1 b := by
  obtain ⟨l, hl, hlb⟩ := h.rho
  obtain ⟨l1, hl1, hlb1⟩ := h1.rho
  refine ⟨⟨l ++ l1, by rw [hl1, hl, List.append_assoc], ?_⟩, fun b o hp => h1.prot b o (h.prot b o hp), ?_, ?_, Nat.le_trans h.size h1.size, ?_, h1.os.trans h.os, h1.tape.trans h.tape, h1.output.trans h.output, h.shape.trans h1.shape⟩
  · intro b hb
    rcases List.mem_append.1 hb with hb | hb
    · exact (hlb b hb).imp id .inl
    · exact (hlb1 b hb).imp (Nat.le_trans h.size) .inr
  · intro b o hp
    rcases h1.protNew b o hp with hp | hp | hp
    · rcases h.protNew b o hp with hp | hp | hp
      · exact .inl hp
      · exact .inr (.inl (.inl hp))
      · exact .inr (.inr hp)
    · exact .inr (.inl (.inr hp))
    · exact .inr (.inr (Nat.le_trans h.size hp))
  · intro b o hp
    rw [h1.cell b o (h.prot b o hp), h.cell b o hp]
  · intro b hb ht
    rw [h1.keep b (Nat.lt_of_lt_of_le hb h.size) fun x => ht (.inr x), h.keep b hb fun x => ht (.inl x)]

theorem Evo.rho_get {g g' : Gh} {w w' : World} {T : Nat → Prop} (h : Evo g w g' w' T) {b blk : Nat} (hb : g.ρ[b]? = some blk) : g'.ρ[b]? = some blk := by
  obtain ⟨l, hl, _⟩ := h.rho
  rw [hl, List.getElem?_append_left (List.getElem?_eq_some_iff.1 hb).1, hb]

/-- What stands for a pure value goes on doing so. -/
theorem Evo.keepR {g g' : Gh} {w w' : World} {T : Nat → Prop} (h : Evo g w g' w' T) {x : PV} {v : Value} (hr : R g w x v) : R g' w' x v := by
  induction hr with
  | junk v => exact .junk v
  | s v => exact .s v
  | agg hl hw h1 _ ih => exact .agg hl hw h1 ih
  | tup hl hw _ ih => exact .tup hl hw ih
  | nilsl => exact .nilsl
  | sl V ht hn hm hex hwf hc _ ih =>
    exact .sl V ht hn hm hex hwf (fun i j hi hj => ⟨h.prot _ _ (hc i j hi hj).1, by rw [h.cell _ _ (hc i j hi hj).1]; exact (hc i j hi hj).2.1, (hc i j hi hj).2.2⟩) ih
  | ptr hb => exact .ptr (h.rho_get hb)
  | vs hb ha hn hc hm hs =>
    obtain ⟨vs, e, h1, h2⟩ := hs
    obtain ⟨vs', h3, h4⟩ := h.shape _ _ _ _ h1
    exact .vs (h.rho_get hb) ha hn hc hm ⟨vs', e, h3, by omega⟩
  | ep V hm hw hc _ ih => exact .ep V hm hw (fun j hj => ⟨h.prot _ _ (hc j hj).1, by rw [h.cell _ _ (hc j hj).1]; exact (hc j hj).2.1, (hc j hj).2.2⟩) ih
  | fn hl hl' hw hw' _ _ ih ih' => exact .fn hl hl' hw hw' ih ih'
  | mp hb => exact .mp (h.rho_get hb)
  | ifc hw _ ih => exact .ifc hw ih

theorem block_lt {w : World} {b : Nat} {o : Obj} (h : w.heap[b]? = some o) : b < w.heap.size := (Array.getElem?_eq_some_iff.1 h).1

theorem Evo.keepOwn {g g' : Gh} {w w' : World} {T : Nat → Prop} (h : Evo g w g' w' T) {sz n : Nat} {v : Value} (ho : OwnOK g w sz n v)
    (ht : ∀ blk m cap, v = .slice (some ⟨blk, 0, none⟩) m cap → ¬ T blk) : OwnOK g' w' sz n v := by
  obtain ⟨blk, cap, cur, e, rfl, hb, hs, hn, hp⟩ := ho
  have hlt := block_lt hb
  have hT := ht blk n cap rfl
  refine ⟨blk, cap, cur, e, rfl, by rw [h.keep blk hlt hT]; exact hb, hs, ?_, fun o ho hpo => ?_⟩
  · obtain ⟨l, hl, hlb⟩ := h.rho
    rw [hl, List.mem_append]
    rintro (hx | hx)
    · exact hn hx
    · rcases hlb blk hx with h1 | h1
      · omega
      · exact hT h1
  · rcases h.protNew blk o hpo with hx | hx | hx
    · exact hp o ho hx
    · exact hT hx
    · omega

theorem Evo.keepRT {g g' : Gh} {w w' : World} {T : Nat → Prop} (h : Evo g w g' w' T) {x : PV} {v : Value} (hr : RT g w x v)
    (ht : ∀ blk, owns x v blk → ¬ T blk) : RT g' w' x v :=
  ⟨h.keepR hr.1, fun sz els hx => h.keepOwn (hr.2 sz els hx) fun blk m cap hv => ht blk ⟨by rw [hx]; rfl, m, cap, hv⟩⟩

theorem dn_dn (x : PV) : x.dn.dn = x.dn := by
  unfold PV.dn
  split <;> first | rfl | (rename_i h; split <;> simp_all)

theorem dn_of_not {x : PV} (h : x.isOw = false) : x.dn = x := by
  unfold PV.dn
  split
  · simp [PV.isOw] at h
  · rfl

theorem isOw_dn (x : PV) : x.dn.isOw = false := by
  unfold PV.dn
  split
  · rfl
  · rename_i h
    unfold PV.isOw
    split
    · rename_i sz els; exact absurd rfl (h sz els)
    · rfl

theorem isOw_iff {x : PV} : x.isOw = true ↔ ∃ sz els, x = .sl .ow sz els := by
  constructor
  · intro h
    unfold PV.isOw at h
    split at h
    · exact ⟨_, _, rfl⟩
    · cases h
  · rintro ⟨sz, els, rfl⟩; rfl

theorem R.not_ow {g : Gh} {w : World} {x : PV} {v : Value} (h : R g w x v) : x.isOw = false := by
  cases h <;> first | rfl | skip
  rename_i ht hn hm hex hwf hc hr
  cases hx : PV.isOw _ with
  | false => rfl
  | true =>
    obtain ⟨_, _, h⟩ := isOw_iff.1 hx
    simp at h
    exact absurd h.1 ht

theorem RT.of {g : Gh} {w : World} {x : PV} {v : Value} (h : R g w x v) : RT g w x v :=
  ⟨by rw [dn_of_not h.not_ow]; exact h, fun sz els hx => by have := h.not_ow; rw [hx] at this; cases this⟩

theorem RT.toDn {g : Gh} {w : World} {x : PV} {v : Value} (h : RT g w x v) : R g w x.dn v := h.1

theorem RT.toR {g : Gh} {w : World} {x : PV} {v : Value} (h : RT g w x v) (hx : x.isOw = false) : R g w x v := by
  have := h.1
  rwa [dn_of_not hx] at this

theorem not_owns_dn {x : PV} {v : Value} {blk : Nat} : ¬ owns x.dn v blk := by
  rintro ⟨h, _⟩
  rw [isOw_dn] at h
  cases h

theorem not_owns_of {x : PV} (hx : x.isOw = false) {v : Value} {blk : Nat} : ¬ owns x v blk := by
  rintro ⟨h, _⟩
  rw [hx] at h
  cases h

theorem RT.own_fresh {g : Gh} {w : World} {x : PV} {v : Value} (h : RT g w x v) {blk : Nat} (ho : owns x v blk) : blk < w.heap.size ∧ blk ∉ g.ρ := by
  obtain ⟨hx, n, cap, rfl⟩ := ho
  obtain ⟨sz, els, rfl⟩ := isOw_iff.1 hx
  obtain ⟨b, c, cur, e, hv, hb, _, hn, _⟩ := h.2 sz els rfl
  simp at hv
  obtain ⟨rfl, _⟩ := hv
  exact ⟨block_lt hb, hn⟩

/-- Boxes that a value names are there. -/
theorem R.maxRef_le {g : Gh} {w : World} {x : PV} {v : Value} (h : R g w x v) : x.maxRef ≤ g.ρ.length := by
  have lists : ∀ (cs : List PV), (∀ (i : Nat) (c : PV), cs[i]? = some c → c.maxRef ≤ g.ρ.length) → PV.maxRefs cs ≤ g.ρ.length := by
    intro cs
    induction cs with
    | nil => intro _; simp [PV.maxRefs]
    | cons c r ih =>
      intro hh
      simp only [PV.maxRefs]
      have h0 := hh 0 c rfl
      have h1 := ih fun i d hd => hh (i + 1) d hd
      omega
  have some_of : ∀ {cs : List PV} {vs : Array Value}, cs.length = vs.size → ∀ (i : Nat) (c : PV), cs[i]? = some c → ∃ v, vs[i]? = some v := by
    intro cs vs hl i c hc
    have := (List.getElem?_eq_some_iff.1 hc).1
    exact ⟨vs[i], by rw [Array.getElem?_eq_getElem (by omega)]⟩
  induction h with
  | junk | s | nilsl | sl => simp [PV.maxRef]
  | agg hl _ _ _ ih => simp only [PV.maxRef]; exact lists _ fun i c hc => (some_of hl i c hc).elim fun v hv => ih i c v hc hv
  | tup hl _ _ ih => simp only [PV.maxRef]; exact lists _ fun i c hc => (some_of hl i c hc).elim fun v hv => ih i c v hc hv
  | ptr hb => simp only [PV.maxRef]; exact (List.getElem?_eq_some_iff.1 hb).1
  | vs hb => simp only [PV.maxRef]; exact (List.getElem?_eq_some_iff.1 hb).1
  | mp hb => simp only [PV.maxRef]; exact (List.getElem?_eq_some_iff.1 hb).1
  | ep => simp [PV.maxRef]
  | fn hl hl' _ _ _ _ ih ih' =>
    simp only [PV.maxRef]
    exact Nat.max_le.2 ⟨lists _ fun i c hc => (some_of hl i c hc).elim fun v hv => ih i c v hc hv, lists _ fun i c hc => (some_of hl' i c hc).elim fun v hv => ih' i c v hc hv⟩
  | ifc _ _ ih => simpa [PV.maxRef] using ih

theorem maxRefs_mem {cs : List PV} {i : Nat} {c : PV} (h : cs[i]? = some c) : c.maxRef ≤ PV.maxRefs cs := by
  induction cs generalizing i with
  | nil => simp at h
  | cons d r ih =>
    simp only [PV.maxRefs]
    cases i with
    | zero => simp at h; subst h; exact Nat.le_max_left _ _
    | succ i => exact Nat.le_trans (ih (i := i) (by simpa using h)) (Nat.le_max_right _ _)

theorem maxRefs_le {cs : List PV} {n : Nat} (h : ∀ (i : Nat) (c : PV), cs[i]? = some c → c.maxRef ≤ n) : PV.maxRefs cs ≤ n := by
  induction cs with
  | nil => simp [PV.maxRefs]
  | cons c r ih =>
    simp only [PV.maxRefs]
    have h0 := h 0 c rfl
    have h1 := ih fun i d hd => h (i + 1) d hd
    omega

theorem cells_maxRef {el : PV} {j : Nat} {c : PV} (h : el.cells[j]? = some c) : c.maxRef ≤ el.maxRef := by
  cases el with
  | agg cs => simp only [PV.cells] at h; simp only [PV.maxRef]; exact maxRefs_mem h
  | junk => simp [PV.cells] at h
  | tup cs => simp [PV.cells] at h
  | s v =>
    simp only [PV.cells] at h
    split at h
    · cases j with
      | zero => simp at h; subst h; exact Nat.le_refl _
      | succ j => simp at h
    · simp at h
  | _ =>
    simp only [PV.cells] at h
    cases j with
    | zero => simp at h; subst h; exact Nat.le_refl _
    | succ j => simp at h

/-- A value that names no box above 'n' stands as well where only 'n' boxes are. -/
theorem R.cut {g : Gh} {w : World} {x : PV} {v : Value} (h : R g w x v) (n : Nat) (hn : x.maxRef ≤ n) : R ⟨g.ρ.take n, g.prot⟩ w x v := by
  induction h with
  | junk v => exact .junk v
  | s v => exact .s v
  | nilsl => exact .nilsl
  | agg hl hw h1 _ ih => exact .agg hl hw h1 fun i c v hc hv => ih i c v hc hv (Nat.le_trans (maxRefs_mem hc) hn)
  | tup hl hw _ ih => exact .tup hl hw fun i c v hc hv => ih i c v hc hv (Nat.le_trans (maxRefs_mem hc) hn)
  | sl V ht hnn hm hex hwf hc _ ih =>
    refine .sl V ht hnn hm hex hwf hc fun i j el c hel hcc => ih i j el c hel hcc ?_
    have hw := hwf el (List.mem_of_getElem? hel)
    have := cells_maxRef hcc
    omega
  | ptr hb => simp only [PV.maxRef] at hn; exact .ptr (by rw [List.getElem?_take, if_pos (by omega)]; exact hb)
  | vs hb h0 h1 h2 h3 h4 => simp only [PV.maxRef] at hn; exact .vs (by rw [List.getElem?_take, if_pos (by omega)]; exact hb) h0 h1 h2 h3 h4
  | mp hb => simp only [PV.maxRef] at hn; exact .mp (by rw [List.getElem?_take, if_pos (by omega)]; exact hb)
  | @ep el off blk o V hm hw hc _ ih =>
    refine .ep V hm hw hc fun j c hcc => ih j c hcc ?_
    have := cells_maxRef hcc
    omega
  | fn hl hl' hw hw' _ _ ih ih' =>
    simp only [PV.maxRef] at hn
    exact .fn hl hl' hw hw' (fun i c v hc hv => ih i c v hc hv (Nat.le_trans (maxRefs_mem hc) (by omega))) (fun i c v hc hv => ih' i c v hc hv (Nat.le_trans (maxRefs_mem hc) (by omega)))
  | ifc hw _ ih => exact .ifc hw (ih (by simpa [PV.maxRef] using hn))

/-- More boxes, more protected: still the same value. -/
theorem R.grow {g g' : Gh} {w : World} (hr : ∃ l, g'.ρ = g.ρ ++ l) (hp : ∀ b o, g.prot b o → g'.prot b o) {x : PV} {v : Value} (h : R g w x v) : R g' w x v := by
  have get : ∀ {b blk : Nat}, g.ρ[b]? = some blk → g'.ρ[b]? = some blk := by
    intro b blk hb
    obtain ⟨l, hl⟩ := hr
    rw [hl, List.getElem?_append_left (List.getElem?_eq_some_iff.1 hb).1, hb]
  induction h with
  | junk v => exact .junk v
  | s v => exact .s v
  | agg hl hw h1 _ ih => exact .agg hl hw h1 ih
  | tup hl hw _ ih => exact .tup hl hw ih
  | nilsl => exact .nilsl
  | sl V ht hn hm hex hwf hc _ ih => exact .sl V ht hn hm hex hwf (fun i j hi hj => ⟨hp _ _ (hc i j hi hj).1, (hc i j hi hj).2⟩) ih
  | ptr hb => exact .ptr (get hb)
  | vs hb h0 h1 h2 h3 h4 => exact .vs (get hb) h0 h1 h2 h3 h4
  | ep V hm hw hc _ ih => exact .ep V hm hw (fun j hj => ⟨hp _ _ (hc j hj).1, (hc j hj).2⟩) ih
  | fn hl hl' hw hw' _ _ ih ih' => exact .fn hl hl' hw hw' ih ih'
  | mp hb => exact .mp (get hb)
  | ifc hw _ ih => exact .ifc hw ih

/-- A constant of the text stands for itself. -/
theorem R.ofCell (g : Gh) (w : World) (v : Value) : R g w (cellOf v) v := by
  unfold cellOf
  split
  · exact .nilsl
  · exact .s _

theorem cellOf_not_ow (v : Value) : (cellOf v).isOw = false := by
  unfold cellOf
  split <;> rfl

theorem noOw_map_cellOf (l : List Value) : noOw (l.map cellOf) = true := by
  simp [noOw, cellOf_not_ow]

theorem noOw_get {l : List PV} (h : noOw l = true) {i : Nat} {c : PV} (hc : l[i]? = some c) : c.isOw = false := by
  have := List.all_eq_true.1 h c (List.mem_of_getElem? hc)
  simpa using this

theorem noOw_of {l : List PV} (h : ∀ c, c ∈ l → c.isOw = false) : noOw l = true := by
  simp only [noOw, List.all_eq_true]
  intro c hc
  simp [h c hc]

end Go.Proofs.YtnjlkgmcoengnaaGreat.PE
