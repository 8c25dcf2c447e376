/-
  PE, part 3: a frame at work: its slots, its store, its memory; what a step of the world, a slot written, a slot that owns no more leave of it. Holds for every Program; no condition.
-/
import Derived.Test.YtnjlkgmcoengnaaGreatPf2
set_option linter.unusedSimpArgs false
set_option linter.unusedVariables false
namespace Go.Proofs.YtnjlkgmcoengnaaGreat.PE
open Go

/-- A cell of a box owns a row. -/
def OwnCell (g : Gh) (w : World) (st : Store) (b o blk : Nat) : Prop :=
  ∃ cs x rb v, st[b]? = some (.cells cs) ∧ cs[o]? = some x ∧ g.ρ[b]? = some rb ∧ w.cell? ⟨rb, o, none⟩ = some v ∧ owns x v blk

/-- What a map of strings is in memory. -/
def MapAt (g : Gh) (w : World) (blk : Nat) (es : List (ByteArray × PV)) : Prop :=
  ∃ (ms : Array MapEntry) (k : Nat), w.heap[blk]? = some (.map ms k) ∧ es.length = ms.size ∧
    ∀ (i : Nat) (p : ByteArray × PV) (m : MapEntry), es[i]? = some p → ms[i]? = some m → m.key = .string p.1 ∧ R g w p.2 m.val ∧ p.2.maxRef = 0

theorem MapAt.keep {g g' : Gh} {w w' : World} {T : Nat → Prop} {blk : Nat} {es : List (ByteArray × PV)} (h : MapAt g w blk es) (he : Evo g w g' w' T) (hb : w'.heap[blk]? = w.heap[blk]?) : MapAt g' w' blk es := by
  obtain ⟨ms, k, h1, h2, h3⟩ := h
  exact ⟨ms, k, hb.trans h1, h2, fun i p m hp hm => ⟨(h3 i p m hp hm).1, he.keepR (h3 i p m hp hm).2.1, (h3 i p m hp hm).2.2⟩⟩

theorem MapAt.lt {g : Gh} {w : World} {blk : Nat} {es : List (ByteArray × PV)} (h : MapAt g w blk es) : blk < w.heap.size := by
  obtain ⟨_, _, h, _⟩ := h
  exact block_lt h

/-- What a box is in memory. -/
def RBox (g : Gh) (w : World) (blk : Nat) : PBox → Prop
  | .cells cs => ∃ vs e, w.heap[blk]? = some (.cells vs e (0, 0)) ∧ cs.length ≤ vs.size ∧ ∀ (i : Nat) (c : PV) (v : Value), cs[i]? = some c → vs[i]? = some v → RT g w c v ∧ v.oneCell' = true
  | .map es => MapAt g w blk es
  | .dead => True

/-- The boxes below 'L' name none from 'L' on. -/
def Lev (L : Nat) (st : Store) : Prop := ∀ (b : Nat) (cs : List PV) (c : PV), b < L → st[b]? = some (.cells cs) → c ∈ cs → c.maxRef ≤ L

structure SInv (g : Gh) (w : World) (st : Store) : Prop where
  len : g.ρ.length = st.length
  box : ∀ (b : Nat) (bx : PBox) (blk : Nat), st[b]? = some bx → g.ρ[b]? = some blk → RBox g w blk bx
  nodup : ∀ (b b' : Nat) (cs cs' : List PV) (blk : Nat), st[b]? = some (.cells cs) → st[b']? = some (.cells cs') → g.ρ[b]? = some blk → g.ρ[b']? = some blk → b = b'
  rnp : ∀ (b : Nat) (cs : List PV) (blk : Nat), st[b]? = some (.cells cs) → g.ρ[b]? = some blk → ∀ o, ¬ g.prot blk o
  lt : ∀ b, b ∈ g.ρ → b < w.heap.size
  pex : ∀ b o, g.prot b o → b < w.heap.size
  own : ∀ b o b' o' blk, OwnCell g w st b o blk → OwnCell g w st b' o' blk → b = b' ∧ o = o'
  ndm : ∀ (b b' : Nat) (es es' : List (ByteArray × PV)) (blk : Nat), st[b]? = some (.map es) → st[b']? = some (.map es') → g.ρ[b]? = some blk → g.ρ[b']? = some blk → b = b'

/-- What a call began with. -/
structure Entry where
  g : Gh
  w : World
  st : Store

/-- The blocks that a call may turn. -/
def Wc (E : Entry) (blk : Nat) : Prop := blk ∈ E.g.ρ ∨ ∃ b o, OwnCell E.g E.w E.st b o blk

def slotOwns (env : Env) (tmps : Array Value) (t blk : Nat) : Prop := owns (lk env t) (tmps.getD t undef) blk

structure St (E : Entry) (n : Nat) (g : Gh) (w : World) (env : Env) (tmps : Array Value) (st : Store) : Prop where
  s : SInv g w st
  regs : ∀ t, RT g w (lk env t) (tmps.getD t undef)
  size : tmps.size = n
  own2 : ∀ t t' blk, slotOwns env tmps t blk → slotOwns env tmps t' blk → t = t'
  own3 : ∀ t b o blk, slotOwns env tmps t blk → ¬ OwnCell g w st b o blk
  base : E.st.length ≤ st.length
  evo : Evo E.g E.w g w (Wc E)
  in1 : ∀ t blk, slotOwns env tmps t blk → Wc E blk ∨ E.w.heap.size ≤ blk
  in2 : ∀ b o blk, OwnCell g w st b o blk → Wc E blk ∨ E.w.heap.size ≤ blk
  levs : ∀ L, L ≤ E.st.length → Lev L E.st → Lev L st

theorem OwnCell.at {g : Gh} {w : World} {st : Store} {b o blk : Nat} (h : OwnCell g w st b o blk) (hs : SInv g w st) : blk < w.heap.size ∧ blk ∉ g.ρ := by
  obtain ⟨cs, x, rb, v, hb, hx, hr, hv, ho⟩ := h
  obtain ⟨vs, e, hh, hsz, hc⟩ := hs.box b _ rb hb hr
  have hvs : vs[o]? = some v := by simpa [World.cell?, hh] using hv
  exact (hc o x v hx hvs).1.own_fresh ho

theorem rho_lt {g : Gh} {w : World} {st : Store} (hs : SInv g w st) {b : Nat} (hb : b ∈ g.ρ) : b < w.heap.size := hs.lt b hb

/-- The store through a step of the world that turns none of its rows. -/
theorem SInv.step {g g' : Gh} {w w' : World} {st : Store} {T : Nat → Prop} (hs : SInv g w st) (he : Evo g w g' w' T) (hr : g'.ρ = g.ρ)
    (hT : ∀ b, T b → b ∉ g.ρ) (hT' : ∀ b o blk, OwnCell g w st b o blk → ¬ T blk) (hp : ∀ b o, g'.prot b o → b < w'.heap.size) :
    SInv g' w' st ∧ ∀ b o blk, OwnCell g' w' st b o blk ↔ OwnCell g w st b o blk := by
  have cell : ∀ rb o, rb ∈ g.ρ → w'.cell? ⟨rb, o, none⟩ = w.cell? ⟨rb, o, none⟩ := fun rb o hrb => by
    simp [World.cell?, he.keep rb (rho_lt hs hrb) fun h => hT rb h hrb]
  have oc : ∀ b o blk, OwnCell g' w' st b o blk ↔ OwnCell g w st b o blk := by
    intro b o blk
    constructor
    · rintro ⟨cs, x, rb, v, hb, hx, hr', hv, ho⟩
      rw [hr] at hr'
      exact ⟨cs, x, rb, v, hb, hx, hr', by rw [← cell rb o (List.mem_of_getElem? hr')]; exact hv, ho⟩
    · rintro ⟨cs, x, rb, v, hb, hx, hr', hv, ho⟩
      exact ⟨cs, x, rb, v, hb, hx, by rw [hr]; exact hr', by rw [cell rb o (List.mem_of_getElem? hr')]; exact hv, ho⟩
  refine ⟨⟨by rw [hr]; exact hs.len, ?_, by rw [hr]; exact hs.nodup, ?_, fun b hb => by rw [hr] at hb; exact Nat.lt_of_lt_of_le (rho_lt hs hb) he.size, hp, ?_, by rw [hr]; exact hs.ndm⟩, oc⟩
  · intro b bx blk hb hblk
    rw [hr] at hblk
    have hbox := hs.box b bx blk hb hblk
    cases bx with
    | map es => exact hbox.keep he (he.keep blk hbox.lt fun h => hT blk h (List.mem_of_getElem? hblk))
    | dead => exact trivial
    | cells cs =>
      obtain ⟨vs, e, hh, hsz, hc⟩ := hbox
      have hmem := List.mem_of_getElem? hblk
      refine ⟨vs, e, by rw [he.keep blk (block_lt hh) fun h => hT blk h hmem]; exact hh, hsz, fun i c v hci hvi => ⟨he.keepRT (hc i c v hci hvi).1 fun k hk => ?_, (hc i c v hci hvi).2⟩⟩
      exact hT' b i k ⟨cs, c, blk, v, hb, hci, hblk, by simp [World.cell?, hh, hvi], hk⟩
  · intro b cs blk hb hblk o hpo
    rw [hr] at hblk
    have hmem := List.mem_of_getElem? hblk
    rcases he.protNew blk o hpo with h | h | h
    · exact hs.rnp b cs blk hb hblk o h
    · exact hT blk h hmem
    · exact absurd (rho_lt hs hmem) (by omega)
  · intro b o b' o' blk h h'
    exact hs.own b o b' o' blk ((oc b o blk).1 h) ((oc b' o' blk).1 h')

/-- The frame through such a step. -/
theorem St.step {E : Entry} {n : Nat} {g g' : Gh} {w w' : World} {env : Env} {tmps : Array Value} {st : Store} {T : Nat → Prop} (h : St E n g w env tmps st)
    (he : Evo g w g' w' T) (hr : g'.ρ = g.ρ) (hT : ∀ b, T b → b ∉ g.ρ ∧ (Wc E b ∨ E.w.heap.size ≤ b)) (hT' : ∀ b o blk, OwnCell g w st b o blk → ¬ T blk)
    (hT2 : ∀ t blk, slotOwns env tmps t blk → ¬ T blk) (hp : ∀ b o, g'.prot b o → b < w'.heap.size) : St E n g' w' env tmps st := by
  obtain ⟨hs', oc⟩ := h.s.step he hr (fun b hb => (hT b hb).1) hT' hp
  refine ⟨hs', fun t => he.keepRT (h.regs t) fun blk hb => hT2 t blk hb, h.size, h.own2, fun t b o blk ht ho => h.own3 t b o blk ht ((oc b o blk).1 ho), h.base, ?_, h.in1,
    fun b o blk ho => h.in2 b o blk ((oc b o blk).1 ho), h.levs⟩
  obtain ⟨l, hl, hlb⟩ := h.evo.rho
  refine ⟨⟨l, by rw [hr]; exact hl, hlb⟩, fun b o hb => he.prot b o (h.evo.prot b o hb), ?_, fun b o hb => by rw [he.cell b o (h.evo.prot b o hb)]; exact h.evo.cell b o hb,
    Nat.le_trans h.evo.size he.size, ?_, he.os.trans h.evo.os, he.tape.trans h.evo.tape, he.output.trans h.evo.output, h.evo.shape.trans he.shape⟩
  · intro b o hb
    rcases he.protNew b o hb with hx | hx | hx
    · exact h.evo.protNew b o hx
    · rcases (hT b hx).2 with hy | hy
      · exact .inr (.inl hy)
      · exact .inr (.inr hy)
    · exact .inr (.inr (Nat.le_trans h.evo.size hx))
  · intro b hb hw
    rw [he.keep b (Nat.lt_of_lt_of_le hb h.evo.size) fun hx => ?_, h.evo.keep b hb hw]
    rcases (hT b hx).2 with hy | hy
    · exact hw hy
    · omega

theorem lk_cons (t u : Nat) (x : PV) (env : Env) : lk ((t, x) :: env) u = if t = u then x else lk env u := rfl

theorem getD_set (tmps : Array Value) (d t : Nat) (v : Value) (hd : d < tmps.size) : (tmps.setIfInBounds d v).getD t undef = if d = t then v else tmps.getD t undef := by
  simp only [Array.getD_eq_getD_getElem?, Array.getElem?_setIfInBounds]
  by_cases h : d = t
  · subst h; simp [hd]
  · simp [h]

/-- A slot written. -/
theorem St.put {E : Entry} {n : Nat} {g : Gh} {w : World} {env : Env} {tmps : Array Value} {st : Store} (h : St E n g w env tmps st) {d : Nat} (hd : d < n) {x : PV} {v : Value}
    (hx : RT g w x v) (h1 : ∀ t blk, owns x v blk → t ≠ d → ¬ slotOwns env tmps t blk) (h2 : ∀ b o blk, owns x v blk → ¬ OwnCell g w st b o blk)
    (h3 : ∀ blk, owns x v blk → Wc E blk ∨ E.w.heap.size ≤ blk) : St E n g w ((d, x) :: env) (tmps.setIfInBounds d v) st := by
  have hsz : d < tmps.size := by rw [h.size]; exact hd
  have so : ∀ t blk, slotOwns ((d, x) :: env) (tmps.setIfInBounds d v) t blk → (t = d ∧ owns x v blk) ∨ (t ≠ d ∧ slotOwns env tmps t blk) := by
    intro t blk ht
    unfold slotOwns at ht
    rw [lk_cons, getD_set _ _ _ _ hsz] at ht
    by_cases hdt : d = t
    · rw [if_pos hdt, if_pos hdt] at ht; exact .inl ⟨hdt.symm, ht⟩
    · rw [if_neg hdt, if_neg hdt] at ht; exact .inr ⟨fun e => hdt e.symm, ht⟩
  refine ⟨h.s, fun t => ?_, by simp [h.size], ?_, ?_, h.base, h.evo, ?_, h.in2, h.levs⟩
  · rw [lk_cons, getD_set _ _ _ _ hsz]
    by_cases hdt : d = t
    · rw [if_pos hdt, if_pos hdt]; exact hx
    · rw [if_neg hdt, if_neg hdt]; exact h.regs t
  · intro t t' blk ht ht'
    rcases so t blk ht with ⟨e, a⟩ | ⟨e, a⟩ <;> rcases so t' blk ht' with ⟨e', a'⟩ | ⟨e', a'⟩
    · rw [e, e']
    · exact absurd a' (h1 t' blk a e')
    · exact absurd a (h1 t blk a' e)
    · exact h.own2 t t' blk a a'
  · intro t b o blk ht
    rcases so t blk ht with ⟨_, a⟩ | ⟨_, a⟩
    · exact h2 b o blk a
    · exact h.own3 t b o blk a
  · intro t blk ht
    rcases so t blk ht with ⟨_, a⟩ | ⟨_, a⟩
    · exact h3 blk a
    · exact h.in1 t blk a

/-- A slot written with a value that owns nothing. -/
theorem St.put0 {E : Entry} {n : Nat} {g : Gh} {w : World} {env : Env} {tmps : Array Value} {st : Store} (h : St E n g w env tmps st) {d : Nat} (hd : d < n) {x : PV} {v : Value}
    (hx : R g w x v) : St E n g w ((d, x) :: env) (tmps.setIfInBounds d v) st :=
  h.put hd (.of hx) (fun _ _ ho _ => (not_owns_of hx.not_ow ho).elim) (fun _ _ _ ho => (not_owns_of hx.not_ow ho).elim) (fun _ ho => (not_owns_of hx.not_ow ho).elim)

/-- A slot that owns no more. -/
theorem St.drop1 {E : Entry} {n : Nat} {g : Gh} {w : World} {env : Env} {tmps : Array Value} {st : Store} (h : St E n g w env tmps st) (x : Nat) :
    St E n g w ((x, (lk env x).dn) :: env) tmps st := by
  have so : ∀ t blk, slotOwns ((x, (lk env x).dn) :: env) tmps t blk → t ≠ x ∧ slotOwns env tmps t blk := by
    intro t blk ht
    unfold slotOwns at ht
    rw [lk_cons] at ht
    by_cases hxt : x = t
    · rw [if_pos hxt] at ht; exact (not_owns_dn ht).elim
    · rw [if_neg hxt] at ht; exact ⟨fun e => hxt e.symm, ht⟩
  refine ⟨h.s, fun t => ?_, h.size, fun t t' blk a a' => h.own2 t t' blk (so t blk a).2 (so t' blk a').2, fun t b o blk a => h.own3 t b o blk (so t blk a).2, h.base, h.evo,
    fun t blk a => h.in1 t blk (so t blk a).2, h.in2, h.levs⟩
  rw [lk_cons]
  by_cases hxt : x = t
  · rw [if_pos hxt]; subst hxt; exact .of (h.regs x).1
  · rw [if_neg hxt]; exact h.regs t

theorem St.drop {E : Entry} {n : Nat} {g : Gh} {w : World} {env : Env} {tmps : Array Value} {st : Store} (h : St E n g w env tmps st) (x : Option Nat) :
    St E n g w (drop env x) tmps st := by
  cases x with
  | none => exact h
  | some x =>
    show St E n g w (if (lk env x).isOw then _ else env) tmps st
    split
    · exact h.drop1 x
    · exact h

/-- Behind the drop a slot owns nothing that it was taken from. -/
theorem drop_slot {env : Env} {tmps : Array Value} {x t blk : Nat} (h : slotOwns (drop env (some x)) tmps t blk) : t ≠ x ∧ slotOwns env tmps t blk := by
  unfold slotOwns at h ⊢
  simp only [drop] at h
  split at h
  · rw [lk_cons] at h
    by_cases hxt : x = t
    · rw [if_pos hxt] at h; exact (not_owns_dn h).elim
    · rw [if_neg hxt] at h; exact ⟨fun e => hxt e.symm, h⟩
  · rename_i hx
    by_cases hxt : x = t
    · subst hxt; exact (not_owns_of (by simpa using hx) h).elim
    · exact ⟨fun e => hxt e.symm, h⟩

theorem lk_drop (env : Env) (x : Option Nat) (t : Nat) : (lk (drop env x) t).dn = (lk env t).dn := by
  cases x with
  | none => rfl
  | some x =>
    simp only [drop]
    split
    · rw [lk_cons]
      split
      · rename_i h; subst h; exact dn_dn _
      · rfl
    · rfl

theorem lk_restrict (keep : List Nat) (env : Env) (t : Nat) : lk (restrict keep env) t = if t ∈ keep then lk env t else .junk := by
  unfold restrict
  induction keep with
  | nil => simp [lk]
  | cons k r ih =>
    simp only [List.map_cons, lk_cons, ih, List.mem_cons]
    by_cases h : k = t
    · subst h; simp
    · have h' : ¬ t = k := fun e => h e.symm
      rw [if_neg h]; simp only [h', false_or]

/-- Slots forgotten. -/
theorem St.restrict {E : Entry} {n : Nat} {g : Gh} {w : World} {env : Env} {tmps : Array Value} {st : Store} (h : St E n g w env tmps st) (keep : List Nat) :
    St E n g w (restrict keep env) tmps st := by
  have so : ∀ t blk, slotOwns (PE.restrict keep env) tmps t blk → slotOwns env tmps t blk := by
    intro t blk ht
    unfold slotOwns at ht
    rw [lk_restrict] at ht
    split at ht
    · exact ht
    · exact (not_owns_of rfl ht).elim
  refine ⟨h.s, fun t => ?_, h.size, fun t t' blk a a' => h.own2 t t' blk (so t blk a) (so t' blk a'), fun t b o blk a => h.own3 t b o blk (so t blk a), h.base, h.evo,
    fun t blk a => h.in1 t blk (so t blk a), h.in2, h.levs⟩
  rw [lk_restrict]
  split
  · exact h.regs t
  · exact .of (.junk _)

/-- Slots that are told alike. -/
theorem St.congr {E : Entry} {n : Nat} {g : Gh} {w : World} {env env' : Env} {tmps : Array Value} {st : Store} (h : St E n g w env tmps st) (he : ∀ t, lk env' t = lk env t) :
    St E n g w env' tmps st := by
  have so : ∀ t blk, slotOwns env' tmps t blk → slotOwns env tmps t blk := by
    intro t blk ht
    unfold slotOwns at ht
    rw [he] at ht
    exact ht
  exact ⟨h.s, fun t => by rw [he]; exact h.regs t, h.size, fun t t' blk a a' => h.own2 t t' blk (so t blk a) (so t' blk a'), fun t b o blk a => h.own3 t b o blk (so t blk a), h.base, h.evo,
    fun t blk a => h.in1 t blk (so t blk a), h.in2, h.levs⟩

/-- What an operand stands for. -/
theorem St.ev {E : Entry} {n : Nat} {g : Gh} {w : World} {env : Env} {a : Act} {st : Store} (h : St E n g w env a.tmps st) (x : Operand) : RT g w (ev env x) (a.eval x) := by
  cases x with
  | tmp t => exact h.regs t
  | const v =>
    refine .of ?_
    show R g w (ofVal v) v
    unfold ofVal
    split
    · rename_i cs
      split
      · rename_i hall
        refine .agg (by simp) (noOw_map_cellOf _) ?_ ?_
        · intro i v hv
          exact List.all_eq_true.1 hall v (by rw [Array.mem_toList_iff]; exact Array.mem_of_getElem? hv)
        · intro i c v hc hv
          simp only [List.getElem?_map, Array.getElem?_toList, hv, Option.map_some, Option.some.injEq] at hc
          subst hc
          exact .ofCell g w v
      · exact .junk _
    · rename_i cs
      refine .tup (by simp) (noOw_map_cellOf _) ?_
      intro i c v hc hv
      simp only [List.getElem?_map, Array.getElem?_toList, hv, Option.map_some, Option.some.injEq] at hc
      subst hc
      exact .ofCell g w v
    · exact .ofCell g w _
  | global k => exact .of (.s _)
  | func f => exact .of (.fn rfl rfl rfl rfl (by simp) (by simp))

end Go.Proofs.YtnjlkgmcoengnaaGreat.PE
