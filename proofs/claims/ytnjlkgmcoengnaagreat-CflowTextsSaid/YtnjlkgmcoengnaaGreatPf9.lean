/-
  PE, part 9: loads, stores, new variables and calls at work in a frame; any operation. Holds for every Program; no condition.
-/
import Derived.Test.YtnjlkgmcoengnaaGreatPf8
set_option linter.unusedSimpArgs false
set_option linter.unusedVariables false
namespace Go.Proofs.YtnjlkgmcoengnaaGreat.PE
open Go

theorem maxRef_dn (x : PV) : x.dn.maxRef = x.maxRef := by
  unfold PV.dn
  split
  · simp [PV.maxRef]
  · rfl

theorem SInv.lev {g : Gh} {w : World} {st : Store} (h : SInv g w st) : Lev st.length st := by
  intro b cs c hb hcs hc
  have hbr : b < g.ρ.length := by rw [h.len]; exact hb
  obtain ⟨vs, e, hh, hsz, hcell⟩ := h.box b _ g.ρ[b] hcs (List.getElem?_eq_getElem hbr)
  obtain ⟨i, hi, rfl⟩ := List.mem_iff_getElem.1 hc
  have hi' : i < vs.size := by omega
  have := (hcell i cs[i] vs[i] (List.getElem?_eq_getElem hi) (Array.getElem?_eq_getElem hi')).1.1.maxRef_le
  rw [maxRef_dn, h.len] at this
  exact this

/-- What a call leaves. -/
structure CallPost (g : Gh) (w : World) (st : Store) (r : PV) (st' : Store) (g' : Gh) (w' : World) (v : Value) : Prop where
  evo : Evo g w g' w' (Wc ⟨g, w, st⟩)
  s : SInv g' w' st'
  levs : ∀ L, L ≤ st.length → Lev L st → Lev L st'
  base : st.length ≤ st'.length
  res : RT g' w' r v
  own : ∀ blk, owns r v blk → (Wc ⟨g, w, st⟩ blk ∨ w.heap.size ≤ blk) ∧ ∀ b o, ¬ OwnCell g' w' st' b o blk
  in2 : ∀ b o blk, OwnCell g' w' st' b o blk → Wc ⟨g, w, st⟩ blk ∨ w.heap.size ≤ blk

/-- What the evaluator says of calls is so. -/
def CallSound (P : Program) (call : CallF) : Prop :=
  ∀ f args st r st', call f args st = some (r, st') → ∀ (g : Gh) (w : World) (vs : Array Value), SInv g w st → args.length = vs.size →
    (∀ (i : Nat) (c : PV) (v : Value), args[i]? = some c → vs[i]? = some v → R g w c v) →
    Calls P f vs w fun e w' => ∃ v g', e = .returned v ∧ CallPost g w st r st' g' w' v

theorem Wc_up {E : Entry} {n : Nat} {g : Gh} {w : World} {env : Env} {tmps : Array Value} {st : Store} (h : St E n g w env tmps st) {blk : Nat} (hb : Wc ⟨g, w, st⟩ blk) :
    Wc E blk ∨ E.w.heap.size ≤ blk := by
  rcases hb with hb | ⟨b, o, hb⟩
  · obtain ⟨l, hl, hlb⟩ := h.evo.rho
    simp only at hb
    rw [hl, List.mem_append] at hb
    rcases hb with hb | hb
    · exact .inl (.inl hb)
    · exact (hlb blk hb).symm
  · exact h.in2 b o blk hb

theorem slot_not_Wc {E : Entry} {n : Nat} {g : Gh} {w : World} {env : Env} {tmps : Array Value} {st : Store} (h : St E n g w env tmps st) {t blk : Nat} (ht : slotOwns env tmps t blk) :
    ¬ Wc ⟨g, w, st⟩ blk := by
  rintro (hb | ⟨b, o, hb⟩)
  · exact ((h.regs t).own_fresh ht).2 hb
  · exact h.own3 t b o blk ht hb

/-- A frame behind a call that its function made. -/
theorem St.call {E : Entry} {n : Nat} {g g' : Gh} {w w' : World} {env : Env} {a : Act} {st st' : Store} {r : PV} {v : Value} {dst : Option Nat} (h : St E n g w env a.tmps st)
    (hp : CallPost g w st r st' g' w' v) (hd : dstOk n dst = true) : St E n g' w' (PE.put env dst r) (a.put dst v).tmps st' := by
  have h1 : St E n g' w' env a.tmps st' := by
    refine ⟨hp.s, fun t => hp.evo.keepRT (h.regs t) fun blk hb => slot_not_Wc h hb, h.size, h.own2, ?_, Nat.le_trans h.base hp.base, ?_, h.in1, ?_, fun L hL h0 => hp.levs L (Nat.le_trans hL h.base) (h.levs L hL h0)⟩
    · intro t b o blk ht hc
      rcases hp.in2 b o blk hc with hx | hx
      · exact slot_not_Wc h ht hx
      · exact absurd ((h.regs t).own_fresh ht).1 (by omega)
    · refine (h.evo.trans hp.evo).mono fun b hb ht => ?_
      rcases ht with ht | ht
      · exact ht
      · rcases Wc_up h ht with hx | hx
        · exact hx
        · omega
    · intro b o blk hc
      rcases hp.in2 b o blk hc with hx | hx
      · exact Wc_up h hx
      · exact .inr (Nat.le_trans h.evo.size hx)
  cases dst with
  | none => exact h1
  | some d =>
    simp only [dstOk, decide_eq_true_eq] at hd
    refine h1.put hd hp.res (fun t blk hb _ ht => ?_) (fun b o blk hb hc => (hp.own blk hb).2 b o hc) fun blk hb => ?_
    · rcases (hp.own blk hb).1 with hx | hx
      · exact slot_not_Wc h ht hx
      · exact absurd ((h.regs t).own_fresh ht).1 (by omega)
    · rcases (hp.own blk hb).1 with hx | hx
      · exact Wc_up h hx
      · exact .inr (Nat.le_trans h.evo.size hx)

theorem newBox_ndm {g : Gh} {w : World} {st : Store} {bx : PBox} {blk : Nat} (hs : SInv g w st) (hn : ∀ es, bx ≠ .map es) :
    ∀ (b b' : Nat) (es es' : List (ByteArray × PV)) (k : Nat), (st ++ [bx])[b]? = some (.map es) → (st ++ [bx])[b']? = some (.map es') → (g.ρ ++ [blk])[b]? = some k → (g.ρ ++ [blk])[b']? = some k → b = b' := by
  have old : ∀ (b : Nat) (es : List (ByteArray × PV)) (k : Nat), (st ++ [bx])[b]? = some (.map es) → (g.ρ ++ [blk])[b]? = some k → st[b]? = some (.map es) ∧ g.ρ[b]? = some k := by
    intro b es k h1 h2
    have hl := hs.len
    rcases Nat.lt_or_ge b st.length with h | h
    · rw [List.getElem?_append_left h] at h1
      rw [List.getElem?_append_left (by omega)] at h2
      exact ⟨h1, h2⟩
    · rw [List.getElem?_append_right h] at h1
      cases hq : b - st.length with
      | zero => rw [hq] at h1; simp at h1; exact absurd h1 (hn es)
      | succ q => rw [hq] at h1; simp at h1
  intro b b' es es' k h1 h2 h3 h4
  obtain ⟨h1, h3⟩ := old b es k h1 h3
  obtain ⟨h2, h4⟩ := old b' es' k h2 h4
  exact hs.ndm b b' es es' k h1 h2 h3 h4

/-- A new box. -/
theorem St.newBox {E : Entry} {n : Nat} {g : Gh} {w : World} {env : Env} {a : Act} {st : Store} {cs : List PV} {vs : Array Value} {e : TypeId} {dst : Option Nat} (h : St E n g w env a.tmps st)
    (hc : RCs g w cs vs.toList) (hd : dstOk n dst = true) :
    St E n ⟨g.ρ ++ [w.heap.size], g.prot⟩ (w.alloc (.cells vs e)) (PE.put env dst (.ptr st.length 0)) (a.put dst (.pointer (some ⟨w.heap.size, 0, none⟩))).tmps (st ++ [.cells cs]) := by
  have hev : Evo g w ⟨g.ρ ++ [w.heap.size], g.prot⟩ (w.alloc (.cells vs e)) (fun _ => False) := by
    refine ⟨⟨[w.heap.size], rfl, fun b hb => .inl (by simp at hb; omega)⟩, fun _ _ hx => hx, fun _ _ hx => .inl hx, fun b o hb => cell_same (alloc_old w _ b (h.s.pex b o hb)) o, by simp, fun b hb _ => alloc_old w _ b hb, rfl, rfl, rfl, .of_old fun b hb => alloc_old w _ b hb⟩
  have hlen := h.s.len
  have hold : ∀ (b blk : Nat), b < st.length → ((g.ρ ++ [w.heap.size])[b]? = some blk ↔ g.ρ[b]? = some blk) := by
    intro b blk hb
    rw [List.getElem?_append_left (by omega)]
  have hnow := hc.noOw
  have oc : ∀ b o blk, OwnCell ⟨g.ρ ++ [w.heap.size], g.prot⟩ (w.alloc (.cells vs e)) (st ++ [.cells cs]) b o blk → OwnCell g w st b o blk := by
    rintro b o blk ⟨cs', x, rb, v, hb, hx, hr, hv, ho⟩
    rcases Nat.lt_or_ge b st.length with hlt | hge
    · rw [List.getElem?_append_left hlt] at hb
      rw [hold b rb hlt] at hr
      refine ⟨cs', x, rb, v, hb, hx, hr, ?_, ho⟩
      rw [← hv]
      exact (cell_same (alloc_old w _ rb (rho_lt h.s (List.mem_of_getElem? hr))) o).symm
    · rw [List.getElem?_append_right hge] at hb
      have : b - st.length = 0 := by
        rcases Nat.eq_zero_or_pos (b - st.length) with h0 | h0
        · exact h0
        · rw [List.getElem?_eq_none (by simp; omega)] at hb; cases hb
      rw [this] at hb
      simp only [List.getElem?_cons_zero, Option.some.injEq, PBox.cells.injEq] at hb
      subst hb
      exact (not_owns_of (noOw_get hnow hx) ho).elim
  have h1 : St E n ⟨g.ρ ++ [w.heap.size], g.prot⟩ (w.alloc (.cells vs e)) env a.tmps (st ++ [.cells cs]) := by
    refine ⟨⟨by simp [hlen], ?_, ?_, ?_, ?_, fun b o hb => by have := h.s.pex b o hb; simp; omega, fun b o b' o' blk h1 h2 => h.s.own b o b' o' blk (oc b o blk h1) (oc b' o' blk h2), newBox_ndm h.s (by rintro _ ⟨⟩)⟩,
      fun t => hev.keepRT (h.regs t) fun _ _ hx => hx, h.size, h.own2, fun t b o blk ht hx => h.own3 t b o blk ht (oc b o blk hx), by simp; have := h.base; omega,
      (h.evo.trans hev).mono fun b _ hx => hx.elim id False.elim, h.in1, fun b o blk hx => h.in2 b o blk (oc b o blk hx), ?_⟩
    · intro b bx blk hb hblk
      rcases Nat.lt_or_ge b st.length with hlt | hge
      · rw [List.getElem?_append_left hlt] at hb
        have hblk : g.ρ[b]? = some blk := (hold b blk hlt).1 hblk
        have hbox := h.s.box b bx blk hb hblk
        cases bx with
        | map es => exact hbox.keep hev (alloc_old w _ blk hbox.lt)
        | dead => exact trivial
        | cells ds =>
          obtain ⟨us, e', hh, hsz, hcell⟩ := hbox
          exact ⟨us, e', by rw [alloc_old w _ blk (block_lt hh)]; exact hh, hsz, fun i c v hci hvi => ⟨hev.keepRT (hcell i c v hci hvi).1 fun _ _ hx => hx, (hcell i c v hci hvi).2⟩⟩
      · rw [List.getElem?_append_right hge] at hb
        have : b - st.length = 0 := by
          rcases Nat.eq_zero_or_pos (b - st.length) with h0 | h0
          · exact h0
          · rw [List.getElem?_eq_none (by simp; omega)] at hb; cases hb
        rw [this] at hb
        simp only [List.getElem?_cons_zero, Option.some.injEq] at hb
        subst hb
        have hblk' : blk = w.heap.size := by
          have hb' : (g.ρ ++ [w.heap.size])[b]? = some blk := hblk
          rw [List.getElem?_append_right (by omega), show b - g.ρ.length = 0 by omega] at hb'
          simpa using hb'.symm
        subst hblk'
        exact ⟨vs, e, alloc_new w _, by have := hc.1; simp at this; omega, fun i c v hci hvi => ⟨.of (hev.keepR (hc.2 i c v hci (by simpa using hvi)).1), (hc.2 i c v hci (by simpa using hvi)).2⟩⟩
    · intro b b' ds ds' blk hb hb' hr hr'
      have hr : (g.ρ ++ [w.heap.size])[b]? = some blk := hr
      have hr' : (g.ρ ++ [w.heap.size])[b']? = some blk := hr'
      have lt1 : b < st.length + 1 := by have := (List.getElem?_eq_some_iff.1 hr).1; simp at this; omega
      have lt2 : b' < st.length + 1 := by have := (List.getElem?_eq_some_iff.1 hr').1; simp at this; omega
      have fresh : ∀ k, k < st.length → (g.ρ ++ [w.heap.size])[k]? = some blk → blk < w.heap.size := fun k hk h1 => rho_lt h.s (List.mem_of_getElem? ((hold k blk hk).1 h1))
      have last : ∀ k, ¬ k < st.length → k < st.length + 1 → (g.ρ ++ [w.heap.size])[k]? = some blk → blk = w.heap.size := fun k hk hk' h1 => by
        rw [List.getElem?_append_right (by omega), show k - g.ρ.length = 0 by omega] at h1
        simpa using h1.symm
      by_cases h1 : b < st.length <;> by_cases h2 : b' < st.length
      · rw [List.getElem?_append_left h1] at hb
        rw [List.getElem?_append_left h2] at hb'
        exact h.s.nodup b b' ds ds' blk hb hb' ((hold b blk h1).1 hr) ((hold b' blk h2).1 hr')
      · have := fresh b h1 hr; have := last b' h2 lt2 hr'; omega
      · have := fresh b' h2 hr'; have := last b h1 lt1 hr; omega
      · omega
    · intro b ds blk hb hr o hpo
      have hr : (g.ρ ++ [w.heap.size])[b]? = some blk := hr
      have hpo : g.prot blk o := hpo
      rcases Nat.lt_or_ge b st.length with h1 | h1
      · rw [List.getElem?_append_left h1] at hb
        exact h.s.rnp b ds blk hb ((hold b blk h1).1 hr) o hpo
      · have hlt := (List.getElem?_eq_some_iff.1 hr).1
        simp at hlt
        rw [List.getElem?_append_right (by omega), show b - g.ρ.length = 0 by omega] at hr
        simp at hr
        have := h.s.pex blk o hpo
        omega
    · intro b hb
      have hb : b ∈ g.ρ ++ [w.heap.size] := hb
      rcases List.mem_append.1 hb with hb | hb
      · have := rho_lt h.s hb; simp; omega
      · simp at hb; subst hb; simp
    · intro L hL h0 b ds c hb hcs hcc
      have hlt : b < st.length := by have := h.base; omega
      rw [List.getElem?_append_left hlt] at hcs
      exact h.levs L hL h0 b ds c hb hcs hcc
  cases dst with
  | none => exact h1
  | some d =>
    simp only [dstOk, decide_eq_true_eq] at hd
    exact h1.put0 hd (.ptr (by show (g.ρ ++ [w.heap.size])[st.length]? = _; rw [List.getElem?_append_right (by omega), hlen]; simp))

theorem set_get {l : List PBox} {b k : Nat} {x y : PBox} (h : (l.set b x)[k]? = some y) : (k = b ∧ y = x) ∨ (k ≠ b ∧ l[k]? = some y) := by
  rw [List.getElem?_set] at h
  by_cases hk : b = k
  · subst hk
    simp only [if_true] at h
    split at h
    · simp at h; exact .inl ⟨rfl, h.symm⟩
    · cases h
  · rw [if_neg hk] at h
    exact .inr ⟨fun e => hk e.symm, h⟩

/-- A live box stays the only one at its place, whatever it holds. -/
theorem setBox_nodup {g : Gh} {w : World} {st : Store} {b : Nat} {cs ds : List PV} (hs : SInv g w st) (hb : st[b]? = some (.cells cs)) :
    ∀ (b1 b2 : Nat) (c1 c2 : List PV) (blk : Nat), (st.set b (.cells ds))[b1]? = some (.cells c1) → (st.set b (.cells ds))[b2]? = some (.cells c2) → g.ρ[b1]? = some blk → g.ρ[b2]? = some blk → b1 = b2 := by
  intro b1 b2 c1 c2 blk h1 h2 hr1 hr2
  have live : ∀ (k : Nat) (c : List PV), (st.set b (.cells ds))[k]? = some (PBox.cells c) → ∃ c' : List PV, st[k]? = some (PBox.cells c') := by
    intro k c hk
    rcases set_get hk with ⟨rfl, _⟩ | ⟨_, hk⟩
    · exact ⟨cs, hb⟩
    · exact ⟨c, hk⟩
  obtain ⟨d1, h1⟩ := live b1 c1 h1
  obtain ⟨d2, h2⟩ := live b2 c2 h2
  exact hs.nodup b1 b2 d1 d2 blk h1 h2 hr1 hr2

theorem setBox_rnp {g : Gh} {w : World} {st : Store} {b : Nat} {cs ds : List PV} (hs : SInv g w st) (hb : st[b]? = some (.cells cs)) :
    ∀ (k : Nat) (c : List PV) (blk : Nat), (st.set b (.cells ds))[k]? = some (.cells c) → g.ρ[k]? = some blk → ∀ o, ¬ g.prot blk o := by
  intro k c blk hk hr
  rcases set_get hk with ⟨rfl, _⟩ | ⟨_, hk⟩
  · exact hs.rnp k cs blk hb hr
  · exact hs.rnp k c blk hk hr

theorem setBox_ndm {g : Gh} {w : World} {st : Store} {b : Nat} {bx : PBox} (hs : SInv g w st) (hn : ∀ es, bx ≠ .map es) :
    ∀ (b1 b2 : Nat) (e1 e2 : List (ByteArray × PV)) (blk : Nat), (st.set b bx)[b1]? = some (.map e1) → (st.set b bx)[b2]? = some (.map e2) → g.ρ[b1]? = some blk → g.ρ[b2]? = some blk → b1 = b2 := by
  intro b1 b2 e1 e2 blk h1 h2
  rcases set_get h1 with ⟨_, h⟩ | ⟨_, h1⟩
  · exact absurd h.symm (hn e1)
  rcases set_get h2 with ⟨_, h⟩ | ⟨_, h2⟩
  · exact absurd h.symm (hn e2)
  exact hs.ndm b1 b2 e1 e2 blk h1 h2

/-- A box written; the slot that the value was taken from owns no more. -/
theorem St.store {E : Entry} {n : Nat} {g : Gh} {w : World} {env : Env} {a : Act} {st : Store} {b off blk : Nat} {cs : List PV} {x : PV} {v : Value} {old : Array Value} {e : TypeId} {src dst : Option Nat}
    (h : St E n g w env a.tmps st) (hb : st[b]? = some (.cells cs)) (hr : g.ρ[b]? = some blk) (hh : w.heap[blk]? = some (.cells old e (0, 0))) (hs : x.solid = true) (hx : RT g w x v)
    (hle : off + x.cells.length ≤ cs.length) (hm : E.st.length ≤ b ∨ x.maxRef ≤ b + 1) (hown : ∀ k, owns x v k → ∃ t, src = some t ∧ slotOwns env a.tmps t k) (hd : dstOk n dst = true) :
    St E n g (w.setRow blk (old.toList.take off ++ v.cells.toList ++ old.toList.drop (off + v.cells.toList.length)).toArray) (PE.put (PE.drop env src) dst (.tup [])) (a.put dst undef).tmps
      (st.set b (.cells (cs.take off ++ x.cells ++ cs.drop (off + x.cells.length)))) := by
  have hmem : blk ∈ g.ρ := List.mem_of_getElem? hr
  obtain ⟨old', e', hh', hsz, hcell⟩ := h.s.box b _ blk hb hr
  rw [hh] at hh'
  simp only [Option.some.injEq, Obj.cells.injEq, and_true] at hh'
  obtain ⟨rfl, rfl⟩ := hh'
  -- the cells that are laid
  have hnews : x.cells.length = v.cells.toList.length ∧ ∀ (i : Nat) (c : PV) (u : Value), x.cells[i]? = some c → v.cells.toList[i]? = some u → RT g w c u ∧ u.oneCell' = true := by
    cases how : x.isOw with
    | true =>
      obtain ⟨sz, els, rfl⟩ := isOw_iff.1 how
      obtain ⟨_, cap, _, _, rfl, _⟩ := hx.2 sz els rfl
      refine ⟨rfl, fun i c u hc hu => ?_⟩
      cases i with
      | zero => simp [PV.cells] at hc; simp [Value.cells] at hu; subst hc; subst hu; exact ⟨hx, rfl⟩
      | succ i => simp [PV.cells] at hc
    | false =>
      have := R.cells (hx.toR how) hs
      exact ⟨this.1, fun i c u hc hu => ⟨.of (this.2 i c u hc hu).1, (this.2 i c u hc hu).2⟩⟩
  generalize hnv : v.cells.toList = news at *
  let w' := w.setRow blk (old.toList.take off ++ news ++ old.toList.drop (off + news.length)).toArray
  have hother : ∀ k, k ≠ blk → w'.heap[k]? = w.heap[k]? := fun k hk => setRow_other w blk k _ hk
  have hnew : w'.heap[blk]? = some (.cells (old.toList.take off ++ news ++ old.toList.drop (off + news.length)).toArray e (0, 0)) := setRow_heap w blk old _ e (0, 0) hh
  have hsize : w'.heap.size = w.heap.size := by simp [w', World.setRow]
  have hev : Evo g w g w' (fun k => k = blk) := by
    refine ⟨⟨[], by simp, by simp⟩, fun _ _ hx => hx, fun _ _ hx => .inl hx, fun k o hk => cell_same (hother k fun he => h.s.rnp b cs blk hb hr o (he ▸ hk)) o, by rw [hsize]; exact Nat.le_refl _,
      fun k _ hk => hother k hk, rfl, rfl, rfl, .of_one hother hh hnew (by simp; omega)⟩
  have hT : ∀ {c : PV} {u : Value}, RT g w c u → ∀ k, owns c u k → ¬ k = blk := fun hc k hk he => (hc.own_fresh hk).2 (he ▸ hmem)
  -- a cell of the box as it stands now
  have hcells : ∀ (i : Nat) (c : PV) (u : Value), (cs.take off ++ x.cells ++ cs.drop (off + x.cells.length))[i]? = some c → (old.toList.take off ++ news ++ old.toList.drop (off + news.length))[i]? = some u →
      (cs[i]? = some c ∧ old[i]? = some u) ∨ ∃ j, x.cells[j]? = some c ∧ news[j]? = some u ∧ i = off + j := by
    intro i c u hc hu
    have l1 : (cs.take off).length = off := by simp; omega
    have l2 : (old.toList.take off).length = off := by simp; omega
    by_cases h1 : i < off
    · rw [List.append_assoc, List.getElem?_append_left (by omega), List.getElem?_take, if_pos h1] at hc hu
      exact .inl ⟨hc, by simpa using hu⟩
    · by_cases h2 : i < off + x.cells.length
      · rw [List.append_assoc, List.getElem?_append_right (by omega), List.getElem?_append_left (by omega)] at hc hu
        rw [l1] at hc
        rw [l2] at hu
        exact .inr ⟨i - off, hc, hu, by omega⟩
      · rw [List.getElem?_append_right (by simp; omega), List.getElem?_drop] at hc hu
        simp only [List.length_append, l1, l2] at hc hu
        rw [show off + x.cells.length + (i - (off + x.cells.length)) = i by omega] at hc
        rw [← hnews.1, show off + x.cells.length + (i - (off + x.cells.length)) = i by omega] at hu
        exact .inl ⟨hc, by simpa using hu⟩
  have hrho_inj : ∀ (b' : Nat) (ds : List PV), st[b']? = some (.cells ds) → g.ρ[b']? = some blk → b' = b := fun b' ds h1 h2 => h.s.nodup b' b ds cs blk h1 hb h2 hr
  -- who owns what now
  have oc : ∀ b' o k, OwnCell g w' (st.set b (.cells (cs.take off ++ x.cells ++ cs.drop (off + x.cells.length)))) b' o k →
      OwnCell g w st b' o k ∨ (b' = b ∧ owns x v k ∧ o = off) := by
    rintro b' o k ⟨ds, c, rb, u, hb', hc, hrb, hu, ho⟩
    rcases set_get hb' with ⟨rfl, hds⟩ | ⟨hne, hb'⟩
    · rw [hr] at hrb
      simp only [Option.some.injEq] at hrb
      subst hrb
      simp only [PBox.cells.injEq] at hds
      subst hds
      have hu' : (old.toList.take off ++ news ++ old.toList.drop (off + news.length))[o]? = some u := by
        simpa [World.cell?, hnew] using hu
      rcases hcells o c u hc hu' with ⟨h1, h2⟩ | ⟨j, h1, h2, rfl⟩
      · exact .inl ⟨cs, c, blk, u, hb, h1, hr, by simp [World.cell?, hh, h2], ho⟩
      · -- a cell that was laid owns a row only where it is the whole value
        refine .inr ⟨rfl, ?_, ?_⟩
        · cases how : x.isOw with
          | true =>
            obtain ⟨sz, els, rfl⟩ := isOw_iff.1 how
            obtain ⟨_, cap, _, _, rfl, _⟩ := hx.2 sz els rfl
            simp only [Value.cells] at hnv
            subst hnv
            cases j with
            | zero => simp [PV.cells] at h1; simp at h2; subst h1; subst h2; exact ho
            | succ j => simp [PV.cells] at h1
          | false =>
            have := R.cells (hx.toR how) hs
            exact (not_owns_of (noOw_get this.noOw h1) ho).elim
        · cases how : x.isOw with
          | true =>
            obtain ⟨sz, els, rfl⟩ := isOw_iff.1 how
            cases j with
            | zero => rfl
            | succ j => simp [PV.cells] at h1
          | false =>
            have := R.cells (hx.toR how) hs
            exact (not_owns_of (noOw_get this.noOw h1) ho).elim
    · have hne' : rb ≠ blk := fun he => hne (hrho_inj b' ds hb' (he ▸ hrb))
      exact .inl ⟨ds, c, rb, u, hb', hc, hrb, by rw [← hu]; exact (cell_same (hother rb hne') o).symm, ho⟩
  have h1 := h.drop src
  have hslot : ∀ t k, slotOwns (PE.drop env src) a.tmps t k → ¬ owns x v k := by
    intro t k ht hk
    obtain ⟨t', rfl, ht'⟩ := hown k hk
    obtain ⟨hne, ht⟩ := drop_slot ht
    exact hne (h.own2 t t' k ht ht')
  have h2 : St E n g w' (PE.drop env src) a.tmps (st.set b (.cells (cs.take off ++ x.cells ++ cs.drop (off + x.cells.length)))) := by
    refine ⟨⟨by simp [h.s.len], ?_, ?_, ?_, fun b hb => by rw [hsize]; exact h.s.lt b hb, fun k o hk => by rw [hsize]; exact h.s.pex k o hk, ?_, ?_⟩, fun t => hev.keepRT (h1.regs t) fun k hk => hT (h1.regs t) k hk, h.size, h1.own2, ?_, by simp; exact h.base, ?_, h1.in1, ?_, ?_⟩
    · intro b' bx rb hb' hrb
      rcases set_get hb' with ⟨rfl, rfl⟩ | ⟨hne, hb'⟩
      · rw [hr] at hrb
        simp only [Option.some.injEq] at hrb
        subst hrb
        refine ⟨_, e, hnew, ?_, fun i c u hc hu => ?_⟩
        · simp only [List.size_toArray, List.length_append, List.length_take, List.length_drop, Array.length_toList, ← hnews.1]
          omega
        · rcases hcells i c u hc (by simpa using hu) with ⟨h3, h4⟩ | ⟨j, h3, h4, _⟩
          · exact ⟨hev.keepRT (hcell i c u h3 h4).1 fun k hk => hT (hcell i c u h3 h4).1 k hk, (hcell i c u h3 h4).2⟩
          · exact ⟨hev.keepRT (hnews.2 j c u h3 h4).1 fun k hk => hT (hnews.2 j c u h3 h4).1 k hk, (hnews.2 j c u h3 h4).2⟩
      · have hbox := h.s.box b' bx rb hb' hrb
        cases bx with
        | map es =>
          refine hbox.keep hev (hother rb fun he => ?_)
          obtain ⟨ms, q, hm, _⟩ := hbox
          subst he
          rw [hh] at hm
          cases hm
        | dead => exact trivial
        | cells ds =>
          have hne' : rb ≠ blk := fun he => hne (hrho_inj b' ds hb' (he ▸ hrb))
          obtain ⟨us, e', hh', hsz', hcell'⟩ := hbox
          exact ⟨us, e', by rw [hother rb hne']; exact hh', hsz', fun i c u hc hu => ⟨hev.keepRT (hcell' i c u hc hu).1 fun k hk => hT (hcell' i c u hc hu).1 k hk, (hcell' i c u hc hu).2⟩⟩
    · exact setBox_nodup h.s hb
    · exact setBox_rnp h.s hb
    · intro b1 o1 b2 o2 k hk1 hk2
      rcases oc b1 o1 k hk1 with h3 | ⟨h3, h4, h5⟩ <;> rcases oc b2 o2 k hk2 with h6 | ⟨h6, h7, h8⟩
      · exact h.s.own b1 o1 b2 o2 k h3 h6
      · obtain ⟨t, _, ht⟩ := hown k h7
        exact absurd h3 (h.own3 t b1 o1 k ht)
      · obtain ⟨t, _, ht⟩ := hown k h4
        exact absurd h6 (h.own3 t b2 o2 k ht)
      · exact ⟨h3.trans h6.symm, h5.trans h8.symm⟩
    · exact setBox_ndm h.s (by rintro _ ⟨⟩)
    · intro t b' o k ht hk
      rcases oc b' o k hk with h3 | ⟨_, h4, _⟩
      · exact h1.own3 t b' o k ht h3
      · exact hslot t k ht h4
    · refine (h.evo.trans hev).mono fun k hk hx => ?_
      rcases hx with hx | rfl
      · exact hx
      · rcases Wc_up h (.inl hmem) with hy | hy
        · exact hy
        · omega
    · intro b' o k hk
      rcases oc b' o k hk with h3 | ⟨_, h4, _⟩
      · exact h.in2 b' o k h3
      · obtain ⟨t, _, ht⟩ := hown k h4
        exact h.in1 t k ht
    · intro L hL h0 b' ds c hb' hds hc
      have hold := h.levs L hL h0
      rcases set_get hds with ⟨rfl, hdx⟩ | ⟨_, hds⟩
      · injection hdx with hdx
        subst hdx
        rcases List.mem_append.1 hc with hc | hc
        · rcases List.mem_append.1 hc with hc | hc
          · exact hold b' cs c hb' hb (List.mem_of_mem_take hc)
          · obtain ⟨j, hj, rfl⟩ := List.mem_iff_getElem.1 hc
            have := cells_maxRef (el := x) (List.getElem?_eq_getElem hj)
            rcases hm with hm | hm
            · omega
            · omega
        · exact hold b' cs c hb' hb (List.mem_of_mem_drop hc)
      · exact hold b' ds c hb' hds hc
  cases dst with
  | none => exact h2
  | some d =>
    simp only [dstOk, decide_eq_true_eq] at hd
    exact h2.put0 hd (.tup rfl rfl (by simp))

/-- A cell's value taken, with the row that it owns. -/
theorem St.take {E : Entry} {n : Nat} {g : Gh} {w : World} {env : Env} {a : Act} {st : Store} {b off blk : Nat} {cs : List PV} {x : PV} {v : Value} {dst : Option Nat}
    (h : St E n g w env a.tmps st) (hb : st[b]? = some (.cells cs)) (hr : g.ρ[b]? = some blk) (hx : cs[off]? = some x) (hv : w.cell? ⟨blk, off, none⟩ = some v) (hd : dstOk n dst = true) :
    St E n g w (PE.put env dst x) (a.put dst v).tmps (st.set b (.cells (cs.set off x.dn))) := by
  obtain ⟨vs, e, hh, hsz, hcell⟩ := h.s.box b _ blk hb hr
  have hvs : vs[off]? = some v := by simpa [World.cell?, hh] using hv
  have hRT := (hcell off x v hx hvs).1
  have getset : ∀ (i : Nat) (c : PV), (cs.set off x.dn)[i]? = some c → (i = off ∧ c = x.dn) ∨ (i ≠ off ∧ cs[i]? = some c) := by
    intro i c hc
    rw [List.getElem?_set] at hc
    by_cases hi : off = i
    · subst hi
      simp only [if_true] at hc
      split at hc
      · simp at hc; exact .inl ⟨rfl, hc.symm⟩
      · cases hc
    · rw [if_neg hi] at hc; exact .inr ⟨fun he => hi he.symm, hc⟩
  have oc : ∀ b' o k, OwnCell g w (st.set b (.cells (cs.set off x.dn))) b' o k → OwnCell g w st b' o k ∧ ¬ (b' = b ∧ o = off) := by
    rintro b' o k ⟨ds, c, rb, u, hb', hc, hrb, hu, ho⟩
    rcases set_get hb' with ⟨rfl, hds⟩ | ⟨hne, hb'⟩
    · simp only [PBox.cells.injEq] at hds
      subst hds
      rcases getset o c hc with ⟨_, rfl⟩ | ⟨hne, hc⟩
      · exact (not_owns_dn ho).elim
      · exact ⟨⟨cs, c, rb, u, hb, hc, hrb, hu, ho⟩, fun hh => hne hh.2⟩
    · exact ⟨⟨ds, c, rb, u, hb', hc, hrb, hu, ho⟩, fun hh => hne hh.1⟩
  have h1 : St E n g w env a.tmps (st.set b (.cells (cs.set off x.dn))) := by
    refine ⟨⟨by simp [h.s.len], ?_, setBox_nodup h.s hb, setBox_rnp h.s hb, h.s.lt, h.s.pex, fun b1 o1 b2 o2 k hk1 hk2 => h.s.own b1 o1 b2 o2 k (oc b1 o1 k hk1).1 (oc b2 o2 k hk2).1, setBox_ndm h.s (by rintro _ ⟨⟩)⟩, h.regs, h.size, h.own2,
      fun t b' o k ht hk => h.own3 t b' o k ht (oc b' o k hk).1, by simp; exact h.base, h.evo, h.in1, fun b' o k hk => h.in2 b' o k (oc b' o k hk).1, ?_⟩
    · intro b' bx rb hb' hrb
      rcases set_get hb' with ⟨rfl, rfl⟩ | ⟨hne, hb'⟩
      · rw [hr] at hrb
        simp only [Option.some.injEq] at hrb
        subst hrb
        refine ⟨vs, e, hh, by simpa using hsz, fun i c u hc hu => ?_⟩
        rcases getset i c hc with ⟨rfl, rfl⟩ | ⟨_, hc⟩
        · rw [hvs] at hu
          simp only [Option.some.injEq] at hu
          subst hu
          exact ⟨.of hRT.1, (hcell i x v hx hvs).2⟩
        · exact hcell i c u hc hu
      · exact h.s.box b' bx rb hb' hrb
    · intro L hL h0 b' ds c hb' hds hc
      have hold := h.levs L hL h0
      rcases set_get hds with ⟨rfl, hdx⟩ | ⟨_, hds⟩
      · injection hdx with hdx
        subst hdx
        rcases List.mem_or_eq_of_mem_set hc with hc | rfl
        · exact hold b' cs c hb' hb hc
        · rw [maxRef_dn]; exact hold b' cs x hb' hb (List.mem_of_getElem? hx)
      · exact hold b' ds c hb' hds hc
  have hoc : ∀ k, owns x v k → OwnCell g w st b off k := fun k hk => ⟨cs, x, blk, v, hb, hx, hr, hv, hk⟩
  cases dst with
  | none => exact h1
  | some d =>
    simp only [dstOk, decide_eq_true_eq] at hd
    refine h1.put hd hRT (fun t k hk _ ht => h.own3 t b off k ht (hoc k hk)) (fun b' o k hk hc => ?_) fun k hk => h.in2 b off k (hoc k hk)
    obtain ⟨hc, hne⟩ := oc b' o k hc
    exact hne (h.s.own b' o b off k hc (hoc k hk))

end Go.Proofs.YtnjlkgmcoengnaaGreat.PE
