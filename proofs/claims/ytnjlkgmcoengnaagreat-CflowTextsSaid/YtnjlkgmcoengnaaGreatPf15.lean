/-
  PE, part 15: what the evaluator says of a call is so. Holds for every Program; no condition but that its summaries are so.
-/
import Derived.Test.YtnjlkgmcoengnaaGreatPf14
set_option linter.unusedSimpArgs false
set_option linter.unusedVariables false
namespace Go.Proofs.YtnjlkgmcoengnaaGreat.PE
open Go

theorem lk_params_go (args : List PV) : ∀ (k t : Nat), lk ((args.zipIdx k).map fun p => (p.2, p.1)) (k + t) = args.getD t .junk := by
  induction args with
  | nil => intro k t; rfl
  | cons x r ih =>
    intro k t
    rw [List.zipIdx_cons, List.map_cons, lk_cons]
    cases t with
    | zero => rw [if_pos (by rfl)]; rfl
    | succ t =>
      rw [if_neg (by simp)]
      have := ih (k + 1) t
      rw [show k + (t + 1) = k + 1 + t by omega, this]
      simp

theorem lk_params (args : List PV) (t : Nat) : lk (params args) t = args.getD t .junk := by
  have := lk_params_go args 0 t
  rwa [Nat.zero_add] at this

/-- A frame as it is entered. -/
theorem St.enter {g : Gh} {w : World} {st : Store} {args : List PV} {vs : Array Value} {n : Nat} (hs : SInv g w st) (hl : args.length = vs.size) (hn : args.length ≤ n)
    (hR : ∀ (i : Nat) (c : PV) (v : Value), args[i]? = some c → vs[i]? = some v → R g w c v) :
    St ⟨g, w, st⟩ n g w (params args) (vs ++ Array.replicate (n - vs.size) undef) st := by
  have hregs : ∀ t, R g w (lk (params args) t) ((vs ++ Array.replicate (n - vs.size) undef).getD t undef) := by
    intro t
    rw [lk_params]
    rcases Nat.lt_or_ge t args.length with ht | ht
    · have h1 : args.getD t .junk = args[t] := by simp [ht]
      have h2 : (vs ++ Array.replicate (n - vs.size) undef).getD t undef = vs[t]'(by omega) := by
        rw [Array.getD_eq_getD_getElem?, Array.getElem?_append_left (by omega), Array.getElem?_eq_getElem (by omega)]
        rfl
      rw [h1, h2]
      exact hR t _ _ (List.getElem?_eq_getElem ht) (Array.getElem?_eq_getElem (by omega))
    · have h1 : args.getD t .junk = .junk := by simp [List.getElem?_eq_none ht]
      rw [h1]
      exact .junk _
  have hno : ∀ t blk, ¬ slotOwns (params args) (vs ++ Array.replicate (n - vs.size) undef) t blk := fun t blk ho => not_owns_of (hregs t).not_ow ho
  exact ⟨hs, fun t => .of (hregs t), by simp; omega, fun t _ blk h => (hno t blk h).elim, fun t _ _ blk h => (hno t blk h).elim, Nat.le_refl _, .refl _ _ _,
    fun t blk h => (hno t blk h).elim, fun b o blk h => .inl (.inr ⟨b, o, h⟩), fun _ _ h => h⟩

theorem cutS_fst (st : Store) (r : PV) (st1 : Store) : (cutS st r st1).1 = r := by
  unfold cutS
  split <;> rfl

theorem maxRefs_sub {l r : List PV} (h : ∀ c, c ∈ r → c ∈ l) (h0 : PV.maxRefs l = 0) : PV.maxRefs r = 0 := by
  have : PV.maxRefs r ≤ 0 := maxRefs_le fun i c hc => by
    obtain ⟨k, hk, he⟩ := List.mem_iff_getElem.1 (h c (List.mem_of_getElem? hc))
    have := maxRefs_mem (cs := l) (i := k) (c := c) (by rw [List.getElem?_eq_getElem hk, he])
    omega
  omega

theorem maxRefs_dn (l : List PV) : PV.maxRefs (l.map PV.dn) = PV.maxRefs l := by
  induction l with
  | nil => rfl
  | cons c r ih => simp only [List.map_cons, PV.maxRefs, maxRef_dn, ih]

theorem rowEls_len (sz : Nat) : ∀ (n : Nat) (l : List PV), (rowEls sz n l).length = n
  | 0, _ => rfl
  | n + 1, l => by simp [rowEls, rowEls_len sz n]

theorem rowEls_get (sz : Nat) : ∀ (n : Nat) (l : List PV) (i : Nat), i < n → (rowEls sz n l)[i]? = some (elOf ((l.drop (i * sz)).take sz))
  | 0, _, i, h => by omega
  | n + 1, l, 0, _ => by simp [rowEls]
  | n + 1, l, i + 1, h => by
    simp only [rowEls, List.getElem?_cons_succ]
    rw [rowEls_get sz n (l.drop sz) i (by omega), List.drop_drop, Nat.add_mul, Nat.one_mul, Nat.add_comm]

/-- A slice over a box, that nobody writes any more. -/
theorem frz1_sound {E : Entry} {n : Nat} {g : Gh} {w : World} {env : Env} {tmps : Array Value} {st : Store} (h : St E n g w env tmps st) {r : PV} {v : Value} (hr : R g w r v) :
    ∃ g', St E n g' w env tmps (frz1 r st).2 ∧ R g' w (frz1 r st).1 v ∧ g'.ρ = g.ρ ∧ ∀ b o, g.prot b o → g'.prot b o := by
  have same : ∃ g', St E n g' w env tmps st ∧ R g' w r v ∧ g'.ρ = g.ρ ∧ ∀ b o, g.prot b o → g'.prot b o := ⟨g, h, hr, rfl, fun _ _ hx => hx⟩
  unfold frz1
  split
  · rename_i b off m c sz
    split
    · rename_i cs hst
      split
      · rename_i hc
        obtain ⟨hle, hsz, hmr⟩ := hc
        cases hr with
        | @vs _ _ off' _ _ cap _ blk hb ha hn hcc hmx hs =>
          obtain ⟨vs, e, h1, h2, h3⟩ := h.s.box b _ blk hst hb
          have hfz := h.freeze hst hb
          refine ⟨_, hfz, ?_, rfl, fun _ _ hx => .inl hx⟩
          have grow : ∀ {x : PV} {u : Value}, R g w x u → R ⟨g.ρ, fun k o => g.prot k o ∨ k = blk⟩ w x u := fun hx => R.grow (g' := ⟨g.ρ, fun k o => g.prot k o ∨ k = blk⟩) ⟨[], by simp⟩ (fun _ _ hx => .inl hx) hx
          have hpl : ((cs.drop off).take (m * sz)).length = m * sz := by simp; omega
          have hrl := rowEls_len sz m (((cs.drop off).take (m * sz)).map PV.dn)
          have idx : ∀ i j, i < m → j < sz → i * sz + j < m * sz := fun i j hi hj => by
            have : (i + 1) * sz ≤ m * sz := Nat.mul_le_mul_right _ hi
            rw [Nat.add_mul] at this
            omega
          have elc : ∀ i, i < m → ∀ j, j < sz → (elOf (((((cs.drop off).take (m * sz)).map PV.dn).drop (i * sz)).take sz)).cells[j]? = (cs[off + i * sz + j]?).map PV.dn := by
            intro i hi j hj
            rw [elOf_cells, List.getElem?_take, if_pos hj, List.getElem?_drop, List.getElem?_map, List.getElem?_take, if_pos (idx i j hi hj), List.getElem?_drop, Nat.add_assoc]
          have ell : ∀ i, i < m → (elOf (((((cs.drop off).take (m * sz)).map PV.dn).drop (i * sz)).take sz)).cells.length = sz := by
            intro i hi
            rw [elOf_cells]
            have : (i + 1) * sz ≤ m * sz := Nat.mul_le_mul_right _ hi
            rw [Nat.add_mul] at this
            simp; omega
          have hoff : 0 < m → off' = off := fun h0 => ha (by omega)
          have := @R.sl ⟨g.ρ, fun k o => g.prot k o ∨ k = blk⟩ w .sh sz (rowEls sz m (((cs.drop off).take (m * sz)).map PV.dn)) blk off' cap (fun i j => vs.getD (off + i * sz + j) undef) (by decide) (by rw [hrl]; omega) hmx (by simp)
            (fun el hel => by
              obtain ⟨i, hi, rfl⟩ := List.mem_iff_getElem.1 hel
              have hi' : i < m := by rw [hrl] at hi; exact hi
              have hg := rowEls_get sz m (((cs.drop off).take (m * sz)).map PV.dn) i hi'
              rw [List.getElem?_eq_getElem hi] at hg
              simp only [Option.some.injEq] at hg
              rw [hg]
              refine ⟨ell i hi', elOf_maxRef _ (maxRefs_sub (fun c hc => List.mem_of_mem_drop (List.mem_of_mem_take hc)) (by rw [maxRefs_dn]; exact hmr)), ?_⟩
              rw [elOf_cells]
              refine noOw_of fun c hc => ?_
              obtain ⟨c', _, rfl⟩ := List.mem_map.1 (List.mem_of_mem_drop (List.mem_of_mem_take hc))
              exact isOw_dn c')
            (fun i j hi hj => by
              rw [hrl] at hi
              have := idx i j hi hj
              rw [hoff (by omega)]
              have hlt : off + i * sz + j < vs.size := by omega
              have hcl : off + i * sz + j < cs.length := by omega
              have hv : vs[off + i * sz + j]? = some (vs.getD (off + i * sz + j) undef) := by simp [Array.getD_eq_getD_getElem?, Array.getElem?_eq_getElem hlt]
              refine ⟨.inr rfl, ?_, (h3 _ _ _ (List.getElem?_eq_getElem hcl) hv).2⟩
              simp only [World.cell?, h1, Option.isSome_none, Bool.false_eq_true, if_false]
              exact hv)
            (fun i j el c hel hcj => by
              have hi' : i < m := by rw [← hrl]; exact (List.getElem?_eq_some_iff.1 hel).1
              rw [rowEls_get sz m _ i hi'] at hel
              simp only [Option.some.injEq] at hel
              subst hel
              have hj : j < sz := by rw [← ell i hi']; exact (List.getElem?_eq_some_iff.1 hcj).1
              rw [elc i hi' j hj] at hcj
              obtain ⟨c', hc', rfl⟩ := Option.map_eq_some_iff.1 hcj
              have := idx i j hi' hj
              have hlt : off + i * sz + j < vs.size := by omega
              have hv : vs[off + i * sz + j]? = some (vs.getD (off + i * sz + j) undef) := by simp [Array.getD_eq_getD_getElem?, Array.getElem?_eq_getElem hlt]
              exact grow (h3 _ _ _ hc' hv).1.1)
          rw [hrl] at this
          exact this
      · exact same
    · exact same
  · exact same

theorem frz1_ow {r : PV} {st : Store} (h : r.isOw = false) : (frz1 r st).1.isOw = false := by
  unfold frz1
  split
  · split
    · split <;> rfl
    · rfl
  · exact h

theorem frzs_sound {E : Entry} {n : Nat} {w : World} {env : Env} {tmps : Array Value} : ∀ (l : List PV) (vs : List Value) (g : Gh) (st : Store), St E n g w env tmps st → l.length = vs.length → noOw l = true →
    (∀ (i : Nat) (c : PV) (v : Value), l[i]? = some c → vs[i]? = some v → R g w c v) →
    ∃ g', St E n g' w env tmps (frzs l st).2 ∧ (frzs l st).1.length = vs.length ∧ noOw (frzs l st).1 = true ∧ (∀ (i : Nat) (c : PV) (v : Value), (frzs l st).1[i]? = some c → vs[i]? = some v → R g' w c v) ∧
      g'.ρ = g.ρ ∧ ∀ b o, g.prot b o → g'.prot b o
  | [], vs, g, st, h, hl, _, _ => ⟨g, h, by simpa [frzs] using hl, by simp [frzs, noOw], by simp [frzs], rfl, fun _ _ hx => hx⟩
  | r :: l, vs, g, st, h, hl, hno, hR => by
    cases vs with
    | nil => simp at hl
    | cons v vs =>
      simp only [noOw, List.all_cons, Bool.and_eq_true] at hno
      obtain ⟨g1, s1, r1, e1, p1⟩ := frz1_sound h (hR 0 r v rfl rfl)
      have grow : ∀ {x : PV} {u : Value}, R g w x u → R g1 w x u := fun hx => R.grow ⟨[], by simp [e1]⟩ p1 hx
      obtain ⟨g2, s2, l2, n2, r2, e2, p2⟩ := frzs_sound l vs g1 _ s1 (by simpa using hl) hno.2 fun i c u hc hu => grow (hR (i + 1) c u (by simpa using hc) (by simpa using hu))
      refine ⟨g2, s2, by simp [frzs, l2], ?_, fun i c u hc hu => ?_, e2.trans e1, fun b o hx => p2 b o (p1 b o hx)⟩
      · simp only [frzs, noOw, List.all_cons, Bool.and_eq_true]
        exact ⟨by rw [frz1_ow (by simpa using hno.1)]; rfl, n2⟩
      · cases i with
        | zero => simp [frzs] at hc hu; subst hc hu; exact R.grow ⟨[], by simp [e2]⟩ p2 r1
        | succ i => exact r2 i c u (by simpa [frzs] using hc) (by simpa using hu)

theorem frz2_sound {E : Entry} {n : Nat} {g : Gh} {w : World} {env : Env} {tmps : Array Value} {st : Store} (h : St E n g w env tmps st) {r : PV} {v : Value} (hr : R g w r v) :
    ∃ g', St E n g' w env tmps (frz2 r st).2 ∧ R g' w (frz2 r st).1 v ∧ g'.ρ = g.ρ ∧ ∀ b o, g.prot b o → g'.prot b o := by
  unfold frz2
  split
  · rename_i l
    cases hr with
    | @agg _ vs hl hw h1 hh =>
      obtain ⟨g1, s1, l1, n1, r1, e1, p1⟩ := frzs_sound l vs.toList g st h (by simpa using hl) hw fun i c u hc hu => hh i c u hc (by simpa using hu)
      exact ⟨g1, s1, .agg (by simpa using l1) n1 h1 fun i c u hc hu => r1 i c u hc (by simpa using hu), e1, p1⟩
  · exact frz1_sound h hr

theorem frz2_ow {r : PV} {st : Store} (h : r.isOw = false) : (frz2 r st).1.isOw = false := by
  unfold frz2
  split
  · rfl
  · exact frz1_ow h

theorem frzs2_sound {E : Entry} {n : Nat} {w : World} {env : Env} {tmps : Array Value} : ∀ (l : List PV) (vs : List Value) (g : Gh) (st : Store), St E n g w env tmps st → l.length = vs.length → noOw l = true →
    (∀ (i : Nat) (c : PV) (v : Value), l[i]? = some c → vs[i]? = some v → R g w c v) →
    ∃ g', St E n g' w env tmps (frzs2 l st).2 ∧ (frzs2 l st).1.length = vs.length ∧ noOw (frzs2 l st).1 = true ∧ (∀ (i : Nat) (c : PV) (v : Value), (frzs2 l st).1[i]? = some c → vs[i]? = some v → R g' w c v) ∧
      g'.ρ = g.ρ ∧ ∀ b o, g.prot b o → g'.prot b o
  | [], vs, g, st, h, hl, _, _ => ⟨g, h, by simpa [frzs2] using hl, by simp [frzs2, noOw], by simp [frzs2], rfl, fun _ _ hx => hx⟩
  | r :: l, vs, g, st, h, hl, hno, hR => by
    cases vs with
    | nil => simp at hl
    | cons v vs =>
      simp only [noOw, List.all_cons, Bool.and_eq_true] at hno
      obtain ⟨g1, s1, r1, e1, p1⟩ := frz2_sound h (hR 0 r v rfl rfl)
      have grow : ∀ {x : PV} {u : Value}, R g w x u → R g1 w x u := fun hx => R.grow ⟨[], by simp [e1]⟩ p1 hx
      obtain ⟨g2, s2, l2, n2, r2, e2, p2⟩ := frzs2_sound l vs g1 _ s1 (by simpa using hl) hno.2 fun i c u hc hu => grow (hR (i + 1) c u (by simpa using hc) (by simpa using hu))
      refine ⟨g2, s2, by simp [frzs2, l2], ?_, fun i c u hc hu => ?_, e2.trans e1, fun b o hx => p2 b o (p1 b o hx)⟩
      · simp only [frzs2, noOw, List.all_cons, Bool.and_eq_true]
        exact ⟨by rw [frz2_ow (by simpa using hno.1)]; rfl, n2⟩
      · cases i with
        | zero => simp [frzs2] at hc hu; subst hc hu; exact R.grow ⟨[], by simp [e2]⟩ p2 r1
        | succ i => exact r2 i c u (by simpa [frzs2] using hc) (by simpa using hu)

theorem frz_sound {E : Entry} {n : Nat} {g : Gh} {w : World} {env : Env} {tmps : Array Value} {st : Store} (h : St E n g w env tmps st) {r : PV} {v : Value} (hr : RT g w r v) :
    ∃ g', St E n g' w env tmps (frz r st).2 ∧ RT g' w (frz r st).1 v ∧ ∀ blk, owns (frz r st).1 v blk → owns r v blk := by
  unfold frz
  split
  · rename_i l
    have hR := hr.toR rfl
    cases hR with
    | @tup _ vs hl hw hh =>
      obtain ⟨g1, s1, l1, n1, r1, e1, p1⟩ := frzs2_sound l vs.toList g st h (by simpa using hl) hw fun i c u hc hu => hh i c u hc (by simpa using hu)
      have : R g1 w (.tup (frzs2 l st).1) (.tuple vs) := .tup (by simpa using l1) n1 fun i c u hc hu => r1 i c u hc (by simpa using hu)
      exact ⟨g1, s1, .of this, fun blk hb => (not_owns_of rfl hb).elim⟩
  · cases how : r.isOw with
    | true =>
      obtain ⟨sz, els, rfl⟩ := isOw_iff.1 how
      exact ⟨g, h, hr, fun _ hb => hb⟩
    | false =>
      obtain ⟨g1, s1, r1, _, _⟩ := frz2_sound h (hr.toR how)
      exact ⟨g1, s1, .of r1, fun blk hb => (not_owns_of (frz2_ow how) hb).elim⟩

/-- What a call leaves, where its result names no box of its own. -/
theorem cutS_sound {g gN : Gh} {w w' : World} {st stN : Store} {env : Env} {tmps : Array Value} {n : Nat} {r : PV} {v : Value} (hs : SInv g w st)
    (h : St ⟨g, w, st⟩ n gN w' env tmps stN) (hr : RT gN w' r v) (ho : ∀ blk, owns r v blk → ∃ t, slotOwns env tmps t blk) :
    ∃ g', CallPost g w st r (cutS st r stN).2 g' w' v := by
  have hown : ∀ blk, owns r v blk → (Wc ⟨g, w, st⟩ blk ∨ w.heap.size ≤ blk) ∧ ∀ b o, ¬ OwnCell gN w' stN b o blk := by
    intro blk hb
    obtain ⟨t, ht⟩ := ho blk hb
    exact ⟨h.in1 t blk ht, fun b o => h.own3 t b o blk ht⟩
  unfold cutS
  split
  · rename_i hm
    obtain ⟨l, hl, hlb⟩ := h.evo.rho
    simp only at hl hlb
    have hlen := hs.len
    have htake : gN.ρ.take st.length = g.ρ := by rw [hl, ← hlen, List.take_left']; rfl
    have hbase := h.base
    simp only at hbase
    have hlev := h.levs st.length (Nat.le_refl _) hs.lev
    have cut : ∀ {x : PV} {u : Value}, RT gN w' x u → x.maxRef ≤ st.length → RT ⟨g.ρ, gN.prot⟩ w' x u := by
      intro x u hx hm
      refine ⟨?_, fun sz els hxo => ?_⟩
      · have := hx.1.cut st.length (by
          have hd : x.dn.maxRef = x.maxRef := by
            cases x with
            | sl t sz els => cases t <;> rfl
            | _ => rfl
          rw [hd]; exact hm)
        rwa [htake] at this
      · obtain ⟨blk, cap, cur, e, h1, h2, h3, h4, h5⟩ := hx.2 sz els hxo
        refine ⟨blk, cap, cur, e, h1, h2, h3, fun hb => h4 ?_, h5⟩
        rw [hl]
        exact List.mem_append_left _ hb
    have hget : ∀ (b : Nat) (bx : PBox), (stN.take st.length)[b]? = some bx → b < st.length ∧ stN[b]? = some bx := by
      intro b bx hb
      rw [List.getElem?_take] at hb
      split at hb
      · rename_i hlt; exact ⟨hlt, hb⟩
      · cases hb
    have hrho : ∀ (b blk : Nat), g.ρ[b]? = some blk → gN.ρ[b]? = some blk := by
      intro b blk hb
      rw [hl, List.getElem?_append_left (List.getElem?_eq_some_iff.1 hb).1]
      exact hb
    have oc : ∀ b o blk, OwnCell ⟨g.ρ, gN.prot⟩ w' (stN.take st.length) b o blk → OwnCell gN w' stN b o blk := by
      rintro b o blk ⟨cs, x, rb, u, hb, hx, hr, hv, ho⟩
      exact ⟨cs, x, rb, u, (hget b _ hb).2, hx, hrho b rb hr, hv, ho⟩
    refine ⟨⟨g.ρ, gN.prot⟩, ⟨⟨⟨[], by simp, by simp⟩, h.evo.prot, h.evo.protNew, h.evo.cell, h.evo.size, h.evo.keep, h.evo.os, h.evo.tape, h.evo.output, h.evo.shape⟩, ?_, ?_, ?_, cut hr hm, fun blk hb => ⟨(hown blk hb).1, fun b o hc => (hown blk hb).2 b o (oc b o blk hc)⟩,
      fun b o blk hc => h.in2 b o blk (oc b o blk hc)⟩⟩
    · refine ⟨by rw [List.length_take]; simp only; omega, ?_, fun b b' c c' blk h1 h2 h3 h4 => h.s.nodup b b' c c' blk (hget b _ h1).2 (hget b' _ h2).2 (hrho b blk h3) (hrho b' blk h4), fun b c blk h1 h2 => h.s.rnp b c blk (hget b _ h1).2 (hrho b blk h2),
        fun b hb => h.s.lt b (by rw [hl]; exact List.mem_append_left _ hb), h.s.pex,
        fun b o b' o' blk hc hc' => h.s.own b o b' o' blk (oc b o blk hc) (oc b' o' blk hc'),
        fun b b' e e' blk h1 h2 h3 h4 => h.s.ndm b b' e e' blk (hget b _ h1).2 (hget b' _ h2).2 (hrho b blk h3) (hrho b' blk h4)⟩
      intro b bx blk hb hr
      obtain ⟨hlt, hb'⟩ := hget b bx hb
      have := h.s.box b bx blk hb' (hrho b blk hr)
      cases bx with
      | dead => exact trivial
      | cells cs =>
        obtain ⟨vs, e, hh, hsz, hcell⟩ := this
        exact ⟨vs, e, hh, hsz, fun i c u hc hu => ⟨cut (hcell i c u hc hu).1 (hlev b cs c hlt hb' (List.mem_of_getElem? hc)), (hcell i c u hc hu).2⟩⟩
      | map es =>
        obtain ⟨ms, k, h1, h2, h3⟩ := this
        refine ⟨ms, k, h1, h2, fun i p m hp hm => ⟨(h3 i p m hp hm).1, ?_, (h3 i p m hp hm).2.2⟩⟩
        have := (h3 i p m hp hm).2.1.cut st.length (by rw [(h3 i p m hp hm).2.2]; exact Nat.zero_le _)
        rwa [htake] at this
    · intro L hL h0 b cs c hb hcs hc
      exact h.levs L hL h0 b cs c hb (hget b _ hcs).2 hc
    · rw [List.length_take]; omega
  · exact ⟨gN, h.evo, h.s, h.levs, h.base, hr, hown, h.in2⟩

/-- What a call leaves. -/
theorem settle_sound {fz : Bool} {g gN : Gh} {w w' : World} {st stN : Store} {env : Env} {tmps : Array Value} {n : Nat} {r : PV} {v : Value} (hs : SInv g w st)
    (h : St ⟨g, w, st⟩ n gN w' env tmps stN) (hr : RT gN w' r v) (ho : ∀ blk, owns r v blk → ∃ t, slotOwns env tmps t blk) :
    ∃ g', CallPost g w st (settle fz st r stN).1 (settle fz st r stN).2 g' w' v := by
  unfold settle
  dsimp only
  rw [cutS_fst]
  cases fz with
  | false =>
    rw [if_neg (by simp)]
    exact cutS_sound hs h hr ho
  | true =>
    rw [if_pos rfl]
    obtain ⟨g1, s1, r1, o1⟩ := frz_sound h hr
    exact cutS_sound hs s1 r1 fun blk hb => ho blk (o1 blk hb)

/-- The summaries are so. -/
def SumsSound (P : Program) (sums : Sums) : Prop := ∀ f s, sums f = some s → CallSound P fun f' args st => if f' = f then s args st else none

theorem noSums_sound (P : Program) : SumsSound P fun _ => none := fun _ _ h => by cases h

/-- A CALL: what the evaluator says of it is so. -/
theorem pcall_sound {P : Program} {ann : FuncId → Ann} {sums : Sums} (hsums : SumsSound P sums) : ∀ k, CallSound P (pcall P ann sums k) := by
  intro k
  induction k with
  | zero => intro f args st r st' h; simp [pcall] at h
  | succ k ih =>
    intro f args st r st' h g w vs hs hl hR
    simp only [pcall] at h
    split at h
    · rename_i s hsum
      exact hsums f s hsum f args st r st' (by dsimp only; rw [if_pos rfl]; exact h) g w vs hs hl hR
    · split at h
      · cases h
      · rename_i fn hf
        split at h
        · cases h
        · rename_i c hb
          split at h
          · rename_i hn
            have hent := St.enter hs hl hn hR
            have key : ∀ (x : PX) (s : PS), pcode { P, ann, call := pcall P ann sums k, fn := f, ntmps := fn.ntmps, base := st.length } k c { env := params args, st } = some (x, s) →
                (x = .normal ∨ x = .ret) → (resultsOf P fn s).map (fun r => settle (ann f).fz st r s.st) = some (r, st') →
                Calls P f vs w fun e w' => ∃ v g', e = .returned v ∧ CallPost g w st r st' g' w' v := by
              intro x s hp hx hres
              rw [Option.map_eq_some_iff] at hres
              obtain ⟨r', hres, hset⟩ := hres
              refine calls_of_wp hf hb ?_
              have := pcode_sound (C := { P, ann, call := pcall P ann sums k, fn := f, ntmps := fn.ntmps, base := st.length }) ih (E := ⟨g, w, st⟩) rfl k c { env := params args, st } s x
                { tmps := vs ++ Array.replicate (fn.ntmps - vs.size) undef, defers := [] } g w hp hent
              refine wp_mono this fun e a' w' ⟨he, hd, gN, hst⟩ => ?_
              obtain ⟨v, hrun, hrt, hown⟩ := resultsOf_sound (P := P) (fn := fn) hst hres
              obtain ⟨g', hpost⟩ := settle_sound (fz := (ann f).fz) hs hst hrt hown
              rw [hset] at hpost
              rcases hx with rfl | rfl
              · subst he; exact ⟨hd, v, hrun, v, g', rfl, hpost⟩
              · subst he; exact ⟨hd, v, hrun, v, g', rfl, hpost⟩
            split at h
            · rename_i s hp; exact key _ s hp (.inl rfl) h
            · rename_i s hp; exact key _ s hp (.inr rfl) h
            · cases h
          · cases h

end Go.Proofs.YtnjlkgmcoengnaaGreat.PE
