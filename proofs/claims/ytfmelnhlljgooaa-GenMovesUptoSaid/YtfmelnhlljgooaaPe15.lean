/-
  PE, part 15: what the evaluator says of a call is so. Holds for every Program; no condition but that its summaries are so.
-/
import Derived.Test.YtfmelnhlljgooaaPe14
set_option linter.unusedSimpArgs false
set_option linter.unusedVariables false
namespace Go.Proofs.Ytfmelnhlljgooaa.PE
open Go

theorem lk_params_go (args : List PV) : ∀ (k t : Nat), lk ((args.zipIdx k).map fun p => (p.2, p.1)) (k + t) = args.getD t .junk := by
  induction args with
  | nil => intro k t; rfl
  | cons x r ih =>
    intro k t
    rw [List.zipIdx_cons, List.map_cons, lk_cons]
    cases t with
    | zero => rw [if_pos (by rfl)]; rfl
    | succ t =>
      rw [if_neg (by simp)]
      have := ih (k + 1) t
      rw [show k + (t + 1) = k + 1 + t by omega, this]
      simp

theorem lk_params (args : List PV) (t : Nat) : lk (params args) t = args.getD t .junk := by
  have := lk_params_go args 0 t
  rwa [Nat.zero_add] at this

/-- A frame as it is entered. -/
theorem St.enter {g : Gh} {w : World} {st : Store} {args : List PV} {vs : Array Value} {n : Nat} (hs : SInv g w st) (hl : args.length = vs.size) (hn : args.length ≤ n)
    (hR : ∀ (i : Nat) (c : PV) (v : Value), args[i]? = some c → vs[i]? = some v → R g w c v) :
    St ⟨g, w, st⟩ n g w (params args) (vs ++ Array.replicate (n - vs.size) undef) st := by
  have hregs : ∀ t, R g w (lk (params args) t) ((vs ++ Array.replicate (n - vs.size) undef).getD t undef) := by
    intro t
    rw [lk_params]
    rcases Nat.lt_or_ge t args.length with ht | ht
    · have h1 : args.getD t .junk = args[t] := by simp [ht]
      have h2 : (vs ++ Array.replicate (n - vs.size) undef).getD t undef = vs[t]'(by omega) := by
        rw [Array.getD_eq_getD_getElem?, Array.getElem?_append_left (by omega), Array.getElem?_eq_getElem (by omega)]
        rfl
      rw [h1, h2]
      exact hR t _ _ (List.getElem?_eq_getElem ht) (Array.getElem?_eq_getElem (by omega))
    · have h1 : args.getD t .junk = .junk := by simp [List.getElem?_eq_none ht]
      rw [h1]
      exact .junk _
  have hno : ∀ t blk, ¬ slotOwns (params args) (vs ++ Array.replicate (n - vs.size) undef) t blk := fun t blk ho => not_owns_of (hregs t).not_ow ho
  exact ⟨hs, fun t => .of (hregs t), by simp; omega, fun t _ blk h => (hno t blk h).elim, fun t _ _ blk h => (hno t blk h).elim, Nat.le_refl _, .refl _ _ _,
    fun t blk h => (hno t blk h).elim, fun b o blk h => .inl (.inr ⟨b, o, h⟩), fun _ _ h => h⟩

theorem settle_fst (st : Store) (r : PV) (st1 : Store) : (settle st r st1).1 = r := by
  unfold settle
  split <;> rfl

/-- What a call leaves, where its result names no box of its own. -/
theorem settle_sound {g gN : Gh} {w w' : World} {st stN : Store} {env : Env} {tmps : Array Value} {n : Nat} {r : PV} {v : Value} (hs : SInv g w st)
    (h : St ⟨g, w, st⟩ n gN w' env tmps stN) (hr : RT gN w' r v) (ho : ∀ blk, owns r v blk → ∃ t, slotOwns env tmps t blk) :
    ∃ g', CallPost g w st r (settle st r stN).2 g' w' v := by
  have hown : ∀ blk, owns r v blk → (Wc ⟨g, w, st⟩ blk ∨ w.heap.size ≤ blk) ∧ ∀ b o, ¬ OwnCell gN w' stN b o blk := by
    intro blk hb
    obtain ⟨t, ht⟩ := ho blk hb
    exact ⟨h.in1 t blk ht, fun b o => h.own3 t b o blk ht⟩
  unfold settle
  split
  · rename_i hm
    obtain ⟨l, hl, hlb⟩ := h.evo.rho
    simp only at hl hlb
    have hlen := hs.len
    have htake : gN.ρ.take st.length = g.ρ := by rw [hl, ← hlen, List.take_left']; rfl
    have hbase := h.base
    simp only at hbase
    have hlev := h.levs st.length (Nat.le_refl _) hs.lev
    have cut : ∀ {x : PV} {u : Value}, RT gN w' x u → x.maxRef ≤ st.length → RT ⟨g.ρ, gN.prot⟩ w' x u := by
      intro x u hx hm
      refine ⟨?_, fun sz els hxo => ?_⟩
      · have := hx.1.cut st.length (by
          have hd : x.dn.maxRef = x.maxRef := by
            cases x with
            | sl t sz els => cases t <;> rfl
            | _ => rfl
          rw [hd]; exact hm)
        rwa [htake] at this
      · obtain ⟨blk, cap, cur, e, h1, h2, h3, h4, h5⟩ := hx.2 sz els hxo
        refine ⟨blk, cap, cur, e, h1, h2, h3, fun hb => h4 ?_, h5⟩
        rw [hl]
        exact List.mem_append_left _ hb
    have hget : ∀ (b : Nat) (bx : PBox), (stN.take st.length)[b]? = some bx → b < st.length ∧ stN[b]? = some bx := by
      intro b bx hb
      rw [List.getElem?_take] at hb
      split at hb
      · rename_i hlt; exact ⟨hlt, hb⟩
      · cases hb
    have hrho : ∀ (b blk : Nat), g.ρ[b]? = some blk → gN.ρ[b]? = some blk := by
      intro b blk hb
      rw [hl, List.getElem?_append_left (List.getElem?_eq_some_iff.1 hb).1]
      exact hb
    have oc : ∀ b o blk, OwnCell ⟨g.ρ, gN.prot⟩ w' (stN.take st.length) b o blk → OwnCell gN w' stN b o blk := by
      rintro b o blk ⟨cs, x, rb, u, hb, hx, hr, hv, ho⟩
      exact ⟨cs, x, rb, u, (hget b _ hb).2, hx, hrho b rb hr, hv, ho⟩
    refine ⟨⟨g.ρ, gN.prot⟩, ⟨⟨⟨[], by simp, by simp⟩, h.evo.prot, h.evo.protNew, h.evo.cell, h.evo.size, h.evo.keep, h.evo.os, h.evo.tape, h.evo.output⟩, ?_, ?_, ?_, cut hr hm, fun blk hb => ⟨(hown blk hb).1, fun b o hc => (hown blk hb).2 b o (oc b o blk hc)⟩,
      fun b o blk hc => h.in2 b o blk (oc b o blk hc)⟩⟩
    · refine ⟨by rw [List.length_take]; simp only; omega, ?_, hs.nodup, fun b hb => h.s.rnp b (by rw [hl]; exact List.mem_append_left _ hb), h.s.pex,
        fun b o b' o' blk hc hc' => h.s.own b o b' o' blk (oc b o blk hc) (oc b' o' blk hc')⟩
      intro b bx blk hb hr
      obtain ⟨hlt, hb'⟩ := hget b bx hb
      have := h.s.box b bx blk hb' (hrho b blk hr)
      cases bx with
      | cells cs =>
        obtain ⟨vs, e, hh, hsz, hcell⟩ := this
        exact ⟨vs, e, hh, hsz, fun i c u hc hu => ⟨cut (hcell i c u hc hu).1 (hlev b cs c hlt hb' (List.mem_of_getElem? hc)), (hcell i c u hc hu).2⟩⟩
      | map es => exact this.elim
    · intro L hL h0 b cs c hb hcs hc
      exact h.levs L hL h0 b cs c hb (hget b _ hcs).2 hc
    · rw [List.length_take]; omega
  · exact ⟨gN, h.evo, h.s, h.levs, h.base, hr, hown, h.in2⟩

/-- The summaries are so. -/
def SumsSound (P : Program) (sums : Sums) : Prop := ∀ f s, sums f = some s → CallSound P fun f' args st => if f' = f then s args st else none

theorem noSums_sound (P : Program) : SumsSound P fun _ => none := fun _ _ h => by cases h

/-- A CALL: what the evaluator says of it is so. -/
theorem pcall_sound {P : Program} {ann : FuncId → Ann} {sums : Sums} (hsums : SumsSound P sums) : ∀ k, CallSound P (pcall P ann sums k) := by
  intro k
  induction k with
  | zero => intro f args st r st' h; simp [pcall] at h
  | succ k ih =>
    intro f args st r st' h g w vs hs hl hR
    simp only [pcall] at h
    split at h
    · rename_i s hsum
      exact hsums f s hsum f args st r st' (by dsimp only; rw [if_pos rfl]; exact h) g w vs hs hl hR
    · split at h
      · cases h
      · rename_i fn hf
        split at h
        · cases h
        · rename_i c hb
          split at h
          · rename_i hn
            have hent := St.enter hs hl hn hR
            have key : ∀ (x : PX) (s : PS), pcode { P, ann, call := pcall P ann sums k, fn := f, ntmps := fn.ntmps, base := st.length } k c { env := params args, st } = some (x, s) →
                (x = .normal ∨ x = .ret) → (resultsOf P fn s).map (fun r => settle st r s.st) = some (r, st') →
                Calls P f vs w fun e w' => ∃ v g', e = .returned v ∧ CallPost g w st r st' g' w' v := by
              intro x s hp hx hres
              rw [Option.map_eq_some_iff] at hres
              obtain ⟨r', hres, hset⟩ := hres
              have hr' : r' = r := by have := congrArg Prod.fst hset; rwa [settle_fst] at this
              subst hr'
              have hst' : (settle st r' s.st).2 = st' := congrArg Prod.snd hset
              refine calls_of_wp hf hb ?_
              have := pcode_sound (C := { P, ann, call := pcall P ann sums k, fn := f, ntmps := fn.ntmps, base := st.length }) ih (E := ⟨g, w, st⟩) rfl k c { env := params args, st } s x
                { tmps := vs ++ Array.replicate (fn.ntmps - vs.size) undef, defers := [] } g w hp hent
              refine wp_mono this fun e a' w' ⟨he, hd, gN, hst⟩ => ?_
              obtain ⟨v, hrun, hrt, hown⟩ := resultsOf_sound (P := P) (fn := fn) hst hres
              obtain ⟨g', hpost⟩ := settle_sound hs hst hrt hown
              rw [hst'] at hpost
              rcases hx with rfl | rfl
              · subst he; exact ⟨hd, v, hrun, v, g', rfl, hpost⟩
              · subst he; exact ⟨hd, v, hrun, v, g', rfl, hpost⟩
            split at h
            · rename_i s hp; exact key _ s hp (.inl rfl) h
            · rename_i s hp; exact key _ s hp (.inr rfl) h
            · cases h
          · cases h

end Go.Proofs.Ytfmelnhlljgooaa.PE
