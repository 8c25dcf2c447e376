/-
  PE, part 19: from what the evaluator answers of a law to what its row asks. Holds for every Program; no condition.
-/
import Derived.Test.YtnjlkgmcoengnaaGreatPf18
import Derived.ProofKit
import Derived.Carry
import Derived.OpenShut
set_option linter.unusedSimpArgs false
set_option linter.unusedVariables false
namespace Go.Proofs.YtnjlkgmcoengnaaGreat.PE
open Go Go.ChangeShapes Go.RowKit

/-- All memory that there is, is left as it is. -/
def g0 (w : World) : Gh := ⟨[], fun b _ => b < w.heap.size⟩

theorem g0_prot {w : World} {b o : Nat} {v : Value} (h : w.cell? ⟨b, o, none⟩ = some v) : (g0 w).prot b o := by
  unfold World.cell? at h
  split at h
  · rename_i h1
    exact block_lt h1
  · cases h

theorem g0_inv (w : World) : SInv (g0 w) w [] :=
  ⟨rfl, fun b bx blk hb => by simp at hb, fun b b' cs cs' blk hb => by simp at hb, fun b cs blk hb => by simp at hb, fun b hb => by simp [g0] at hb, fun b o h => h, fun b o b' o' blk h => by
    obtain ⟨cs, x, rb, v, hb, _⟩ := h
    simp at hb, fun b b' cs cs' blk hb => by simp at hb⟩

/-- A law's call that the evaluator says is true: it returns true, and below the heap's old size nothing has turned. -/
theorem law_calls {P : Program} {ann : FuncId → Ann} {sums : Sums} (hs : SumsSound P sums) {k : Nat} {f : FuncId} {pargs : List PV} {args : Array Value} {W : World} {st : Store}
    (hp : pcall P ann sums k f pargs [] = some (bv true, st)) (hl : pargs.length = args.size)
    (hR : ∀ (i : Nat) (c : PV) (v : Value), pargs[i]? = some c → args[i]? = some v → R (g0 W) W c v) :
    Calls P f args W fun e W' => e = .returned (.bool true) ∧ Below W.heap.size W W' := by
  refine (pcall_sound hs k f pargs [] (bv true) st hp (g0 W) W args (g0_inv W) hl hR).mono fun e W' ⟨v, g', he, hpost⟩ => ?_
  have hv : v = .bool true := by
    have := hpost.res.1
    cases this
    rfl
  subst hv
  refine ⟨he, hpost.evo.os, hpost.evo.tape, hpost.evo.output, hpost.evo.size, fun b hb => hpost.evo.keep b hb ?_⟩
  rintro (h | ⟨b', o, cs, x, rb, v, h, _⟩)
  · simp [g0] at h
  · simp at h

section
variable {H : Type} {enc : TypeId × Value → H} {P : Program}

theorem trodAll_stays (hl : laidOutB P = true) {W W' : World} {sp : Nat → Bool} (hb : Below W.heap.size W W') : ∀ (ts : List TypeId) (vs : List Value) (ds : List (DataW H)) (ps : List MemPlace),
    (ts.all fun t => P.readableRec t && decide (t < P.types.size)) = true → DataW.TrodAll enc P W 0 (fun _ => true) true ts vs ds ps → (∀ p ∈ ps, p.block < W.heap.size) → (∀ p ∈ ps, sp p.block = true) →
    DataW.TrodAll enc P W' 0 sp true ts vs ds ps := by
  intro ts
  induction ts with
  | nil =>
    intro vs ds ps _ h _ _
    cases vs with
    | nil => cases ds with
      | nil => exact h
      | cons d ds => exact h.elim
    | cons v vs => exact h.elim
  | cons t ts ih =>
    intro vs ds ps hok h hlt hsp
    cases vs with
    | nil => exact h.elim
    | cons v vs =>
      cases ds with
      | nil => exact h.elim
      | cons d ds =>
        obtain ⟨p, q, h1, h2, rfl⟩ := h
        simp only [List.all_cons, Bool.and_eq_true, decide_eq_true_eq] at hok
        exact ⟨p, q, WideElems.Trod_stays hl hok.1.1 hok.1.2 h1 (fun x hx => hb.same (hlt x (List.mem_append_left _ hx))) (fun x hx => hsp x (List.mem_append_left _ hx)),
          ih vs ds q hok.2 h2 (fun x hx => hlt x (List.mem_append_right _ hx)) (fun x hx => hsp x (List.mem_append_right _ hx)), rfl⟩

/-- What a law's row asks behind the call. -/
theorem law_post (hl : laidOutB P = true) {f : Func} {s : ChangeSpec} {fresh handsOn again : Bool} {W W' : World} {args : Array Value} {ds gs : List (DataW H)} {before : List MemPlace} {bt : TypeId}
    (hpar : (f.params.toList.all fun t => P.readableRec t && decide (t < P.types.size)) = true) (hres : f.resultTypes = #[bt]) (hbt : P.underlying bt = some .bool) (hvars : s.vars = [])
    (hW : DataW.Whole enc P f.params.toList s.vars false W args.toList ds gs before)
    (hfn : s.fn H (ds ++ gs) = { results := [.lit (.bool true)], args := ds }) (hb : Below W.heap.size W W') :
    s.post enc P f false fresh handsOn again W args (.bool true) W' := by
  have hlt : ∀ p ∈ before, p.block < W.heap.size := fun p hp => by simpa using hW.lt p hp
  have hW0 := hW
  obtain ⟨p, q, hA, hV, rfl, hz, _⟩ := hW
  rw [hvars] at hV
  have hq : q = [] ∧ gs = [] := by
    cases gs with
    | nil => exact ⟨hV, rfl⟩
    | cons d r => exact hV.elim
  obtain ⟨rfl, rfl⟩ := hq
  simp only [List.append_nil] at hfn hlt hz
  have hargs : ∀ sp : Nat → Bool, (∀ x ∈ p, sp x.block = true) → DataW.TrodAll enc P W' 0 sp true f.params.toList args.toList ds p := fun sp hsp => trodAll_stays hl hb _ _ _ _ hpar hA hlt hsp
  have hr : ∀ (b : Nat) (sp : Nat → Bool) (hd : Bool), DataW.TrodAll enc P W' b sp hd f.resultTypes.toList ((Value.bool true).resultList f.resultTypes.size) [.lit (.bool true)] [] := fun b sp hd => by
    rw [hres]
    exact trodAll_cons_mk (shut_bool hbt true) trodAll_mk0
  have hold : ∀ x ∈ p, (fun b => decide (b < W.heap.size)) x.block = true := fun x hx => by simpa using hlt x hx
  have hv0 : ∀ sp : Nat → Bool, DataW.TrodVars enc P W' sp s.vars ([] : List (DataW H)) [] := fun sp => by rw [hvars]; rfl
  refine ⟨ds, [], p ++ [], [], p, [], hW0, ?_, ?_, ?_, World.keptBut_mono (fun x hx => ⟨by simpa using hx, ?_⟩) (hb.frame (· ∈ p)), fun _ => ?_⟩
  · rw [List.append_nil, hfn]; exact hr _ _ _
  · rw [List.append_nil, hfn]; exact hargs _ hold
  · rw [List.append_nil, hfn]; exact hv0 _
  · exact .inr (.inl (by simpa using hx))
  · refine ⟨ok_one hres rfl (okWide_bool_mk hbt true), _, _, ([] ++ p) ++ [], ⟨[] ++ p, [], trodAll_append (hargs _ (fun _ _ => rfl)) (hr _ _ _), hv0 _, rfl, ?_, ?_⟩, ?_⟩
    · intro b off hp
      have hm : MemPlace.cell b off ∈ p := by simpa using hp
      rw [hb.frozen (p := ⟨b, off, none⟩) (hlt _ hm)]
      exact hz b off hm
    · intro h; cases h
    · intro x hx _
      simpa using hx
end

/-- An argument of a slice's type is one cell. -/
theorem okWide_slice_cells {P : Program} {W : World} {r : Reach} {base : Nat} {t e : TypeId} {v : Value} (ht : P.underlying t = some (.slice e)) (h : Value.okWide P W r base t v) : v.cells = #[v] := by
  simp only [Value.okWide, ht, Cell.okWide] at h
  unfold Cell.ok at h
  rw [ht] at h
  split at h <;> simp_all [Value.cells]

end Go.Proofs.YtnjlkgmcoengnaaGreat.PE
