/-
  GenMovesUptoSaid: of every tree and every two numbers of 16 bits, of bulk at most 1048576 together, GenMoves returns true, and its arguments read as they did. No further condition.
-/
import Derived.Test.YtfmelnhlljgooaaGen21
import Derived.Test.YtfmelnhlljgooaaGen25
import Derived.JoinedCond
set_option linter.unusedSimpArgs false
set_option linter.unusedVariables false
namespace Go.Proofs.Ytfmelnhlljgooaa.PE
open Go Go.ChangeShapes Go.WideShapes Go.ChangeAt Go.RowKit

theorem own : ownKnob Try.prog.godebug = none := by kernel_rfl
theorem laidOut : laidOutB Try.prog = true := by kernel_rfl

theorem moves_contract (H : Type) (enc : TypeId × Value → H) (W : World) (base : Nat) (args : Array Value) (ds gs : List (DataW H)) (before : List MemPlace)
    (hval : ∀ (j : Nat) t v, Try.f4.params[j]? = some t → args[j]? = some v → Value.okWide Try.prog W .any base t v)
    (hW : DataW.Whole enc Try.prog Try.f4.params.toList Rows.genMovesSpec.vars false W args.toList ds gs before) (hk : Rows.uptoSmall H (ds ++ gs) = true) :
    Calls Try.prog 4 args W fun e W' => ∃ v, e = .returned v ∧ Rows.genMovesSpec.post enc Try.prog Try.f4 false true false false W args v W' := by
  have hW' := hW
  obtain ⟨p, q, hA0, hV, rfl, hfz, hnd⟩ := hW
  rw [Try.params4] at hA0 hval
  obtain ⟨v0, vs0, d0, ds0, p0, q0, hargs, rfl, rfl, h0, r0⟩ := trodAll_cons hA0
  obtain ⟨v1, vs1, d1, ds1, p1, q1, hargs1, rfl, rfl, h1, r1⟩ := trodAll_cons r0
  obtain ⟨v2, vs2, d2, ds2, p2, q2, hargs2, rfl, rfl, h2, r2⟩ := trodAll_cons r1
  obtain ⟨rfl, rfl, rfl⟩ := trodAll_nil r2
  obtain rfl : args = #[v0, v1, v2] := by cases args; simp_all
  obtain ⟨rfl, rfl⟩ := trodVars_none hV
  obtain ⟨a1, rfl, rfl, rfl, w1⟩ := open_int Try.underlying30 (hval 1 30 v1 rfl rfl) h1
  obtain ⟨a2, rfl, rfl, rfl, w2⟩ := open_int Try.underlying30 (hval 2 30 v2 rfl rfl) h2
  obtain ⟨f, l, hR, hb⟩ := open_tree h0 (okWide_slice_cells Try.underlying22 (hval 0 22 v0 rfl rfl))
  have hbulk := of_decide_eq_true hk
  simp only [List.append_nil, Rows.uptoBulkAll] at hbulk
  have hl : wts l < 2 ^ 39 := by omega
  have b1 := bounds_u16 w1
  have b2 := bounds_u16 w2
  refine (law_calls (noSums_sound _) (moves_ok f l a1 a2 (by omega) (by omega) hl) rfl ?_).mono fun e W' ⟨he, hbelow⟩ => ?_
  · intro i c v hc hv
    match i, hc, hv with
    | 0, hc, hv => simp at hc hv; subst hc hv; exact hR
    | 1, hc, hv => simp at hc hv; subst hc hv; exact .s _
    | 2, hc, hv => simp at hc hv; subst hc hv; exact .s _
    | i + 3, hc, _ => simp at hc
  · subst he
    exact ⟨_, rfl, law_post laidOut (by kernel_rfl) rfl Try.underlying4 rfl hW' rfl hbelow⟩

set_option maxRecDepth 100000 in
theorem moves_lifted (os : Os) (started : os.Started) (H : Type) (enc : TypeId × Value → H) (F : Stop.Interp) :
    ReturnsInHanded {} Try.checked os 4 .any ((Rows.OpenSpec.upto Rows.genMovesSpec).pre6 enc Try.prog Try.f4 Rows.genMovesUptoRow.domain false) (((Rows.OpenSpec.upto Rows.genMovesSpec).at F).post enc Try.prog Try.f4 false true false false) := by
  refine returnsInHanded_of_cond (C := Try.checked) (s := Rows.OpenSpec.upto Rows.genMovesSpec) (k := Rows.uptoSmall) rfl own started (by kernel_rfl) Try.func4
    (OpenSpec.witness (enc := enc) (C := Try.checked) (s := Rows.OpenSpec.upto Rows.genMovesSpec) (k := Rows.uptoSmall) rfl false ⟨#[], #[.slice none 0 0, .int .u16 0, .int .u16 0], []⟩ 8 (by kernel_rfl) (by kernel_rfl) (by kernel_rfl)
      (x := ([.nil, .lit (.int .u16 0), .lit (.int .u16 0)], [], [])) (by kernel_rfl) rfl (by kernel_rfl)) ?_
  intro W base args ds gs before hval hW _ hk _
  exact moves_contract H enc W base args ds gs before hval hW hk

theorem moves_over : Rows.genMovesUptoRow.holds Try.pinned (Rows.OpenSpec.upto Rows.genMovesSpec) :=
  OpenClaim.holds_of_cond 4 Try.f4 rfl rfl rfl rfl rfl rfl rfl ⟨rfl, rfl, rfl, rfl, rfl⟩ rfl rfl rfl rfl rfl (by kernel_rfl) Try.func4 (by kernel_rfl)
    (of_decide_eq_true (by kernel_rfl)) (by unfold Func.isWrapper; first | (rw [if_pos (by decide +kernel)]; kernel_rfl) | (rw [if_neg (by decide +kernel)]; exact ⟨rfl, rfl⟩))
    (fun os started H enc _ F => moves_lifted os started H enc F)

theorem moves_proved : Rows.GenMovesUptoSaid := moves_over

#print axioms moves_proved

end Go.Proofs.Ytfmelnhlljgooaa.PE
