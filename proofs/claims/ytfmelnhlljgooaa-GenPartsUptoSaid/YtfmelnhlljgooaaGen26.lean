/-
  GenPartsUptoSaid: of every two trees, every place of 16 bits and every number of a word, of bulk at most 1048576 together, GenParts returns true, and its arguments read as they did. No further condition.
-/
import Derived.Test.YtfmelnhlljgooaaGen21
import Derived.Test.YtfmelnhlljgooaaGen23
import Derived.JoinedCond
set_option linter.unusedSimpArgs false
set_option linter.unusedVariables false
namespace Go.Proofs.Ytfmelnhlljgooaa.PE
open Go Go.ChangeShapes Go.WideShapes Go.ChangeAt Go.RowKit

theorem own : ownKnob Try.prog.godebug = none := by kernel_rfl
theorem laidOut : laidOutB Try.prog = true := by kernel_rfl

theorem cells36 : Try.prog.cellsOf 36 = 4 := by kernel_rfl
theorem cells30 : Try.prog.cellsOf 30 = 1 := by kernel_rfl

/-- What GenParts is asked of, as it came in. -/
theorem parts_open {H : Type} {enc : TypeId × Value → H} {w : World} {base : Nat} {sp : Nat → Bool} {held : Bool} {v : Value} {d : DataW H} {p : List MemPlace}
    (h : DataW.Trod enc Try.prog w base sp held 36 v d p) (hv : ∃ cs, v = .agg cs) :
    ∃ (fa fb : E) (A B : List T) (n s : Int), R (g0 w) w (.agg [pvL fa A, pvL fb B, .s (.int .u16 n), iv s]) v ∧ (Lit.int .u16 n).wf = true ∧ wts A + wts B ≤ 4 * Rows.uptoBulk d := by
  obtain ⟨fuel, h⟩ := h
  obtain ⟨cs, rfl⟩ := hv
  obtain ⟨xs, m, rfl, hx, hl, hxs, hf⟩ := DataW.trod_struct Try.underlying36 h
  obtain ⟨rfl, rfl⟩ : d = .agg (xs.map (·.1)) ∧ p = xs.flatMap (·.2) := by simpa using hx
  rw [cells36] at hl
  have hl' : cs.toList.length = 4 := hl
  obtain ⟨c0, c1, c2, c3, hc⟩ : ∃ c0 c1 c2 c3, cs.toList = [c0, c1, c2, c3] := by
    match h : cs.toList, hl' with
    | [c0, c1, c2, c3], _ => exact ⟨c0, c1, c2, c3, rfl⟩
  obtain rfl : cs = #[c0, c1, c2, c3] := by cases cs; simp_all
  match xs, hxs with
  | [x0, x1, x2, x3], _ =>
    have f0 : DataW.trod enc Try.prog w base sp held m 22 (([c0, c1, c2, c3].drop 0).take (Try.prog.cellsOf 22)) = some x0 := hf 0 _ rfl
    rw [cells22] at f0
    have f0 : DataW.trod enc Try.prog w base sp held m 22 [c0] = some x0 := f0
    have f1 : DataW.trod enc Try.prog w base sp held m 22 (([c0, c1, c2, c3].drop 1).take (Try.prog.cellsOf 22)) = some x1 := hf 1 _ rfl
    rw [cells22] at f1
    have f1 : DataW.trod enc Try.prog w base sp held m 22 [c1] = some x1 := f1
    have f2 : DataW.trod enc Try.prog w base sp held m 30 (([c0, c1, c2, c3].drop 2).take (Try.prog.cellsOf 30)) = some x2 := hf 2 _ rfl
    rw [cells30] at f2
    have f2 : DataW.trod enc Try.prog w base sp held m 30 [c2] = some x2 := f2
    have f3 : DataW.trod enc Try.prog w base sp held m 3 (([c0, c1, c2, c3].drop 3).take (Try.prog.cellsOf 3)) = some x3 := hf 3 _ rfl
    rw [cells3] at f3
    have f3 : DataW.trod enc Try.prog w base sp held m 3 [c3] = some x3 := f3
    obtain ⟨fa, A, v0, e0, r0, o0, b0⟩ := (rows_at m).1 _ _ f0
    obtain ⟨fb, B, v1, e1, r1, o1, b1⟩ := (rows_at m).1 _ _ f1
    obtain ⟨n, e2, rfl, w2⟩ := DataW.trod_int Try.underlying30 f2
    obtain ⟨s, e3, rfl, _⟩ := DataW.trod_int Try.underlying3 f3
    simp only [List.cons.injEq, and_true] at e0 e1 e2 e3
    subst e0 e1 e2 e3
    refine ⟨fa, fb, A, B, n, s, ?_, w2, ?_⟩
    · refine .agg rfl (by simp [noOw, ow_pvL, ow_iv, ow_s]) (fun i v hv => ?_) (fun i c v hc hv => ?_)
      · match i, hv with
        | 0, hv => simp at hv; subst hv; exact o0
        | 1, hv => simp at hv; subst hv; exact o1
        | 2, hv => simp at hv; subst hv; rfl
        | 3, hv => simp at hv; subst hv; rfl
        | i + 4, hv => simp at hv
      · match i, hc, hv with
        | 0, hc, hv => simp at hc hv; subst hc hv; exact r0
        | 1, hc, hv => simp at hc hv; subst hc hv; exact r1
        | 2, hc, hv => simp at hc hv; subst hc hv; exact .s _
        | 3, hc, hv => simp at hc hv; subst hc hv; exact .s _
        | i + 4, hc, _ => simp at hc
    · simp only [List.map_cons, List.map_nil, Rows.uptoBulk, Rows.uptoBulkAll]
      omega


theorem W_wf {n : Int} (h : (Lit.int .i64 n).wf = true) : W n = n := by
  have := bounds_i64 h
  rw [W_eq]
  split <;> omega

theorem parts_contract (H : Type) (enc : TypeId × Value → H) (W : World) (base : Nat) (args : Array Value) (ds gs : List (DataW H)) (before : List MemPlace)
    (hval : ∀ (j : Nat) t v, Try.f5.params[j]? = some t → args[j]? = some v → Value.okWide Try.prog W .any base t v)
    (hW : DataW.Whole enc Try.prog Try.f5.params.toList Rows.genPartsSpec.vars false W args.toList ds gs before) (hk : Rows.uptoSmall H (ds ++ gs) = true) :
    Calls Try.prog 5 args W fun e W' => ∃ v, e = .returned v ∧ Rows.genPartsSpec.post enc Try.prog Try.f5 false true false false W args v W' := by
  have hW' := hW
  obtain ⟨p, q, hA0, hV, rfl, hfz, hnd⟩ := hW
  rw [Try.params5] at hA0 hval
  obtain ⟨v0, vs0, d0, ds0, p0, q0, hargs, rfl, rfl, h0, r0⟩ := trodAll_cons hA0
  obtain ⟨rfl, rfl, rfl⟩ := trodAll_nil r0
  obtain rfl : args = #[v0] := by cases args; simp_all
  obtain ⟨rfl, rfl⟩ := trodVars_none hV
  have hagg : ∃ cs, v0 = .agg cs := by
    have := hval 0 36 v0 rfl rfl
    simp only [Value.okWide, Try.underlying36] at this
    obtain ⟨cs, h, _⟩ := this
    exact ⟨cs, h⟩
  obtain ⟨fa, fb, A, B, n, s, hR, hn, hb⟩ := parts_open h0 hagg
  have hn := bounds_u16 hn
  have hbulk := of_decide_eq_true hk
  simp only [List.append_nil, Rows.uptoBulkAll] at hbulk
  have hl : wts A + wts B < 2 ^ 39 := by omega
  refine (law_calls (noSums_sound _) (parts_ok fa fb A B n s (by omega) hl) rfl ?_).mono fun e W' ⟨he, hbelow⟩ => ?_
  · intro i c v hc hv
    match i, hc, hv with
    | 0, hc, hv => simp at hc hv; subst hc hv; exact hR
    | i + 1, hc, _ => simp at hc
  · subst he
    exact ⟨_, rfl, law_post laidOut (by kernel_rfl) rfl Try.underlying4 rfl hW' rfl hbelow⟩

set_option maxRecDepth 100000 in
theorem parts_lifted (os : Os) (started : os.Started) (H : Type) (enc : TypeId × Value → H) (F : Stop.Interp) :
    ReturnsInHanded {} Try.checked os 5 .any ((Rows.OpenSpec.upto Rows.genPartsSpec).pre6 enc Try.prog Try.f5 Rows.genPartsUptoRow.domain false) (((Rows.OpenSpec.upto Rows.genPartsSpec).at F).post enc Try.prog Try.f5 false true false false) := by
  refine returnsInHanded_of_cond (C := Try.checked) (s := Rows.OpenSpec.upto Rows.genPartsSpec) (k := Rows.uptoSmall) rfl own started (by kernel_rfl) Try.func5
    (OpenSpec.witness (enc := enc) (C := Try.checked) (s := Rows.OpenSpec.upto Rows.genPartsSpec) (k := Rows.uptoSmall) rfl false ⟨#[], #[.agg #[.slice none 0 0, .slice none 0 0, .int .u16 0, .int .i64 0]], []⟩ 8 (by kernel_rfl) (by kernel_rfl) (by kernel_rfl)
      (x := ([.agg [.nil, .nil, .lit (.int .u16 0), .lit (.int .i64 0)]], [], [])) (by kernel_rfl) rfl (by kernel_rfl)) ?_
  intro W base args ds gs before hval hW _ hk _
  exact parts_contract H enc W base args ds gs before hval hW hk

theorem parts_over : Rows.genPartsUptoRow.holds Try.pinned (Rows.OpenSpec.upto Rows.genPartsSpec) :=
  OpenClaim.holds_of_cond 5 Try.f5 rfl rfl rfl rfl rfl rfl rfl ⟨rfl, rfl, rfl, rfl, rfl⟩ rfl rfl rfl rfl rfl (by kernel_rfl) Try.func5 (by kernel_rfl)
    (of_decide_eq_true (by kernel_rfl)) (by unfold Func.isWrapper; first | (rw [if_pos (by decide +kernel)]; kernel_rfl) | (rw [if_neg (by decide +kernel)]; exact ⟨rfl, rfl⟩))
    (fun os started H enc _ F => parts_lifted os started H enc F)

theorem parts_proved : Rows.GenPartsUptoSaid := parts_over

#print axioms parts_proved

end Go.Proofs.Ytfmelnhlljgooaa.PE
