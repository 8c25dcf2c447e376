/-
  CflowTexts, part 24: the words' flags. No condition.
-/
import Derived.Test.YtnjlkgmcoengnaaGreatCf12
set_option linter.unusedSimpArgs false
set_option linter.unusedVariables false
set_option maxRecDepth 20000
set_option maxHeartbeats 8000000
namespace Go.Proofs.YtnjlkgmcoengnaaGreat.PE
open Go

/-- The specials. -/
noncomputable def specsL : List PV := ((pcall Tryz.prog ann noSums 2 37 [] []).map fun r => match r.1 with | .sl _ _ l => l | _ => []).getD []
theorem specs37 (k : Nat) : pcall Tryz.prog ann noSums (k + 2) 37 [] [] = some (.sl .ex 1 specsL, []) := pcall_mono (k := 2) (by omega) (by kernel_rfl)
theorem specs_len : specsL.length = 37 := by kernel_rfl

def isI : Option (PV × Store) → Bool
  | some (.s (.int .i64 _), []) => true
  | _ => false
theorem isI_ok {r : Option (PV × Store)} (h : isI r = true) : ∃ x, r = some (iv x, []) := by
  unfold isI at h
  split at h
  · exact ⟨_, rfl⟩
  · cases h
noncomputable def flagsOk (l : List PV) (from_ : Nat) : Bool := (l.zipIdx from_).all fun p => isI (pcall Tryz.prog ann noSums 60 38 [p.1, iv p.2] [])
theorem flags_0 : flagsOk (((namesL ++ specsL).drop 0).take 24) 0 = true := by kernel_rfl
theorem flags_1 : flagsOk (((namesL ++ specsL).drop 24).take 24) 24 = true := by kernel_rfl
theorem flags_2 : flagsOk (((namesL ++ specsL).drop 48).take 24) 48 = true := by kernel_rfl
theorem flags_3 : flagsOk (((namesL ++ specsL).drop 72).take 24) 72 = true := by kernel_rfl
theorem flags_4 : flagsOk (((namesL ++ specsL).drop 96).take 24) 96 = true := by kernel_rfl
theorem flags_5 : flagsOk (((namesL ++ specsL).drop 120).take 24) 120 = true := by kernel_rfl
theorem flags_6 : flagsOk (((namesL ++ specsL).drop 144).take 24) 144 = true := by kernel_rfl
theorem flagsOk_at {l : List PV} {from_ i : Nat} {el : PV} (h : flagsOk l from_ = true) (hi : l[i]? = some el) : ∃ x, pcall Tryz.prog ann noSums 60 38 [el, iv ((from_ + i : Nat) : Int)] [] = some (iv x, []) := by
  refine isI_ok (List.all_eq_true.1 h (el, from_ + i) ?_)
  rw [List.mem_zipIdx_iff_le_and_getElem?_sub]
  exact ⟨by simp, by simpa using hi⟩
theorem flags_all (i : Nat) (el : PV) (hi : (namesL ++ specsL)[i]? = some el) (hl : i < 167) (k : Nat) : ∃ x, pcall Tryz.prog ann noSums (k + 60) 38 [el, iv (i : Nat)] [] = some (iv x, []) := by
  have key : ∀ c, flagsOk (((namesL ++ specsL).drop c).take 24) c = true → c ≤ i → i < c + 24 → ∃ x, pcall Tryz.prog ann noSums (k + 60) 38 [el, iv (i : Nat)] [] = some (iv x, []) := by
    intro c hc h1 h2
    obtain ⟨x, hx⟩ := flagsOk_at (i := i - c) hc (el := el) (by
      rw [List.getElem?_take_of_lt (by omega), List.getElem?_drop, show c + (i - c) = i by omega]
      exact hi)
    rw [show c + (i - c) = i by omega] at hx
    exact ⟨x, pcall_mono (by omega) hx⟩
  have : i < 24 ∨ (24 ≤ i ∧ i < 48) ∨ (48 ≤ i ∧ i < 72) ∨ (72 ≤ i ∧ i < 96) ∨ (96 ≤ i ∧ i < 120) ∨ (120 ≤ i ∧ i < 144) ∨ 144 ≤ i := by omega
  rcases this with h | h | h | h | h | h | h
  · exact key 0 flags_0 (by omega) (by omega)
  · exact key 24 flags_1 (by omega) (by omega)
  · exact key 48 flags_2 (by omega) (by omega)
  · exact key 72 flags_3 (by omega) (by omega)
  · exact key 96 flags_4 (by omega) (by omega)
  · exact key 120 flags_5 (by omega) (by omega)
  · exact key 144 flags_6 (by omega) (by omega)

/-- Each is a text, and which are the two. -/
def strsOk (l : List PV) : Bool := l.zipIdx.all fun p => match p.1 with
  | .s (.string b) => (b.toList == [40, 104, 97, 108, 116, 41]) == (p.2 == 8) && ((b.toList == [40, 99, 97, 117, 103, 104, 116, 41]) == (p.2 == 9))
  | _ => false
theorem strs_ok : strsOk (namesL ++ specsL) = true := by kernel_rfl
theorem strs_len : (namesL ++ specsL).length = 167 := by kernel_rfl
abbrev haltS : PV := .s (.string ⟨#[40, 104, 97, 108, 116, 41]⟩)
abbrev caughtS : PV := .s (.string ⟨#[40, 99, 97, 117, 103, 104, 116, 41]⟩)
theorem strs_at (i : Nat) (hi : i < 167) : ∃ b, (namesL ++ specsL)[i]? = some (.s (.string b)) ∧ (∀ x y, pBin Tryz.prog .eql 9 x y (.s (.string b)) haltS = some (bv (i == 8))) ∧ (∀ x y, pBin Tryz.prog .eql 9 x y (.s (.string b)) caughtS = some (bv (i == 9))) := by
  have hl : i < (namesL ++ specsL).length := by rw [strs_len]; exact hi
  have hg := List.getElem?_eq_getElem hl
  have h := List.all_eq_true.1 strs_ok ((namesL ++ specsL)[i], i) (by
    rw [List.mem_zipIdx_iff_getElem?]
    exact hg)
  dsimp only at h
  rw [hg]
  split at h
  · rename_i b hb
    rw [Bool.and_eq_true] at h
    refine ⟨b, by rw [hb], fun x y => ?_, fun x y => ?_⟩
    · have e : (⟨#[40, 104, 97, 108, 116, 41]⟩ : ByteArray).toList = [40, 104, 97, 108, 116, 41] := by rw [toList_data]
      rw [eqs_raw, e, eq_of_beq h.1]
    · have e : (⟨#[40, 99, 97, 117, 103, 104, 116, 41]⟩ : ByteArray).toList = [40, 99, 97, 117, 103, 104, 116, 41] := by rw [toList_data]
      rw [eqs_raw, e, eq_of_beq h.2]
  · cases h
theorem app55 : pAppend Tryz.prog 55 55 (.sl .ex 1 namesL) (.sl .ex 1 specsL) = some (.sl .ow 1 (namesL ++ specsL)) := by kernel_rfl

end Go.Proofs.YtnjlkgmcoengnaaGreat.PE
