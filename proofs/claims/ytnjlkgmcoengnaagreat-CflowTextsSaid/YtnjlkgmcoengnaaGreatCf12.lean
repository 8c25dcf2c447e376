/-
  CflowTexts, part 12: a run's first step, and what all steps ask. No condition.
-/
import Derived.Test.YtnjlkgmcoengnaaGreatCf11
import Derived.Test.YtnjlkgmcoengnaaGreatPf21
import Derived.Test.YtnjlkgmcoengnaaGreatEqs
set_option linter.unusedSimpArgs false
set_option linter.unusedVariables false
set_option maxRecDepth 20000
namespace Go.Proofs.YtnjlkgmcoengnaaGreat.PE
open Go

/-- The cells of a machine in a run. -/
def rmC (m0 m1 ws : PV) (h : Int) (d r out : PV) : List PV := [iv 2048, iv 32, iv 32, iv 200, iv 500, m0, m1, iv h, d, r, .nilsl, ws, iv 0, out, .nilsl, bv false, .nilsl, iv 0, iv 0, iv 0, iv 0, iv 0, .nilsl]
/-- The cells of a run; of a run at work. -/
def runC (m0 m1 ws : PV) (h : Int) (d r out : PV) (ip w : Int) (dn : Bool) (fuel : Int) : List PV := [iv 2048, iv 32, iv 32, iv 200, iv 500, m0, m1, iv h, d, r, .nilsl, ws, iv 0, out, .nilsl, bv false, .nilsl, iv 0, iv 0, iv 0, iv 0, iv 0, .nilsl, iv ip, iv w, bv dn, iv fuel]
def workC (m0 m1 ws : PV) (h : Int) (d r out : PV) (ip w : Int) (dn over : Bool) (bad : Int) : List PV := [iv 2048, iv 32, iv 32, iv 200, iv 500, m0, m1, iv h, d, r, .nilsl, ws, iv 0, out, .nilsl, bv false, .nilsl, iv 0, iv 0, iv 0, iv 0, iv 0, .nilsl, iv ip, iv w, bv dn, bv over, iv bad]

theorem castN (n : Nat) : ((no_index (OfNat.ofNat n) : Nat) : Int) = (OfNat.ofNat n : Int) := rfl
theorem solid_bv (b : Bool) : (bv b).solid = true := rfl
theorem cells_bv (b : Bool) : (bv b).cells = [bv b] := rfl
theorem len55 (t : Tag) (m : List PV) : pLen Tryz.prog 55 (.sl t 1 m) = some (iv m.length) := by kernel_rfl

/-- Rows of cells as values. -/
def ints (l : List Int) : List PV := l.map iv

/-- The rows that a machine's cell may be. -/
def plain (v : PV) : Prop := v = .nilsl ∨ ∃ t sz els, t ≠ .ow ∧ v = .sl t sz els

/-- The names, as a row. -/
noncomputable def namesL : List PV := ((pcall Tryz.prog ann noSums 2 36 [] []).map fun r => match r.1 with | .sl _ _ l => l | _ => []).getD []
theorem names36 (k : Nat) : pcall Tryz.prog ann noSums (k + 2) 36 [] [] = some (.sl .ex 1 namesL, []) := pcall_mono (k := 2) (by omega) (by kernel_rfl)
theorem names_len : namesL.length = 130 := by kernel_rfl
theorem nm0 : pIndexAddr Tryz.prog 55 (.sl .ex 1 namesL) (iv 0) = some (.ep (.s (.string ⟨#[40, 101, 120, 105, 116, 41]⟩)) 0) := by kernel_rfl
theorem nm1 : pIndexAddr Tryz.prog 55 (.sl .ex 1 namesL) (iv 1) = some (.ep (.s (.string ⟨#[40, 108, 105, 116, 41]⟩)) 0) := by kernel_rfl
theorem nm8 : pIndexAddr Tryz.prog 55 (.sl .ex 1 namesL) (iv 8) = some (.ep (.s (.string ⟨#[40, 104, 97, 108, 116, 41]⟩)) 0) := by kernel_rfl
theorem nm11 : pIndexAddr Tryz.prog 55 (.sl .ex 1 namesL) (iv 11) = some (.ep (.s (.string ⟨#[40, 115, 116, 114, 41]⟩)) 0) := by kernel_rfl
theorem nm109 : pIndexAddr Tryz.prog 55 (.sl .ex 1 namesL) (iv 109) = some (.ep (.s (.string ⟨#[84, 89, 80, 69]⟩)) 0) := by kernel_rfl

end Go.Proofs.YtnjlkgmcoengnaaGreat.PE
