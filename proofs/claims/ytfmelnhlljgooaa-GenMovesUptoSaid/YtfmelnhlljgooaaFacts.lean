/-
  Facts of this seat's functions and types, as PE asks for them (by program): the hints, which functions have bodies, the types' shapes, and the way into each function. No condition.
-/
import Derived.Test.YtfmelnhlljgooaaProg
import Derived.Test.YtfmelnhlljgooaaAnn
import Derived.Test.YtfmelnhlljgooaaPe17
import Derived.KernelRfl
set_option linter.unusedSimpArgs false
set_option linter.unusedVariables false
namespace Go.Proofs.Ytfmelnhlljgooaa.PE
open Go

theorem annF : ann 3 = ⟨true, [0, 1, 2, 6, 7, 16], []⟩ ∧
    ann 4 = ⟨true, [0, 1, 2, 6, 7, 8, 9, 10, 11, 12, 13, 14, 23, 58, 60, 65, 124], []⟩ ∧
    ann 5 = ⟨true, [0, 1, 2, 3, 4, 5, 6, 7, 8, 9, 10, 11, 38, 62], [13, 15]⟩ ∧
    ann 6 = ⟨true, [0, 1], []⟩ ∧
    ann 7 = ⟨true, [0, 2, 3], []⟩ ∧
    ann 8 = ⟨true, [0, 2, 3, 4, 8, 17], []⟩ ∧
    ann 9 = ⟨true, [0, 2, 3, 4, 6, 7, 8], []⟩ ∧
    ann 10 = ⟨true, [0, 2, 3, 4, 8], []⟩ ∧
    ann 11 = ⟨true, [0, 1, 4, 5, 10, 14, 25], []⟩ ∧
    ann 12 = ⟨true, [0, 1, 2, 6, 7], [22]⟩ ∧
    ann 13 = ⟨true, [0, 1, 2, 6], []⟩ ∧
    ann 14 = ⟨false, [0, 1, 4, 5, 9, 25, 53], []⟩ ∧
    ann 15 = ⟨true, [0, 2], []⟩ ∧
    ann 16 = ⟨true, [0, 1, 4, 5, 6, 7, 8, 10, 14, 37, 41], []⟩ ∧
    ann 17 = ⟨true, [0, 1, 4, 5, 6, 17], []⟩ ∧
    ann 18 = ⟨true, [0, 1, 2, 3, 6, 7, 8, 9, 10, 11, 23, 24, 28, 40, 52, 60, 75, 76, 87, 88, 92, 93, 109, 113, 118, 131, 136, 149], []⟩ ∧
    ann 19 = ⟨true, [0, 1, 2, 3, 12, 13, 17, 19, 21, 25, 32], []⟩ ∧
    ann 20 = ⟨true, [0, 1, 2, 3, 4, 12, 13, 15, 19, 26, 31, 38, 43, 50], []⟩ ∧
    ann 21 = ⟨false, [0, 1, 4, 6, 7, 8], []⟩ ∧
    ann 22 = ⟨false, [0, 1], [8]⟩ ∧
    ann 23 = ⟨true, [0, 2], []⟩ ∧
    ann 24 = ⟨true, [0, 1, 2, 3, 8, 9, 10, 14], [17, 31]⟩ ∧
    ann 25 = ⟨true, [0, 2, 3, 4, 9, 17], []⟩ ∧
    ann 26 = ⟨false, [0, 1, 3, 4, 10, 11, 13, 15, 17, 19, 21, 23, 57], []⟩ ∧
    ann 27 = ⟨true, [0, 1, 4, 5, 7, 8, 9, 16], []⟩ ∧
    ann 28 = ⟨true, [0], []⟩ ∧
    ann 29 = ⟨true, [0, 1, 2, 3, 4, 8, 9, 10, 11, 12, 13, 14, 15, 16, 17, 18, 19, 28, 29, 35, 40, 51, 80, 92, 104, 133, 140, 152, 166, 172], [72, 126, 154]⟩ ∧
    ann 30 = ⟨true, [0], []⟩ ∧
    ann 31 = ⟨false, [0, 1, 4], []⟩ ∧
    ann 32 = ⟨false, [0, 1, 2, 4, 6, 7, 8, 19, 37], []⟩ ∧
    ann 33 = ⟨false, [0, 1, 2, 4, 6, 14, 15, 22], []⟩ ∧
    ann 34 = ⟨false, [0, 2], []⟩ := by
  refine ⟨?_, ?_, ?_, ?_, ?_, ?_, ?_, ?_, ?_, ?_, ?_, ?_, ?_, ?_, ?_, ?_, ?_, ?_, ?_, ?_, ?_, ?_, ?_, ?_, ?_, ?_, ?_, ?_, ?_, ?_, ?_, ?_⟩ <;> rfl
theorem bodyF : hasBody Try.prog 3 = true ∧
    hasBody Try.prog 4 = true ∧
    hasBody Try.prog 5 = true ∧
    hasBody Try.prog 6 = true ∧
    hasBody Try.prog 7 = true ∧
    hasBody Try.prog 8 = true ∧
    hasBody Try.prog 9 = true ∧
    hasBody Try.prog 10 = true ∧
    hasBody Try.prog 11 = true ∧
    hasBody Try.prog 12 = true ∧
    hasBody Try.prog 13 = true ∧
    hasBody Try.prog 14 = true ∧
    hasBody Try.prog 15 = true ∧
    hasBody Try.prog 16 = true ∧
    hasBody Try.prog 17 = true ∧
    hasBody Try.prog 18 = true ∧
    hasBody Try.prog 19 = true ∧
    hasBody Try.prog 20 = true ∧
    hasBody Try.prog 21 = true ∧
    hasBody Try.prog 22 = true ∧
    hasBody Try.prog 23 = true ∧
    hasBody Try.prog 24 = true ∧
    hasBody Try.prog 25 = true ∧
    hasBody Try.prog 26 = true ∧
    hasBody Try.prog 27 = true ∧
    hasBody Try.prog 28 = true ∧
    hasBody Try.prog 29 = true ∧
    hasBody Try.prog 30 = true ∧
    hasBody Try.prog 31 = true ∧
    hasBody Try.prog 32 = true ∧
    hasBody Try.prog 33 = true ∧
    hasBody Try.prog 34 = true := by
  refine ⟨?_, ?_, ?_, ?_, ?_, ?_, ?_, ?_, ?_, ?_, ?_, ?_, ?_, ?_, ?_, ?_, ?_, ?_, ?_, ?_, ?_, ?_, ?_, ?_, ?_, ?_, ?_, ?_, ?_, ?_, ?_, ?_⟩ <;> kernel_rfl
theorem aggF : tAgg Try.prog 0 = some false ∧
    tAgg Try.prog 1 = some false ∧
    tAgg Try.prog 2 = some false ∧
    tAgg Try.prog 3 = some false ∧
    tAgg Try.prog 4 = some false ∧
    tAgg Try.prog 5 = some false ∧
    tAgg Try.prog 6 = some false ∧
    tAgg Try.prog 7 = some true ∧
    tAgg Try.prog 8 = some true ∧
    tAgg Try.prog 9 = some false ∧
    tAgg Try.prog 10 = some false ∧
    tAgg Try.prog 11 = some false ∧
    tAgg Try.prog 12 = some false ∧
    tAgg Try.prog 13 = some true ∧
    tAgg Try.prog 14 = some true ∧
    tAgg Try.prog 15 = some false ∧
    tAgg Try.prog 16 = some false ∧
    tAgg Try.prog 17 = some false ∧
    tAgg Try.prog 18 = some true ∧
    tAgg Try.prog 19 = some true ∧
    tAgg Try.prog 20 = some false ∧
    tAgg Try.prog 21 = some false ∧
    tAgg Try.prog 22 = some false ∧
    tAgg Try.prog 23 = some false ∧
    tAgg Try.prog 24 = some false ∧
    tAgg Try.prog 25 = some false ∧
    tAgg Try.prog 26 = some false ∧
    tAgg Try.prog 27 = some false ∧
    tAgg Try.prog 28 = some false ∧
    tAgg Try.prog 29 = some false ∧
    tAgg Try.prog 30 = some false ∧
    tAgg Try.prog 31 = some false ∧
    tAgg Try.prog 32 = some false ∧
    tAgg Try.prog 33 = some false ∧
    tAgg Try.prog 34 = some false ∧
    tAgg Try.prog 35 = some true ∧
    tAgg Try.prog 36 = some true ∧
    tAgg Try.prog 37 = some false ∧
    tAgg Try.prog 38 = some true ∧
    tAgg Try.prog 39 = some true ∧
    tAgg Try.prog 40 = some false ∧
    tAgg Try.prog 41 = some false ∧
    tAgg Try.prog 42 = some false ∧
    tAgg Try.prog 43 = some false ∧
    tAgg Try.prog 44 = some true ∧
    tAgg Try.prog 45 = some true ∧
    tAgg Try.prog 46 = some false ∧
    tAgg Try.prog 47 = some false ∧
    tAgg Try.prog 48 = some false ∧
    tAgg Try.prog 49 = some false ∧
    tAgg Try.prog 50 = some false ∧
    tAgg Try.prog 51 = some false ∧
    tAgg Try.prog 52 = some false ∧
    tAgg Try.prog 53 = some false ∧
    tAgg Try.prog 54 = some false ∧
    tAgg Try.prog 55 = some false ∧
    tAgg Try.prog 56 = some false ∧
    tAgg Try.prog 57 = some false ∧
    tAgg Try.prog 58 = some true ∧
    tAgg Try.prog 59 = some true ∧
    tAgg Try.prog 60 = some true ∧
    tAgg Try.prog 61 = some true ∧
    tAgg Try.prog 62 = some true ∧
    tAgg Try.prog 63 = some false ∧
    tAgg Try.prog 64 = some false ∧
    tAgg Try.prog 65 = some false ∧
    tAgg Try.prog 66 = some false ∧
    tAgg Try.prog 67 = some false ∧
    tAgg Try.prog 68 = some false ∧
    tAgg Try.prog 69 = some false ∧
    tAgg Try.prog 70 = some true ∧
    tAgg Try.prog 71 = some true ∧
    tAgg Try.prog 72 = some false := by
  refine ⟨?_, ?_, ?_, ?_, ?_, ?_, ?_, ?_, ?_, ?_, ?_, ?_, ?_, ?_, ?_, ?_, ?_, ?_, ?_, ?_, ?_, ?_, ?_, ?_, ?_, ?_, ?_, ?_, ?_, ?_, ?_, ?_, ?_, ?_, ?_, ?_, ?_, ?_, ?_, ?_, ?_, ?_, ?_, ?_, ?_, ?_, ?_, ?_, ?_, ?_, ?_, ?_, ?_, ?_, ?_, ?_, ?_, ?_, ?_, ?_, ?_, ?_, ?_, ?_, ?_, ?_, ?_, ?_, ?_, ?_, ?_, ?_, ?_⟩ <;> kernel_rfl
theorem sizeF : tSize Try.prog 0 = some 1 ∧
    tSize Try.prog 1 = some 1 ∧
    tSize Try.prog 2 = some 1 ∧
    tSize Try.prog 3 = some 1 ∧
    tSize Try.prog 4 = some 1 ∧
    tSize Try.prog 5 = some 1 ∧
    tSize Try.prog 6 = some 1 ∧
    tSize Try.prog 7 = some 4 ∧
    tSize Try.prog 8 = some 4 ∧
    tSize Try.prog 9 = some 1 ∧
    tSize Try.prog 10 = some 1 ∧
    tSize Try.prog 11 = some 1 ∧
    tSize Try.prog 12 = some 1 ∧
    tSize Try.prog 13 = some 2 ∧
    tSize Try.prog 14 = some 2 ∧
    tSize Try.prog 15 = some 1 ∧
    tSize Try.prog 16 = some 1 ∧
    tSize Try.prog 17 = some 1 ∧
    tSize Try.prog 18 = some 1 ∧
    tSize Try.prog 19 = some 1 ∧
    tSize Try.prog 20 = some 1 ∧
    tSize Try.prog 21 = some 1 ∧
    tSize Try.prog 22 = some 1 ∧
    tSize Try.prog 23 = some 1 ∧
    tSize Try.prog 24 = some 1 ∧
    tSize Try.prog 25 = some 1 ∧
    tSize Try.prog 26 = some 1 ∧
    tSize Try.prog 27 = some 1 ∧
    tSize Try.prog 28 = some 1 ∧
    tSize Try.prog 29 = some 1 ∧
    tSize Try.prog 30 = some 1 ∧
    tSize Try.prog 31 = some 1 ∧
    tSize Try.prog 32 = some 1 ∧
    tSize Try.prog 33 = some 1 ∧
    tSize Try.prog 34 = some 1 ∧
    tSize Try.prog 35 = some 4 ∧
    tSize Try.prog 36 = some 4 ∧
    tSize Try.prog 37 = some 1 ∧
    tSize Try.prog 38 = some 4 ∧
    tSize Try.prog 39 = some 4 ∧
    tSize Try.prog 40 = some 1 ∧
    tSize Try.prog 41 = some 1 ∧
    tSize Try.prog 42 = some 1 ∧
    tSize Try.prog 43 = some 1 ∧
    tSize Try.prog 44 = some 4 ∧
    tSize Try.prog 45 = some 4 ∧
    tSize Try.prog 46 = some 1 ∧
    tSize Try.prog 47 = some 1 ∧
    tSize Try.prog 48 = some 1 ∧
    tSize Try.prog 49 = some 1 ∧
    tSize Try.prog 50 = some 1 ∧
    tSize Try.prog 51 = some 1 ∧
    tSize Try.prog 52 = some 1 ∧
    tSize Try.prog 53 = some 1 ∧
    tSize Try.prog 54 = some 1 ∧
    tSize Try.prog 55 = some 1 ∧
    tSize Try.prog 56 = some 1 ∧
    tSize Try.prog 57 = some 1 ∧
    tSize Try.prog 58 = some 4 ∧
    tSize Try.prog 59 = some 4 ∧
    tSize Try.prog 60 = some 0 ∧
    tSize Try.prog 61 = some 0 ∧
    tSize Try.prog 62 = some 0 ∧
    tSize Try.prog 63 = some 1 ∧
    tSize Try.prog 64 = some 1 ∧
    tSize Try.prog 65 = some 1 ∧
    tSize Try.prog 66 = some 1 ∧
    tSize Try.prog 67 = some 1 ∧
    tSize Try.prog 68 = some 1 ∧
    tSize Try.prog 69 = some 1 ∧
    tSize Try.prog 70 = some 11 ∧
    tSize Try.prog 71 = some 11 ∧
    tSize Try.prog 72 = some 1 := by
  refine ⟨?_, ?_, ?_, ?_, ?_, ?_, ?_, ?_, ?_, ?_, ?_, ?_, ?_, ?_, ?_, ?_, ?_, ?_, ?_, ?_, ?_, ?_, ?_, ?_, ?_, ?_, ?_, ?_, ?_, ?_, ?_, ?_, ?_, ?_, ?_, ?_, ?_, ?_, ?_, ?_, ?_, ?_, ?_, ?_, ?_, ?_, ?_, ?_, ?_, ?_, ?_, ?_, ?_, ?_, ?_, ?_, ?_, ?_, ?_, ?_, ?_, ?_, ?_, ?_, ?_, ?_, ?_, ?_, ?_, ?_, ?_, ?_, ?_⟩ <;> kernel_rfl
theorem elemF : tElem Try.prog 22 = some 39 ∧
    tElem Try.prog 27 = some 3 ∧
    tElem Try.prog 51 = some 9 := by
  refine ⟨?_, ?_, ?_⟩ <;> kernel_rfl
theorem arrF : tArr Try.prog 60 = some (0, 16) := by kernel_rfl
theorem strF : tString Try.prog 9 = true ∧
    tString Try.prog 10 = true ∧
    tString Try.prog 11 = true := by
  refine ⟨?_, ?_, ?_⟩ <;> kernel_rfl
theorem partF : (∀ cs off, getPart Try.prog 0 cs off = cs[off]?) ∧
    (∀ cs off, getPart Try.prog 1 cs off = cs[off]?) ∧
    (∀ cs off, getPart Try.prog 2 cs off = cs[off]?) ∧
    (∀ cs off, getPart Try.prog 3 cs off = cs[off]?) ∧
    (∀ cs off, getPart Try.prog 4 cs off = cs[off]?) ∧
    (∀ cs off, getPart Try.prog 5 cs off = cs[off]?) ∧
    (∀ cs off, getPart Try.prog 6 cs off = cs[off]?) ∧
    (∀ cs off, getPart Try.prog 9 cs off = cs[off]?) ∧
    (∀ cs off, getPart Try.prog 10 cs off = cs[off]?) ∧
    (∀ cs off, getPart Try.prog 11 cs off = cs[off]?) ∧
    (∀ cs off, getPart Try.prog 12 cs off = cs[off]?) ∧
    (∀ cs off, getPart Try.prog 15 cs off = cs[off]?) ∧
    (∀ cs off, getPart Try.prog 16 cs off = cs[off]?) ∧
    (∀ cs off, getPart Try.prog 17 cs off = cs[off]?) ∧
    (∀ cs off, getPart Try.prog 20 cs off = cs[off]?) ∧
    (∀ cs off, getPart Try.prog 21 cs off = cs[off]?) ∧
    (∀ cs off, getPart Try.prog 22 cs off = cs[off]?) ∧
    (∀ cs off, getPart Try.prog 23 cs off = cs[off]?) ∧
    (∀ cs off, getPart Try.prog 24 cs off = cs[off]?) ∧
    (∀ cs off, getPart Try.prog 25 cs off = cs[off]?) ∧
    (∀ cs off, getPart Try.prog 26 cs off = cs[off]?) ∧
    (∀ cs off, getPart Try.prog 27 cs off = cs[off]?) ∧
    (∀ cs off, getPart Try.prog 28 cs off = cs[off]?) ∧
    (∀ cs off, getPart Try.prog 29 cs off = cs[off]?) ∧
    (∀ cs off, getPart Try.prog 30 cs off = cs[off]?) ∧
    (∀ cs off, getPart Try.prog 31 cs off = cs[off]?) ∧
    (∀ cs off, getPart Try.prog 32 cs off = cs[off]?) ∧
    (∀ cs off, getPart Try.prog 33 cs off = cs[off]?) ∧
    (∀ cs off, getPart Try.prog 34 cs off = cs[off]?) ∧
    (∀ cs off, getPart Try.prog 37 cs off = cs[off]?) ∧
    (∀ cs off, getPart Try.prog 40 cs off = cs[off]?) ∧
    (∀ cs off, getPart Try.prog 41 cs off = cs[off]?) ∧
    (∀ cs off, getPart Try.prog 42 cs off = cs[off]?) ∧
    (∀ cs off, getPart Try.prog 43 cs off = cs[off]?) ∧
    (∀ cs off, getPart Try.prog 46 cs off = cs[off]?) ∧
    (∀ cs off, getPart Try.prog 47 cs off = cs[off]?) ∧
    (∀ cs off, getPart Try.prog 48 cs off = cs[off]?) ∧
    (∀ cs off, getPart Try.prog 49 cs off = cs[off]?) ∧
    (∀ cs off, getPart Try.prog 50 cs off = cs[off]?) ∧
    (∀ cs off, getPart Try.prog 51 cs off = cs[off]?) ∧
    (∀ cs off, getPart Try.prog 52 cs off = cs[off]?) ∧
    (∀ cs off, getPart Try.prog 53 cs off = cs[off]?) ∧
    (∀ cs off, getPart Try.prog 54 cs off = cs[off]?) ∧
    (∀ cs off, getPart Try.prog 55 cs off = cs[off]?) ∧
    (∀ cs off, getPart Try.prog 56 cs off = cs[off]?) ∧
    (∀ cs off, getPart Try.prog 57 cs off = cs[off]?) ∧
    (∀ cs off, getPart Try.prog 63 cs off = cs[off]?) ∧
    (∀ cs off, getPart Try.prog 64 cs off = cs[off]?) ∧
    (∀ cs off, getPart Try.prog 65 cs off = cs[off]?) ∧
    (∀ cs off, getPart Try.prog 66 cs off = cs[off]?) ∧
    (∀ cs off, getPart Try.prog 67 cs off = cs[off]?) ∧
    (∀ cs off, getPart Try.prog 68 cs off = cs[off]?) ∧
    (∀ cs off, getPart Try.prog 69 cs off = cs[off]?) ∧
    (∀ cs off, getPart Try.prog 72 cs off = cs[off]?) := by
  refine ⟨?_, ?_, ?_, ?_, ?_, ?_, ?_, ?_, ?_, ?_, ?_, ?_, ?_, ?_, ?_, ?_, ?_, ?_, ?_, ?_, ?_, ?_, ?_, ?_, ?_, ?_, ?_, ?_, ?_, ?_, ?_, ?_, ?_, ?_, ?_, ?_, ?_, ?_, ?_, ?_, ?_, ?_, ?_, ?_, ?_, ?_, ?_, ?_, ?_, ?_, ?_, ?_, ?_, ?_⟩ <;> (intros; kernel_rfl)
theorem fieldF : (∀ b o, pFieldAddr Try.prog 7 (.ptr b o) 0 = some (.ptr b (o + 0))) ∧
    (∀ e o, pFieldAddr Try.prog 7 (.ep e o) 0 = some (.ep e (o + 0))) ∧
    (∀ b o, pFieldAddr Try.prog 7 (.ptr b o) 1 = some (.ptr b (o + 1))) ∧
    (∀ e o, pFieldAddr Try.prog 7 (.ep e o) 1 = some (.ep e (o + 1))) ∧
    (∀ b o, pFieldAddr Try.prog 7 (.ptr b o) 2 = some (.ptr b (o + 2))) ∧
    (∀ e o, pFieldAddr Try.prog 7 (.ep e o) 2 = some (.ep e (o + 2))) ∧
    (∀ b o, pFieldAddr Try.prog 7 (.ptr b o) 3 = some (.ptr b (o + 3))) ∧
    (∀ e o, pFieldAddr Try.prog 7 (.ep e o) 3 = some (.ep e (o + 3))) ∧
    (∀ b o, pFieldAddr Try.prog 8 (.ptr b o) 0 = some (.ptr b (o + 0))) ∧
    (∀ e o, pFieldAddr Try.prog 8 (.ep e o) 0 = some (.ep e (o + 0))) ∧
    (∀ b o, pFieldAddr Try.prog 8 (.ptr b o) 1 = some (.ptr b (o + 1))) ∧
    (∀ e o, pFieldAddr Try.prog 8 (.ep e o) 1 = some (.ep e (o + 1))) ∧
    (∀ b o, pFieldAddr Try.prog 8 (.ptr b o) 2 = some (.ptr b (o + 2))) ∧
    (∀ e o, pFieldAddr Try.prog 8 (.ep e o) 2 = some (.ep e (o + 2))) ∧
    (∀ b o, pFieldAddr Try.prog 8 (.ptr b o) 3 = some (.ptr b (o + 3))) ∧
    (∀ e o, pFieldAddr Try.prog 8 (.ep e o) 3 = some (.ep e (o + 3))) ∧
    (∀ b o, pFieldAddr Try.prog 13 (.ptr b o) 0 = some (.ptr b (o + 0))) ∧
    (∀ e o, pFieldAddr Try.prog 13 (.ep e o) 0 = some (.ep e (o + 0))) ∧
    (∀ b o, pFieldAddr Try.prog 13 (.ptr b o) 1 = some (.ptr b (o + 1))) ∧
    (∀ e o, pFieldAddr Try.prog 13 (.ep e o) 1 = some (.ep e (o + 1))) ∧
    (∀ b o, pFieldAddr Try.prog 14 (.ptr b o) 0 = some (.ptr b (o + 0))) ∧
    (∀ e o, pFieldAddr Try.prog 14 (.ep e o) 0 = some (.ep e (o + 0))) ∧
    (∀ b o, pFieldAddr Try.prog 14 (.ptr b o) 1 = some (.ptr b (o + 1))) ∧
    (∀ e o, pFieldAddr Try.prog 14 (.ep e o) 1 = some (.ep e (o + 1))) ∧
    (∀ b o, pFieldAddr Try.prog 18 (.ptr b o) 0 = some (.ptr b (o + 0))) ∧
    (∀ e o, pFieldAddr Try.prog 18 (.ep e o) 0 = some (.ep e (o + 0))) ∧
    (∀ b o, pFieldAddr Try.prog 19 (.ptr b o) 0 = some (.ptr b (o + 0))) ∧
    (∀ e o, pFieldAddr Try.prog 19 (.ep e o) 0 = some (.ep e (o + 0))) ∧
    (∀ b o, pFieldAddr Try.prog 35 (.ptr b o) 0 = some (.ptr b (o + 0))) ∧
    (∀ e o, pFieldAddr Try.prog 35 (.ep e o) 0 = some (.ep e (o + 0))) ∧
    (∀ b o, pFieldAddr Try.prog 35 (.ptr b o) 1 = some (.ptr b (o + 1))) ∧
    (∀ e o, pFieldAddr Try.prog 35 (.ep e o) 1 = some (.ep e (o + 1))) ∧
    (∀ b o, pFieldAddr Try.prog 35 (.ptr b o) 2 = some (.ptr b (o + 2))) ∧
    (∀ e o, pFieldAddr Try.prog 35 (.ep e o) 2 = some (.ep e (o + 2))) ∧
    (∀ b o, pFieldAddr Try.prog 35 (.ptr b o) 3 = some (.ptr b (o + 3))) ∧
    (∀ e o, pFieldAddr Try.prog 35 (.ep e o) 3 = some (.ep e (o + 3))) ∧
    (∀ b o, pFieldAddr Try.prog 36 (.ptr b o) 0 = some (.ptr b (o + 0))) ∧
    (∀ e o, pFieldAddr Try.prog 36 (.ep e o) 0 = some (.ep e (o + 0))) ∧
    (∀ b o, pFieldAddr Try.prog 36 (.ptr b o) 1 = some (.ptr b (o + 1))) ∧
    (∀ e o, pFieldAddr Try.prog 36 (.ep e o) 1 = some (.ep e (o + 1))) ∧
    (∀ b o, pFieldAddr Try.prog 36 (.ptr b o) 2 = some (.ptr b (o + 2))) ∧
    (∀ e o, pFieldAddr Try.prog 36 (.ep e o) 2 = some (.ep e (o + 2))) ∧
    (∀ b o, pFieldAddr Try.prog 36 (.ptr b o) 3 = some (.ptr b (o + 3))) ∧
    (∀ e o, pFieldAddr Try.prog 36 (.ep e o) 3 = some (.ep e (o + 3))) ∧
    (∀ b o, pFieldAddr Try.prog 38 (.ptr b o) 0 = some (.ptr b (o + 0))) ∧
    (∀ e o, pFieldAddr Try.prog 38 (.ep e o) 0 = some (.ep e (o + 0))) ∧
    (∀ b o, pFieldAddr Try.prog 38 (.ptr b o) 1 = some (.ptr b (o + 1))) ∧
    (∀ e o, pFieldAddr Try.prog 38 (.ep e o) 1 = some (.ep e (o + 1))) ∧
    (∀ b o, pFieldAddr Try.prog 38 (.ptr b o) 2 = some (.ptr b (o + 2))) ∧
    (∀ e o, pFieldAddr Try.prog 38 (.ep e o) 2 = some (.ep e (o + 2))) ∧
    (∀ b o, pFieldAddr Try.prog 38 (.ptr b o) 3 = some (.ptr b (o + 3))) ∧
    (∀ e o, pFieldAddr Try.prog 38 (.ep e o) 3 = some (.ep e (o + 3))) ∧
    (∀ b o, pFieldAddr Try.prog 39 (.ptr b o) 0 = some (.ptr b (o + 0))) ∧
    (∀ e o, pFieldAddr Try.prog 39 (.ep e o) 0 = some (.ep e (o + 0))) ∧
    (∀ b o, pFieldAddr Try.prog 39 (.ptr b o) 1 = some (.ptr b (o + 1))) ∧
    (∀ e o, pFieldAddr Try.prog 39 (.ep e o) 1 = some (.ep e (o + 1))) ∧
    (∀ b o, pFieldAddr Try.prog 39 (.ptr b o) 2 = some (.ptr b (o + 2))) ∧
    (∀ e o, pFieldAddr Try.prog 39 (.ep e o) 2 = some (.ep e (o + 2))) ∧
    (∀ b o, pFieldAddr Try.prog 39 (.ptr b o) 3 = some (.ptr b (o + 3))) ∧
    (∀ e o, pFieldAddr Try.prog 39 (.ep e o) 3 = some (.ep e (o + 3))) ∧
    (∀ b o, pFieldAddr Try.prog 44 (.ptr b o) 0 = some (.ptr b (o + 0))) ∧
    (∀ e o, pFieldAddr Try.prog 44 (.ep e o) 0 = some (.ep e (o + 0))) ∧
    (∀ b o, pFieldAddr Try.prog 44 (.ptr b o) 1 = some (.ptr b (o + 1))) ∧
    (∀ e o, pFieldAddr Try.prog 44 (.ep e o) 1 = some (.ep e (o + 1))) ∧
    (∀ b o, pFieldAddr Try.prog 44 (.ptr b o) 2 = some (.ptr b (o + 2))) ∧
    (∀ e o, pFieldAddr Try.prog 44 (.ep e o) 2 = some (.ep e (o + 2))) ∧
    (∀ b o, pFieldAddr Try.prog 44 (.ptr b o) 3 = some (.ptr b (o + 3))) ∧
    (∀ e o, pFieldAddr Try.prog 44 (.ep e o) 3 = some (.ep e (o + 3))) ∧
    (∀ b o, pFieldAddr Try.prog 45 (.ptr b o) 0 = some (.ptr b (o + 0))) ∧
    (∀ e o, pFieldAddr Try.prog 45 (.ep e o) 0 = some (.ep e (o + 0))) ∧
    (∀ b o, pFieldAddr Try.prog 45 (.ptr b o) 1 = some (.ptr b (o + 1))) ∧
    (∀ e o, pFieldAddr Try.prog 45 (.ep e o) 1 = some (.ep e (o + 1))) ∧
    (∀ b o, pFieldAddr Try.prog 45 (.ptr b o) 2 = some (.ptr b (o + 2))) ∧
    (∀ e o, pFieldAddr Try.prog 45 (.ep e o) 2 = some (.ep e (o + 2))) ∧
    (∀ b o, pFieldAddr Try.prog 45 (.ptr b o) 3 = some (.ptr b (o + 3))) ∧
    (∀ e o, pFieldAddr Try.prog 45 (.ep e o) 3 = some (.ep e (o + 3))) ∧
    (∀ b o, pFieldAddr Try.prog 58 (.ptr b o) 0 = some (.ptr b (o + 0))) ∧
    (∀ e o, pFieldAddr Try.prog 58 (.ep e o) 0 = some (.ep e (o + 0))) ∧
    (∀ b o, pFieldAddr Try.prog 58 (.ptr b o) 1 = some (.ptr b (o + 1))) ∧
    (∀ e o, pFieldAddr Try.prog 58 (.ep e o) 1 = some (.ep e (o + 1))) ∧
    (∀ b o, pFieldAddr Try.prog 58 (.ptr b o) 2 = some (.ptr b (o + 2))) ∧
    (∀ e o, pFieldAddr Try.prog 58 (.ep e o) 2 = some (.ep e (o + 2))) ∧
    (∀ b o, pFieldAddr Try.prog 58 (.ptr b o) 3 = some (.ptr b (o + 3))) ∧
    (∀ e o, pFieldAddr Try.prog 58 (.ep e o) 3 = some (.ep e (o + 3))) ∧
    (∀ b o, pFieldAddr Try.prog 59 (.ptr b o) 0 = some (.ptr b (o + 0))) ∧
    (∀ e o, pFieldAddr Try.prog 59 (.ep e o) 0 = some (.ep e (o + 0))) ∧
    (∀ b o, pFieldAddr Try.prog 59 (.ptr b o) 1 = some (.ptr b (o + 1))) ∧
    (∀ e o, pFieldAddr Try.prog 59 (.ep e o) 1 = some (.ep e (o + 1))) ∧
    (∀ b o, pFieldAddr Try.prog 59 (.ptr b o) 2 = some (.ptr b (o + 2))) ∧
    (∀ e o, pFieldAddr Try.prog 59 (.ep e o) 2 = some (.ep e (o + 2))) ∧
    (∀ b o, pFieldAddr Try.prog 59 (.ptr b o) 3 = some (.ptr b (o + 3))) ∧
    (∀ e o, pFieldAddr Try.prog 59 (.ep e o) 3 = some (.ep e (o + 3))) ∧
    (∀ b o, pFieldAddr Try.prog 70 (.ptr b o) 0 = some (.ptr b (o + 0))) ∧
    (∀ e o, pFieldAddr Try.prog 70 (.ep e o) 0 = some (.ep e (o + 0))) ∧
    (∀ b o, pFieldAddr Try.prog 70 (.ptr b o) 1 = some (.ptr b (o + 1))) ∧
    (∀ e o, pFieldAddr Try.prog 70 (.ep e o) 1 = some (.ep e (o + 1))) ∧
    (∀ b o, pFieldAddr Try.prog 70 (.ptr b o) 2 = some (.ptr b (o + 2))) ∧
    (∀ e o, pFieldAddr Try.prog 70 (.ep e o) 2 = some (.ep e (o + 2))) ∧
    (∀ b o, pFieldAddr Try.prog 70 (.ptr b o) 3 = some (.ptr b (o + 3))) ∧
    (∀ e o, pFieldAddr Try.prog 70 (.ep e o) 3 = some (.ep e (o + 3))) ∧
    (∀ b o, pFieldAddr Try.prog 70 (.ptr b o) 4 = some (.ptr b (o + 4))) ∧
    (∀ e o, pFieldAddr Try.prog 70 (.ep e o) 4 = some (.ep e (o + 4))) ∧
    (∀ b o, pFieldAddr Try.prog 70 (.ptr b o) 5 = some (.ptr b (o + 5))) ∧
    (∀ e o, pFieldAddr Try.prog 70 (.ep e o) 5 = some (.ep e (o + 5))) ∧
    (∀ b o, pFieldAddr Try.prog 70 (.ptr b o) 6 = some (.ptr b (o + 6))) ∧
    (∀ e o, pFieldAddr Try.prog 70 (.ep e o) 6 = some (.ep e (o + 6))) ∧
    (∀ b o, pFieldAddr Try.prog 70 (.ptr b o) 7 = some (.ptr b (o + 7))) ∧
    (∀ e o, pFieldAddr Try.prog 70 (.ep e o) 7 = some (.ep e (o + 7))) ∧
    (∀ b o, pFieldAddr Try.prog 70 (.ptr b o) 8 = some (.ptr b (o + 8))) ∧
    (∀ e o, pFieldAddr Try.prog 70 (.ep e o) 8 = some (.ep e (o + 8))) ∧
    (∀ b o, pFieldAddr Try.prog 70 (.ptr b o) 9 = some (.ptr b (o + 9))) ∧
    (∀ e o, pFieldAddr Try.prog 70 (.ep e o) 9 = some (.ep e (o + 9))) ∧
    (∀ b o, pFieldAddr Try.prog 70 (.ptr b o) 10 = some (.ptr b (o + 10))) ∧
    (∀ e o, pFieldAddr Try.prog 70 (.ep e o) 10 = some (.ep e (o + 10))) ∧
    (∀ b o, pFieldAddr Try.prog 71 (.ptr b o) 0 = some (.ptr b (o + 0))) ∧
    (∀ e o, pFieldAddr Try.prog 71 (.ep e o) 0 = some (.ep e (o + 0))) ∧
    (∀ b o, pFieldAddr Try.prog 71 (.ptr b o) 1 = some (.ptr b (o + 1))) ∧
    (∀ e o, pFieldAddr Try.prog 71 (.ep e o) 1 = some (.ep e (o + 1))) ∧
    (∀ b o, pFieldAddr Try.prog 71 (.ptr b o) 2 = some (.ptr b (o + 2))) ∧
    (∀ e o, pFieldAddr Try.prog 71 (.ep e o) 2 = some (.ep e (o + 2))) ∧
    (∀ b o, pFieldAddr Try.prog 71 (.ptr b o) 3 = some (.ptr b (o + 3))) ∧
    (∀ e o, pFieldAddr Try.prog 71 (.ep e o) 3 = some (.ep e (o + 3))) ∧
    (∀ b o, pFieldAddr Try.prog 71 (.ptr b o) 4 = some (.ptr b (o + 4))) ∧
    (∀ e o, pFieldAddr Try.prog 71 (.ep e o) 4 = some (.ep e (o + 4))) ∧
    (∀ b o, pFieldAddr Try.prog 71 (.ptr b o) 5 = some (.ptr b (o + 5))) ∧
    (∀ e o, pFieldAddr Try.prog 71 (.ep e o) 5 = some (.ep e (o + 5))) ∧
    (∀ b o, pFieldAddr Try.prog 71 (.ptr b o) 6 = some (.ptr b (o + 6))) ∧
    (∀ e o, pFieldAddr Try.prog 71 (.ep e o) 6 = some (.ep e (o + 6))) ∧
    (∀ b o, pFieldAddr Try.prog 71 (.ptr b o) 7 = some (.ptr b (o + 7))) ∧
    (∀ e o, pFieldAddr Try.prog 71 (.ep e o) 7 = some (.ep e (o + 7))) ∧
    (∀ b o, pFieldAddr Try.prog 71 (.ptr b o) 8 = some (.ptr b (o + 8))) ∧
    (∀ e o, pFieldAddr Try.prog 71 (.ep e o) 8 = some (.ep e (o + 8))) ∧
    (∀ b o, pFieldAddr Try.prog 71 (.ptr b o) 9 = some (.ptr b (o + 9))) ∧
    (∀ e o, pFieldAddr Try.prog 71 (.ep e o) 9 = some (.ep e (o + 9))) ∧
    (∀ b o, pFieldAddr Try.prog 71 (.ptr b o) 10 = some (.ptr b (o + 10))) ∧
    (∀ e o, pFieldAddr Try.prog 71 (.ep e o) 10 = some (.ep e (o + 10))) := by
  refine ⟨?_, ?_, ?_, ?_, ?_, ?_, ?_, ?_, ?_, ?_, ?_, ?_, ?_, ?_, ?_, ?_, ?_, ?_, ?_, ?_, ?_, ?_, ?_, ?_, ?_, ?_, ?_, ?_, ?_, ?_, ?_, ?_, ?_, ?_, ?_, ?_, ?_, ?_, ?_, ?_, ?_, ?_, ?_, ?_, ?_, ?_, ?_, ?_, ?_, ?_, ?_, ?_, ?_, ?_, ?_, ?_, ?_, ?_, ?_, ?_, ?_, ?_, ?_, ?_, ?_, ?_, ?_, ?_, ?_, ?_, ?_, ?_, ?_, ?_, ?_, ?_, ?_, ?_, ?_, ?_, ?_, ?_, ?_, ?_, ?_, ?_, ?_, ?_, ?_, ?_, ?_, ?_, ?_, ?_, ?_, ?_, ?_, ?_, ?_, ?_, ?_, ?_, ?_, ?_, ?_, ?_, ?_, ?_, ?_, ?_, ?_, ?_, ?_, ?_, ?_, ?_, ?_, ?_, ?_, ?_, ?_, ?_, ?_, ?_, ?_, ?_, ?_, ?_, ?_, ?_, ?_, ?_, ?_, ?_, ?_, ?_⟩ <;> (intros; kernel_rfl)
theorem go3 {k : Nat} {args : List PV} {st : Store} {out : PV × Store} (hn : decide (args.length ≤ 37) = true)
    (hp : endS Try.prog [.tmp 6] st (pcodeS ⟨Try.prog, ann, pcall Try.prog ann noSums k, 3, 37, st.length⟩ k (Try.f3.body.getD .skip) ⟨params args, st⟩) = some out) : pcall Try.prog ann noSums (k + 1) 3 args st = some out :=
  pcall_end rfl Try.func3 rfl rfl rfl (fun _ _ => by kernel_rfl) hn hp
theorem go4 {k : Nat} {args : List PV} {st : Store} {out : PV × Store} (hn : decide (args.length ≤ 136) = true)
    (hp : endS Try.prog [.tmp 6] st (pcodeS ⟨Try.prog, ann, pcall Try.prog ann noSums k, 4, 136, st.length⟩ k (Try.f4.body.getD .skip) ⟨params args, st⟩) = some out) : pcall Try.prog ann noSums (k + 1) 4 args st = some out :=
  pcall_end rfl Try.func4 rfl rfl rfl (fun _ _ => by kernel_rfl) hn hp
theorem go5 {k : Nat} {args : List PV} {st : Store} {out : PV × Store} (hn : decide (args.length ≤ 99) = true)
    (hp : endS Try.prog [.tmp 2] st (pcodeS ⟨Try.prog, ann, pcall Try.prog ann noSums k, 5, 99, st.length⟩ k (Try.f5.body.getD .skip) ⟨params args, st⟩) = some out) : pcall Try.prog ann noSums (k + 1) 5 args st = some out :=
  pcall_end rfl Try.func5 rfl rfl rfl (fun _ _ => by kernel_rfl) hn hp
theorem go6 {k : Nat} {args : List PV} {st : Store} {out : PV × Store} (hn : decide (args.length ≤ 18) = true)
    (hp : endS Try.prog [.tmp 0] st (pcodeS ⟨Try.prog, ann, pcall Try.prog ann noSums k, 6, 18, st.length⟩ k (Try.f6.body.getD .skip) ⟨params args, st⟩) = some out) : pcall Try.prog ann noSums (k + 1) 6 args st = some out :=
  pcall_end rfl Try.func6 rfl rfl rfl (fun _ _ => by kernel_rfl) hn hp
theorem go7 {k : Nat} {args : List PV} {st : Store} {out : PV × Store} (hn : decide (args.length ≤ 13) = true)
    (hp : endS Try.prog [.tmp 2] st (pcodeS ⟨Try.prog, ann, pcall Try.prog ann noSums k, 7, 13, st.length⟩ k (Try.f7.body.getD .skip) ⟨params args, st⟩) = some out) : pcall Try.prog ann noSums (k + 1) 7 args st = some out :=
  pcall_end rfl Try.func7 rfl rfl rfl (fun _ _ => by kernel_rfl) hn hp
theorem go8 {k : Nat} {args : List PV} {st : Store} {out : PV × Store} (hn : decide (args.length ≤ 18) = true)
    (hp : endS Try.prog [.tmp 2] st (pcodeS ⟨Try.prog, ann, pcall Try.prog ann noSums k, 8, 18, st.length⟩ k (Try.f8.body.getD .skip) ⟨params args, st⟩) = some out) : pcall Try.prog ann noSums (k + 1) 8 args st = some out :=
  pcall_end rfl Try.func8 rfl rfl rfl (fun _ _ => by kernel_rfl) hn hp
theorem go9 {k : Nat} {args : List PV} {st : Store} {out : PV × Store} (hn : decide (args.length ≤ 19) = true)
    (hp : endS Try.prog [.tmp 2] st (pcodeS ⟨Try.prog, ann, pcall Try.prog ann noSums k, 9, 19, st.length⟩ k (Try.f9.body.getD .skip) ⟨params args, st⟩) = some out) : pcall Try.prog ann noSums (k + 1) 9 args st = some out :=
  pcall_end rfl Try.func9 rfl rfl rfl (fun _ _ => by kernel_rfl) hn hp
theorem go10 {k : Nat} {args : List PV} {st : Store} {out : PV × Store} (hn : decide (args.length ≤ 19) = true)
    (hp : endS Try.prog [.tmp 2] st (pcodeS ⟨Try.prog, ann, pcall Try.prog ann noSums k, 10, 19, st.length⟩ k (Try.f10.body.getD .skip) ⟨params args, st⟩) = some out) : pcall Try.prog ann noSums (k + 1) 10 args st = some out :=
  pcall_end rfl Try.func10 rfl rfl rfl (fun _ _ => by kernel_rfl) hn hp
theorem go11 {k : Nat} {args : List PV} {st : Store} {out : PV × Store} (hn : decide (args.length ≤ 26) = true)
    (hp : endS Try.prog [.tmp 4] st (pcodeS ⟨Try.prog, ann, pcall Try.prog ann noSums k, 11, 26, st.length⟩ k (Try.f11.body.getD .skip) ⟨params args, st⟩) = some out) : pcall Try.prog ann noSums (k + 1) 11 args st = some out :=
  pcall_end rfl Try.func11 rfl rfl rfl (fun _ _ => by kernel_rfl) hn hp
theorem go12 {k : Nat} {args : List PV} {st : Store} {out : PV × Store} (hn : decide (args.length ≤ 23) = true)
    (hp : endS Try.prog [.tmp 6] st (pcodeS ⟨Try.prog, ann, pcall Try.prog ann noSums k, 12, 23, st.length⟩ k (Try.f12.body.getD .skip) ⟨params args, st⟩) = some out) : pcall Try.prog ann noSums (k + 1) 12 args st = some out :=
  pcall_end rfl Try.func12 rfl rfl rfl (fun _ _ => by kernel_rfl) hn hp
theorem go13 {k : Nat} {args : List PV} {st : Store} {out : PV × Store} (hn : decide (args.length ≤ 14) = true)
    (hp : endS Try.prog [.tmp 6] st (pcodeS ⟨Try.prog, ann, pcall Try.prog ann noSums k, 13, 14, st.length⟩ k (Try.f13.body.getD .skip) ⟨params args, st⟩) = some out) : pcall Try.prog ann noSums (k + 1) 13 args st = some out :=
  pcall_end rfl Try.func13 rfl rfl rfl (fun _ _ => by kernel_rfl) hn hp
theorem go14 {k : Nat} {args : List PV} {st : Store} {out : PV × Store} (hn : decide (args.length ≤ 59) = true)
    (hp : endS Try.prog [.tmp 4] st (pcodeS ⟨Try.prog, ann, pcall Try.prog ann noSums k, 14, 59, st.length⟩ k (Try.f14.body.getD .skip) ⟨params args, st⟩) = some out) : pcall Try.prog ann noSums (k + 1) 14 args st = some out :=
  pcall_end rfl Try.func14 rfl rfl rfl (fun _ _ => by kernel_rfl) hn hp
theorem go15 {k : Nat} {args : List PV} {st : Store} {out : PV × Store} (hn : decide (args.length ≤ 7) = true)
    (hp : endS Try.prog [.tmp 2] st (pcodeS ⟨Try.prog, ann, pcall Try.prog ann noSums k, 15, 7, st.length⟩ k (Try.f15.body.getD .skip) ⟨params args, st⟩) = some out) : pcall Try.prog ann noSums (k + 1) 15 args st = some out :=
  pcall_end rfl Try.func15 rfl rfl rfl (fun _ _ => by kernel_rfl) hn hp
theorem go16 {k : Nat} {args : List PV} {st : Store} {out : PV × Store} (hn : decide (args.length ≤ 44) = true)
    (hp : endS Try.prog [.tmp 4] st (pcodeS ⟨Try.prog, ann, pcall Try.prog ann noSums k, 16, 44, st.length⟩ k (Try.f16.body.getD .skip) ⟨params args, st⟩) = some out) : pcall Try.prog ann noSums (k + 1) 16 args st = some out :=
  pcall_end rfl Try.func16 rfl rfl rfl (fun _ _ => by kernel_rfl) hn hp
theorem go17 {k : Nat} {args : List PV} {st : Store} {out : PV × Store} (hn : decide (args.length ≤ 38) = true)
    (hp : endS Try.prog [.tmp 4] st (pcodeS ⟨Try.prog, ann, pcall Try.prog ann noSums k, 17, 38, st.length⟩ k (Try.f17.body.getD .skip) ⟨params args, st⟩) = some out) : pcall Try.prog ann noSums (k + 1) 17 args st = some out :=
  pcall_end rfl Try.func17 rfl rfl rfl (fun _ _ => by kernel_rfl) hn hp
theorem go18 {k : Nat} {args : List PV} {st : Store} {out : PV × Store} (hn : decide (args.length ≤ 150) = true)
    (hp : endS Try.prog [.tmp 6] st (pcodeS ⟨Try.prog, ann, pcall Try.prog ann noSums k, 18, 150, st.length⟩ k (Try.f18.body.getD .skip) ⟨params args, st⟩) = some out) : pcall Try.prog ann noSums (k + 1) 18 args st = some out :=
  pcall_end rfl Try.func18 rfl rfl rfl (fun _ _ => by kernel_rfl) hn hp
theorem go19 {k : Nat} {args : List PV} {st : Store} {out : PV × Store} (hn : decide (args.length ≤ 42) = true)
    (hp : endS Try.prog [.tmp 2] st (pcodeS ⟨Try.prog, ann, pcall Try.prog ann noSums k, 19, 42, st.length⟩ k (Try.f19.body.getD .skip) ⟨params args, st⟩) = some out) : pcall Try.prog ann noSums (k + 1) 19 args st = some out :=
  pcall_end rfl Try.func19 rfl rfl rfl (fun _ _ => by kernel_rfl) hn hp
theorem go20 {k : Nat} {args : List PV} {st : Store} {out : PV × Store} (hn : decide (args.length ≤ 52) = true)
    (hp : endS Try.prog [.tmp 2] st (pcodeS ⟨Try.prog, ann, pcall Try.prog ann noSums k, 20, 52, st.length⟩ k (Try.f20.body.getD .skip) ⟨params args, st⟩) = some out) : pcall Try.prog ann noSums (k + 1) 20 args st = some out :=
  pcall_end rfl Try.func20 rfl rfl rfl (fun _ _ => by kernel_rfl) hn hp
theorem go21 {k : Nat} {args : List PV} {st : Store} {out : PV × Store} (hn : decide (args.length ≤ 17) = true)
    (hp : endS Try.prog [] st (pcodeS ⟨Try.prog, ann, pcall Try.prog ann noSums k, 21, 17, st.length⟩ k (Try.f21.body.getD .skip) ⟨params args, st⟩) = some out) : pcall Try.prog ann noSums (k + 1) 21 args st = some out :=
  pcall_end rfl Try.func21 rfl rfl rfl (fun _ _ => by kernel_rfl) hn hp
theorem go22 {k : Nat} {args : List PV} {st : Store} {out : PV × Store} (hn : decide (args.length ≤ 13) = true)
    (hp : endS Try.prog [] st (pcodeS ⟨Try.prog, ann, pcall Try.prog ann noSums k, 22, 13, st.length⟩ k (Try.f22.body.getD .skip) ⟨params args, st⟩) = some out) : pcall Try.prog ann noSums (k + 1) 22 args st = some out :=
  pcall_end rfl Try.func22 rfl rfl rfl (fun _ _ => by kernel_rfl) hn hp
theorem go23 {k : Nat} {args : List PV} {st : Store} {out : PV × Store} (hn : decide (args.length ≤ 8) = true)
    (hp : endS Try.prog [.tmp 2] st (pcodeS ⟨Try.prog, ann, pcall Try.prog ann noSums k, 23, 8, st.length⟩ k (Try.f23.body.getD .skip) ⟨params args, st⟩) = some out) : pcall Try.prog ann noSums (k + 1) 23 args st = some out :=
  pcall_end rfl Try.func23 rfl rfl rfl (fun _ _ => by kernel_rfl) hn hp
theorem go24 {k : Nat} {args : List PV} {st : Store} {out : PV × Store} (hn : decide (args.length ≤ 32) = true)
    (hp : endS Try.prog [.tmp 8] st (pcodeS ⟨Try.prog, ann, pcall Try.prog ann noSums k, 24, 32, st.length⟩ k (Try.f24.body.getD .skip) ⟨params args, st⟩) = some out) : pcall Try.prog ann noSums (k + 1) 24 args st = some out :=
  pcall_end rfl Try.func24 rfl rfl rfl (fun _ _ => by kernel_rfl) hn hp
theorem go25 {k : Nat} {args : List PV} {st : Store} {out : PV × Store} (hn : decide (args.length ≤ 19) = true)
    (hp : endS Try.prog [.tmp 2] st (pcodeS ⟨Try.prog, ann, pcall Try.prog ann noSums k, 25, 19, st.length⟩ k (Try.f25.body.getD .skip) ⟨params args, st⟩) = some out) : pcall Try.prog ann noSums (k + 1) 25 args st = some out :=
  pcall_end rfl Try.func25 rfl rfl rfl (fun _ _ => by kernel_rfl) hn hp
theorem go26 {k : Nat} {args : List PV} {st : Store} {out : PV × Store} (hn : decide (args.length ≤ 98) = true)
    (hp : endS Try.prog [] st (pcodeS ⟨Try.prog, ann, pcall Try.prog ann noSums k, 26, 98, st.length⟩ k (Try.f26.body.getD .skip) ⟨params args, st⟩) = some out) : pcall Try.prog ann noSums (k + 1) 26 args st = some out :=
  pcall_end rfl Try.func26 rfl rfl rfl (fun _ _ => by kernel_rfl) hn hp
theorem go27 {k : Nat} {args : List PV} {st : Store} {out : PV × Store} (hn : decide (args.length ≤ 19) = true)
    (hp : endS Try.prog [.tmp 4] st (pcodeS ⟨Try.prog, ann, pcall Try.prog ann noSums k, 27, 19, st.length⟩ k (Try.f27.body.getD .skip) ⟨params args, st⟩) = some out) : pcall Try.prog ann noSums (k + 1) 27 args st = some out :=
  pcall_end rfl Try.func27 rfl rfl rfl (fun _ _ => by kernel_rfl) hn hp
theorem go28 {k : Nat} {args : List PV} {st : Store} {out : PV × Store} (hn : decide (args.length ≤ 2) = true)
    (hp : endS Try.prog [.tmp 0] st (pcodeS ⟨Try.prog, ann, pcall Try.prog ann noSums k, 28, 2, st.length⟩ k (Try.f28.body.getD .skip) ⟨params args, st⟩) = some out) : pcall Try.prog ann noSums (k + 1) 28 args st = some out :=
  pcall_end rfl Try.func28 rfl rfl rfl (fun _ _ => by kernel_rfl) hn hp
theorem go29 {k : Nat} {args : List PV} {st : Store} {out : PV × Store} (hn : decide (args.length ≤ 178) = true)
    (hp : endS Try.prog [.tmp 8] st (pcodeS ⟨Try.prog, ann, pcall Try.prog ann noSums k, 29, 178, st.length⟩ k (Try.f29.body.getD .skip) ⟨params args, st⟩) = some out) : pcall Try.prog ann noSums (k + 1) 29 args st = some out :=
  pcall_end rfl Try.func29 rfl rfl rfl (fun _ _ => by kernel_rfl) hn hp
theorem go30 {k : Nat} {args : List PV} {st : Store} {out : PV × Store} (hn : decide (args.length ≤ 2) = true)
    (hp : endS Try.prog [.tmp 0] st (pcodeS ⟨Try.prog, ann, pcall Try.prog ann noSums k, 30, 2, st.length⟩ k (Try.f30.body.getD .skip) ⟨params args, st⟩) = some out) : pcall Try.prog ann noSums (k + 1) 30 args st = some out :=
  pcall_end rfl Try.func30 rfl rfl rfl (fun _ _ => by kernel_rfl) hn hp
theorem go31 {k : Nat} {args : List PV} {st : Store} {out : PV × Store} (hn : decide (args.length ≤ 10) = true)
    (hp : endS Try.prog [.tmp 4] st (pcodeS ⟨Try.prog, ann, pcall Try.prog ann noSums k, 31, 10, st.length⟩ k (Try.f31.body.getD .skip) ⟨params args, st⟩) = some out) : pcall Try.prog ann noSums (k + 1) 31 args st = some out :=
  pcall_end rfl Try.func31 rfl rfl rfl (fun _ _ => by kernel_rfl) hn hp
theorem go32 {k : Nat} {args : List PV} {st : Store} {out : PV × Store} (hn : decide (args.length ≤ 48) = true)
    (hp : endS Try.prog [] st (pcodeS ⟨Try.prog, ann, pcall Try.prog ann noSums k, 32, 48, st.length⟩ k (Try.f32.body.getD .skip) ⟨params args, st⟩) = some out) : pcall Try.prog ann noSums (k + 1) 32 args st = some out :=
  pcall_end rfl Try.func32 rfl rfl rfl (fun _ _ => by kernel_rfl) hn hp
theorem go33 {k : Nat} {args : List PV} {st : Store} {out : PV × Store} (hn : decide (args.length ≤ 38) = true)
    (hp : endS Try.prog [] st (pcodeS ⟨Try.prog, ann, pcall Try.prog ann noSums k, 33, 38, st.length⟩ k (Try.f33.body.getD .skip) ⟨params args, st⟩) = some out) : pcall Try.prog ann noSums (k + 1) 33 args st = some out :=
  pcall_end rfl Try.func33 rfl rfl rfl (fun _ _ => by kernel_rfl) hn hp
theorem go34 {k : Nat} {args : List PV} {st : Store} {out : PV × Store} (hn : decide (args.length ≤ 14) = true)
    (hp : endS Try.prog [.tmp 2] st (pcodeS ⟨Try.prog, ann, pcall Try.prog ann noSums k, 34, 14, st.length⟩ k (Try.f34.body.getD .skip) ⟨params args, st⟩) = some out) : pcall Try.prog ann noSums (k + 1) 34 args st = some out :=
  pcall_end rfl Try.func34 rfl rfl rfl (fun _ _ => by kernel_rfl) hn hp
end Go.Proofs.Ytfmelnhlljgooaa.PE
