/-
  The hints of this seat's functions for PE (by program): is it called with no boxes, the slots that live from statement to statement, the slots that take. Nothing rests on their being right.
-/
import Derived.Test.YtfmelnhlljgooaaPe1
set_option linter.unusedVariables false
namespace Go.Proofs.Ytfmelnhlljgooaa.PE
open Go
def ann : FuncId → Ann
  | 3 => ⟨true, [0, 1, 2, 6, 7, 16], []⟩
  | 4 => ⟨true, [0, 1, 2, 6, 7, 8, 9, 10, 11, 12, 13, 14, 23, 58, 60, 65, 124], []⟩
  | 5 => ⟨true, [0, 1, 2, 3, 4, 5, 6, 7, 8, 9, 10, 11, 38, 62], [13, 15]⟩
  | 6 => ⟨true, [0, 1], []⟩
  | 7 => ⟨true, [0, 2, 3], []⟩
  | 8 => ⟨true, [0, 2, 3, 4, 8, 17], []⟩
  | 9 => ⟨true, [0, 2, 3, 4, 6, 7, 8], []⟩
  | 10 => ⟨true, [0, 2, 3, 4, 8], []⟩
  | 11 => ⟨true, [0, 1, 4, 5, 10, 14, 25], []⟩
  | 12 => ⟨true, [0, 1, 2, 6, 7], [22]⟩
  | 13 => ⟨true, [0, 1, 2, 6], []⟩
  | 14 => ⟨false, [0, 1, 4, 5, 9, 25, 53], []⟩
  | 15 => ⟨true, [0, 2], []⟩
  | 16 => ⟨true, [0, 1, 4, 5, 6, 7, 8, 10, 14, 37, 41], []⟩
  | 17 => ⟨true, [0, 1, 4, 5, 6, 17], []⟩
  | 18 => ⟨true, [0, 1, 2, 3, 6, 7, 8, 9, 10, 11, 23, 24, 28, 40, 52, 60, 75, 76, 87, 88, 92, 93, 109, 113, 118, 131, 136, 149], []⟩
  | 19 => ⟨true, [0, 1, 2, 3, 12, 13, 17, 19, 21, 25, 32], []⟩
  | 20 => ⟨true, [0, 1, 2, 3, 4, 12, 13, 15, 19, 26, 31, 38, 43, 50], []⟩
  | 21 => ⟨false, [0, 1, 4, 6, 7, 8], []⟩
  | 22 => ⟨false, [0, 1], [8]⟩
  | 23 => ⟨true, [0, 2], []⟩
  | 24 => ⟨true, [0, 1, 2, 3, 8, 9, 10, 14], [17, 31]⟩
  | 25 => ⟨true, [0, 2, 3, 4, 9, 17], []⟩
  | 26 => ⟨false, [0, 1, 3, 4, 10, 11, 13, 15, 17, 19, 21, 23, 57], []⟩
  | 27 => ⟨true, [0, 1, 4, 5, 7, 8, 9, 16], []⟩
  | 28 => ⟨true, [0], []⟩
  | 29 => ⟨true, [0, 1, 2, 3, 4, 8, 9, 10, 11, 12, 13, 14, 15, 16, 17, 18, 19, 28, 29, 35, 40, 51, 80, 92, 104, 133, 140, 152, 166, 172], [72, 126, 154]⟩
  | 30 => ⟨true, [0], []⟩
  | 31 => ⟨false, [0, 1, 4], []⟩
  | 32 => ⟨false, [0, 1, 2, 4, 6, 7, 8, 19, 37], []⟩
  | 33 => ⟨false, [0, 1, 2, 4, 6, 14, 15, 22], []⟩
  | 34 => ⟨false, [0, 2], []⟩
  | _ => ⟨false, [], []⟩
def noSums : Sums := fun _ => none
end Go.Proofs.Ytfmelnhlljgooaa.PE
