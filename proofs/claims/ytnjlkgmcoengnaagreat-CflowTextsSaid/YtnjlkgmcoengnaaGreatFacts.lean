/-
  Facts of this seat's functions and types, as PF asks for them (by program): the hints, which functions have bodies, the types' shapes, and the way into each function. No condition.
-/
import Derived.Test.YtnjlkgmcoengnaaGreatProg
import Derived.Test.YtnjlkgmcoengnaaGreatAnn
import Derived.Test.YtnjlkgmcoengnaaGreatPf17
import Derived.KernelRfl
set_option linter.unusedSimpArgs false
set_option linter.unusedVariables false
set_option maxRecDepth 20000
namespace Go.Proofs.YtnjlkgmcoengnaaGreat.PE
open Go

theorem annF : ann 3 = ⟨true, [0, 1, 4, 5, 6, 7, 8, 9, 10, 11, 12, 13, 14, 15, 16, 17, 18, 19, 23, 72], [], [], false, []⟩ ∧
    ann 4 = ⟨true, [0, 1, 2, 3, 4, 5, 6, 7, 10, 11, 12, 13, 14, 15, 16], [], [], false, []⟩ ∧
    ann 5 = ⟨true, [0, 1], [], [], false, []⟩ ∧
    ann 6 = ⟨true, [0, 1, 2, 4, 5, 6, 7, 8], [], [], false, []⟩ ∧
    ann 7 = ⟨true, [0, 1, 2, 4, 5, 6, 7, 8, 9, 10, 12, 21, 38], [], [], false, []⟩ ∧
    ann 8 = ⟨true, [0, 2], [], [], false, []⟩ ∧
    ann 9 = ⟨true, [0, 1, 2, 4, 5, 6, 7, 9], [], [], false, []⟩ ∧
    ann 10 = ⟨true, [0, 1, 2, 3, 6, 7, 8, 9, 10, 11, 12, 13, 15, 30], [], [], false, [9]⟩ ∧
    ann 11 = ⟨true, [0, 1, 4, 5, 10, 14, 25], [], [], false, []⟩ ∧
    ann 12 = ⟨true, [0, 1, 2, 3, 6, 7, 8, 9, 10, 11, 24], [26], [], false, []⟩ ∧
    ann 13 = ⟨true, [0, 1, 2, 4, 5, 6, 7, 13], [], [], false, []⟩ ∧
    ann 14 = ⟨true, [0], [], [], false, []⟩ ∧
    ann 15 = ⟨true, [0, 2, 4, 5, 6, 7, 8, 35], [], [], false, []⟩ ∧
    ann 16 = ⟨true, [0, 1, 4, 5], [], [], false, []⟩ ∧
    ann 17 = ⟨true, [0, 1, 2, 3, 4, 5, 6, 7, 8, 9, 10, 14, 27, 37, 75, 90], [56], [18], true, []⟩ ∧
    ann 18 = ⟨true, [0, 1, 2, 3, 6, 7, 8, 11], [], [], false, []⟩ ∧
    ann 19 = ⟨false, [0, 1], [], [], false, []⟩ ∧
    ann 20 = ⟨false, [0, 1, 4, 5, 6, 7, 17], [], [], false, []⟩ ∧
    ann 21 = ⟨true, [0, 1, 2, 3, 6, 7, 8, 9, 18], [], [], false, []⟩ ∧
    ann 22 = ⟨false, [0, 1, 8], [], [], false, []⟩ ∧
    ann 23 = ⟨true, [0, 1, 2, 4, 5, 6], [], [], false, []⟩ ∧
    ann 24 = ⟨false, [0, 1, 2, 4, 6, 7, 8, 13], [15], [], false, [2, 3]⟩ ∧
    ann 25 = ⟨true, [0, 2, 3, 4, 9, 17], [], [], false, []⟩ ∧
    ann 26 = ⟨true, [0, 1, 2, 3, 6], [], [], false, []⟩ ∧
    ann 27 = ⟨true, [0, 1, 2, 3, 4, 5, 6, 7, 8, 9, 12, 23, 29, 44, 49], [], [], false, [13]⟩ ∧
    ann 28 = ⟨false, [0], [], [], false, []⟩ ∧
    ann 29 = ⟨true, [0, 1, 4, 5, 6], [], [], false, []⟩ ∧
    ann 30 = ⟨true, [0, 1, 2, 4, 5, 10, 13], [], [], false, []⟩ ∧
    ann 31 = ⟨true, [0, 2, 3, 4, 5, 8, 10], [], [], false, []⟩ ∧
    ann 32 = ⟨true, [0, 1, 2, 3, 4], [], [], false, []⟩ ∧
    ann 33 = ⟨true, [0, 1, 4, 5, 10, 12, 13, 14, 24], [], [], false, []⟩ ∧
    ann 34 = ⟨false, [0, 1, 2, 6, 7, 8, 9, 14, 15, 16, 17, 18, 30], [], [], false, []⟩ ∧
    ann 35 = ⟨true, [0, 1, 2], [], [], false, []⟩ ∧
    ann 36 = ⟨true, [0], [], [], false, []⟩ ∧
    ann 37 = ⟨true, [0], [], [], false, []⟩ ∧
    ann 38 = ⟨true, [0, 1, 4, 5, 6, 7, 9, 13, 17, 21], [], [], false, []⟩ ∧
    ann 39 = ⟨true, [0, 2, 3, 4, 5, 6, 7], [22], [18], true, []⟩ ∧
    ann 40 = ⟨true, [0, 1, 4, 5, 7, 8, 9, 16], [], [], false, []⟩ ∧
    ann 41 = ⟨true, [0], [], [], false, []⟩ ∧
    ann 42 = ⟨true, [0, 1, 2], [], [], false, []⟩ ∧
    ann 43 = ⟨true, [0, 1, 2, 3, 6, 7, 13, 17], [], [], false, []⟩ ∧
    ann 44 = ⟨false, [0, 1, 4, 5, 6], [], [], false, []⟩ ∧
    ann 45 = ⟨false, [0, 1, 4, 5, 6, 7, 8, 9, 10, 11, 22, 34, 38, 43, 57, 64, 74, 95, 101], [], [], false, []⟩ ∧
    ann 46 = ⟨true, [0, 1, 2, 4, 5, 6, 7, 13], [], [], false, []⟩ ∧
    ann 47 = ⟨false, [0, 2], [], [], false, []⟩ ∧
    ann 48 = ⟨false, [0, 2, 3], [], [], false, []⟩ ∧
    ann 49 = ⟨false, [0], [], [], false, []⟩ ∧
    ann 50 = ⟨false, [0], [], [], false, []⟩ ∧
    ann 51 = ⟨false, [0, 2, 3], [], [], false, []⟩ ∧
    ann 52 = ⟨false, [0, 2, 3], [], [], false, []⟩ ∧
    ann 53 = ⟨false, [0], [], [], false, []⟩ ∧
    ann 54 = ⟨false, [0], [], [], false, []⟩ ∧
    ann 55 = ⟨false, [0], [], [], false, []⟩ ∧
    ann 56 = ⟨false, [0, 2], [], [], false, []⟩ ∧
    ann 57 = ⟨false, [0], [], [], false, []⟩ ∧
    ann 58 = ⟨false, [0], [], [], false, []⟩ ∧
    ann 59 = ⟨false, [0, 2, 3, 22, 38], [], [], false, []⟩ ∧
    ann 60 = ⟨true, [0, 1, 2, 3, 6, 8], [], [], false, []⟩ ∧
    ann 61 = ⟨true, [0, 1, 4, 5, 9, 17], [], [], false, []⟩ ∧
    ann 62 = ⟨true, [0, 1, 2, 3, 6], [], [], false, []⟩ ∧
    ann 63 = ⟨true, [0, 2], [], [], false, []⟩ ∧
    ann 64 = ⟨true, [0, 2, 4], [], [], false, []⟩ ∧
    ann 65 = ⟨true, [0, 1, 2, 6, 7], [19], [10], true, []⟩ ∧
    ann 66 = ⟨false, [0, 1, 8], [], [], false, []⟩ ∧
    ann 67 = ⟨true, [0, 1, 2, 4, 5, 6, 7, 16, 44], [], [], false, []⟩ ∧
    ann 68 = ⟨false, [0, 1, 4, 5], [], [], false, []⟩ ∧
    ann 69 = ⟨false, [0, 1, 4, 5], [], [], false, []⟩ ∧
    ann 70 = ⟨false, [0, 1, 4, 5, 6, 21, 32], [], [], false, []⟩ ∧
    ann 71 = ⟨true, [0, 1, 2, 4, 5, 6, 7, 8, 10, 11, 12, 13, 14, 15, 19, 26, 49, 76, 87], [38], [], false, []⟩ ∧
    ann 72 = ⟨false, [0, 1, 4, 5, 6, 7, 8, 9, 10, 11, 12, 13, 14, 15, 16, 17, 19, 20, 27, 46, 50, 55, 66, 78, 86, 103, 107, 114, 119, 127, 169, 201, 228, 250], [], [], false, []⟩ ∧
    ann 73 = ⟨false, [0, 1, 4, 5, 6, 7, 8, 9, 10, 11, 12, 13, 14, 15, 16, 23, 33, 72, 79, 87, 94, 102, 109, 116, 128], [], [], false, []⟩ ∧
    ann 74 = ⟨true, [0, 1, 4, 5, 6, 7, 10, 16], [21, 25], [], false, []⟩ ∧
    ann 75 = ⟨true, [0, 1, 4, 7], [], [], false, []⟩ ∧
    ann 76 = ⟨false, [0, 1, 4], [], [], false, []⟩ ∧
    ann 77 = ⟨false, [0, 1, 3, 9], [], [], false, []⟩ ∧
    ann 78 = ⟨false, [0, 1, 4, 5, 6, 26], [], [], false, []⟩ ∧
    ann 79 = ⟨false, [0, 1, 4, 5, 10], [], [], false, []⟩ ∧
    ann 80 = ⟨false, [0, 1, 4], [], [], false, []⟩ ∧
    ann 81 = ⟨false, [0, 1, 4, 6, 17, 18, 19, 20], [], [], false, []⟩ ∧
    ann 82 = ⟨true, [0, 2, 4], [], [], false, []⟩ ∧
    ann 83 = ⟨true, [0, 2], [], [], false, []⟩ ∧
    ann 84 = ⟨true, [0, 1, 2, 4, 5, 12], [], [], false, []⟩ ∧
    ann 85 = ⟨true, [0, 1, 2, 4, 5, 6, 7], [18], [], false, []⟩ ∧
    ann 86 = ⟨false, [0, 1], [], [], false, []⟩ ∧
    ann 87 = ⟨true, [0, 2], [], [], false, []⟩ ∧
    ann 88 = ⟨true, [0, 1, 2, 6, 7, 8, 9, 10, 15, 20, 44], [16, 21, 45, 46], [], false, []⟩ ∧
    ann 89 = ⟨true, [0, 1, 4, 6, 8, 9, 10, 13, 25, 37], [], [], false, []⟩ ∧
    ann 90 = ⟨true, [0, 1, 2, 3, 4, 8, 9, 10, 11, 13, 14, 16, 17, 18, 19, 20, 21, 22, 23, 24, 25, 26, 27, 28, 29, 30, 31, 32, 33, 34, 35, 36, 37, 38, 40, 58, 77, 90, 102, 113, 115, 135, 148], [79, 92, 137, 150], [], false, []⟩ ∧
    ann 91 = ⟨false, [0, 2, 3, 4, 5], [], [], false, []⟩ ∧
    ann 92 = ⟨false, [0], [], [], false, []⟩ ∧
    ann 93 = ⟨false, [0, 2, 3, 4, 5], [], [], false, []⟩ ∧
    ann 94 = ⟨false, [0, 1, 4, 5, 6, 7, 16, 26], [], [], false, []⟩ ∧
    ann 95 = ⟨false, [0, 1, 2, 6, 7], [], [], false, []⟩ ∧
    ann 96 = ⟨true, [0, 1, 4, 5, 6, 10, 12, 13, 17, 20, 24, 28, 32, 36, 41, 50, 57, 64, 71, 78, 82, 86, 95], [], [], false, []⟩ ∧
    ann 97 = ⟨false, [0, 1, 4, 12], [], [], false, []⟩ ∧
    ann 98 = ⟨true, [0, 2], [], [], false, []⟩ ∧
    ann 99 = ⟨true, [0, 1, 2, 3, 6, 7, 8, 13], [], [], false, []⟩ ∧
    ann 100 = ⟨true, [0, 1, 2, 6, 7, 11], [12], [], false, []⟩ ∧
    ann 101 = ⟨true, [0, 1, 4, 5, 6, 8, 12, 19, 22, 25, 51], [], [], false, []⟩ ∧
    ann 102 = ⟨true, [0, 1, 2, 6, 7, 8, 17, 26, 38, 44, 56, 68, 80, 95, 110, 131, 136, 145, 149, 163], [137], [], false, []⟩ ∧
    ann 103 = ⟨true, [0, 1, 2, 6, 7, 8, 9, 10, 11, 12, 13, 21, 22, 26, 30, 35, 40, 45, 50, 55, 60, 65, 70, 75, 77, 82, 84, 93, 102, 111, 120, 129, 138, 149], [], [], false, []⟩ ∧
    ann 104 = ⟨true, [0, 1, 4, 5, 6, 7, 8, 9, 10, 11, 12, 13, 14, 15, 16, 17, 18, 19, 20, 21, 22, 23, 24, 25, 26, 27, 28, 29, 46, 70, 78, 93, 108, 128, 148, 168, 179, 193, 196, 200, 203], [], [], false, []⟩ ∧
    ann 105 = ⟨true, [0, 1, 2, 3, 6, 7, 8, 9, 10, 11, 12, 13, 14, 15, 18, 20, 33, 45, 58, 71, 82, 96, 108, 121, 135, 148, 164, 180, 196, 203, 210, 235, 237, 249, 274, 276], [297], [], false, []⟩ ∧
    ann 106 = ⟨true, [0, 1, 2, 3, 6, 7, 8, 9, 10, 11, 16, 18, 30, 42, 56], [], [], false, []⟩ ∧
    ann 107 = ⟨true, [0, 1, 2, 3, 6, 7, 8, 9, 10, 11, 12, 13, 14, 15, 16, 17, 20, 21, 29, 31, 33, 46, 52, 69, 82], [], [], false, []⟩ ∧
    ann 108 = ⟨true, [0, 1, 2, 4, 5, 15], [], [], false, []⟩ ∧
    ann 109 = ⟨true, [0, 1, 2, 3, 6, 7, 8, 9, 10, 11, 12, 13, 14, 15, 16, 17, 18, 19, 20, 23, 25, 28, 50, 66, 76, 86, 94], [123], [], false, []⟩ ∧
    ann 110 = ⟨true, [0, 1, 2, 3, 6, 7, 8, 9, 10, 11, 27, 34, 59, 83, 88, 91, 108, 112], [], [], false, [26]⟩ ∧
    ann 111 = ⟨true, [0, 1, 2, 3, 6, 7, 8, 9, 10, 11, 12, 18, 24, 30, 36, 55], [], [], false, [3, 5, 7, 9, 14]⟩ ∧
    ann 112 = ⟨true, [0, 1, 2, 3, 4, 5, 9], [], [], false, []⟩ ∧
    ann 113 = ⟨true, [0, 1, 2, 3, 4, 5, 6, 7], [15], [], false, []⟩ ∧
    ann 114 = ⟨true, [0, 1, 2, 6, 7, 8, 9, 18, 28], [], [], false, []⟩ ∧
    ann 115 = ⟨true, [0, 1, 2, 3, 6, 7, 8, 13], [], [], false, []⟩ ∧
    ann 116 = ⟨true, [0, 1, 4, 5, 6, 7, 8, 10, 32], [], [], false, []⟩ ∧
    ann 117 = ⟨true, [0, 2, 3, 4], [], [], false, []⟩ ∧
    ann 118 = ⟨true, [0, 1, 2, 4, 5, 10], [], [], false, []⟩ ∧
    ann 119 = ⟨true, [0, 1, 2, 6, 7, 8, 14, 19, 22], [], [], false, []⟩ ∧
    ann 120 = ⟨true, [0, 1, 4, 5, 6, 7, 8, 9, 22], [], [], false, []⟩ ∧
    ann 121 = ⟨true, [0, 1, 2, 6, 7, 8, 9, 10, 11, 32, 37], [], [], false, []⟩ ∧
    ann 122 = ⟨true, [0, 1, 4, 5, 6, 7], [], [], false, []⟩ ∧
    ann 123 = ⟨true, [0, 1, 2, 6, 7, 8, 9, 10, 12, 17], [], [], false, []⟩ ∧
    ann 124 = ⟨true, [0, 1, 2, 6, 7, 8, 9, 10, 11, 12, 13, 14, 16, 26, 41, 46, 51], [], [], false, []⟩ ∧
    ann 125 = ⟨true, [0, 2, 3], [], [], false, []⟩ ∧
    ann 126 = ⟨true, [0, 1, 2, 6], [], [], false, []⟩ ∧
    ann 127 = ⟨true, [0, 1, 2, 4, 5, 6, 11], [], [], false, []⟩ ∧
    ann 128 = ⟨true, [0, 1, 2, 3, 6, 7], [], [], false, []⟩ ∧
    ann 129 = ⟨true, [0, 1, 2, 3, 4, 8, 9, 10, 11, 12, 18, 24], [], [21], true, []⟩ ∧
    ann 130 = ⟨true, [0, 1, 2, 3, 4, 8, 9, 10, 11, 20], [], [], false, []⟩ ∧
    ann 131 = ⟨true, [0, 1, 2, 3, 4, 8, 9, 31, 41], [], [], false, []⟩ ∧
    ann 132 = ⟨true, [0], [], [], false, []⟩ ∧
    ann 133 = ⟨true, [0, 1, 2, 3, 6, 7, 8, 11], [], [], false, []⟩ ∧
    ann 134 = ⟨true, [0, 1, 2, 3, 6, 7, 8, 9, 18], [], [], false, []⟩ ∧
    ann 135 = ⟨true, [0, 1, 2, 4, 5, 6, 7, 13], [14], [], false, []⟩ ∧
    ann 136 = ⟨true, [0, 1, 2, 3], [], [], false, []⟩ ∧
    ann 137 = ⟨true, [0, 1, 2, 3, 6, 7, 8, 9, 10, 16, 19], [22, 32], [], false, []⟩ ∧
    ann 138 = ⟨true, [0, 1, 4, 5, 6, 7, 9, 23], [], [], false, []⟩ ∧
    ann 139 = ⟨true, [0, 1, 4, 5, 6, 7, 8, 14, 28], [], [], false, []⟩ ∧
    ann 140 = ⟨true, [0], [], [], false, []⟩ ∧
    ann 141 = ⟨true, [0, 1, 2, 3, 4, 8, 9, 10, 11, 12, 13, 14, 15, 17, 18, 24, 55], [], [], false, []⟩ ∧
    ann 142 = ⟨true, [0, 1, 2, 3, 4, 8, 9, 10, 11, 12, 13, 14, 15, 16, 17, 37, 53], [], [], false, []⟩ ∧
    ann 143 = ⟨true, [0, 1, 2, 4, 5, 14], [], [], false, []⟩ ∧
    ann 144 = ⟨true, [0, 1, 2, 4, 5, 7], [], [], false, []⟩ ∧
    ann 145 = ⟨true, [0, 1, 2, 3, 4, 5, 8, 14], [17], [], false, []⟩ ∧
    ann 146 = ⟨true, [0, 1, 2, 3, 6, 7, 8, 9, 11, 12, 19, 23, 40], [], [36], true, []⟩ ∧
    ann 147 = ⟨true, [0, 2, 3, 4, 7], [8], [], false, []⟩ ∧
    ann 148 = ⟨true, [0, 2, 3, 4, 5, 9], [12, 20], [], false, []⟩ ∧
    ann 149 = ⟨true, [0, 1, 4, 5, 6, 7, 8, 9, 10, 11, 12, 13], [], [], false, []⟩ ∧
    ann 150 = ⟨true, [0, 2, 4], [], [], false, []⟩ ∧
    ann 151 = ⟨true, [0, 1, 4, 5, 7], [], [], false, []⟩ ∧
    ann 152 = ⟨true, [0, 1, 2, 6, 7, 8, 9, 10, 11, 14, 34], [], [], false, []⟩ ∧
    ann 153 = ⟨true, [0, 1, 2, 6, 7, 8, 9, 10, 11, 12, 13, 14, 20, 32], [], [], false, []⟩ ∧
    ann 154 = ⟨true, [0, 2, 8, 17], [], [], false, []⟩ := by
  refine ⟨?_, ?_, ?_, ?_, ?_, ?_, ?_, ?_, ?_, ?_, ?_, ?_, ?_, ?_, ?_, ?_, ?_, ?_, ?_, ?_, ?_, ?_, ?_, ?_, ?_, ?_, ?_, ?_, ?_, ?_, ?_, ?_, ?_, ?_, ?_, ?_, ?_, ?_, ?_, ?_, ?_, ?_, ?_, ?_, ?_, ?_, ?_, ?_, ?_, ?_, ?_, ?_, ?_, ?_, ?_, ?_, ?_, ?_, ?_, ?_, ?_, ?_, ?_, ?_, ?_, ?_, ?_, ?_, ?_, ?_, ?_, ?_, ?_, ?_, ?_, ?_, ?_, ?_, ?_, ?_, ?_, ?_, ?_, ?_, ?_, ?_, ?_, ?_, ?_, ?_, ?_, ?_, ?_, ?_, ?_, ?_, ?_, ?_, ?_, ?_, ?_, ?_, ?_, ?_, ?_, ?_, ?_, ?_, ?_, ?_, ?_, ?_, ?_, ?_, ?_, ?_, ?_, ?_, ?_, ?_, ?_, ?_, ?_, ?_, ?_, ?_, ?_, ?_, ?_, ?_, ?_, ?_, ?_, ?_, ?_, ?_, ?_, ?_, ?_, ?_, ?_, ?_, ?_, ?_, ?_, ?_, ?_, ?_, ?_, ?_, ?_, ?_⟩ <;> rfl
theorem bodyF : hasBody Tryz.prog 3 = true ∧
    hasBody Tryz.prog 4 = true ∧
    hasBody Tryz.prog 5 = true ∧
    hasBody Tryz.prog 6 = true ∧
    hasBody Tryz.prog 7 = true ∧
    hasBody Tryz.prog 8 = true ∧
    hasBody Tryz.prog 9 = true ∧
    hasBody Tryz.prog 10 = true ∧
    hasBody Tryz.prog 11 = true ∧
    hasBody Tryz.prog 12 = true ∧
    hasBody Tryz.prog 13 = true ∧
    hasBody Tryz.prog 14 = true ∧
    hasBody Tryz.prog 15 = true ∧
    hasBody Tryz.prog 16 = true ∧
    hasBody Tryz.prog 17 = true ∧
    hasBody Tryz.prog 18 = true ∧
    hasBody Tryz.prog 19 = true ∧
    hasBody Tryz.prog 20 = true ∧
    hasBody Tryz.prog 21 = true ∧
    hasBody Tryz.prog 22 = true ∧
    hasBody Tryz.prog 23 = true ∧
    hasBody Tryz.prog 24 = true ∧
    hasBody Tryz.prog 25 = true ∧
    hasBody Tryz.prog 26 = true ∧
    hasBody Tryz.prog 27 = true ∧
    hasBody Tryz.prog 28 = true ∧
    hasBody Tryz.prog 29 = true ∧
    hasBody Tryz.prog 30 = true ∧
    hasBody Tryz.prog 31 = true ∧
    hasBody Tryz.prog 32 = true ∧
    hasBody Tryz.prog 33 = true ∧
    hasBody Tryz.prog 34 = true ∧
    hasBody Tryz.prog 35 = true ∧
    hasBody Tryz.prog 36 = true ∧
    hasBody Tryz.prog 37 = true ∧
    hasBody Tryz.prog 38 = true ∧
    hasBody Tryz.prog 39 = true ∧
    hasBody Tryz.prog 40 = true ∧
    hasBody Tryz.prog 41 = true ∧
    hasBody Tryz.prog 42 = true ∧
    hasBody Tryz.prog 43 = true ∧
    hasBody Tryz.prog 44 = true ∧
    hasBody Tryz.prog 45 = true ∧
    hasBody Tryz.prog 46 = true ∧
    hasBody Tryz.prog 47 = true ∧
    hasBody Tryz.prog 48 = true ∧
    hasBody Tryz.prog 49 = true ∧
    hasBody Tryz.prog 50 = true ∧
    hasBody Tryz.prog 51 = true ∧
    hasBody Tryz.prog 52 = true ∧
    hasBody Tryz.prog 53 = true ∧
    hasBody Tryz.prog 54 = true ∧
    hasBody Tryz.prog 55 = true ∧
    hasBody Tryz.prog 56 = true ∧
    hasBody Tryz.prog 57 = true ∧
    hasBody Tryz.prog 58 = true ∧
    hasBody Tryz.prog 59 = true ∧
    hasBody Tryz.prog 60 = true ∧
    hasBody Tryz.prog 61 = true ∧
    hasBody Tryz.prog 62 = true ∧
    hasBody Tryz.prog 63 = true ∧
    hasBody Tryz.prog 64 = true ∧
    hasBody Tryz.prog 65 = true ∧
    hasBody Tryz.prog 66 = true ∧
    hasBody Tryz.prog 67 = true ∧
    hasBody Tryz.prog 68 = true ∧
    hasBody Tryz.prog 69 = true ∧
    hasBody Tryz.prog 70 = true ∧
    hasBody Tryz.prog 71 = true ∧
    hasBody Tryz.prog 72 = true ∧
    hasBody Tryz.prog 73 = true ∧
    hasBody Tryz.prog 74 = true ∧
    hasBody Tryz.prog 75 = true ∧
    hasBody Tryz.prog 76 = true ∧
    hasBody Tryz.prog 77 = true ∧
    hasBody Tryz.prog 78 = true ∧
    hasBody Tryz.prog 79 = true ∧
    hasBody Tryz.prog 80 = true ∧
    hasBody Tryz.prog 81 = true ∧
    hasBody Tryz.prog 82 = true ∧
    hasBody Tryz.prog 83 = true ∧
    hasBody Tryz.prog 84 = true ∧
    hasBody Tryz.prog 85 = true ∧
    hasBody Tryz.prog 86 = true ∧
    hasBody Tryz.prog 87 = true ∧
    hasBody Tryz.prog 88 = true ∧
    hasBody Tryz.prog 89 = true ∧
    hasBody Tryz.prog 90 = true ∧
    hasBody Tryz.prog 91 = true ∧
    hasBody Tryz.prog 92 = true ∧
    hasBody Tryz.prog 93 = true ∧
    hasBody Tryz.prog 94 = true ∧
    hasBody Tryz.prog 95 = true ∧
    hasBody Tryz.prog 96 = true ∧
    hasBody Tryz.prog 97 = true ∧
    hasBody Tryz.prog 98 = true ∧
    hasBody Tryz.prog 99 = true ∧
    hasBody Tryz.prog 100 = true ∧
    hasBody Tryz.prog 101 = true ∧
    hasBody Tryz.prog 102 = true ∧
    hasBody Tryz.prog 103 = true ∧
    hasBody Tryz.prog 104 = true ∧
    hasBody Tryz.prog 105 = true ∧
    hasBody Tryz.prog 106 = true ∧
    hasBody Tryz.prog 107 = true ∧
    hasBody Tryz.prog 108 = true ∧
    hasBody Tryz.prog 109 = true ∧
    hasBody Tryz.prog 110 = true ∧
    hasBody Tryz.prog 111 = true ∧
    hasBody Tryz.prog 112 = true ∧
    hasBody Tryz.prog 113 = true ∧
    hasBody Tryz.prog 114 = true ∧
    hasBody Tryz.prog 115 = true ∧
    hasBody Tryz.prog 116 = true ∧
    hasBody Tryz.prog 117 = true ∧
    hasBody Tryz.prog 118 = true ∧
    hasBody Tryz.prog 119 = true ∧
    hasBody Tryz.prog 120 = true ∧
    hasBody Tryz.prog 121 = true ∧
    hasBody Tryz.prog 122 = true ∧
    hasBody Tryz.prog 123 = true ∧
    hasBody Tryz.prog 124 = true ∧
    hasBody Tryz.prog 125 = true ∧
    hasBody Tryz.prog 126 = true ∧
    hasBody Tryz.prog 127 = true ∧
    hasBody Tryz.prog 128 = true ∧
    hasBody Tryz.prog 129 = true ∧
    hasBody Tryz.prog 130 = true ∧
    hasBody Tryz.prog 131 = true ∧
    hasBody Tryz.prog 132 = true ∧
    hasBody Tryz.prog 133 = true ∧
    hasBody Tryz.prog 134 = true ∧
    hasBody Tryz.prog 135 = true ∧
    hasBody Tryz.prog 136 = true ∧
    hasBody Tryz.prog 137 = true ∧
    hasBody Tryz.prog 138 = true ∧
    hasBody Tryz.prog 139 = true ∧
    hasBody Tryz.prog 140 = true ∧
    hasBody Tryz.prog 141 = true ∧
    hasBody Tryz.prog 142 = true ∧
    hasBody Tryz.prog 143 = true ∧
    hasBody Tryz.prog 144 = true ∧
    hasBody Tryz.prog 145 = true ∧
    hasBody Tryz.prog 146 = true ∧
    hasBody Tryz.prog 147 = true ∧
    hasBody Tryz.prog 148 = true ∧
    hasBody Tryz.prog 149 = true ∧
    hasBody Tryz.prog 150 = true ∧
    hasBody Tryz.prog 151 = true ∧
    hasBody Tryz.prog 152 = true ∧
    hasBody Tryz.prog 153 = true ∧
    hasBody Tryz.prog 154 = true := by
  refine ⟨?_, ?_, ?_, ?_, ?_, ?_, ?_, ?_, ?_, ?_, ?_, ?_, ?_, ?_, ?_, ?_, ?_, ?_, ?_, ?_, ?_, ?_, ?_, ?_, ?_, ?_, ?_, ?_, ?_, ?_, ?_, ?_, ?_, ?_, ?_, ?_, ?_, ?_, ?_, ?_, ?_, ?_, ?_, ?_, ?_, ?_, ?_, ?_, ?_, ?_, ?_, ?_, ?_, ?_, ?_, ?_, ?_, ?_, ?_, ?_, ?_, ?_, ?_, ?_, ?_, ?_, ?_, ?_, ?_, ?_, ?_, ?_, ?_, ?_, ?_, ?_, ?_, ?_, ?_, ?_, ?_, ?_, ?_, ?_, ?_, ?_, ?_, ?_, ?_, ?_, ?_, ?_, ?_, ?_, ?_, ?_, ?_, ?_, ?_, ?_, ?_, ?_, ?_, ?_, ?_, ?_, ?_, ?_, ?_, ?_, ?_, ?_, ?_, ?_, ?_, ?_, ?_, ?_, ?_, ?_, ?_, ?_, ?_, ?_, ?_, ?_, ?_, ?_, ?_, ?_, ?_, ?_, ?_, ?_, ?_, ?_, ?_, ?_, ?_, ?_, ?_, ?_, ?_, ?_, ?_, ?_, ?_, ?_, ?_, ?_, ?_, ?_⟩ <;> kernel_rfl
theorem aggF : tAgg Tryz.prog 0 = some false ∧
    tAgg Tryz.prog 1 = some false ∧
    tAgg Tryz.prog 2 = some false ∧
    tAgg Tryz.prog 3 = some false ∧
    tAgg Tryz.prog 4 = some false ∧
    tAgg Tryz.prog 5 = some false ∧
    tAgg Tryz.prog 6 = some false ∧
    tAgg Tryz.prog 7 = some true ∧
    tAgg Tryz.prog 8 = some true ∧
    tAgg Tryz.prog 9 = some false ∧
    tAgg Tryz.prog 10 = some false ∧
    tAgg Tryz.prog 11 = some false ∧
    tAgg Tryz.prog 12 = some false ∧
    tAgg Tryz.prog 13 = some true ∧
    tAgg Tryz.prog 14 = some true ∧
    tAgg Tryz.prog 15 = some false ∧
    tAgg Tryz.prog 16 = some false ∧
    tAgg Tryz.prog 17 = some false ∧
    tAgg Tryz.prog 18 = some true ∧
    tAgg Tryz.prog 19 = some true ∧
    tAgg Tryz.prog 20 = some false ∧
    tAgg Tryz.prog 21 = some false ∧
    tAgg Tryz.prog 22 = some false ∧
    tAgg Tryz.prog 23 = some true ∧
    tAgg Tryz.prog 24 = some true ∧
    tAgg Tryz.prog 25 = some false ∧
    tAgg Tryz.prog 26 = some false ∧
    tAgg Tryz.prog 27 = some true ∧
    tAgg Tryz.prog 28 = some true ∧
    tAgg Tryz.prog 29 = some false ∧
    tAgg Tryz.prog 30 = some false ∧
    tAgg Tryz.prog 31 = some false ∧
    tAgg Tryz.prog 32 = some true ∧
    tAgg Tryz.prog 33 = some true ∧
    tAgg Tryz.prog 34 = some false ∧
    tAgg Tryz.prog 35 = some false ∧
    tAgg Tryz.prog 36 = some true ∧
    tAgg Tryz.prog 37 = some true ∧
    tAgg Tryz.prog 38 = some false ∧
    tAgg Tryz.prog 39 = some false ∧
    tAgg Tryz.prog 40 = some false ∧
    tAgg Tryz.prog 41 = some false ∧
    tAgg Tryz.prog 42 = some false ∧
    tAgg Tryz.prog 43 = some false ∧
    tAgg Tryz.prog 44 = some false ∧
    tAgg Tryz.prog 45 = some false ∧
    tAgg Tryz.prog 46 = some false ∧
    tAgg Tryz.prog 47 = some false ∧
    tAgg Tryz.prog 48 = some false ∧
    tAgg Tryz.prog 49 = some false ∧
    tAgg Tryz.prog 50 = some false ∧
    tAgg Tryz.prog 51 = some false ∧
    tAgg Tryz.prog 52 = some false ∧
    tAgg Tryz.prog 53 = some true ∧
    tAgg Tryz.prog 54 = some true ∧
    tAgg Tryz.prog 55 = some false ∧
    tAgg Tryz.prog 56 = some false ∧
    tAgg Tryz.prog 57 = some false ∧
    tAgg Tryz.prog 58 = some false ∧
    tAgg Tryz.prog 59 = some false ∧
    tAgg Tryz.prog 60 = some false ∧
    tAgg Tryz.prog 61 = some false ∧
    tAgg Tryz.prog 62 = some false ∧
    tAgg Tryz.prog 63 = some true ∧
    tAgg Tryz.prog 64 = some true ∧
    tAgg Tryz.prog 65 = some false ∧
    tAgg Tryz.prog 66 = some false ∧
    tAgg Tryz.prog 67 = some false ∧
    tAgg Tryz.prog 68 = some false ∧
    tAgg Tryz.prog 69 = some false ∧
    tAgg Tryz.prog 70 = some false ∧
    tAgg Tryz.prog 71 = some true ∧
    tAgg Tryz.prog 72 = some true ∧
    tAgg Tryz.prog 73 = some false ∧
    tAgg Tryz.prog 74 = some false ∧
    tAgg Tryz.prog 75 = some false ∧
    tAgg Tryz.prog 76 = some false ∧
    tAgg Tryz.prog 77 = some false ∧
    tAgg Tryz.prog 78 = some false ∧
    tAgg Tryz.prog 79 = some false ∧
    tAgg Tryz.prog 80 = some false ∧
    tAgg Tryz.prog 81 = some false ∧
    tAgg Tryz.prog 82 = some false ∧
    tAgg Tryz.prog 83 = some false ∧
    tAgg Tryz.prog 84 = some false ∧
    tAgg Tryz.prog 85 = some false ∧
    tAgg Tryz.prog 86 = some false ∧
    tAgg Tryz.prog 87 = some false ∧
    tAgg Tryz.prog 88 = some true ∧
    tAgg Tryz.prog 89 = some true ∧
    tAgg Tryz.prog 90 = some false ∧
    tAgg Tryz.prog 91 = some false ∧
    tAgg Tryz.prog 92 = some false ∧
    tAgg Tryz.prog 93 = some true ∧
    tAgg Tryz.prog 94 = some true ∧
    tAgg Tryz.prog 95 = some false ∧
    tAgg Tryz.prog 96 = some false ∧
    tAgg Tryz.prog 97 = some true ∧
    tAgg Tryz.prog 98 = some true ∧
    tAgg Tryz.prog 99 = some false ∧
    tAgg Tryz.prog 100 = some false ∧
    tAgg Tryz.prog 101 = some false ∧
    tAgg Tryz.prog 102 = some false ∧
    tAgg Tryz.prog 103 = some false ∧
    tAgg Tryz.prog 104 = some false ∧
    tAgg Tryz.prog 105 = some true ∧
    tAgg Tryz.prog 106 = some false ∧
    tAgg Tryz.prog 107 = some true ∧
    tAgg Tryz.prog 108 = some true ∧
    tAgg Tryz.prog 109 = some false ∧
    tAgg Tryz.prog 110 = some false ∧
    tAgg Tryz.prog 111 = some false ∧
    tAgg Tryz.prog 112 = some false ∧
    tAgg Tryz.prog 113 = some false ∧
    tAgg Tryz.prog 114 = some false ∧
    tAgg Tryz.prog 115 = some true ∧
    tAgg Tryz.prog 116 = some true ∧
    tAgg Tryz.prog 117 = some false ∧
    tAgg Tryz.prog 118 = some false ∧
    tAgg Tryz.prog 119 = some false ∧
    tAgg Tryz.prog 120 = some false ∧
    tAgg Tryz.prog 121 = some false ∧
    tAgg Tryz.prog 122 = some false ∧
    tAgg Tryz.prog 123 = some false ∧
    tAgg Tryz.prog 124 = some false ∧
    tAgg Tryz.prog 125 = some false ∧
    tAgg Tryz.prog 126 = some false ∧
    tAgg Tryz.prog 127 = some false ∧
    tAgg Tryz.prog 128 = some false ∧
    tAgg Tryz.prog 129 = some false ∧
    tAgg Tryz.prog 130 = some false ∧
    tAgg Tryz.prog 131 = some false ∧
    tAgg Tryz.prog 132 = some false ∧
    tAgg Tryz.prog 133 = some false ∧
    tAgg Tryz.prog 134 = some false ∧
    tAgg Tryz.prog 135 = some false ∧
    tAgg Tryz.prog 136 = some false ∧
    tAgg Tryz.prog 137 = some false ∧
    tAgg Tryz.prog 138 = some false ∧
    tAgg Tryz.prog 139 = some false ∧
    tAgg Tryz.prog 140 = some false ∧
    tAgg Tryz.prog 141 = some false ∧
    tAgg Tryz.prog 142 = some false ∧
    tAgg Tryz.prog 143 = some false ∧
    tAgg Tryz.prog 144 = some false ∧
    tAgg Tryz.prog 145 = some false ∧
    tAgg Tryz.prog 146 = some false ∧
    tAgg Tryz.prog 147 = some false ∧
    tAgg Tryz.prog 148 = some false ∧
    tAgg Tryz.prog 149 = some false ∧
    tAgg Tryz.prog 150 = some false ∧
    tAgg Tryz.prog 151 = some false ∧
    tAgg Tryz.prog 152 = some false ∧
    tAgg Tryz.prog 153 = some false ∧
    tAgg Tryz.prog 154 = some false ∧
    tAgg Tryz.prog 155 = some false ∧
    tAgg Tryz.prog 156 = some false ∧
    tAgg Tryz.prog 157 = some false ∧
    tAgg Tryz.prog 158 = some false ∧
    tAgg Tryz.prog 159 = some false ∧
    tAgg Tryz.prog 160 = some false ∧
    tAgg Tryz.prog 161 = some false ∧
    tAgg Tryz.prog 162 = some false ∧
    tAgg Tryz.prog 163 = some false ∧
    tAgg Tryz.prog 164 = some false ∧
    tAgg Tryz.prog 165 = some false ∧
    tAgg Tryz.prog 166 = some false ∧
    tAgg Tryz.prog 167 = some false ∧
    tAgg Tryz.prog 168 = some false ∧
    tAgg Tryz.prog 169 = some false ∧
    tAgg Tryz.prog 170 = some false ∧
    tAgg Tryz.prog 171 = some false ∧
    tAgg Tryz.prog 172 = some false ∧
    tAgg Tryz.prog 173 = some false ∧
    tAgg Tryz.prog 174 = some false ∧
    tAgg Tryz.prog 175 = some false ∧
    tAgg Tryz.prog 176 = some false ∧
    tAgg Tryz.prog 177 = some false ∧
    tAgg Tryz.prog 178 = some false ∧
    tAgg Tryz.prog 179 = some false ∧
    tAgg Tryz.prog 180 = some false ∧
    tAgg Tryz.prog 181 = some false ∧
    tAgg Tryz.prog 182 = some true ∧
    tAgg Tryz.prog 183 = some true ∧
    tAgg Tryz.prog 184 = some false ∧
    tAgg Tryz.prog 185 = some false ∧
    tAgg Tryz.prog 186 = some false ∧
    tAgg Tryz.prog 187 = some false ∧
    tAgg Tryz.prog 188 = some false ∧
    tAgg Tryz.prog 189 = some false ∧
    tAgg Tryz.prog 190 = some false ∧
    tAgg Tryz.prog 191 = some false ∧
    tAgg Tryz.prog 192 = some false ∧
    tAgg Tryz.prog 193 = some false ∧
    tAgg Tryz.prog 194 = some false ∧
    tAgg Tryz.prog 195 = some true ∧
    tAgg Tryz.prog 196 = some true ∧
    tAgg Tryz.prog 197 = some true ∧
    tAgg Tryz.prog 198 = some true ∧
    tAgg Tryz.prog 199 = some true ∧
    tAgg Tryz.prog 200 = some false ∧
    tAgg Tryz.prog 201 = some false ∧
    tAgg Tryz.prog 202 = some false ∧
    tAgg Tryz.prog 203 = some false ∧
    tAgg Tryz.prog 204 = some false ∧
    tAgg Tryz.prog 205 = some false ∧
    tAgg Tryz.prog 206 = some false ∧
    tAgg Tryz.prog 207 = some true ∧
    tAgg Tryz.prog 208 = some true ∧
    tAgg Tryz.prog 209 = some true ∧
    tAgg Tryz.prog 210 = some true ∧
    tAgg Tryz.prog 211 = some false := by
  refine ⟨?_, ?_, ?_, ?_, ?_, ?_, ?_, ?_, ?_, ?_, ?_, ?_, ?_, ?_, ?_, ?_, ?_, ?_, ?_, ?_, ?_, ?_, ?_, ?_, ?_, ?_, ?_, ?_, ?_, ?_, ?_, ?_, ?_, ?_, ?_, ?_, ?_, ?_, ?_, ?_, ?_, ?_, ?_, ?_, ?_, ?_, ?_, ?_, ?_, ?_, ?_, ?_, ?_, ?_, ?_, ?_, ?_, ?_, ?_, ?_, ?_, ?_, ?_, ?_, ?_, ?_, ?_, ?_, ?_, ?_, ?_, ?_, ?_, ?_, ?_, ?_, ?_, ?_, ?_, ?_, ?_, ?_, ?_, ?_, ?_, ?_, ?_, ?_, ?_, ?_, ?_, ?_, ?_, ?_, ?_, ?_, ?_, ?_, ?_, ?_, ?_, ?_, ?_, ?_, ?_, ?_, ?_, ?_, ?_, ?_, ?_, ?_, ?_, ?_, ?_, ?_, ?_, ?_, ?_, ?_, ?_, ?_, ?_, ?_, ?_, ?_, ?_, ?_, ?_, ?_, ?_, ?_, ?_, ?_, ?_, ?_, ?_, ?_, ?_, ?_, ?_, ?_, ?_, ?_, ?_, ?_, ?_, ?_, ?_, ?_, ?_, ?_, ?_, ?_, ?_, ?_, ?_, ?_, ?_, ?_, ?_, ?_, ?_, ?_, ?_, ?_, ?_, ?_, ?_, ?_, ?_, ?_, ?_, ?_, ?_, ?_, ?_, ?_, ?_, ?_, ?_, ?_, ?_, ?_, ?_, ?_, ?_, ?_, ?_, ?_, ?_, ?_, ?_, ?_, ?_, ?_, ?_, ?_, ?_, ?_, ?_, ?_, ?_, ?_, ?_, ?_, ?_, ?_, ?_, ?_, ?_, ?_⟩ <;> kernel_rfl
theorem sizeF : tSize Tryz.prog 0 = some 1 ∧
    tSize Tryz.prog 1 = some 1 ∧
    tSize Tryz.prog 2 = some 1 ∧
    tSize Tryz.prog 3 = some 1 ∧
    tSize Tryz.prog 4 = some 1 ∧
    tSize Tryz.prog 5 = some 1 ∧
    tSize Tryz.prog 6 = some 1 ∧
    tSize Tryz.prog 7 = some 4 ∧
    tSize Tryz.prog 8 = some 4 ∧
    tSize Tryz.prog 9 = some 1 ∧
    tSize Tryz.prog 10 = some 1 ∧
    tSize Tryz.prog 11 = some 1 ∧
    tSize Tryz.prog 12 = some 1 ∧
    tSize Tryz.prog 13 = some 2 ∧
    tSize Tryz.prog 14 = some 2 ∧
    tSize Tryz.prog 15 = some 1 ∧
    tSize Tryz.prog 16 = some 1 ∧
    tSize Tryz.prog 17 = some 1 ∧
    tSize Tryz.prog 18 = some 1 ∧
    tSize Tryz.prog 19 = some 1 ∧
    tSize Tryz.prog 20 = some 1 ∧
    tSize Tryz.prog 21 = some 1 ∧
    tSize Tryz.prog 22 = some 1 ∧
    tSize Tryz.prog 23 = some 5 ∧
    tSize Tryz.prog 24 = some 5 ∧
    tSize Tryz.prog 25 = some 1 ∧
    tSize Tryz.prog 26 = some 1 ∧
    tSize Tryz.prog 27 = some 2 ∧
    tSize Tryz.prog 28 = some 2 ∧
    tSize Tryz.prog 29 = some 1 ∧
    tSize Tryz.prog 30 = some 1 ∧
    tSize Tryz.prog 31 = some 1 ∧
    tSize Tryz.prog 32 = some 2 ∧
    tSize Tryz.prog 33 = some 2 ∧
    tSize Tryz.prog 34 = some 1 ∧
    tSize Tryz.prog 35 = some 1 ∧
    tSize Tryz.prog 36 = some 23 ∧
    tSize Tryz.prog 37 = some 23 ∧
    tSize Tryz.prog 38 = some 1 ∧
    tSize Tryz.prog 39 = some 1 ∧
    tSize Tryz.prog 40 = some 1 ∧
    tSize Tryz.prog 41 = some 1 ∧
    tSize Tryz.prog 42 = some 1 ∧
    tSize Tryz.prog 43 = some 1 ∧
    tSize Tryz.prog 44 = some 1 ∧
    tSize Tryz.prog 45 = some 1 ∧
    tSize Tryz.prog 46 = some 1 ∧
    tSize Tryz.prog 47 = some 1 ∧
    tSize Tryz.prog 48 = some 1 ∧
    tSize Tryz.prog 49 = some 1 ∧
    tSize Tryz.prog 50 = some 1 ∧
    tSize Tryz.prog 51 = some 1 ∧
    tSize Tryz.prog 52 = some 1 ∧
    tSize Tryz.prog 53 = some 3 ∧
    tSize Tryz.prog 54 = some 3 ∧
    tSize Tryz.prog 55 = some 1 ∧
    tSize Tryz.prog 56 = some 1 ∧
    tSize Tryz.prog 57 = some 1 ∧
    tSize Tryz.prog 58 = some 1 ∧
    tSize Tryz.prog 59 = some 1 ∧
    tSize Tryz.prog 60 = some 1 ∧
    tSize Tryz.prog 61 = some 1 ∧
    tSize Tryz.prog 62 = some 1 ∧
    tSize Tryz.prog 63 = some 25 ∧
    tSize Tryz.prog 64 = some 25 ∧
    tSize Tryz.prog 65 = some 1 ∧
    tSize Tryz.prog 66 = some 1 ∧
    tSize Tryz.prog 67 = some 1 ∧
    tSize Tryz.prog 68 = some 1 ∧
    tSize Tryz.prog 69 = some 1 ∧
    tSize Tryz.prog 70 = some 1 ∧
    tSize Tryz.prog 71 = some 27 ∧
    tSize Tryz.prog 72 = some 27 ∧
    tSize Tryz.prog 73 = some 1 ∧
    tSize Tryz.prog 74 = some 1 ∧
    tSize Tryz.prog 75 = some 1 ∧
    tSize Tryz.prog 76 = some 1 ∧
    tSize Tryz.prog 77 = some 1 ∧
    tSize Tryz.prog 78 = some 1 ∧
    tSize Tryz.prog 79 = some 1 ∧
    tSize Tryz.prog 80 = some 1 ∧
    tSize Tryz.prog 81 = some 1 ∧
    tSize Tryz.prog 82 = some 1 ∧
    tSize Tryz.prog 83 = some 1 ∧
    tSize Tryz.prog 84 = some 1 ∧
    tSize Tryz.prog 85 = some 1 ∧
    tSize Tryz.prog 86 = some 1 ∧
    tSize Tryz.prog 87 = some 1 ∧
    tSize Tryz.prog 88 = some 3 ∧
    tSize Tryz.prog 89 = some 3 ∧
    tSize Tryz.prog 90 = some 1 ∧
    tSize Tryz.prog 91 = some 1 ∧
    tSize Tryz.prog 92 = some 1 ∧
    tSize Tryz.prog 93 = some 3 ∧
    tSize Tryz.prog 94 = some 3 ∧
    tSize Tryz.prog 95 = some 1 ∧
    tSize Tryz.prog 96 = some 1 ∧
    tSize Tryz.prog 97 = some 28 ∧
    tSize Tryz.prog 98 = some 28 ∧
    tSize Tryz.prog 99 = some 1 ∧
    tSize Tryz.prog 100 = some 1 ∧
    tSize Tryz.prog 101 = some 1 ∧
    tSize Tryz.prog 102 = some 1 ∧
    tSize Tryz.prog 103 = some 1 ∧
    tSize Tryz.prog 104 = some 1 ∧
    tSize Tryz.prog 105 = some 8 ∧
    tSize Tryz.prog 106 = some 1 ∧
    tSize Tryz.prog 107 = some 2 ∧
    tSize Tryz.prog 108 = some 2 ∧
    tSize Tryz.prog 109 = some 1 ∧
    tSize Tryz.prog 110 = some 1 ∧
    tSize Tryz.prog 111 = some 1 ∧
    tSize Tryz.prog 112 = some 1 ∧
    tSize Tryz.prog 113 = some 1 ∧
    tSize Tryz.prog 114 = some 1 ∧
    tSize Tryz.prog 115 = some 3 ∧
    tSize Tryz.prog 116 = some 3 ∧
    tSize Tryz.prog 117 = some 1 ∧
    tSize Tryz.prog 118 = some 1 ∧
    tSize Tryz.prog 119 = some 1 ∧
    tSize Tryz.prog 120 = some 1 ∧
    tSize Tryz.prog 121 = some 1 ∧
    tSize Tryz.prog 122 = some 1 ∧
    tSize Tryz.prog 123 = some 1 ∧
    tSize Tryz.prog 124 = some 1 ∧
    tSize Tryz.prog 125 = some 1 ∧
    tSize Tryz.prog 126 = some 1 ∧
    tSize Tryz.prog 127 = some 1 ∧
    tSize Tryz.prog 128 = some 1 ∧
    tSize Tryz.prog 129 = some 1 ∧
    tSize Tryz.prog 130 = some 1 ∧
    tSize Tryz.prog 131 = some 1 ∧
    tSize Tryz.prog 132 = some 1 ∧
    tSize Tryz.prog 133 = some 1 ∧
    tSize Tryz.prog 134 = some 1 ∧
    tSize Tryz.prog 135 = some 1 ∧
    tSize Tryz.prog 136 = some 1 ∧
    tSize Tryz.prog 137 = some 1 ∧
    tSize Tryz.prog 138 = some 1 ∧
    tSize Tryz.prog 139 = some 1 ∧
    tSize Tryz.prog 140 = some 1 ∧
    tSize Tryz.prog 141 = some 1 ∧
    tSize Tryz.prog 142 = some 1 ∧
    tSize Tryz.prog 143 = some 1 ∧
    tSize Tryz.prog 144 = some 1 ∧
    tSize Tryz.prog 145 = some 1 ∧
    tSize Tryz.prog 146 = some 1 ∧
    tSize Tryz.prog 147 = some 1 ∧
    tSize Tryz.prog 148 = some 1 ∧
    tSize Tryz.prog 149 = some 1 ∧
    tSize Tryz.prog 150 = some 1 ∧
    tSize Tryz.prog 151 = some 1 ∧
    tSize Tryz.prog 152 = some 1 ∧
    tSize Tryz.prog 153 = some 1 ∧
    tSize Tryz.prog 154 = some 1 ∧
    tSize Tryz.prog 155 = some 1 ∧
    tSize Tryz.prog 156 = some 1 ∧
    tSize Tryz.prog 157 = some 1 ∧
    tSize Tryz.prog 158 = some 1 ∧
    tSize Tryz.prog 159 = some 1 ∧
    tSize Tryz.prog 160 = some 1 ∧
    tSize Tryz.prog 161 = some 1 ∧
    tSize Tryz.prog 162 = some 1 ∧
    tSize Tryz.prog 163 = some 1 ∧
    tSize Tryz.prog 164 = some 1 ∧
    tSize Tryz.prog 165 = some 1 ∧
    tSize Tryz.prog 166 = some 1 ∧
    tSize Tryz.prog 167 = some 1 ∧
    tSize Tryz.prog 168 = some 1 ∧
    tSize Tryz.prog 169 = some 1 ∧
    tSize Tryz.prog 170 = some 1 ∧
    tSize Tryz.prog 171 = some 1 ∧
    tSize Tryz.prog 172 = some 1 ∧
    tSize Tryz.prog 173 = some 1 ∧
    tSize Tryz.prog 174 = some 1 ∧
    tSize Tryz.prog 175 = some 1 ∧
    tSize Tryz.prog 176 = some 1 ∧
    tSize Tryz.prog 177 = some 1 ∧
    tSize Tryz.prog 178 = some 1 ∧
    tSize Tryz.prog 179 = some 1 ∧
    tSize Tryz.prog 180 = some 1 ∧
    tSize Tryz.prog 181 = some 1 ∧
    tSize Tryz.prog 182 = some 6 ∧
    tSize Tryz.prog 183 = some 6 ∧
    tSize Tryz.prog 184 = some 1 ∧
    tSize Tryz.prog 185 = some 1 ∧
    tSize Tryz.prog 186 = some 1 ∧
    tSize Tryz.prog 187 = some 1 ∧
    tSize Tryz.prog 188 = some 1 ∧
    tSize Tryz.prog 189 = some 1 ∧
    tSize Tryz.prog 190 = some 1 ∧
    tSize Tryz.prog 191 = some 1 ∧
    tSize Tryz.prog 192 = some 1 ∧
    tSize Tryz.prog 193 = some 1 ∧
    tSize Tryz.prog 194 = some 1 ∧
    tSize Tryz.prog 195 = some 4 ∧
    tSize Tryz.prog 196 = some 4 ∧
    tSize Tryz.prog 197 = some 0 ∧
    tSize Tryz.prog 198 = some 0 ∧
    tSize Tryz.prog 199 = some 0 ∧
    tSize Tryz.prog 200 = some 1 ∧
    tSize Tryz.prog 201 = some 1 ∧
    tSize Tryz.prog 202 = some 1 ∧
    tSize Tryz.prog 203 = some 1 ∧
    tSize Tryz.prog 204 = some 1 ∧
    tSize Tryz.prog 205 = some 1 ∧
    tSize Tryz.prog 206 = some 1 ∧
    tSize Tryz.prog 207 = some 11 ∧
    tSize Tryz.prog 208 = some 11 ∧
    tSize Tryz.prog 209 = some 4 ∧
    tSize Tryz.prog 210 = some 4 ∧
    tSize Tryz.prog 211 = some 1 := by
  refine ⟨?_, ?_, ?_, ?_, ?_, ?_, ?_, ?_, ?_, ?_, ?_, ?_, ?_, ?_, ?_, ?_, ?_, ?_, ?_, ?_, ?_, ?_, ?_, ?_, ?_, ?_, ?_, ?_, ?_, ?_, ?_, ?_, ?_, ?_, ?_, ?_, ?_, ?_, ?_, ?_, ?_, ?_, ?_, ?_, ?_, ?_, ?_, ?_, ?_, ?_, ?_, ?_, ?_, ?_, ?_, ?_, ?_, ?_, ?_, ?_, ?_, ?_, ?_, ?_, ?_, ?_, ?_, ?_, ?_, ?_, ?_, ?_, ?_, ?_, ?_, ?_, ?_, ?_, ?_, ?_, ?_, ?_, ?_, ?_, ?_, ?_, ?_, ?_, ?_, ?_, ?_, ?_, ?_, ?_, ?_, ?_, ?_, ?_, ?_, ?_, ?_, ?_, ?_, ?_, ?_, ?_, ?_, ?_, ?_, ?_, ?_, ?_, ?_, ?_, ?_, ?_, ?_, ?_, ?_, ?_, ?_, ?_, ?_, ?_, ?_, ?_, ?_, ?_, ?_, ?_, ?_, ?_, ?_, ?_, ?_, ?_, ?_, ?_, ?_, ?_, ?_, ?_, ?_, ?_, ?_, ?_, ?_, ?_, ?_, ?_, ?_, ?_, ?_, ?_, ?_, ?_, ?_, ?_, ?_, ?_, ?_, ?_, ?_, ?_, ?_, ?_, ?_, ?_, ?_, ?_, ?_, ?_, ?_, ?_, ?_, ?_, ?_, ?_, ?_, ?_, ?_, ?_, ?_, ?_, ?_, ?_, ?_, ?_, ?_, ?_, ?_, ?_, ?_, ?_, ?_, ?_, ?_, ?_, ?_, ?_, ?_, ?_, ?_, ?_, ?_, ?_, ?_, ?_, ?_, ?_, ?_, ?_⟩ <;> kernel_rfl
theorem elemF : tElem Tryz.prog 25 = some 5 ∧
    tElem Tryz.prog 26 = some 108 ∧
    tElem Tryz.prog 29 = some 3 ∧
    tElem Tryz.prog 30 = some 116 ∧
    tElem Tryz.prog 31 = some 89 ∧
    tElem Tryz.prog 34 = some 183 ∧
    tElem Tryz.prog 35 = some 210 ∧
    tElem Tryz.prog 48 = some 54 ∧
    tElem Tryz.prog 55 = some 9 := by
  refine ⟨?_, ?_, ?_, ?_, ?_, ?_, ?_, ?_, ?_⟩ <;> kernel_rfl
theorem arrF : tArr Tryz.prog 105 = some (8, 5) ∧
    tArr Tryz.prog 197 = some (0, 16) := by
  refine ⟨?_, ?_⟩ <;> kernel_rfl
theorem strF : tString Tryz.prog 9 = true ∧
    tString Tryz.prog 10 = true ∧
    tString Tryz.prog 11 = true := by
  refine ⟨?_, ?_, ?_⟩ <;> kernel_rfl
theorem partF : (∀ cs off, getPart Tryz.prog 0 cs off = cs[off]?) ∧
    (∀ cs off, getPart Tryz.prog 1 cs off = cs[off]?) ∧
    (∀ cs off, getPart Tryz.prog 2 cs off = cs[off]?) ∧
    (∀ cs off, getPart Tryz.prog 3 cs off = cs[off]?) ∧
    (∀ cs off, getPart Tryz.prog 4 cs off = cs[off]?) ∧
    (∀ cs off, getPart Tryz.prog 5 cs off = cs[off]?) ∧
    (∀ cs off, getPart Tryz.prog 6 cs off = cs[off]?) ∧
    (∀ cs off, getPart Tryz.prog 9 cs off = cs[off]?) ∧
    (∀ cs off, getPart Tryz.prog 10 cs off = cs[off]?) ∧
    (∀ cs off, getPart Tryz.prog 11 cs off = cs[off]?) ∧
    (∀ cs off, getPart Tryz.prog 12 cs off = cs[off]?) ∧
    (∀ cs off, getPart Tryz.prog 15 cs off = cs[off]?) ∧
    (∀ cs off, getPart Tryz.prog 16 cs off = cs[off]?) ∧
    (∀ cs off, getPart Tryz.prog 17 cs off = cs[off]?) ∧
    (∀ cs off, getPart Tryz.prog 20 cs off = cs[off]?) ∧
    (∀ cs off, getPart Tryz.prog 21 cs off = cs[off]?) ∧
    (∀ cs off, getPart Tryz.prog 22 cs off = cs[off]?) ∧
    (∀ cs off, getPart Tryz.prog 25 cs off = cs[off]?) ∧
    (∀ cs off, getPart Tryz.prog 26 cs off = cs[off]?) ∧
    (∀ cs off, getPart Tryz.prog 29 cs off = cs[off]?) ∧
    (∀ cs off, getPart Tryz.prog 30 cs off = cs[off]?) ∧
    (∀ cs off, getPart Tryz.prog 31 cs off = cs[off]?) ∧
    (∀ cs off, getPart Tryz.prog 34 cs off = cs[off]?) ∧
    (∀ cs off, getPart Tryz.prog 35 cs off = cs[off]?) ∧
    (∀ cs off, getPart Tryz.prog 38 cs off = cs[off]?) ∧
    (∀ cs off, getPart Tryz.prog 39 cs off = cs[off]?) ∧
    (∀ cs off, getPart Tryz.prog 40 cs off = cs[off]?) ∧
    (∀ cs off, getPart Tryz.prog 41 cs off = cs[off]?) ∧
    (∀ cs off, getPart Tryz.prog 42 cs off = cs[off]?) ∧
    (∀ cs off, getPart Tryz.prog 43 cs off = cs[off]?) ∧
    (∀ cs off, getPart Tryz.prog 44 cs off = cs[off]?) ∧
    (∀ cs off, getPart Tryz.prog 45 cs off = cs[off]?) ∧
    (∀ cs off, getPart Tryz.prog 46 cs off = cs[off]?) ∧
    (∀ cs off, getPart Tryz.prog 47 cs off = cs[off]?) ∧
    (∀ cs off, getPart Tryz.prog 48 cs off = cs[off]?) ∧
    (∀ cs off, getPart Tryz.prog 49 cs off = cs[off]?) ∧
    (∀ cs off, getPart Tryz.prog 50 cs off = cs[off]?) ∧
    (∀ cs off, getPart Tryz.prog 51 cs off = cs[off]?) ∧
    (∀ cs off, getPart Tryz.prog 52 cs off = cs[off]?) ∧
    (∀ cs off, getPart Tryz.prog 55 cs off = cs[off]?) ∧
    (∀ cs off, getPart Tryz.prog 56 cs off = cs[off]?) ∧
    (∀ cs off, getPart Tryz.prog 57 cs off = cs[off]?) ∧
    (∀ cs off, getPart Tryz.prog 58 cs off = cs[off]?) ∧
    (∀ cs off, getPart Tryz.prog 59 cs off = cs[off]?) ∧
    (∀ cs off, getPart Tryz.prog 60 cs off = cs[off]?) ∧
    (∀ cs off, getPart Tryz.prog 61 cs off = cs[off]?) ∧
    (∀ cs off, getPart Tryz.prog 62 cs off = cs[off]?) ∧
    (∀ cs off, getPart Tryz.prog 65 cs off = cs[off]?) ∧
    (∀ cs off, getPart Tryz.prog 66 cs off = cs[off]?) ∧
    (∀ cs off, getPart Tryz.prog 67 cs off = cs[off]?) ∧
    (∀ cs off, getPart Tryz.prog 68 cs off = cs[off]?) ∧
    (∀ cs off, getPart Tryz.prog 69 cs off = cs[off]?) ∧
    (∀ cs off, getPart Tryz.prog 70 cs off = cs[off]?) ∧
    (∀ cs off, getPart Tryz.prog 73 cs off = cs[off]?) ∧
    (∀ cs off, getPart Tryz.prog 74 cs off = cs[off]?) ∧
    (∀ cs off, getPart Tryz.prog 75 cs off = cs[off]?) ∧
    (∀ cs off, getPart Tryz.prog 76 cs off = cs[off]?) ∧
    (∀ cs off, getPart Tryz.prog 77 cs off = cs[off]?) ∧
    (∀ cs off, getPart Tryz.prog 78 cs off = cs[off]?) ∧
    (∀ cs off, getPart Tryz.prog 79 cs off = cs[off]?) ∧
    (∀ cs off, getPart Tryz.prog 80 cs off = cs[off]?) ∧
    (∀ cs off, getPart Tryz.prog 81 cs off = cs[off]?) ∧
    (∀ cs off, getPart Tryz.prog 82 cs off = cs[off]?) ∧
    (∀ cs off, getPart Tryz.prog 83 cs off = cs[off]?) ∧
    (∀ cs off, getPart Tryz.prog 84 cs off = cs[off]?) ∧
    (∀ cs off, getPart Tryz.prog 85 cs off = cs[off]?) ∧
    (∀ cs off, getPart Tryz.prog 86 cs off = cs[off]?) ∧
    (∀ cs off, getPart Tryz.prog 87 cs off = cs[off]?) ∧
    (∀ cs off, getPart Tryz.prog 90 cs off = cs[off]?) ∧
    (∀ cs off, getPart Tryz.prog 91 cs off = cs[off]?) ∧
    (∀ cs off, getPart Tryz.prog 92 cs off = cs[off]?) ∧
    (∀ cs off, getPart Tryz.prog 95 cs off = cs[off]?) ∧
    (∀ cs off, getPart Tryz.prog 96 cs off = cs[off]?) ∧
    (∀ cs off, getPart Tryz.prog 99 cs off = cs[off]?) ∧
    (∀ cs off, getPart Tryz.prog 100 cs off = cs[off]?) ∧
    (∀ cs off, getPart Tryz.prog 101 cs off = cs[off]?) ∧
    (∀ cs off, getPart Tryz.prog 102 cs off = cs[off]?) ∧
    (∀ cs off, getPart Tryz.prog 103 cs off = cs[off]?) ∧
    (∀ cs off, getPart Tryz.prog 104 cs off = cs[off]?) ∧
    (∀ cs off, getPart Tryz.prog 106 cs off = cs[off]?) ∧
    (∀ cs off, getPart Tryz.prog 109 cs off = cs[off]?) ∧
    (∀ cs off, getPart Tryz.prog 110 cs off = cs[off]?) ∧
    (∀ cs off, getPart Tryz.prog 111 cs off = cs[off]?) ∧
    (∀ cs off, getPart Tryz.prog 112 cs off = cs[off]?) ∧
    (∀ cs off, getPart Tryz.prog 113 cs off = cs[off]?) ∧
    (∀ cs off, getPart Tryz.prog 114 cs off = cs[off]?) ∧
    (∀ cs off, getPart Tryz.prog 117 cs off = cs[off]?) ∧
    (∀ cs off, getPart Tryz.prog 118 cs off = cs[off]?) ∧
    (∀ cs off, getPart Tryz.prog 119 cs off = cs[off]?) ∧
    (∀ cs off, getPart Tryz.prog 120 cs off = cs[off]?) ∧
    (∀ cs off, getPart Tryz.prog 121 cs off = cs[off]?) ∧
    (∀ cs off, getPart Tryz.prog 122 cs off = cs[off]?) ∧
    (∀ cs off, getPart Tryz.prog 123 cs off = cs[off]?) ∧
    (∀ cs off, getPart Tryz.prog 124 cs off = cs[off]?) ∧
    (∀ cs off, getPart Tryz.prog 125 cs off = cs[off]?) ∧
    (∀ cs off, getPart Tryz.prog 126 cs off = cs[off]?) ∧
    (∀ cs off, getPart Tryz.prog 127 cs off = cs[off]?) ∧
    (∀ cs off, getPart Tryz.prog 128 cs off = cs[off]?) ∧
    (∀ cs off, getPart Tryz.prog 129 cs off = cs[off]?) ∧
    (∀ cs off, getPart Tryz.prog 130 cs off = cs[off]?) ∧
    (∀ cs off, getPart Tryz.prog 131 cs off = cs[off]?) ∧
    (∀ cs off, getPart Tryz.prog 132 cs off = cs[off]?) ∧
    (∀ cs off, getPart Tryz.prog 133 cs off = cs[off]?) ∧
    (∀ cs off, getPart Tryz.prog 134 cs off = cs[off]?) ∧
    (∀ cs off, getPart Tryz.prog 135 cs off = cs[off]?) ∧
    (∀ cs off, getPart Tryz.prog 136 cs off = cs[off]?) ∧
    (∀ cs off, getPart Tryz.prog 137 cs off = cs[off]?) ∧
    (∀ cs off, getPart Tryz.prog 138 cs off = cs[off]?) ∧
    (∀ cs off, getPart Tryz.prog 139 cs off = cs[off]?) ∧
    (∀ cs off, getPart Tryz.prog 140 cs off = cs[off]?) ∧
    (∀ cs off, getPart Tryz.prog 141 cs off = cs[off]?) ∧
    (∀ cs off, getPart Tryz.prog 142 cs off = cs[off]?) ∧
    (∀ cs off, getPart Tryz.prog 143 cs off = cs[off]?) ∧
    (∀ cs off, getPart Tryz.prog 144 cs off = cs[off]?) ∧
    (∀ cs off, getPart Tryz.prog 145 cs off = cs[off]?) ∧
    (∀ cs off, getPart Tryz.prog 146 cs off = cs[off]?) ∧
    (∀ cs off, getPart Tryz.prog 147 cs off = cs[off]?) ∧
    (∀ cs off, getPart Tryz.prog 148 cs off = cs[off]?) ∧
    (∀ cs off, getPart Tryz.prog 149 cs off = cs[off]?) ∧
    (∀ cs off, getPart Tryz.prog 150 cs off = cs[off]?) ∧
    (∀ cs off, getPart Tryz.prog 151 cs off = cs[off]?) ∧
    (∀ cs off, getPart Tryz.prog 152 cs off = cs[off]?) ∧
    (∀ cs off, getPart Tryz.prog 153 cs off = cs[off]?) ∧
    (∀ cs off, getPart Tryz.prog 154 cs off = cs[off]?) ∧
    (∀ cs off, getPart Tryz.prog 155 cs off = cs[off]?) ∧
    (∀ cs off, getPart Tryz.prog 156 cs off = cs[off]?) ∧
    (∀ cs off, getPart Tryz.prog 157 cs off = cs[off]?) ∧
    (∀ cs off, getPart Tryz.prog 158 cs off = cs[off]?) ∧
    (∀ cs off, getPart Tryz.prog 159 cs off = cs[off]?) ∧
    (∀ cs off, getPart Tryz.prog 160 cs off = cs[off]?) ∧
    (∀ cs off, getPart Tryz.prog 161 cs off = cs[off]?) ∧
    (∀ cs off, getPart Tryz.prog 162 cs off = cs[off]?) ∧
    (∀ cs off, getPart Tryz.prog 163 cs off = cs[off]?) ∧
    (∀ cs off, getPart Tryz.prog 164 cs off = cs[off]?) ∧
    (∀ cs off, getPart Tryz.prog 165 cs off = cs[off]?) ∧
    (∀ cs off, getPart Tryz.prog 166 cs off = cs[off]?) ∧
    (∀ cs off, getPart Tryz.prog 167 cs off = cs[off]?) ∧
    (∀ cs off, getPart Tryz.prog 168 cs off = cs[off]?) ∧
    (∀ cs off, getPart Tryz.prog 169 cs off = cs[off]?) ∧
    (∀ cs off, getPart Tryz.prog 170 cs off = cs[off]?) ∧
    (∀ cs off, getPart Tryz.prog 171 cs off = cs[off]?) ∧
    (∀ cs off, getPart Tryz.prog 172 cs off = cs[off]?) ∧
    (∀ cs off, getPart Tryz.prog 173 cs off = cs[off]?) ∧
    (∀ cs off, getPart Tryz.prog 174 cs off = cs[off]?) ∧
    (∀ cs off, getPart Tryz.prog 175 cs off = cs[off]?) ∧
    (∀ cs off, getPart Tryz.prog 176 cs off = cs[off]?) ∧
    (∀ cs off, getPart Tryz.prog 177 cs off = cs[off]?) ∧
    (∀ cs off, getPart Tryz.prog 178 cs off = cs[off]?) ∧
    (∀ cs off, getPart Tryz.prog 179 cs off = cs[off]?) ∧
    (∀ cs off, getPart Tryz.prog 180 cs off = cs[off]?) ∧
    (∀ cs off, getPart Tryz.prog 181 cs off = cs[off]?) ∧
    (∀ cs off, getPart Tryz.prog 184 cs off = cs[off]?) ∧
    (∀ cs off, getPart Tryz.prog 185 cs off = cs[off]?) ∧
    (∀ cs off, getPart Tryz.prog 186 cs off = cs[off]?) ∧
    (∀ cs off, getPart Tryz.prog 187 cs off = cs[off]?) ∧
    (∀ cs off, getPart Tryz.prog 188 cs off = cs[off]?) ∧
    (∀ cs off, getPart Tryz.prog 189 cs off = cs[off]?) ∧
    (∀ cs off, getPart Tryz.prog 190 cs off = cs[off]?) ∧
    (∀ cs off, getPart Tryz.prog 191 cs off = cs[off]?) ∧
    (∀ cs off, getPart Tryz.prog 192 cs off = cs[off]?) ∧
    (∀ cs off, getPart Tryz.prog 193 cs off = cs[off]?) ∧
    (∀ cs off, getPart Tryz.prog 194 cs off = cs[off]?) ∧
    (∀ cs off, getPart Tryz.prog 200 cs off = cs[off]?) ∧
    (∀ cs off, getPart Tryz.prog 201 cs off = cs[off]?) ∧
    (∀ cs off, getPart Tryz.prog 202 cs off = cs[off]?) ∧
    (∀ cs off, getPart Tryz.prog 203 cs off = cs[off]?) ∧
    (∀ cs off, getPart Tryz.prog 204 cs off = cs[off]?) ∧
    (∀ cs off, getPart Tryz.prog 205 cs off = cs[off]?) ∧
    (∀ cs off, getPart Tryz.prog 206 cs off = cs[off]?) ∧
    (∀ cs off, getPart Tryz.prog 211 cs off = cs[off]?) := by
  refine ⟨?_, ?_, ?_, ?_, ?_, ?_, ?_, ?_, ?_, ?_, ?_, ?_, ?_, ?_, ?_, ?_, ?_, ?_, ?_, ?_, ?_, ?_, ?_, ?_, ?_, ?_, ?_, ?_, ?_, ?_, ?_, ?_, ?_, ?_, ?_, ?_, ?_, ?_, ?_, ?_, ?_, ?_, ?_, ?_, ?_, ?_, ?_, ?_, ?_, ?_, ?_, ?_, ?_, ?_, ?_, ?_, ?_, ?_, ?_, ?_, ?_, ?_, ?_, ?_, ?_, ?_, ?_, ?_, ?_, ?_, ?_, ?_, ?_, ?_, ?_, ?_, ?_, ?_, ?_, ?_, ?_, ?_, ?_, ?_, ?_, ?_, ?_, ?_, ?_, ?_, ?_, ?_, ?_, ?_, ?_, ?_, ?_, ?_, ?_, ?_, ?_, ?_, ?_, ?_, ?_, ?_, ?_, ?_, ?_, ?_, ?_, ?_, ?_, ?_, ?_, ?_, ?_, ?_, ?_, ?_, ?_, ?_, ?_, ?_, ?_, ?_, ?_, ?_, ?_, ?_, ?_, ?_, ?_, ?_, ?_, ?_, ?_, ?_, ?_, ?_, ?_, ?_, ?_, ?_, ?_, ?_, ?_, ?_, ?_, ?_, ?_, ?_, ?_, ?_, ?_, ?_, ?_, ?_, ?_, ?_, ?_, ?_, ?_, ?_, ?_, ?_, ?_, ?_, ?_, ?_⟩ <;> (intros; kernel_rfl)
theorem fieldF : (∀ b o, pFieldAddr Tryz.prog 7 (.ptr b o) 0 = some (.ptr b (o + 0))) ∧
    (∀ e o, pFieldAddr Tryz.prog 7 (.ep e o) 0 = some (.ep e (o + 0))) ∧
    (∀ b o, pFieldAddr Tryz.prog 7 (.ptr b o) 1 = some (.ptr b (o + 1))) ∧
    (∀ e o, pFieldAddr Tryz.prog 7 (.ep e o) 1 = some (.ep e (o + 1))) ∧
    (∀ b o, pFieldAddr Tryz.prog 7 (.ptr b o) 2 = some (.ptr b (o + 2))) ∧
    (∀ e o, pFieldAddr Tryz.prog 7 (.ep e o) 2 = some (.ep e (o + 2))) ∧
    (∀ b o, pFieldAddr Tryz.prog 7 (.ptr b o) 3 = some (.ptr b (o + 3))) ∧
    (∀ e o, pFieldAddr Tryz.prog 7 (.ep e o) 3 = some (.ep e (o + 3))) ∧
    (∀ b o, pFieldAddr Tryz.prog 8 (.ptr b o) 0 = some (.ptr b (o + 0))) ∧
    (∀ e o, pFieldAddr Tryz.prog 8 (.ep e o) 0 = some (.ep e (o + 0))) ∧
    (∀ b o, pFieldAddr Tryz.prog 8 (.ptr b o) 1 = some (.ptr b (o + 1))) ∧
    (∀ e o, pFieldAddr Tryz.prog 8 (.ep e o) 1 = some (.ep e (o + 1))) ∧
    (∀ b o, pFieldAddr Tryz.prog 8 (.ptr b o) 2 = some (.ptr b (o + 2))) ∧
    (∀ e o, pFieldAddr Tryz.prog 8 (.ep e o) 2 = some (.ep e (o + 2))) ∧
    (∀ b o, pFieldAddr Tryz.prog 8 (.ptr b o) 3 = some (.ptr b (o + 3))) ∧
    (∀ e o, pFieldAddr Tryz.prog 8 (.ep e o) 3 = some (.ep e (o + 3))) ∧
    (∀ b o, pFieldAddr Tryz.prog 13 (.ptr b o) 0 = some (.ptr b (o + 0))) ∧
    (∀ e o, pFieldAddr Tryz.prog 13 (.ep e o) 0 = some (.ep e (o + 0))) ∧
    (∀ b o, pFieldAddr Tryz.prog 13 (.ptr b o) 1 = some (.ptr b (o + 1))) ∧
    (∀ e o, pFieldAddr Tryz.prog 13 (.ep e o) 1 = some (.ep e (o + 1))) ∧
    (∀ b o, pFieldAddr Tryz.prog 14 (.ptr b o) 0 = some (.ptr b (o + 0))) ∧
    (∀ e o, pFieldAddr Tryz.prog 14 (.ep e o) 0 = some (.ep e (o + 0))) ∧
    (∀ b o, pFieldAddr Tryz.prog 14 (.ptr b o) 1 = some (.ptr b (o + 1))) ∧
    (∀ e o, pFieldAddr Tryz.prog 14 (.ep e o) 1 = some (.ep e (o + 1))) ∧
    (∀ b o, pFieldAddr Tryz.prog 18 (.ptr b o) 0 = some (.ptr b (o + 0))) ∧
    (∀ e o, pFieldAddr Tryz.prog 18 (.ep e o) 0 = some (.ep e (o + 0))) ∧
    (∀ b o, pFieldAddr Tryz.prog 19 (.ptr b o) 0 = some (.ptr b (o + 0))) ∧
    (∀ e o, pFieldAddr Tryz.prog 19 (.ep e o) 0 = some (.ep e (o + 0))) ∧
    (∀ b o, pFieldAddr Tryz.prog 23 (.ptr b o) 0 = some (.ptr b (o + 0))) ∧
    (∀ e o, pFieldAddr Tryz.prog 23 (.ep e o) 0 = some (.ep e (o + 0))) ∧
    (∀ b o, pFieldAddr Tryz.prog 23 (.ptr b o) 1 = some (.ptr b (o + 1))) ∧
    (∀ e o, pFieldAddr Tryz.prog 23 (.ep e o) 1 = some (.ep e (o + 1))) ∧
    (∀ b o, pFieldAddr Tryz.prog 23 (.ptr b o) 2 = some (.ptr b (o + 2))) ∧
    (∀ e o, pFieldAddr Tryz.prog 23 (.ep e o) 2 = some (.ep e (o + 2))) ∧
    (∀ b o, pFieldAddr Tryz.prog 23 (.ptr b o) 3 = some (.ptr b (o + 3))) ∧
    (∀ e o, pFieldAddr Tryz.prog 23 (.ep e o) 3 = some (.ep e (o + 3))) ∧
    (∀ b o, pFieldAddr Tryz.prog 23 (.ptr b o) 4 = some (.ptr b (o + 4))) ∧
    (∀ e o, pFieldAddr Tryz.prog 23 (.ep e o) 4 = some (.ep e (o + 4))) ∧
    (∀ b o, pFieldAddr Tryz.prog 24 (.ptr b o) 0 = some (.ptr b (o + 0))) ∧
    (∀ e o, pFieldAddr Tryz.prog 24 (.ep e o) 0 = some (.ep e (o + 0))) ∧
    (∀ b o, pFieldAddr Tryz.prog 24 (.ptr b o) 1 = some (.ptr b (o + 1))) ∧
    (∀ e o, pFieldAddr Tryz.prog 24 (.ep e o) 1 = some (.ep e (o + 1))) ∧
    (∀ b o, pFieldAddr Tryz.prog 24 (.ptr b o) 2 = some (.ptr b (o + 2))) ∧
    (∀ e o, pFieldAddr Tryz.prog 24 (.ep e o) 2 = some (.ep e (o + 2))) ∧
    (∀ b o, pFieldAddr Tryz.prog 24 (.ptr b o) 3 = some (.ptr b (o + 3))) ∧
    (∀ e o, pFieldAddr Tryz.prog 24 (.ep e o) 3 = some (.ep e (o + 3))) ∧
    (∀ b o, pFieldAddr Tryz.prog 24 (.ptr b o) 4 = some (.ptr b (o + 4))) ∧
    (∀ e o, pFieldAddr Tryz.prog 24 (.ep e o) 4 = some (.ep e (o + 4))) ∧
    (∀ b o, pFieldAddr Tryz.prog 27 (.ptr b o) 0 = some (.ptr b (o + 0))) ∧
    (∀ e o, pFieldAddr Tryz.prog 27 (.ep e o) 0 = some (.ep e (o + 0))) ∧
    (∀ b o, pFieldAddr Tryz.prog 27 (.ptr b o) 1 = some (.ptr b (o + 1))) ∧
    (∀ e o, pFieldAddr Tryz.prog 27 (.ep e o) 1 = some (.ep e (o + 1))) ∧
    (∀ b o, pFieldAddr Tryz.prog 28 (.ptr b o) 0 = some (.ptr b (o + 0))) ∧
    (∀ e o, pFieldAddr Tryz.prog 28 (.ep e o) 0 = some (.ep e (o + 0))) ∧
    (∀ b o, pFieldAddr Tryz.prog 28 (.ptr b o) 1 = some (.ptr b (o + 1))) ∧
    (∀ e o, pFieldAddr Tryz.prog 28 (.ep e o) 1 = some (.ep e (o + 1))) ∧
    (∀ b o, pFieldAddr Tryz.prog 32 (.ptr b o) 0 = some (.ptr b (o + 0))) ∧
    (∀ e o, pFieldAddr Tryz.prog 32 (.ep e o) 0 = some (.ep e (o + 0))) ∧
    (∀ b o, pFieldAddr Tryz.prog 32 (.ptr b o) 1 = some (.ptr b (o + 1))) ∧
    (∀ e o, pFieldAddr Tryz.prog 32 (.ep e o) 1 = some (.ep e (o + 1))) ∧
    (∀ b o, pFieldAddr Tryz.prog 33 (.ptr b o) 0 = some (.ptr b (o + 0))) ∧
    (∀ e o, pFieldAddr Tryz.prog 33 (.ep e o) 0 = some (.ep e (o + 0))) ∧
    (∀ b o, pFieldAddr Tryz.prog 33 (.ptr b o) 1 = some (.ptr b (o + 1))) ∧
    (∀ e o, pFieldAddr Tryz.prog 33 (.ep e o) 1 = some (.ep e (o + 1))) ∧
    (∀ b o, pFieldAddr Tryz.prog 36 (.ptr b o) 0 = some (.ptr b (o + 0))) ∧
    (∀ e o, pFieldAddr Tryz.prog 36 (.ep e o) 0 = some (.ep e (o + 0))) ∧
    (∀ b o, pFieldAddr Tryz.prog 36 (.ptr b o) 1 = some (.ptr b (o + 5))) ∧
    (∀ e o, pFieldAddr Tryz.prog 36 (.ep e o) 1 = some (.ep e (o + 5))) ∧
    (∀ b o, pFieldAddr Tryz.prog 36 (.ptr b o) 2 = some (.ptr b (o + 7))) ∧
    (∀ e o, pFieldAddr Tryz.prog 36 (.ep e o) 2 = some (.ep e (o + 7))) ∧
    (∀ b o, pFieldAddr Tryz.prog 36 (.ptr b o) 3 = some (.ptr b (o + 8))) ∧
    (∀ e o, pFieldAddr Tryz.prog 36 (.ep e o) 3 = some (.ep e (o + 8))) ∧
    (∀ b o, pFieldAddr Tryz.prog 36 (.ptr b o) 4 = some (.ptr b (o + 9))) ∧
    (∀ e o, pFieldAddr Tryz.prog 36 (.ep e o) 4 = some (.ep e (o + 9))) ∧
    (∀ b o, pFieldAddr Tryz.prog 36 (.ptr b o) 5 = some (.ptr b (o + 10))) ∧
    (∀ e o, pFieldAddr Tryz.prog 36 (.ep e o) 5 = some (.ep e (o + 10))) ∧
    (∀ b o, pFieldAddr Tryz.prog 36 (.ptr b o) 6 = some (.ptr b (o + 11))) ∧
    (∀ e o, pFieldAddr Tryz.prog 36 (.ep e o) 6 = some (.ep e (o + 11))) ∧
    (∀ b o, pFieldAddr Tryz.prog 36 (.ptr b o) 7 = some (.ptr b (o + 12))) ∧
    (∀ e o, pFieldAddr Tryz.prog 36 (.ep e o) 7 = some (.ep e (o + 12))) ∧
    (∀ b o, pFieldAddr Tryz.prog 36 (.ptr b o) 8 = some (.ptr b (o + 13))) ∧
    (∀ e o, pFieldAddr Tryz.prog 36 (.ep e o) 8 = some (.ep e (o + 13))) ∧
    (∀ b o, pFieldAddr Tryz.prog 36 (.ptr b o) 9 = some (.ptr b (o + 14))) ∧
    (∀ e o, pFieldAddr Tryz.prog 36 (.ep e o) 9 = some (.ep e (o + 14))) ∧
    (∀ b o, pFieldAddr Tryz.prog 36 (.ptr b o) 10 = some (.ptr b (o + 16))) ∧
    (∀ e o, pFieldAddr Tryz.prog 36 (.ep e o) 10 = some (.ep e (o + 16))) ∧
    (∀ b o, pFieldAddr Tryz.prog 36 (.ptr b o) 11 = some (.ptr b (o + 17))) ∧
    (∀ e o, pFieldAddr Tryz.prog 36 (.ep e o) 11 = some (.ep e (o + 17))) ∧
    (∀ b o, pFieldAddr Tryz.prog 36 (.ptr b o) 12 = some (.ptr b (o + 18))) ∧
    (∀ e o, pFieldAddr Tryz.prog 36 (.ep e o) 12 = some (.ep e (o + 18))) ∧
    (∀ b o, pFieldAddr Tryz.prog 36 (.ptr b o) 13 = some (.ptr b (o + 19))) ∧
    (∀ e o, pFieldAddr Tryz.prog 36 (.ep e o) 13 = some (.ep e (o + 19))) ∧
    (∀ b o, pFieldAddr Tryz.prog 36 (.ptr b o) 14 = some (.ptr b (o + 20))) ∧
    (∀ e o, pFieldAddr Tryz.prog 36 (.ep e o) 14 = some (.ep e (o + 20))) ∧
    (∀ b o, pFieldAddr Tryz.prog 36 (.ptr b o) 15 = some (.ptr b (o + 21))) ∧
    (∀ e o, pFieldAddr Tryz.prog 36 (.ep e o) 15 = some (.ep e (o + 21))) ∧
    (∀ b o, pFieldAddr Tryz.prog 36 (.ptr b o) 16 = some (.ptr b (o + 22))) ∧
    (∀ e o, pFieldAddr Tryz.prog 36 (.ep e o) 16 = some (.ep e (o + 22))) ∧
    (∀ b o, pFieldAddr Tryz.prog 37 (.ptr b o) 0 = some (.ptr b (o + 0))) ∧
    (∀ e o, pFieldAddr Tryz.prog 37 (.ep e o) 0 = some (.ep e (o + 0))) ∧
    (∀ b o, pFieldAddr Tryz.prog 37 (.ptr b o) 1 = some (.ptr b (o + 5))) ∧
    (∀ e o, pFieldAddr Tryz.prog 37 (.ep e o) 1 = some (.ep e (o + 5))) ∧
    (∀ b o, pFieldAddr Tryz.prog 37 (.ptr b o) 2 = some (.ptr b (o + 7))) ∧
    (∀ e o, pFieldAddr Tryz.prog 37 (.ep e o) 2 = some (.ep e (o + 7))) ∧
    (∀ b o, pFieldAddr Tryz.prog 37 (.ptr b o) 3 = some (.ptr b (o + 8))) ∧
    (∀ e o, pFieldAddr Tryz.prog 37 (.ep e o) 3 = some (.ep e (o + 8))) ∧
    (∀ b o, pFieldAddr Tryz.prog 37 (.ptr b o) 4 = some (.ptr b (o + 9))) ∧
    (∀ e o, pFieldAddr Tryz.prog 37 (.ep e o) 4 = some (.ep e (o + 9))) ∧
    (∀ b o, pFieldAddr Tryz.prog 37 (.ptr b o) 5 = some (.ptr b (o + 10))) ∧
    (∀ e o, pFieldAddr Tryz.prog 37 (.ep e o) 5 = some (.ep e (o + 10))) ∧
    (∀ b o, pFieldAddr Tryz.prog 37 (.ptr b o) 6 = some (.ptr b (o + 11))) ∧
    (∀ e o, pFieldAddr Tryz.prog 37 (.ep e o) 6 = some (.ep e (o + 11))) ∧
    (∀ b o, pFieldAddr Tryz.prog 37 (.ptr b o) 7 = some (.ptr b (o + 12))) ∧
    (∀ e o, pFieldAddr Tryz.prog 37 (.ep e o) 7 = some (.ep e (o + 12))) ∧
    (∀ b o, pFieldAddr Tryz.prog 37 (.ptr b o) 8 = some (.ptr b (o + 13))) ∧
    (∀ e o, pFieldAddr Tryz.prog 37 (.ep e o) 8 = some (.ep e (o + 13))) ∧
    (∀ b o, pFieldAddr Tryz.prog 37 (.ptr b o) 9 = some (.ptr b (o + 14))) ∧
    (∀ e o, pFieldAddr Tryz.prog 37 (.ep e o) 9 = some (.ep e (o + 14))) ∧
    (∀ b o, pFieldAddr Tryz.prog 37 (.ptr b o) 10 = some (.ptr b (o + 16))) ∧
    (∀ e o, pFieldAddr Tryz.prog 37 (.ep e o) 10 = some (.ep e (o + 16))) ∧
    (∀ b o, pFieldAddr Tryz.prog 37 (.ptr b o) 11 = some (.ptr b (o + 17))) ∧
    (∀ e o, pFieldAddr Tryz.prog 37 (.ep e o) 11 = some (.ep e (o + 17))) ∧
    (∀ b o, pFieldAddr Tryz.prog 37 (.ptr b o) 12 = some (.ptr b (o + 18))) ∧
    (∀ e o, pFieldAddr Tryz.prog 37 (.ep e o) 12 = some (.ep e (o + 18))) ∧
    (∀ b o, pFieldAddr Tryz.prog 37 (.ptr b o) 13 = some (.ptr b (o + 19))) ∧
    (∀ e o, pFieldAddr Tryz.prog 37 (.ep e o) 13 = some (.ep e (o + 19))) ∧
    (∀ b o, pFieldAddr Tryz.prog 37 (.ptr b o) 14 = some (.ptr b (o + 20))) ∧
    (∀ e o, pFieldAddr Tryz.prog 37 (.ep e o) 14 = some (.ep e (o + 20))) ∧
    (∀ b o, pFieldAddr Tryz.prog 37 (.ptr b o) 15 = some (.ptr b (o + 21))) ∧
    (∀ e o, pFieldAddr Tryz.prog 37 (.ep e o) 15 = some (.ep e (o + 21))) ∧
    (∀ b o, pFieldAddr Tryz.prog 37 (.ptr b o) 16 = some (.ptr b (o + 22))) ∧
    (∀ e o, pFieldAddr Tryz.prog 37 (.ep e o) 16 = some (.ep e (o + 22))) ∧
    (∀ b o, pFieldAddr Tryz.prog 53 (.ptr b o) 0 = some (.ptr b (o + 0))) ∧
    (∀ e o, pFieldAddr Tryz.prog 53 (.ep e o) 0 = some (.ep e (o + 0))) ∧
    (∀ b o, pFieldAddr Tryz.prog 53 (.ptr b o) 1 = some (.ptr b (o + 1))) ∧
    (∀ e o, pFieldAddr Tryz.prog 53 (.ep e o) 1 = some (.ep e (o + 1))) ∧
    (∀ b o, pFieldAddr Tryz.prog 53 (.ptr b o) 2 = some (.ptr b (o + 2))) ∧
    (∀ e o, pFieldAddr Tryz.prog 53 (.ep e o) 2 = some (.ep e (o + 2))) ∧
    (∀ b o, pFieldAddr Tryz.prog 54 (.ptr b o) 0 = some (.ptr b (o + 0))) ∧
    (∀ e o, pFieldAddr Tryz.prog 54 (.ep e o) 0 = some (.ep e (o + 0))) ∧
    (∀ b o, pFieldAddr Tryz.prog 54 (.ptr b o) 1 = some (.ptr b (o + 1))) ∧
    (∀ e o, pFieldAddr Tryz.prog 54 (.ep e o) 1 = some (.ep e (o + 1))) ∧
    (∀ b o, pFieldAddr Tryz.prog 54 (.ptr b o) 2 = some (.ptr b (o + 2))) ∧
    (∀ e o, pFieldAddr Tryz.prog 54 (.ep e o) 2 = some (.ep e (o + 2))) ∧
    (∀ b o, pFieldAddr Tryz.prog 63 (.ptr b o) 0 = some (.ptr b (o + 0))) ∧
    (∀ e o, pFieldAddr Tryz.prog 63 (.ep e o) 0 = some (.ep e (o + 0))) ∧
    (∀ b o, pFieldAddr Tryz.prog 63 (.ptr b o) 1 = some (.ptr b (o + 23))) ∧
    (∀ e o, pFieldAddr Tryz.prog 63 (.ep e o) 1 = some (.ep e (o + 23))) ∧
    (∀ b o, pFieldAddr Tryz.prog 63 (.ptr b o) 2 = some (.ptr b (o + 24))) ∧
    (∀ e o, pFieldAddr Tryz.prog 63 (.ep e o) 2 = some (.ep e (o + 24))) ∧
    (∀ b o, pFieldAddr Tryz.prog 64 (.ptr b o) 0 = some (.ptr b (o + 0))) ∧
    (∀ e o, pFieldAddr Tryz.prog 64 (.ep e o) 0 = some (.ep e (o + 0))) ∧
    (∀ b o, pFieldAddr Tryz.prog 64 (.ptr b o) 1 = some (.ptr b (o + 23))) ∧
    (∀ e o, pFieldAddr Tryz.prog 64 (.ep e o) 1 = some (.ep e (o + 23))) ∧
    (∀ b o, pFieldAddr Tryz.prog 64 (.ptr b o) 2 = some (.ptr b (o + 24))) ∧
    (∀ e o, pFieldAddr Tryz.prog 64 (.ep e o) 2 = some (.ep e (o + 24))) ∧
    (∀ b o, pFieldAddr Tryz.prog 71 (.ptr b o) 0 = some (.ptr b (o + 0))) ∧
    (∀ e o, pFieldAddr Tryz.prog 71 (.ep e o) 0 = some (.ep e (o + 0))) ∧
    (∀ b o, pFieldAddr Tryz.prog 71 (.ptr b o) 1 = some (.ptr b (o + 23))) ∧
    (∀ e o, pFieldAddr Tryz.prog 71 (.ep e o) 1 = some (.ep e (o + 23))) ∧
    (∀ b o, pFieldAddr Tryz.prog 71 (.ptr b o) 2 = some (.ptr b (o + 24))) ∧
    (∀ e o, pFieldAddr Tryz.prog 71 (.ep e o) 2 = some (.ep e (o + 24))) ∧
    (∀ b o, pFieldAddr Tryz.prog 71 (.ptr b o) 3 = some (.ptr b (o + 25))) ∧
    (∀ e o, pFieldAddr Tryz.prog 71 (.ep e o) 3 = some (.ep e (o + 25))) ∧
    (∀ b o, pFieldAddr Tryz.prog 71 (.ptr b o) 4 = some (.ptr b (o + 26))) ∧
    (∀ e o, pFieldAddr Tryz.prog 71 (.ep e o) 4 = some (.ep e (o + 26))) ∧
    (∀ b o, pFieldAddr Tryz.prog 72 (.ptr b o) 0 = some (.ptr b (o + 0))) ∧
    (∀ e o, pFieldAddr Tryz.prog 72 (.ep e o) 0 = some (.ep e (o + 0))) ∧
    (∀ b o, pFieldAddr Tryz.prog 72 (.ptr b o) 1 = some (.ptr b (o + 23))) ∧
    (∀ e o, pFieldAddr Tryz.prog 72 (.ep e o) 1 = some (.ep e (o + 23))) ∧
    (∀ b o, pFieldAddr Tryz.prog 72 (.ptr b o) 2 = some (.ptr b (o + 24))) ∧
    (∀ e o, pFieldAddr Tryz.prog 72 (.ep e o) 2 = some (.ep e (o + 24))) ∧
    (∀ b o, pFieldAddr Tryz.prog 72 (.ptr b o) 3 = some (.ptr b (o + 25))) ∧
    (∀ e o, pFieldAddr Tryz.prog 72 (.ep e o) 3 = some (.ep e (o + 25))) ∧
    (∀ b o, pFieldAddr Tryz.prog 72 (.ptr b o) 4 = some (.ptr b (o + 26))) ∧
    (∀ e o, pFieldAddr Tryz.prog 72 (.ep e o) 4 = some (.ep e (o + 26))) ∧
    (∀ b o, pFieldAddr Tryz.prog 88 (.ptr b o) 0 = some (.ptr b (o + 0))) ∧
    (∀ e o, pFieldAddr Tryz.prog 88 (.ep e o) 0 = some (.ep e (o + 0))) ∧
    (∀ b o, pFieldAddr Tryz.prog 88 (.ptr b o) 1 = some (.ptr b (o + 1))) ∧
    (∀ e o, pFieldAddr Tryz.prog 88 (.ep e o) 1 = some (.ep e (o + 1))) ∧
    (∀ b o, pFieldAddr Tryz.prog 88 (.ptr b o) 2 = some (.ptr b (o + 2))) ∧
    (∀ e o, pFieldAddr Tryz.prog 88 (.ep e o) 2 = some (.ep e (o + 2))) ∧
    (∀ b o, pFieldAddr Tryz.prog 89 (.ptr b o) 0 = some (.ptr b (o + 0))) ∧
    (∀ e o, pFieldAddr Tryz.prog 89 (.ep e o) 0 = some (.ep e (o + 0))) ∧
    (∀ b o, pFieldAddr Tryz.prog 89 (.ptr b o) 1 = some (.ptr b (o + 1))) ∧
    (∀ e o, pFieldAddr Tryz.prog 89 (.ep e o) 1 = some (.ep e (o + 1))) ∧
    (∀ b o, pFieldAddr Tryz.prog 89 (.ptr b o) 2 = some (.ptr b (o + 2))) ∧
    (∀ e o, pFieldAddr Tryz.prog 89 (.ep e o) 2 = some (.ep e (o + 2))) ∧
    (∀ b o, pFieldAddr Tryz.prog 93 (.ptr b o) 0 = some (.ptr b (o + 0))) ∧
    (∀ e o, pFieldAddr Tryz.prog 93 (.ep e o) 0 = some (.ep e (o + 0))) ∧
    (∀ b o, pFieldAddr Tryz.prog 93 (.ptr b o) 1 = some (.ptr b (o + 2))) ∧
    (∀ e o, pFieldAddr Tryz.prog 93 (.ep e o) 1 = some (.ep e (o + 2))) ∧
    (∀ b o, pFieldAddr Tryz.prog 94 (.ptr b o) 0 = some (.ptr b (o + 0))) ∧
    (∀ e o, pFieldAddr Tryz.prog 94 (.ep e o) 0 = some (.ep e (o + 0))) ∧
    (∀ b o, pFieldAddr Tryz.prog 94 (.ptr b o) 1 = some (.ptr b (o + 2))) ∧
    (∀ e o, pFieldAddr Tryz.prog 94 (.ep e o) 1 = some (.ep e (o + 2))) ∧
    (∀ b o, pFieldAddr Tryz.prog 97 (.ptr b o) 0 = some (.ptr b (o + 0))) ∧
    (∀ e o, pFieldAddr Tryz.prog 97 (.ep e o) 0 = some (.ep e (o + 0))) ∧
    (∀ b o, pFieldAddr Tryz.prog 97 (.ptr b o) 1 = some (.ptr b (o + 23))) ∧
    (∀ e o, pFieldAddr Tryz.prog 97 (.ep e o) 1 = some (.ep e (o + 23))) ∧
    (∀ b o, pFieldAddr Tryz.prog 97 (.ptr b o) 2 = some (.ptr b (o + 24))) ∧
    (∀ e o, pFieldAddr Tryz.prog 97 (.ep e o) 2 = some (.ep e (o + 24))) ∧
    (∀ b o, pFieldAddr Tryz.prog 97 (.ptr b o) 3 = some (.ptr b (o + 25))) ∧
    (∀ e o, pFieldAddr Tryz.prog 97 (.ep e o) 3 = some (.ep e (o + 25))) ∧
    (∀ b o, pFieldAddr Tryz.prog 97 (.ptr b o) 4 = some (.ptr b (o + 26))) ∧
    (∀ e o, pFieldAddr Tryz.prog 97 (.ep e o) 4 = some (.ep e (o + 26))) ∧
    (∀ b o, pFieldAddr Tryz.prog 97 (.ptr b o) 5 = some (.ptr b (o + 27))) ∧
    (∀ e o, pFieldAddr Tryz.prog 97 (.ep e o) 5 = some (.ep e (o + 27))) ∧
    (∀ b o, pFieldAddr Tryz.prog 98 (.ptr b o) 0 = some (.ptr b (o + 0))) ∧
    (∀ e o, pFieldAddr Tryz.prog 98 (.ep e o) 0 = some (.ep e (o + 0))) ∧
    (∀ b o, pFieldAddr Tryz.prog 98 (.ptr b o) 1 = some (.ptr b (o + 23))) ∧
    (∀ e o, pFieldAddr Tryz.prog 98 (.ep e o) 1 = some (.ep e (o + 23))) ∧
    (∀ b o, pFieldAddr Tryz.prog 98 (.ptr b o) 2 = some (.ptr b (o + 24))) ∧
    (∀ e o, pFieldAddr Tryz.prog 98 (.ep e o) 2 = some (.ep e (o + 24))) ∧
    (∀ b o, pFieldAddr Tryz.prog 98 (.ptr b o) 3 = some (.ptr b (o + 25))) ∧
    (∀ e o, pFieldAddr Tryz.prog 98 (.ep e o) 3 = some (.ep e (o + 25))) ∧
    (∀ b o, pFieldAddr Tryz.prog 98 (.ptr b o) 4 = some (.ptr b (o + 26))) ∧
    (∀ e o, pFieldAddr Tryz.prog 98 (.ep e o) 4 = some (.ep e (o + 26))) ∧
    (∀ b o, pFieldAddr Tryz.prog 98 (.ptr b o) 5 = some (.ptr b (o + 27))) ∧
    (∀ e o, pFieldAddr Tryz.prog 98 (.ep e o) 5 = some (.ep e (o + 27))) ∧
    (∀ b o, pFieldAddr Tryz.prog 107 (.ptr b o) 0 = some (.ptr b (o + 0))) ∧
    (∀ e o, pFieldAddr Tryz.prog 107 (.ep e o) 0 = some (.ep e (o + 0))) ∧
    (∀ b o, pFieldAddr Tryz.prog 107 (.ptr b o) 1 = some (.ptr b (o + 1))) ∧
    (∀ e o, pFieldAddr Tryz.prog 107 (.ep e o) 1 = some (.ep e (o + 1))) ∧
    (∀ b o, pFieldAddr Tryz.prog 108 (.ptr b o) 0 = some (.ptr b (o + 0))) ∧
    (∀ e o, pFieldAddr Tryz.prog 108 (.ep e o) 0 = some (.ep e (o + 0))) ∧
    (∀ b o, pFieldAddr Tryz.prog 108 (.ptr b o) 1 = some (.ptr b (o + 1))) ∧
    (∀ e o, pFieldAddr Tryz.prog 108 (.ep e o) 1 = some (.ep e (o + 1))) ∧
    (∀ b o, pFieldAddr Tryz.prog 115 (.ptr b o) 0 = some (.ptr b (o + 0))) ∧
    (∀ e o, pFieldAddr Tryz.prog 115 (.ep e o) 0 = some (.ep e (o + 0))) ∧
    (∀ b o, pFieldAddr Tryz.prog 115 (.ptr b o) 1 = some (.ptr b (o + 1))) ∧
    (∀ e o, pFieldAddr Tryz.prog 115 (.ep e o) 1 = some (.ep e (o + 1))) ∧
    (∀ b o, pFieldAddr Tryz.prog 115 (.ptr b o) 2 = some (.ptr b (o + 2))) ∧
    (∀ e o, pFieldAddr Tryz.prog 115 (.ep e o) 2 = some (.ep e (o + 2))) ∧
    (∀ b o, pFieldAddr Tryz.prog 116 (.ptr b o) 0 = some (.ptr b (o + 0))) ∧
    (∀ e o, pFieldAddr Tryz.prog 116 (.ep e o) 0 = some (.ep e (o + 0))) ∧
    (∀ b o, pFieldAddr Tryz.prog 116 (.ptr b o) 1 = some (.ptr b (o + 1))) ∧
    (∀ e o, pFieldAddr Tryz.prog 116 (.ep e o) 1 = some (.ep e (o + 1))) ∧
    (∀ b o, pFieldAddr Tryz.prog 116 (.ptr b o) 2 = some (.ptr b (o + 2))) ∧
    (∀ e o, pFieldAddr Tryz.prog 116 (.ep e o) 2 = some (.ep e (o + 2))) ∧
    (∀ b o, pFieldAddr Tryz.prog 182 (.ptr b o) 0 = some (.ptr b (o + 0))) ∧
    (∀ e o, pFieldAddr Tryz.prog 182 (.ep e o) 0 = some (.ep e (o + 0))) ∧
    (∀ b o, pFieldAddr Tryz.prog 182 (.ptr b o) 1 = some (.ptr b (o + 1))) ∧
    (∀ e o, pFieldAddr Tryz.prog 182 (.ep e o) 1 = some (.ep e (o + 1))) ∧
    (∀ b o, pFieldAddr Tryz.prog 182 (.ptr b o) 2 = some (.ptr b (o + 2))) ∧
    (∀ e o, pFieldAddr Tryz.prog 182 (.ep e o) 2 = some (.ep e (o + 2))) ∧
    (∀ b o, pFieldAddr Tryz.prog 182 (.ptr b o) 3 = some (.ptr b (o + 3))) ∧
    (∀ e o, pFieldAddr Tryz.prog 182 (.ep e o) 3 = some (.ep e (o + 3))) ∧
    (∀ b o, pFieldAddr Tryz.prog 182 (.ptr b o) 4 = some (.ptr b (o + 4))) ∧
    (∀ e o, pFieldAddr Tryz.prog 182 (.ep e o) 4 = some (.ep e (o + 4))) ∧
    (∀ b o, pFieldAddr Tryz.prog 182 (.ptr b o) 5 = some (.ptr b (o + 5))) ∧
    (∀ e o, pFieldAddr Tryz.prog 182 (.ep e o) 5 = some (.ep e (o + 5))) ∧
    (∀ b o, pFieldAddr Tryz.prog 183 (.ptr b o) 0 = some (.ptr b (o + 0))) ∧
    (∀ e o, pFieldAddr Tryz.prog 183 (.ep e o) 0 = some (.ep e (o + 0))) ∧
    (∀ b o, pFieldAddr Tryz.prog 183 (.ptr b o) 1 = some (.ptr b (o + 1))) ∧
    (∀ e o, pFieldAddr Tryz.prog 183 (.ep e o) 1 = some (.ep e (o + 1))) ∧
    (∀ b o, pFieldAddr Tryz.prog 183 (.ptr b o) 2 = some (.ptr b (o + 2))) ∧
    (∀ e o, pFieldAddr Tryz.prog 183 (.ep e o) 2 = some (.ep e (o + 2))) ∧
    (∀ b o, pFieldAddr Tryz.prog 183 (.ptr b o) 3 = some (.ptr b (o + 3))) ∧
    (∀ e o, pFieldAddr Tryz.prog 183 (.ep e o) 3 = some (.ep e (o + 3))) ∧
    (∀ b o, pFieldAddr Tryz.prog 183 (.ptr b o) 4 = some (.ptr b (o + 4))) ∧
    (∀ e o, pFieldAddr Tryz.prog 183 (.ep e o) 4 = some (.ep e (o + 4))) ∧
    (∀ b o, pFieldAddr Tryz.prog 183 (.ptr b o) 5 = some (.ptr b (o + 5))) ∧
    (∀ e o, pFieldAddr Tryz.prog 183 (.ep e o) 5 = some (.ep e (o + 5))) ∧
    (∀ b o, pFieldAddr Tryz.prog 195 (.ptr b o) 0 = some (.ptr b (o + 0))) ∧
    (∀ e o, pFieldAddr Tryz.prog 195 (.ep e o) 0 = some (.ep e (o + 0))) ∧
    (∀ b o, pFieldAddr Tryz.prog 195 (.ptr b o) 1 = some (.ptr b (o + 1))) ∧
    (∀ e o, pFieldAddr Tryz.prog 195 (.ep e o) 1 = some (.ep e (o + 1))) ∧
    (∀ b o, pFieldAddr Tryz.prog 195 (.ptr b o) 2 = some (.ptr b (o + 2))) ∧
    (∀ e o, pFieldAddr Tryz.prog 195 (.ep e o) 2 = some (.ep e (o + 2))) ∧
    (∀ b o, pFieldAddr Tryz.prog 195 (.ptr b o) 3 = some (.ptr b (o + 3))) ∧
    (∀ e o, pFieldAddr Tryz.prog 195 (.ep e o) 3 = some (.ep e (o + 3))) ∧
    (∀ b o, pFieldAddr Tryz.prog 196 (.ptr b o) 0 = some (.ptr b (o + 0))) ∧
    (∀ e o, pFieldAddr Tryz.prog 196 (.ep e o) 0 = some (.ep e (o + 0))) ∧
    (∀ b o, pFieldAddr Tryz.prog 196 (.ptr b o) 1 = some (.ptr b (o + 1))) ∧
    (∀ e o, pFieldAddr Tryz.prog 196 (.ep e o) 1 = some (.ep e (o + 1))) ∧
    (∀ b o, pFieldAddr Tryz.prog 196 (.ptr b o) 2 = some (.ptr b (o + 2))) ∧
    (∀ e o, pFieldAddr Tryz.prog 196 (.ep e o) 2 = some (.ep e (o + 2))) ∧
    (∀ b o, pFieldAddr Tryz.prog 196 (.ptr b o) 3 = some (.ptr b (o + 3))) ∧
    (∀ e o, pFieldAddr Tryz.prog 196 (.ep e o) 3 = some (.ep e (o + 3))) ∧
    (∀ b o, pFieldAddr Tryz.prog 207 (.ptr b o) 0 = some (.ptr b (o + 0))) ∧
    (∀ e o, pFieldAddr Tryz.prog 207 (.ep e o) 0 = some (.ep e (o + 0))) ∧
    (∀ b o, pFieldAddr Tryz.prog 207 (.ptr b o) 1 = some (.ptr b (o + 1))) ∧
    (∀ e o, pFieldAddr Tryz.prog 207 (.ep e o) 1 = some (.ep e (o + 1))) ∧
    (∀ b o, pFieldAddr Tryz.prog 207 (.ptr b o) 2 = some (.ptr b (o + 2))) ∧
    (∀ e o, pFieldAddr Tryz.prog 207 (.ep e o) 2 = some (.ep e (o + 2))) ∧
    (∀ b o, pFieldAddr Tryz.prog 207 (.ptr b o) 3 = some (.ptr b (o + 3))) ∧
    (∀ e o, pFieldAddr Tryz.prog 207 (.ep e o) 3 = some (.ep e (o + 3))) ∧
    (∀ b o, pFieldAddr Tryz.prog 207 (.ptr b o) 4 = some (.ptr b (o + 4))) ∧
    (∀ e o, pFieldAddr Tryz.prog 207 (.ep e o) 4 = some (.ep e (o + 4))) ∧
    (∀ b o, pFieldAddr Tryz.prog 207 (.ptr b o) 5 = some (.ptr b (o + 5))) ∧
    (∀ e o, pFieldAddr Tryz.prog 207 (.ep e o) 5 = some (.ep e (o + 5))) ∧
    (∀ b o, pFieldAddr Tryz.prog 207 (.ptr b o) 6 = some (.ptr b (o + 6))) ∧
    (∀ e o, pFieldAddr Tryz.prog 207 (.ep e o) 6 = some (.ep e (o + 6))) ∧
    (∀ b o, pFieldAddr Tryz.prog 207 (.ptr b o) 7 = some (.ptr b (o + 7))) ∧
    (∀ e o, pFieldAddr Tryz.prog 207 (.ep e o) 7 = some (.ep e (o + 7))) ∧
    (∀ b o, pFieldAddr Tryz.prog 207 (.ptr b o) 8 = some (.ptr b (o + 8))) ∧
    (∀ e o, pFieldAddr Tryz.prog 207 (.ep e o) 8 = some (.ep e (o + 8))) ∧
    (∀ b o, pFieldAddr Tryz.prog 207 (.ptr b o) 9 = some (.ptr b (o + 9))) ∧
    (∀ e o, pFieldAddr Tryz.prog 207 (.ep e o) 9 = some (.ep e (o + 9))) ∧
    (∀ b o, pFieldAddr Tryz.prog 207 (.ptr b o) 10 = some (.ptr b (o + 10))) ∧
    (∀ e o, pFieldAddr Tryz.prog 207 (.ep e o) 10 = some (.ep e (o + 10))) ∧
    (∀ b o, pFieldAddr Tryz.prog 208 (.ptr b o) 0 = some (.ptr b (o + 0))) ∧
    (∀ e o, pFieldAddr Tryz.prog 208 (.ep e o) 0 = some (.ep e (o + 0))) ∧
    (∀ b o, pFieldAddr Tryz.prog 208 (.ptr b o) 1 = some (.ptr b (o + 1))) ∧
    (∀ e o, pFieldAddr Tryz.prog 208 (.ep e o) 1 = some (.ep e (o + 1))) ∧
    (∀ b o, pFieldAddr Tryz.prog 208 (.ptr b o) 2 = some (.ptr b (o + 2))) ∧
    (∀ e o, pFieldAddr Tryz.prog 208 (.ep e o) 2 = some (.ep e (o + 2))) ∧
    (∀ b o, pFieldAddr Tryz.prog 208 (.ptr b o) 3 = some (.ptr b (o + 3))) ∧
    (∀ e o, pFieldAddr Tryz.prog 208 (.ep e o) 3 = some (.ep e (o + 3))) ∧
    (∀ b o, pFieldAddr Tryz.prog 208 (.ptr b o) 4 = some (.ptr b (o + 4))) ∧
    (∀ e o, pFieldAddr Tryz.prog 208 (.ep e o) 4 = some (.ep e (o + 4))) ∧
    (∀ b o, pFieldAddr Tryz.prog 208 (.ptr b o) 5 = some (.ptr b (o + 5))) ∧
    (∀ e o, pFieldAddr Tryz.prog 208 (.ep e o) 5 = some (.ep e (o + 5))) ∧
    (∀ b o, pFieldAddr Tryz.prog 208 (.ptr b o) 6 = some (.ptr b (o + 6))) ∧
    (∀ e o, pFieldAddr Tryz.prog 208 (.ep e o) 6 = some (.ep e (o + 6))) ∧
    (∀ b o, pFieldAddr Tryz.prog 208 (.ptr b o) 7 = some (.ptr b (o + 7))) ∧
    (∀ e o, pFieldAddr Tryz.prog 208 (.ep e o) 7 = some (.ep e (o + 7))) ∧
    (∀ b o, pFieldAddr Tryz.prog 208 (.ptr b o) 8 = some (.ptr b (o + 8))) ∧
    (∀ e o, pFieldAddr Tryz.prog 208 (.ep e o) 8 = some (.ep e (o + 8))) ∧
    (∀ b o, pFieldAddr Tryz.prog 208 (.ptr b o) 9 = some (.ptr b (o + 9))) ∧
    (∀ e o, pFieldAddr Tryz.prog 208 (.ep e o) 9 = some (.ep e (o + 9))) ∧
    (∀ b o, pFieldAddr Tryz.prog 208 (.ptr b o) 10 = some (.ptr b (o + 10))) ∧
    (∀ e o, pFieldAddr Tryz.prog 208 (.ep e o) 10 = some (.ep e (o + 10))) ∧
    (∀ b o, pFieldAddr Tryz.prog 209 (.ptr b o) 0 = some (.ptr b (o + 0))) ∧
    (∀ e o, pFieldAddr Tryz.prog 209 (.ep e o) 0 = some (.ep e (o + 0))) ∧
    (∀ b o, pFieldAddr Tryz.prog 209 (.ptr b o) 1 = some (.ptr b (o + 1))) ∧
    (∀ e o, pFieldAddr Tryz.prog 209 (.ep e o) 1 = some (.ep e (o + 1))) ∧
    (∀ b o, pFieldAddr Tryz.prog 209 (.ptr b o) 2 = some (.ptr b (o + 2))) ∧
    (∀ e o, pFieldAddr Tryz.prog 209 (.ep e o) 2 = some (.ep e (o + 2))) ∧
    (∀ b o, pFieldAddr Tryz.prog 209 (.ptr b o) 3 = some (.ptr b (o + 3))) ∧
    (∀ e o, pFieldAddr Tryz.prog 209 (.ep e o) 3 = some (.ep e (o + 3))) ∧
    (∀ b o, pFieldAddr Tryz.prog 210 (.ptr b o) 0 = some (.ptr b (o + 0))) ∧
    (∀ e o, pFieldAddr Tryz.prog 210 (.ep e o) 0 = some (.ep e (o + 0))) ∧
    (∀ b o, pFieldAddr Tryz.prog 210 (.ptr b o) 1 = some (.ptr b (o + 1))) ∧
    (∀ e o, pFieldAddr Tryz.prog 210 (.ep e o) 1 = some (.ep e (o + 1))) ∧
    (∀ b o, pFieldAddr Tryz.prog 210 (.ptr b o) 2 = some (.ptr b (o + 2))) ∧
    (∀ e o, pFieldAddr Tryz.prog 210 (.ep e o) 2 = some (.ep e (o + 2))) ∧
    (∀ b o, pFieldAddr Tryz.prog 210 (.ptr b o) 3 = some (.ptr b (o + 3))) ∧
    (∀ e o, pFieldAddr Tryz.prog 210 (.ep e o) 3 = some (.ep e (o + 3))) := by
  refine ⟨?_, ?_, ?_, ?_, ?_, ?_, ?_, ?_, ?_, ?_, ?_, ?_, ?_, ?_, ?_, ?_, ?_, ?_, ?_, ?_, ?_, ?_, ?_, ?_, ?_, ?_, ?_, ?_, ?_, ?_, ?_, ?_, ?_, ?_, ?_, ?_, ?_, ?_, ?_, ?_, ?_, ?_, ?_, ?_, ?_, ?_, ?_, ?_, ?_, ?_, ?_, ?_, ?_, ?_, ?_, ?_, ?_, ?_, ?_, ?_, ?_, ?_, ?_, ?_, ?_, ?_, ?_, ?_, ?_, ?_, ?_, ?_, ?_, ?_, ?_, ?_, ?_, ?_, ?_, ?_, ?_, ?_, ?_, ?_, ?_, ?_, ?_, ?_, ?_, ?_, ?_, ?_, ?_, ?_, ?_, ?_, ?_, ?_, ?_, ?_, ?_, ?_, ?_, ?_, ?_, ?_, ?_, ?_, ?_, ?_, ?_, ?_, ?_, ?_, ?_, ?_, ?_, ?_, ?_, ?_, ?_, ?_, ?_, ?_, ?_, ?_, ?_, ?_, ?_, ?_, ?_, ?_, ?_, ?_, ?_, ?_, ?_, ?_, ?_, ?_, ?_, ?_, ?_, ?_, ?_, ?_, ?_, ?_, ?_, ?_, ?_, ?_, ?_, ?_, ?_, ?_, ?_, ?_, ?_, ?_, ?_, ?_, ?_, ?_, ?_, ?_, ?_, ?_, ?_, ?_, ?_, ?_, ?_, ?_, ?_, ?_, ?_, ?_, ?_, ?_, ?_, ?_, ?_, ?_, ?_, ?_, ?_, ?_, ?_, ?_, ?_, ?_, ?_, ?_, ?_, ?_, ?_, ?_, ?_, ?_, ?_, ?_, ?_, ?_, ?_, ?_, ?_, ?_, ?_, ?_, ?_, ?_, ?_, ?_, ?_, ?_, ?_, ?_, ?_, ?_, ?_, ?_, ?_, ?_, ?_, ?_, ?_, ?_, ?_, ?_, ?_, ?_, ?_, ?_, ?_, ?_, ?_, ?_, ?_, ?_, ?_, ?_, ?_, ?_, ?_, ?_, ?_, ?_, ?_, ?_, ?_, ?_, ?_, ?_, ?_, ?_, ?_, ?_, ?_, ?_, ?_, ?_, ?_, ?_, ?_, ?_, ?_, ?_, ?_, ?_, ?_, ?_, ?_, ?_, ?_, ?_, ?_, ?_, ?_, ?_, ?_, ?_, ?_, ?_, ?_, ?_, ?_, ?_, ?_, ?_, ?_, ?_, ?_, ?_, ?_, ?_, ?_, ?_, ?_, ?_, ?_, ?_, ?_, ?_, ?_, ?_, ?_, ?_, ?_, ?_, ?_, ?_, ?_, ?_, ?_, ?_, ?_, ?_, ?_, ?_, ?_, ?_, ?_, ?_, ?_, ?_, ?_, ?_, ?_, ?_, ?_, ?_, ?_, ?_, ?_, ?_, ?_, ?_, ?_, ?_⟩ <;> (intros; kernel_rfl)
theorem go3 {k : Nat} {args : List PV} {st : Store} {out : PV × Store} (hn : decide (args.length ≤ 102) = true)
    (hp : endS false Tryz.prog [.tmp 4] st (pcodeS ⟨Tryz.prog, ann, pcall Tryz.prog ann noSums k, 3, 102, st.length⟩ k (Tryz.f3.body.getD .skip) ⟨params args, st⟩) = some out) : pcall Tryz.prog ann noSums (k + 1) 3 args st = some out :=
  pcall_end rfl Tryz.func3 rfl rfl rfl (fun _ _ => by kernel_rfl) hn hp
theorem go4 {k : Nat} {args : List PV} {st : Store} {out : PV × Store} (hn : decide (args.length ≤ 137) = true)
    (hp : endS false Tryz.prog [.tmp 0] st (pcodeS ⟨Tryz.prog, ann, pcall Tryz.prog ann noSums k, 4, 137, st.length⟩ k (Tryz.f4.body.getD .skip) ⟨params args, st⟩) = some out) : pcall Tryz.prog ann noSums (k + 1) 4 args st = some out :=
  pcall_end rfl Tryz.func4 rfl rfl rfl (fun _ _ => by kernel_rfl) hn hp
theorem go5 {k : Nat} {args : List PV} {st : Store} {out : PV × Store} (hn : decide (args.length ≤ 9) = true)
    (hp : endS false Tryz.prog [.cell 0 37] st (pcodeS ⟨Tryz.prog, ann, pcall Tryz.prog ann noSums k, 5, 9, st.length⟩ k (Tryz.f5.body.getD .skip) ⟨params args, st⟩) = some out) : pcall Tryz.prog ann noSums (k + 1) 5 args st = some out :=
  pcall_end rfl Tryz.func5 rfl rfl rfl (fun _ _ => by kernel_rfl) hn hp
theorem go6 {k : Nat} {args : List PV} {st : Store} {out : PV × Store} (hn : decide (args.length ≤ 25) = true)
    (hp : endS false Tryz.prog [.cell 4 37, .tmp 5] st (pcodeS ⟨Tryz.prog, ann, pcall Tryz.prog ann noSums k, 6, 25, st.length⟩ k (Tryz.f6.body.getD .skip) ⟨params args, st⟩) = some out) : pcall Tryz.prog ann noSums (k + 1) 6 args st = some out :=
  pcall_end rfl Tryz.func6 rfl rfl rfl (fun _ _ => by kernel_rfl) hn hp
theorem go7 {k : Nat} {args : List PV} {st : Store} {out : PV × Store} (hn : decide (args.length ≤ 58) = true)
    (hp : endS false Tryz.prog [.cell 4 37, .tmp 5] st (pcodeS ⟨Tryz.prog, ann, pcall Tryz.prog ann noSums k, 7, 58, st.length⟩ k (Tryz.f7.body.getD .skip) ⟨params args, st⟩) = some out) : pcall Tryz.prog ann noSums (k + 1) 7 args st = some out :=
  pcall_end rfl Tryz.func7 rfl rfl rfl (fun _ _ => by kernel_rfl) hn hp
theorem go8 {k : Nat} {args : List PV} {st : Store} {out : PV × Store} (hn : decide (args.length ≤ 7) = true)
    (hp : endS false Tryz.prog [.tmp 2] st (pcodeS ⟨Tryz.prog, ann, pcall Tryz.prog ann noSums k, 8, 7, st.length⟩ k (Tryz.f8.body.getD .skip) ⟨params args, st⟩) = some out) : pcall Tryz.prog ann noSums (k + 1) 8 args st = some out :=
  pcall_end rfl Tryz.func8 rfl rfl rfl (fun _ _ => by kernel_rfl) hn hp
theorem go9 {k : Nat} {args : List PV} {st : Store} {out : PV × Store} (hn : decide (args.length ≤ 23) = true)
    (hp : endS false Tryz.prog [.cell 4 37, .tmp 5] st (pcodeS ⟨Tryz.prog, ann, pcall Tryz.prog ann noSums k, 9, 23, st.length⟩ k (Tryz.f9.body.getD .skip) ⟨params args, st⟩) = some out) : pcall Tryz.prog ann noSums (k + 1) 9 args st = some out :=
  pcall_end rfl Tryz.func9 rfl rfl rfl (fun _ _ => by kernel_rfl) hn hp
theorem go10 {k : Nat} {args : List PV} {st : Store} {out : PV × Store} (hn : decide (args.length ≤ 40) = true)
    (hp : endS false Tryz.prog [.cell 6 37, .tmp 7, .tmp 8] st (pcodeS ⟨Tryz.prog, ann, pcall Tryz.prog ann noSums k, 10, 40, st.length⟩ k (Tryz.f10.body.getD .skip) ⟨params args, st⟩) = some out) : pcall Tryz.prog ann noSums (k + 1) 10 args st = some out :=
  pcall_end rfl Tryz.func10 rfl rfl rfl (fun _ _ => by kernel_rfl) hn hp
theorem go11 {k : Nat} {args : List PV} {st : Store} {out : PV × Store} (hn : decide (args.length ≤ 26) = true)
    (hp : endS false Tryz.prog [.tmp 4] st (pcodeS ⟨Tryz.prog, ann, pcall Tryz.prog ann noSums k, 11, 26, st.length⟩ k (Tryz.f11.body.getD .skip) ⟨params args, st⟩) = some out) : pcall Tryz.prog ann noSums (k + 1) 11 args st = some out :=
  pcall_end rfl Tryz.func11 rfl rfl rfl (fun _ _ => by kernel_rfl) hn hp
theorem go12 {k : Nat} {args : List PV} {st : Store} {out : PV × Store} (hn : decide (args.length ≤ 38) = true)
    (hp : endS false Tryz.prog [.cell 6 37, .tmp 7, .tmp 8] st (pcodeS ⟨Tryz.prog, ann, pcall Tryz.prog ann noSums k, 12, 38, st.length⟩ k (Tryz.f12.body.getD .skip) ⟨params args, st⟩) = some out) : pcall Tryz.prog ann noSums (k + 1) 12 args st = some out :=
  pcall_end rfl Tryz.func12 rfl rfl rfl (fun _ _ => by kernel_rfl) hn hp
theorem go13 {k : Nat} {args : List PV} {st : Store} {out : PV × Store} (hn : decide (args.length ≤ 26) = true)
    (hp : endS false Tryz.prog [.tmp 4, .tmp 5] st (pcodeS ⟨Tryz.prog, ann, pcall Tryz.prog ann noSums k, 13, 26, st.length⟩ k (Tryz.f13.body.getD .skip) ⟨params args, st⟩) = some out) : pcall Tryz.prog ann noSums (k + 1) 13 args st = some out :=
  pcall_end rfl Tryz.func13 rfl rfl rfl (fun _ _ => by kernel_rfl) hn hp
theorem go14 {k : Nat} {args : List PV} {st : Store} {out : PV × Store} (hn : decide (args.length ≤ 2) = true)
    (hp : endS false Tryz.prog [.tmp 0] st (pcodeS ⟨Tryz.prog, ann, pcall Tryz.prog ann noSums k, 14, 2, st.length⟩ k (Tryz.f14.body.getD .skip) ⟨params args, st⟩) = some out) : pcall Tryz.prog ann noSums (k + 1) 14 args st = some out :=
  pcall_end rfl Tryz.func14 rfl rfl rfl (fun _ _ => by kernel_rfl) hn hp
theorem go15 {k : Nat} {args : List PV} {st : Store} {out : PV × Store} (hn : decide (args.length ≤ 40) = true)
    (hp : endS false Tryz.prog [.tmp 2] st (pcodeS ⟨Tryz.prog, ann, pcall Tryz.prog ann noSums k, 15, 40, st.length⟩ k (Tryz.f15.body.getD .skip) ⟨params args, st⟩) = some out) : pcall Tryz.prog ann noSums (k + 1) 15 args st = some out :=
  pcall_end rfl Tryz.func15 rfl rfl rfl (fun _ _ => by kernel_rfl) hn hp
theorem go16 {k : Nat} {args : List PV} {st : Store} {out : PV × Store} (hn : decide (args.length ≤ 10) = true)
    (hp : endS false Tryz.prog [.tmp 4] st (pcodeS ⟨Tryz.prog, ann, pcall Tryz.prog ann noSums k, 16, 10, st.length⟩ k (Tryz.f16.body.getD .skip) ⟨params args, st⟩) = some out) : pcall Tryz.prog ann noSums (k + 1) 16 args st = some out :=
  pcall_end rfl Tryz.func16 rfl rfl rfl (fun _ _ => by kernel_rfl) hn hp
theorem go17 {k : Nat} {args : List PV} {st : Store} {out : PV × Store} (hn : decide (args.length ≤ 106) = true)
    (hp : endS true Tryz.prog [.cell 2 37, .tmp 3] st (pcodeS ⟨Tryz.prog, ann, pcall Tryz.prog ann noSums k, 17, 106, st.length⟩ k (Tryz.f17.body.getD .skip) ⟨params args, st⟩) = some out) : pcall Tryz.prog ann noSums (k + 1) 17 args st = some out :=
  pcall_end rfl Tryz.func17 rfl rfl rfl (fun _ _ => by kernel_rfl) hn hp
theorem go18 {k : Nat} {args : List PV} {st : Store} {out : PV × Store} (hn : decide (args.length ≤ 22) = true)
    (hp : endS false Tryz.prog [.cell 6 28, .tmp 7, .tmp 8] st (pcodeS ⟨Tryz.prog, ann, pcall Tryz.prog ann noSums k, 18, 22, st.length⟩ k (Tryz.f18.body.getD .skip) ⟨params args, st⟩) = some out) : pcall Tryz.prog ann noSums (k + 1) 18 args st = some out :=
  pcall_end rfl Tryz.func18 rfl rfl rfl (fun _ _ => by kernel_rfl) hn hp
theorem go19 {k : Nat} {args : List PV} {st : Store} {out : PV × Store} (hn : decide (args.length ≤ 11) = true)
    (hp : endS false Tryz.prog [] st (pcodeS ⟨Tryz.prog, ann, pcall Tryz.prog ann noSums k, 19, 11, st.length⟩ k (Tryz.f19.body.getD .skip) ⟨params args, st⟩) = some out) : pcall Tryz.prog ann noSums (k + 1) 19 args st = some out :=
  pcall_end rfl Tryz.func19 rfl rfl rfl (fun _ _ => by kernel_rfl) hn hp
theorem go20 {k : Nat} {args : List PV} {st : Store} {out : PV × Store} (hn : decide (args.length ≤ 35) = true)
    (hp : endS false Tryz.prog [.tmp 4] st (pcodeS ⟨Tryz.prog, ann, pcall Tryz.prog ann noSums k, 20, 35, st.length⟩ k (Tryz.f20.body.getD .skip) ⟨params args, st⟩) = some out) : pcall Tryz.prog ann noSums (k + 1) 20 args st = some out :=
  pcall_end rfl Tryz.func20 rfl rfl rfl (fun _ _ => by kernel_rfl) hn hp
theorem go21 {k : Nat} {args : List PV} {st : Store} {out : PV × Store} (hn : decide (args.length ≤ 33) = true)
    (hp : endS false Tryz.prog [.cell 6 28, .tmp 7, .tmp 8] st (pcodeS ⟨Tryz.prog, ann, pcall Tryz.prog ann noSums k, 21, 33, st.length⟩ k (Tryz.f21.body.getD .skip) ⟨params args, st⟩) = some out) : pcall Tryz.prog ann noSums (k + 1) 21 args st = some out :=
  pcall_end rfl Tryz.func21 rfl rfl rfl (fun _ _ => by kernel_rfl) hn hp
theorem go22 {k : Nat} {args : List PV} {st : Store} {out : PV × Store} (hn : decide (args.length ≤ 13) = true)
    (hp : endS false Tryz.prog [] st (pcodeS ⟨Tryz.prog, ann, pcall Tryz.prog ann noSums k, 22, 13, st.length⟩ k (Tryz.f22.body.getD .skip) ⟨params args, st⟩) = some out) : pcall Tryz.prog ann noSums (k + 1) 22 args st = some out :=
  pcall_end rfl Tryz.func22 rfl rfl rfl (fun _ _ => by kernel_rfl) hn hp
theorem go23 {k : Nat} {args : List PV} {st : Store} {out : PV × Store} (hn : decide (args.length ≤ 18) = true)
    (hp : endS false Tryz.prog [.cell 4 28, .tmp 5, .tmp 6] st (pcodeS ⟨Tryz.prog, ann, pcall Tryz.prog ann noSums k, 23, 18, st.length⟩ k (Tryz.f23.body.getD .skip) ⟨params args, st⟩) = some out) : pcall Tryz.prog ann noSums (k + 1) 23 args st = some out :=
  pcall_end rfl Tryz.func23 rfl rfl rfl (fun _ _ => by kernel_rfl) hn hp
theorem go24 {k : Nat} {args : List PV} {st : Store} {out : PV × Store} (hn : decide (args.length ≤ 28) = true)
    (hp : endS false Tryz.prog [.cell 6 37, .tmp 7, .tmp 8] st (pcodeS ⟨Tryz.prog, ann, pcall Tryz.prog ann noSums k, 24, 28, st.length⟩ k (Tryz.f24.body.getD .skip) ⟨params args, st⟩) = some out) : pcall Tryz.prog ann noSums (k + 1) 24 args st = some out :=
  pcall_end rfl Tryz.func24 rfl rfl rfl (fun _ _ => by kernel_rfl) hn hp
theorem go25 {k : Nat} {args : List PV} {st : Store} {out : PV × Store} (hn : decide (args.length ≤ 19) = true)
    (hp : endS false Tryz.prog [.tmp 2] st (pcodeS ⟨Tryz.prog, ann, pcall Tryz.prog ann noSums k, 25, 19, st.length⟩ k (Tryz.f25.body.getD .skip) ⟨params args, st⟩) = some out) : pcall Tryz.prog ann noSums (k + 1) 25 args st = some out :=
  pcall_end rfl Tryz.func25 rfl rfl rfl (fun _ _ => by kernel_rfl) hn hp
theorem go26 {k : Nat} {args : List PV} {st : Store} {out : PV × Store} (hn : decide (args.length ≤ 13) = true)
    (hp : endS false Tryz.prog [.cell 6 72] st (pcodeS ⟨Tryz.prog, ann, pcall Tryz.prog ann noSums k, 26, 13, st.length⟩ k (Tryz.f26.body.getD .skip) ⟨params args, st⟩) = some out) : pcall Tryz.prog ann noSums (k + 1) 26 args st = some out :=
  pcall_end rfl Tryz.func26 rfl rfl rfl (fun _ _ => by kernel_rfl) hn hp
theorem go27 {k : Nat} {args : List PV} {st : Store} {out : PV × Store} (hn : decide (args.length ≤ 73) = true)
    (hp : endS false Tryz.prog [.cell 2 72, .tmp 3, .tmp 4] st (pcodeS ⟨Tryz.prog, ann, pcall Tryz.prog ann noSums k, 27, 73, st.length⟩ k (Tryz.f27.body.getD .skip) ⟨params args, st⟩) = some out) : pcall Tryz.prog ann noSums (k + 1) 27 args st = some out :=
  pcall_end rfl Tryz.func27 rfl rfl rfl (fun _ _ => by kernel_rfl) hn hp
theorem go28 {k : Nat} {args : List PV} {st : Store} {out : PV × Store} (hn : decide (args.length ≤ 3) = true)
    (hp : endS false Tryz.prog [.tmp 0] st (pcodeS ⟨Tryz.prog, ann, pcall Tryz.prog ann noSums k, 28, 3, st.length⟩ k (Tryz.f28.body.getD .skip) ⟨params args, st⟩) = some out) : pcall Tryz.prog ann noSums (k + 1) 28 args st = some out :=
  pcall_end rfl Tryz.func28 rfl rfl rfl (fun _ _ => by kernel_rfl) hn hp
theorem go29 {k : Nat} {args : List PV} {st : Store} {out : PV × Store} (hn : decide (args.length ≤ 15) = true)
    (hp : endS false Tryz.prog [.tmp 4] st (pcodeS ⟨Tryz.prog, ann, pcall Tryz.prog ann noSums k, 29, 15, st.length⟩ k (Tryz.f29.body.getD .skip) ⟨params args, st⟩) = some out) : pcall Tryz.prog ann noSums (k + 1) 29 args st = some out :=
  pcall_end rfl Tryz.func29 rfl rfl rfl (fun _ _ => by kernel_rfl) hn hp
theorem go30 {k : Nat} {args : List PV} {st : Store} {out : PV × Store} (hn : decide (args.length ≤ 14) = true)
    (hp : endS false Tryz.prog [.tmp 4] st (pcodeS ⟨Tryz.prog, ann, pcall Tryz.prog ann noSums k, 30, 14, st.length⟩ k (Tryz.f30.body.getD .skip) ⟨params args, st⟩) = some out) : pcall Tryz.prog ann noSums (k + 1) 30 args st = some out :=
  pcall_end rfl Tryz.func30 rfl rfl rfl (fun _ _ => by kernel_rfl) hn hp
theorem go31 {k : Nat} {args : List PV} {st : Store} {out : PV × Store} (hn : decide (args.length ≤ 23) = true)
    (hp : endS false Tryz.prog [.tmp 2, .tmp 3] st (pcodeS ⟨Tryz.prog, ann, pcall Tryz.prog ann noSums k, 31, 23, st.length⟩ k (Tryz.f31.body.getD .skip) ⟨params args, st⟩) = some out) : pcall Tryz.prog ann noSums (k + 1) 31 args st = some out :=
  pcall_end rfl Tryz.func31 rfl rfl rfl (fun _ _ => by kernel_rfl) hn hp
theorem go32 {k : Nat} {args : List PV} {st : Store} {out : PV × Store} (hn : decide (args.length ≤ 24) = true)
    (hp : endS false Tryz.prog [.tmp 4] st (pcodeS ⟨Tryz.prog, ann, pcall Tryz.prog ann noSums k, 32, 24, st.length⟩ k (Tryz.f32.body.getD .skip) ⟨params args, st⟩) = some out) : pcall Tryz.prog ann noSums (k + 1) 32 args st = some out :=
  pcall_end rfl Tryz.func32 rfl rfl rfl (fun _ _ => by kernel_rfl) hn hp
theorem go33 {k : Nat} {args : List PV} {st : Store} {out : PV × Store} (hn : decide (args.length ≤ 26) = true)
    (hp : endS false Tryz.prog [.tmp 4] st (pcodeS ⟨Tryz.prog, ann, pcall Tryz.prog ann noSums k, 33, 26, st.length⟩ k (Tryz.f33.body.getD .skip) ⟨params args, st⟩) = some out) : pcall Tryz.prog ann noSums (k + 1) 33 args st = some out :=
  pcall_end rfl Tryz.func33 rfl rfl rfl (fun _ _ => by kernel_rfl) hn hp
theorem go34 {k : Nat} {args : List PV} {st : Store} {out : PV × Store} (hn : decide (args.length ≤ 32) = true)
    (hp : endS false Tryz.prog [.tmp 6] st (pcodeS ⟨Tryz.prog, ann, pcall Tryz.prog ann noSums k, 34, 32, st.length⟩ k (Tryz.f34.body.getD .skip) ⟨params args, st⟩) = some out) : pcall Tryz.prog ann noSums (k + 1) 34 args st = some out :=
  pcall_end rfl Tryz.func34 rfl rfl rfl (fun _ _ => by kernel_rfl) hn hp
theorem go35 {k : Nat} {args : List PV} {st : Store} {out : PV × Store} (hn : decide (args.length ≤ 57) = true)
    (hp : endS false Tryz.prog [.tmp 2] st (pcodeS ⟨Tryz.prog, ann, pcall Tryz.prog ann noSums k, 35, 57, st.length⟩ k (Tryz.f35.body.getD .skip) ⟨params args, st⟩) = some out) : pcall Tryz.prog ann noSums (k + 1) 35 args st = some out :=
  pcall_end rfl Tryz.func35 rfl rfl rfl (fun _ _ => by kernel_rfl) hn hp
theorem go36 {k : Nat} {args : List PV} {st : Store} {out : PV × Store} (hn : decide (args.length ≤ 2) = true)
    (hp : endS false Tryz.prog [.tmp 0] st (pcodeS ⟨Tryz.prog, ann, pcall Tryz.prog ann noSums k, 36, 2, st.length⟩ k (Tryz.f36.body.getD .skip) ⟨params args, st⟩) = some out) : pcall Tryz.prog ann noSums (k + 1) 36 args st = some out :=
  pcall_end rfl Tryz.func36 rfl rfl rfl (fun _ _ => by kernel_rfl) hn hp
theorem go37 {k : Nat} {args : List PV} {st : Store} {out : PV × Store} (hn : decide (args.length ≤ 2) = true)
    (hp : endS false Tryz.prog [.tmp 0] st (pcodeS ⟨Tryz.prog, ann, pcall Tryz.prog ann noSums k, 37, 2, st.length⟩ k (Tryz.f37.body.getD .skip) ⟨params args, st⟩) = some out) : pcall Tryz.prog ann noSums (k + 1) 37 args st = some out :=
  pcall_end rfl Tryz.func37 rfl rfl rfl (fun _ _ => by kernel_rfl) hn hp
theorem go38 {k : Nat} {args : List PV} {st : Store} {out : PV × Store} (hn : decide (args.length ≤ 22) = true)
    (hp : endS false Tryz.prog [.tmp 4] st (pcodeS ⟨Tryz.prog, ann, pcall Tryz.prog ann noSums k, 38, 22, st.length⟩ k (Tryz.f38.body.getD .skip) ⟨params args, st⟩) = some out) : pcall Tryz.prog ann noSums (k + 1) 38 args st = some out :=
  pcall_end rfl Tryz.func38 rfl rfl rfl (fun _ _ => by kernel_rfl) hn hp
theorem go39 {k : Nat} {args : List PV} {st : Store} {out : PV × Store} (hn : decide (args.length ≤ 23) = true)
    (hp : endS true Tryz.prog [.tmp 2] st (pcodeS ⟨Tryz.prog, ann, pcall Tryz.prog ann noSums k, 39, 23, st.length⟩ k (Tryz.f39.body.getD .skip) ⟨params args, st⟩) = some out) : pcall Tryz.prog ann noSums (k + 1) 39 args st = some out :=
  pcall_end rfl Tryz.func39 rfl rfl rfl (fun _ _ => by kernel_rfl) hn hp
theorem go40 {k : Nat} {args : List PV} {st : Store} {out : PV × Store} (hn : decide (args.length ≤ 19) = true)
    (hp : endS false Tryz.prog [.tmp 4] st (pcodeS ⟨Tryz.prog, ann, pcall Tryz.prog ann noSums k, 40, 19, st.length⟩ k (Tryz.f40.body.getD .skip) ⟨params args, st⟩) = some out) : pcall Tryz.prog ann noSums (k + 1) 40 args st = some out :=
  pcall_end rfl Tryz.func40 rfl rfl rfl (fun _ _ => by kernel_rfl) hn hp
theorem go41 {k : Nat} {args : List PV} {st : Store} {out : PV × Store} (hn : decide (args.length ≤ 2) = true)
    (hp : endS false Tryz.prog [.tmp 0] st (pcodeS ⟨Tryz.prog, ann, pcall Tryz.prog ann noSums k, 41, 2, st.length⟩ k (Tryz.f41.body.getD .skip) ⟨params args, st⟩) = some out) : pcall Tryz.prog ann noSums (k + 1) 41 args st = some out :=
  pcall_end rfl Tryz.func41 rfl rfl rfl (fun _ _ => by kernel_rfl) hn hp
theorem go42 {k : Nat} {args : List PV} {st : Store} {out : PV × Store} (hn : decide (args.length ≤ 10) = true)
    (hp : endS false Tryz.prog [.tmp 2] st (pcodeS ⟨Tryz.prog, ann, pcall Tryz.prog ann noSums k, 42, 10, st.length⟩ k (Tryz.f42.body.getD .skip) ⟨params args, st⟩) = some out) : pcall Tryz.prog ann noSums (k + 1) 42 args st = some out :=
  pcall_end rfl Tryz.func42 rfl rfl rfl (fun _ _ => by kernel_rfl) hn hp
theorem go43 {k : Nat} {args : List PV} {st : Store} {out : PV × Store} (hn : decide (args.length ≤ 43) = true)
    (hp : endS false Tryz.prog [.cell 6 28, .tmp 7] st (pcodeS ⟨Tryz.prog, ann, pcall Tryz.prog ann noSums k, 43, 43, st.length⟩ k (Tryz.f43.body.getD .skip) ⟨params args, st⟩) = some out) : pcall Tryz.prog ann noSums (k + 1) 43 args st = some out :=
  pcall_end rfl Tryz.func43 rfl rfl rfl (fun _ _ => by kernel_rfl) hn hp
theorem go44 {k : Nat} {args : List PV} {st : Store} {out : PV × Store} (hn : decide (args.length ≤ 21) = true)
    (hp : endS false Tryz.prog [.tmp 4] st (pcodeS ⟨Tryz.prog, ann, pcall Tryz.prog ann noSums k, 44, 21, st.length⟩ k (Tryz.f44.body.getD .skip) ⟨params args, st⟩) = some out) : pcall Tryz.prog ann noSums (k + 1) 44 args st = some out :=
  pcall_end rfl Tryz.func44 rfl rfl rfl (fun _ _ => by kernel_rfl) hn hp
theorem go45 {k : Nat} {args : List PV} {st : Store} {out : PV × Store} (hn : decide (args.length ≤ 120) = true)
    (hp : endS false Tryz.prog [] st (pcodeS ⟨Tryz.prog, ann, pcall Tryz.prog ann noSums k, 45, 120, st.length⟩ k (Tryz.f45.body.getD .skip) ⟨params args, st⟩) = some out) : pcall Tryz.prog ann noSums (k + 1) 45 args st = some out :=
  pcall_end rfl Tryz.func45 rfl rfl rfl (fun _ _ => by kernel_rfl) hn hp
theorem go46 {k : Nat} {args : List PV} {st : Store} {out : PV × Store} (hn : decide (args.length ≤ 67) = true)
    (hp : endS false Tryz.prog [.cell 4 72, .tmp 5] st (pcodeS ⟨Tryz.prog, ann, pcall Tryz.prog ann noSums k, 46, 67, st.length⟩ k (Tryz.f46.body.getD .skip) ⟨params args, st⟩) = some out) : pcall Tryz.prog ann noSums (k + 1) 46 args st = some out :=
  pcall_end rfl Tryz.func46 rfl rfl rfl (fun _ _ => by kernel_rfl) hn hp
theorem go47 {k : Nat} {args : List PV} {st : Store} {out : PV × Store} (hn : decide (args.length ≤ 9) = true)
    (hp : endS false Tryz.prog [] st (pcodeS ⟨Tryz.prog, ann, pcall Tryz.prog ann noSums k, 47, 9, st.length⟩ k (Tryz.f47.body.getD .skip) ⟨params args, st⟩) = some out) : pcall Tryz.prog ann noSums (k + 1) 47 args st = some out :=
  pcall_end rfl Tryz.func47 rfl rfl rfl (fun _ _ => by kernel_rfl) hn hp
theorem go48 {k : Nat} {args : List PV} {st : Store} {out : PV × Store} (hn : decide (args.length ≤ 16) = true)
    (hp : endS false Tryz.prog [] st (pcodeS ⟨Tryz.prog, ann, pcall Tryz.prog ann noSums k, 48, 16, st.length⟩ k (Tryz.f48.body.getD .skip) ⟨params args, st⟩) = some out) : pcall Tryz.prog ann noSums (k + 1) 48 args st = some out :=
  pcall_end rfl Tryz.func48 rfl rfl rfl (fun _ _ => by kernel_rfl) hn hp
theorem go49 {k : Nat} {args : List PV} {st : Store} {out : PV × Store} (hn : decide (args.length ≤ 7) = true)
    (hp : endS false Tryz.prog [] st (pcodeS ⟨Tryz.prog, ann, pcall Tryz.prog ann noSums k, 49, 7, st.length⟩ k (Tryz.f49.body.getD .skip) ⟨params args, st⟩) = some out) : pcall Tryz.prog ann noSums (k + 1) 49 args st = some out :=
  pcall_end rfl Tryz.func49 rfl rfl rfl (fun _ _ => by kernel_rfl) hn hp
theorem go50 {k : Nat} {args : List PV} {st : Store} {out : PV × Store} (hn : decide (args.length ≤ 10) = true)
    (hp : endS false Tryz.prog [] st (pcodeS ⟨Tryz.prog, ann, pcall Tryz.prog ann noSums k, 50, 10, st.length⟩ k (Tryz.f50.body.getD .skip) ⟨params args, st⟩) = some out) : pcall Tryz.prog ann noSums (k + 1) 50 args st = some out :=
  pcall_end rfl Tryz.func50 rfl rfl rfl (fun _ _ => by kernel_rfl) hn hp
theorem go51 {k : Nat} {args : List PV} {st : Store} {out : PV × Store} (hn : decide (args.length ≤ 15) = true)
    (hp : endS false Tryz.prog [] st (pcodeS ⟨Tryz.prog, ann, pcall Tryz.prog ann noSums k, 51, 15, st.length⟩ k (Tryz.f51.body.getD .skip) ⟨params args, st⟩) = some out) : pcall Tryz.prog ann noSums (k + 1) 51 args st = some out :=
  pcall_end rfl Tryz.func51 rfl rfl rfl (fun _ _ => by kernel_rfl) hn hp
theorem go52 {k : Nat} {args : List PV} {st : Store} {out : PV × Store} (hn : decide (args.length ≤ 18) = true)
    (hp : endS false Tryz.prog [] st (pcodeS ⟨Tryz.prog, ann, pcall Tryz.prog ann noSums k, 52, 18, st.length⟩ k (Tryz.f52.body.getD .skip) ⟨params args, st⟩) = some out) : pcall Tryz.prog ann noSums (k + 1) 52 args st = some out :=
  pcall_end rfl Tryz.func52 rfl rfl rfl (fun _ _ => by kernel_rfl) hn hp
theorem go53 {k : Nat} {args : List PV} {st : Store} {out : PV × Store} (hn : decide (args.length ≤ 4) = true)
    (hp : endS false Tryz.prog [] st (pcodeS ⟨Tryz.prog, ann, pcall Tryz.prog ann noSums k, 53, 4, st.length⟩ k (Tryz.f53.body.getD .skip) ⟨params args, st⟩) = some out) : pcall Tryz.prog ann noSums (k + 1) 53 args st = some out :=
  pcall_end rfl Tryz.func53 rfl rfl rfl (fun _ _ => by kernel_rfl) hn hp
theorem go54 {k : Nat} {args : List PV} {st : Store} {out : PV × Store} (hn : decide (args.length ≤ 4) = true)
    (hp : endS false Tryz.prog [] st (pcodeS ⟨Tryz.prog, ann, pcall Tryz.prog ann noSums k, 54, 4, st.length⟩ k (Tryz.f54.body.getD .skip) ⟨params args, st⟩) = some out) : pcall Tryz.prog ann noSums (k + 1) 54 args st = some out :=
  pcall_end rfl Tryz.func54 rfl rfl rfl (fun _ _ => by kernel_rfl) hn hp
theorem go55 {k : Nat} {args : List PV} {st : Store} {out : PV × Store} (hn : decide (args.length ≤ 12) = true)
    (hp : endS false Tryz.prog [] st (pcodeS ⟨Tryz.prog, ann, pcall Tryz.prog ann noSums k, 55, 12, st.length⟩ k (Tryz.f55.body.getD .skip) ⟨params args, st⟩) = some out) : pcall Tryz.prog ann noSums (k + 1) 55 args st = some out :=
  pcall_end rfl Tryz.func55 rfl rfl rfl (fun _ _ => by kernel_rfl) hn hp
theorem go56 {k : Nat} {args : List PV} {st : Store} {out : PV × Store} (hn : decide (args.length ≤ 15) = true)
    (hp : endS false Tryz.prog [] st (pcodeS ⟨Tryz.prog, ann, pcall Tryz.prog ann noSums k, 56, 15, st.length⟩ k (Tryz.f56.body.getD .skip) ⟨params args, st⟩) = some out) : pcall Tryz.prog ann noSums (k + 1) 56 args st = some out :=
  pcall_end rfl Tryz.func56 rfl rfl rfl (fun _ _ => by kernel_rfl) hn hp
theorem go57 {k : Nat} {args : List PV} {st : Store} {out : PV × Store} (hn : decide (args.length ≤ 4) = true)
    (hp : endS false Tryz.prog [] st (pcodeS ⟨Tryz.prog, ann, pcall Tryz.prog ann noSums k, 57, 4, st.length⟩ k (Tryz.f57.body.getD .skip) ⟨params args, st⟩) = some out) : pcall Tryz.prog ann noSums (k + 1) 57 args st = some out :=
  pcall_end rfl Tryz.func57 rfl rfl rfl (fun _ _ => by kernel_rfl) hn hp
theorem go58 {k : Nat} {args : List PV} {st : Store} {out : PV × Store} (hn : decide (args.length ≤ 4) = true)
    (hp : endS false Tryz.prog [] st (pcodeS ⟨Tryz.prog, ann, pcall Tryz.prog ann noSums k, 58, 4, st.length⟩ k (Tryz.f58.body.getD .skip) ⟨params args, st⟩) = some out) : pcall Tryz.prog ann noSums (k + 1) 58 args st = some out :=
  pcall_end rfl Tryz.func58 rfl rfl rfl (fun _ _ => by kernel_rfl) hn hp
theorem go59 {k : Nat} {args : List PV} {st : Store} {out : PV × Store} (hn : decide (args.length ≤ 72) = true)
    (hp : endS false Tryz.prog [] st (pcodeS ⟨Tryz.prog, ann, pcall Tryz.prog ann noSums k, 59, 72, st.length⟩ k (Tryz.f59.body.getD .skip) ⟨params args, st⟩) = some out) : pcall Tryz.prog ann noSums (k + 1) 59 args st = some out :=
  pcall_end rfl Tryz.func59 rfl rfl rfl (fun _ _ => by kernel_rfl) hn hp
theorem go60 {k : Nat} {args : List PV} {st : Store} {out : PV × Store} (hn : decide (args.length ≤ 31) = true)
    (hp : endS false Tryz.prog [.tmp 6] st (pcodeS ⟨Tryz.prog, ann, pcall Tryz.prog ann noSums k, 60, 31, st.length⟩ k (Tryz.f60.body.getD .skip) ⟨params args, st⟩) = some out) : pcall Tryz.prog ann noSums (k + 1) 60 args st = some out :=
  pcall_end rfl Tryz.func60 rfl rfl rfl (fun _ _ => by kernel_rfl) hn hp
theorem go61 {k : Nat} {args : List PV} {st : Store} {out : PV × Store} (hn : decide (args.length ≤ 18) = true)
    (hp : endS false Tryz.prog [.tmp 4] st (pcodeS ⟨Tryz.prog, ann, pcall Tryz.prog ann noSums k, 61, 18, st.length⟩ k (Tryz.f61.body.getD .skip) ⟨params args, st⟩) = some out) : pcall Tryz.prog ann noSums (k + 1) 61 args st = some out :=
  pcall_end rfl Tryz.func61 rfl rfl rfl (fun _ _ => by kernel_rfl) hn hp
theorem go62 {k : Nat} {args : List PV} {st : Store} {out : PV × Store} (hn : decide (args.length ≤ 33) = true)
    (hp : endS false Tryz.prog [.tmp 6] st (pcodeS ⟨Tryz.prog, ann, pcall Tryz.prog ann noSums k, 62, 33, st.length⟩ k (Tryz.f62.body.getD .skip) ⟨params args, st⟩) = some out) : pcall Tryz.prog ann noSums (k + 1) 62 args st = some out :=
  pcall_end rfl Tryz.func62 rfl rfl rfl (fun _ _ => by kernel_rfl) hn hp
theorem go63 {k : Nat} {args : List PV} {st : Store} {out : PV × Store} (hn : decide (args.length ≤ 9) = true)
    (hp : endS false Tryz.prog [.tmp 2] st (pcodeS ⟨Tryz.prog, ann, pcall Tryz.prog ann noSums k, 63, 9, st.length⟩ k (Tryz.f63.body.getD .skip) ⟨params args, st⟩) = some out) : pcall Tryz.prog ann noSums (k + 1) 63 args st = some out :=
  pcall_end rfl Tryz.func63 rfl rfl rfl (fun _ _ => by kernel_rfl) hn hp
theorem go64 {k : Nat} {args : List PV} {st : Store} {out : PV × Store} (hn : decide (args.length ≤ 8) = true)
    (hp : endS false Tryz.prog [.tmp 2] st (pcodeS ⟨Tryz.prog, ann, pcall Tryz.prog ann noSums k, 64, 8, st.length⟩ k (Tryz.f64.body.getD .skip) ⟨params args, st⟩) = some out) : pcall Tryz.prog ann noSums (k + 1) 64 args st = some out :=
  pcall_end rfl Tryz.func64 rfl rfl rfl (fun _ _ => by kernel_rfl) hn hp
theorem go65 {k : Nat} {args : List PV} {st : Store} {out : PV × Store} (hn : decide (args.length ≤ 20) = true)
    (hp : endS true Tryz.prog [.tmp 6] st (pcodeS ⟨Tryz.prog, ann, pcall Tryz.prog ann noSums k, 65, 20, st.length⟩ k (Tryz.f65.body.getD .skip) ⟨params args, st⟩) = some out) : pcall Tryz.prog ann noSums (k + 1) 65 args st = some out :=
  pcall_end rfl Tryz.func65 rfl rfl rfl (fun _ _ => by kernel_rfl) hn hp
theorem go66 {k : Nat} {args : List PV} {st : Store} {out : PV × Store} (hn : decide (args.length ≤ 13) = true)
    (hp : endS false Tryz.prog [] st (pcodeS ⟨Tryz.prog, ann, pcall Tryz.prog ann noSums k, 66, 13, st.length⟩ k (Tryz.f66.body.getD .skip) ⟨params args, st⟩) = some out) : pcall Tryz.prog ann noSums (k + 1) 66 args st = some out :=
  pcall_end rfl Tryz.func66 rfl rfl rfl (fun _ _ => by kernel_rfl) hn hp
theorem go67 {k : Nat} {args : List PV} {st : Store} {out : PV × Store} (hn : decide (args.length ≤ 46) = true)
    (hp : endS false Tryz.prog [.tmp 4, .tmp 5] st (pcodeS ⟨Tryz.prog, ann, pcall Tryz.prog ann noSums k, 67, 46, st.length⟩ k (Tryz.f67.body.getD .skip) ⟨params args, st⟩) = some out) : pcall Tryz.prog ann noSums (k + 1) 67 args st = some out :=
  pcall_end rfl Tryz.func67 rfl rfl rfl (fun _ _ => by kernel_rfl) hn hp
theorem go68 {k : Nat} {args : List PV} {st : Store} {out : PV × Store} (hn : decide (args.length ≤ 22) = true)
    (hp : endS false Tryz.prog [] st (pcodeS ⟨Tryz.prog, ann, pcall Tryz.prog ann noSums k, 68, 22, st.length⟩ k (Tryz.f68.body.getD .skip) ⟨params args, st⟩) = some out) : pcall Tryz.prog ann noSums (k + 1) 68 args st = some out :=
  pcall_end rfl Tryz.func68 rfl rfl rfl (fun _ _ => by kernel_rfl) hn hp
theorem go69 {k : Nat} {args : List PV} {st : Store} {out : PV × Store} (hn : decide (args.length ≤ 22) = true)
    (hp : endS false Tryz.prog [] st (pcodeS ⟨Tryz.prog, ann, pcall Tryz.prog ann noSums k, 69, 22, st.length⟩ k (Tryz.f69.body.getD .skip) ⟨params args, st⟩) = some out) : pcall Tryz.prog ann noSums (k + 1) 69 args st = some out :=
  pcall_end rfl Tryz.func69 rfl rfl rfl (fun _ _ => by kernel_rfl) hn hp
theorem go70 {k : Nat} {args : List PV} {st : Store} {out : PV × Store} (hn : decide (args.length ≤ 36) = true)
    (hp : endS false Tryz.prog [] st (pcodeS ⟨Tryz.prog, ann, pcall Tryz.prog ann noSums k, 70, 36, st.length⟩ k (Tryz.f70.body.getD .skip) ⟨params args, st⟩) = some out) : pcall Tryz.prog ann noSums (k + 1) 70 args st = some out :=
  pcall_end rfl Tryz.func70 rfl rfl rfl (fun _ _ => by kernel_rfl) hn hp
theorem go71 {k : Nat} {args : List PV} {st : Store} {out : PV × Store} (hn : decide (args.length ≤ 96) = true)
    (hp : endS false Tryz.prog [.cell 4 37, .tmp 5] st (pcodeS ⟨Tryz.prog, ann, pcall Tryz.prog ann noSums k, 71, 96, st.length⟩ k (Tryz.f71.body.getD .skip) ⟨params args, st⟩) = some out) : pcall Tryz.prog ann noSums (k + 1) 71 args st = some out :=
  pcall_end rfl Tryz.func71 rfl rfl rfl (fun _ _ => by kernel_rfl) hn hp
theorem go72 {k : Nat} {args : List PV} {st : Store} {out : PV × Store} (hn : decide (args.length ≤ 270) = true)
    (hp : endS false Tryz.prog [.tmp 4] st (pcodeS ⟨Tryz.prog, ann, pcall Tryz.prog ann noSums k, 72, 270, st.length⟩ k (Tryz.f72.body.getD .skip) ⟨params args, st⟩) = some out) : pcall Tryz.prog ann noSums (k + 1) 72 args st = some out :=
  pcall_end rfl Tryz.func72 rfl rfl rfl (fun _ _ => by kernel_rfl) hn hp
theorem go73 {k : Nat} {args : List PV} {st : Store} {out : PV × Store} (hn : decide (args.length ≤ 140) = true)
    (hp : endS false Tryz.prog [] st (pcodeS ⟨Tryz.prog, ann, pcall Tryz.prog ann noSums k, 73, 140, st.length⟩ k (Tryz.f73.body.getD .skip) ⟨params args, st⟩) = some out) : pcall Tryz.prog ann noSums (k + 1) 73 args st = some out :=
  pcall_end rfl Tryz.func73 rfl rfl rfl (fun _ _ => by kernel_rfl) hn hp
theorem go74 {k : Nat} {args : List PV} {st : Store} {out : PV × Store} (hn : decide (args.length ≤ 26) = true)
    (hp : endS false Tryz.prog [.tmp 4] st (pcodeS ⟨Tryz.prog, ann, pcall Tryz.prog ann noSums k, 74, 26, st.length⟩ k (Tryz.f74.body.getD .skip) ⟨params args, st⟩) = some out) : pcall Tryz.prog ann noSums (k + 1) 74 args st = some out :=
  pcall_end rfl Tryz.func74 rfl rfl rfl (fun _ _ => by kernel_rfl) hn hp
theorem go75 {k : Nat} {args : List PV} {st : Store} {out : PV × Store} (hn : decide (args.length ≤ 10) = true)
    (hp : endS false Tryz.prog [.tmp 4] st (pcodeS ⟨Tryz.prog, ann, pcall Tryz.prog ann noSums k, 75, 10, st.length⟩ k (Tryz.f75.body.getD .skip) ⟨params args, st⟩) = some out) : pcall Tryz.prog ann noSums (k + 1) 75 args st = some out :=
  pcall_end rfl Tryz.func75 rfl rfl rfl (fun _ _ => by kernel_rfl) hn hp
theorem go76 {k : Nat} {args : List PV} {st : Store} {out : PV × Store} (hn : decide (args.length ≤ 10) = true)
    (hp : endS false Tryz.prog [.tmp 4] st (pcodeS ⟨Tryz.prog, ann, pcall Tryz.prog ann noSums k, 76, 10, st.length⟩ k (Tryz.f76.body.getD .skip) ⟨params args, st⟩) = some out) : pcall Tryz.prog ann noSums (k + 1) 76 args st = some out :=
  pcall_end rfl Tryz.func76 rfl rfl rfl (fun _ _ => by kernel_rfl) hn hp
theorem go77 {k : Nat} {args : List PV} {st : Store} {out : PV × Store} (hn : decide (args.length ≤ 23) = true)
    (hp : endS false Tryz.prog [] st (pcodeS ⟨Tryz.prog, ann, pcall Tryz.prog ann noSums k, 77, 23, st.length⟩ k (Tryz.f77.body.getD .skip) ⟨params args, st⟩) = some out) : pcall Tryz.prog ann noSums (k + 1) 77 args st = some out :=
  pcall_end rfl Tryz.func77 rfl rfl rfl (fun _ _ => by kernel_rfl) hn hp
theorem go78 {k : Nat} {args : List PV} {st : Store} {out : PV × Store} (hn : decide (args.length ≤ 49) = true)
    (hp : endS false Tryz.prog [.cell 4 54] st (pcodeS ⟨Tryz.prog, ann, pcall Tryz.prog ann noSums k, 78, 49, st.length⟩ k (Tryz.f78.body.getD .skip) ⟨params args, st⟩) = some out) : pcall Tryz.prog ann noSums (k + 1) 78 args st = some out :=
  pcall_end rfl Tryz.func78 rfl rfl rfl (fun _ _ => by kernel_rfl) hn hp
theorem go79 {k : Nat} {args : List PV} {st : Store} {out : PV × Store} (hn : decide (args.length ≤ 34) = true)
    (hp : endS false Tryz.prog [] st (pcodeS ⟨Tryz.prog, ann, pcall Tryz.prog ann noSums k, 79, 34, st.length⟩ k (Tryz.f79.body.getD .skip) ⟨params args, st⟩) = some out) : pcall Tryz.prog ann noSums (k + 1) 79 args st = some out :=
  pcall_end rfl Tryz.func79 rfl rfl rfl (fun _ _ => by kernel_rfl) hn hp
theorem go80 {k : Nat} {args : List PV} {st : Store} {out : PV × Store} (hn : decide (args.length ≤ 14) = true)
    (hp : endS false Tryz.prog [] st (pcodeS ⟨Tryz.prog, ann, pcall Tryz.prog ann noSums k, 80, 14, st.length⟩ k (Tryz.f80.body.getD .skip) ⟨params args, st⟩) = some out) : pcall Tryz.prog ann noSums (k + 1) 80 args st = some out :=
  pcall_end rfl Tryz.func80 rfl rfl rfl (fun _ _ => by kernel_rfl) hn hp
theorem go81 {k : Nat} {args : List PV} {st : Store} {out : PV × Store} (hn : decide (args.length ≤ 27) = true)
    (hp : endS false Tryz.prog [] st (pcodeS ⟨Tryz.prog, ann, pcall Tryz.prog ann noSums k, 81, 27, st.length⟩ k (Tryz.f81.body.getD .skip) ⟨params args, st⟩) = some out) : pcall Tryz.prog ann noSums (k + 1) 81 args st = some out :=
  pcall_end rfl Tryz.func81 rfl rfl rfl (fun _ _ => by kernel_rfl) hn hp
theorem go82 {k : Nat} {args : List PV} {st : Store} {out : PV × Store} (hn : decide (args.length ≤ 8) = true)
    (hp : endS false Tryz.prog [.tmp 2] st (pcodeS ⟨Tryz.prog, ann, pcall Tryz.prog ann noSums k, 82, 8, st.length⟩ k (Tryz.f82.body.getD .skip) ⟨params args, st⟩) = some out) : pcall Tryz.prog ann noSums (k + 1) 82 args st = some out :=
  pcall_end rfl Tryz.func82 rfl rfl rfl (fun _ _ => by kernel_rfl) hn hp
theorem go83 {k : Nat} {args : List PV} {st : Store} {out : PV × Store} (hn : decide (args.length ≤ 9) = true)
    (hp : endS false Tryz.prog [.tmp 2] st (pcodeS ⟨Tryz.prog, ann, pcall Tryz.prog ann noSums k, 83, 9, st.length⟩ k (Tryz.f83.body.getD .skip) ⟨params args, st⟩) = some out) : pcall Tryz.prog ann noSums (k + 1) 83 args st = some out :=
  pcall_end rfl Tryz.func83 rfl rfl rfl (fun _ _ => by kernel_rfl) hn hp
theorem go84 {k : Nat} {args : List PV} {st : Store} {out : PV × Store} (hn : decide (args.length ≤ 23) = true)
    (hp : endS false Tryz.prog [.cell 4 37, .tmp 5] st (pcodeS ⟨Tryz.prog, ann, pcall Tryz.prog ann noSums k, 84, 23, st.length⟩ k (Tryz.f84.body.getD .skip) ⟨params args, st⟩) = some out) : pcall Tryz.prog ann noSums (k + 1) 84 args st = some out :=
  pcall_end rfl Tryz.func84 rfl rfl rfl (fun _ _ => by kernel_rfl) hn hp
theorem go85 {k : Nat} {args : List PV} {st : Store} {out : PV × Store} (hn : decide (args.length ≤ 22) = true)
    (hp : endS false Tryz.prog [.cell 4 37, .tmp 5] st (pcodeS ⟨Tryz.prog, ann, pcall Tryz.prog ann noSums k, 85, 22, st.length⟩ k (Tryz.f85.body.getD .skip) ⟨params args, st⟩) = some out) : pcall Tryz.prog ann noSums (k + 1) 85 args st = some out :=
  pcall_end rfl Tryz.func85 rfl rfl rfl (fun _ _ => by kernel_rfl) hn hp
theorem go86 {k : Nat} {args : List PV} {st : Store} {out : PV × Store} (hn : decide (args.length ≤ 11) = true)
    (hp : endS false Tryz.prog [] st (pcodeS ⟨Tryz.prog, ann, pcall Tryz.prog ann noSums k, 86, 11, st.length⟩ k (Tryz.f86.body.getD .skip) ⟨params args, st⟩) = some out) : pcall Tryz.prog ann noSums (k + 1) 86 args st = some out :=
  pcall_end rfl Tryz.func86 rfl rfl rfl (fun _ _ => by kernel_rfl) hn hp
theorem go87 {k : Nat} {args : List PV} {st : Store} {out : PV × Store} (hn : decide (args.length ≤ 9) = true)
    (hp : endS false Tryz.prog [.tmp 2] st (pcodeS ⟨Tryz.prog, ann, pcall Tryz.prog ann noSums k, 87, 9, st.length⟩ k (Tryz.f87.body.getD .skip) ⟨params args, st⟩) = some out) : pcall Tryz.prog ann noSums (k + 1) 87 args st = some out :=
  pcall_end rfl Tryz.func87 rfl rfl rfl (fun _ _ => by kernel_rfl) hn hp
theorem go88 {k : Nat} {args : List PV} {st : Store} {out : PV × Store} (hn : decide (args.length ≤ 47) = true)
    (hp : endS false Tryz.prog [.tmp 6, .tmp 7, .tmp 8] st (pcodeS ⟨Tryz.prog, ann, pcall Tryz.prog ann noSums k, 88, 47, st.length⟩ k (Tryz.f88.body.getD .skip) ⟨params args, st⟩) = some out) : pcall Tryz.prog ann noSums (k + 1) 88 args st = some out :=
  pcall_end rfl Tryz.func88 rfl rfl rfl (fun _ _ => by kernel_rfl) hn hp
theorem go89 {k : Nat} {args : List PV} {st : Store} {out : PV × Store} (hn : decide (args.length ≤ 55) = true)
    (hp : endS false Tryz.prog [.tmp 4] st (pcodeS ⟨Tryz.prog, ann, pcall Tryz.prog ann noSums k, 89, 55, st.length⟩ k (Tryz.f89.body.getD .skip) ⟨params args, st⟩) = some out) : pcall Tryz.prog ann noSums (k + 1) 89 args st = some out :=
  pcall_end rfl Tryz.func89 rfl rfl rfl (fun _ _ => by kernel_rfl) hn hp
theorem go90 {k : Nat} {args : List PV} {st : Store} {out : PV × Store} (hn : decide (args.length ≤ 159) = true)
    (hp : endS false Tryz.prog [.cell 8 37, .tmp 9, .tmp 10] st (pcodeS ⟨Tryz.prog, ann, pcall Tryz.prog ann noSums k, 90, 159, st.length⟩ k (Tryz.f90.body.getD .skip) ⟨params args, st⟩) = some out) : pcall Tryz.prog ann noSums (k + 1) 90 args st = some out :=
  pcall_end rfl Tryz.func90 rfl rfl rfl (fun _ _ => by kernel_rfl) hn hp
theorem go91 {k : Nat} {args : List PV} {st : Store} {out : PV × Store} (hn : decide (args.length ≤ 23) = true)
    (hp : endS false Tryz.prog [.tmp 2] st (pcodeS ⟨Tryz.prog, ann, pcall Tryz.prog ann noSums k, 91, 23, st.length⟩ k (Tryz.f91.body.getD .skip) ⟨params args, st⟩) = some out) : pcall Tryz.prog ann noSums (k + 1) 91 args st = some out :=
  pcall_end rfl Tryz.func91 rfl rfl rfl (fun _ _ => by kernel_rfl) hn hp
theorem go92 {k : Nat} {args : List PV} {st : Store} {out : PV × Store} (hn : decide (args.length ≤ 11) = true)
    (hp : endS false Tryz.prog [] st (pcodeS ⟨Tryz.prog, ann, pcall Tryz.prog ann noSums k, 92, 11, st.length⟩ k (Tryz.f92.body.getD .skip) ⟨params args, st⟩) = some out) : pcall Tryz.prog ann noSums (k + 1) 92 args st = some out :=
  pcall_end rfl Tryz.func92 rfl rfl rfl (fun _ _ => by kernel_rfl) hn hp
theorem go93 {k : Nat} {args : List PV} {st : Store} {out : PV × Store} (hn : decide (args.length ≤ 23) = true)
    (hp : endS false Tryz.prog [.tmp 2] st (pcodeS ⟨Tryz.prog, ann, pcall Tryz.prog ann noSums k, 93, 23, st.length⟩ k (Tryz.f93.body.getD .skip) ⟨params args, st⟩) = some out) : pcall Tryz.prog ann noSums (k + 1) 93 args st = some out :=
  pcall_end rfl Tryz.func93 rfl rfl rfl (fun _ _ => by kernel_rfl) hn hp
theorem go94 {k : Nat} {args : List PV} {st : Store} {out : PV × Store} (hn : decide (args.length ≤ 42) = true)
    (hp : endS false Tryz.prog [] st (pcodeS ⟨Tryz.prog, ann, pcall Tryz.prog ann noSums k, 94, 42, st.length⟩ k (Tryz.f94.body.getD .skip) ⟨params args, st⟩) = some out) : pcall Tryz.prog ann noSums (k + 1) 94 args st = some out :=
  pcall_end rfl Tryz.func94 rfl rfl rfl (fun _ _ => by kernel_rfl) hn hp
theorem go95 {k : Nat} {args : List PV} {st : Store} {out : PV × Store} (hn : decide (args.length ≤ 27) = true)
    (hp : endS false Tryz.prog [] st (pcodeS ⟨Tryz.prog, ann, pcall Tryz.prog ann noSums k, 95, 27, st.length⟩ k (Tryz.f95.body.getD .skip) ⟨params args, st⟩) = some out) : pcall Tryz.prog ann noSums (k + 1) 95 args st = some out :=
  pcall_end rfl Tryz.func95 rfl rfl rfl (fun _ _ => by kernel_rfl) hn hp
theorem go96 {k : Nat} {args : List PV} {st : Store} {out : PV × Store} (hn : decide (args.length ≤ 101) = true)
    (hp : endS false Tryz.prog [.tmp 4, .tmp 5] st (pcodeS ⟨Tryz.prog, ann, pcall Tryz.prog ann noSums k, 96, 101, st.length⟩ k (Tryz.f96.body.getD .skip) ⟨params args, st⟩) = some out) : pcall Tryz.prog ann noSums (k + 1) 96 args st = some out :=
  pcall_end rfl Tryz.func96 rfl rfl rfl (fun _ _ => by kernel_rfl) hn hp
theorem go97 {k : Nat} {args : List PV} {st : Store} {out : PV × Store} (hn : decide (args.length ≤ 31) = true)
    (hp : endS false Tryz.prog [.tmp 4] st (pcodeS ⟨Tryz.prog, ann, pcall Tryz.prog ann noSums k, 97, 31, st.length⟩ k (Tryz.f97.body.getD .skip) ⟨params args, st⟩) = some out) : pcall Tryz.prog ann noSums (k + 1) 97 args st = some out :=
  pcall_end rfl Tryz.func97 rfl rfl rfl (fun _ _ => by kernel_rfl) hn hp
theorem go98 {k : Nat} {args : List PV} {st : Store} {out : PV × Store} (hn : decide (args.length ≤ 9) = true)
    (hp : endS false Tryz.prog [.tmp 2] st (pcodeS ⟨Tryz.prog, ann, pcall Tryz.prog ann noSums k, 98, 9, st.length⟩ k (Tryz.f98.body.getD .skip) ⟨params args, st⟩) = some out) : pcall Tryz.prog ann noSums (k + 1) 98 args st = some out :=
  pcall_end rfl Tryz.func98 rfl rfl rfl (fun _ _ => by kernel_rfl) hn hp
theorem go99 {k : Nat} {args : List PV} {st : Store} {out : PV × Store} (hn : decide (args.length ≤ 23) = true)
    (hp : endS false Tryz.prog [.cell 6 28, .tmp 7] st (pcodeS ⟨Tryz.prog, ann, pcall Tryz.prog ann noSums k, 99, 23, st.length⟩ k (Tryz.f99.body.getD .skip) ⟨params args, st⟩) = some out) : pcall Tryz.prog ann noSums (k + 1) 99 args st = some out :=
  pcall_end rfl Tryz.func99 rfl rfl rfl (fun _ _ => by kernel_rfl) hn hp
theorem go100 {k : Nat} {args : List PV} {st : Store} {out : PV × Store} (hn : decide (args.length ≤ 19) = true)
    (hp : endS false Tryz.prog [.tmp 6, .tmp 7] st (pcodeS ⟨Tryz.prog, ann, pcall Tryz.prog ann noSums k, 100, 19, st.length⟩ k (Tryz.f100.body.getD .skip) ⟨params args, st⟩) = some out) : pcall Tryz.prog ann noSums (k + 1) 100 args st = some out :=
  pcall_end rfl Tryz.func100 rfl rfl rfl (fun _ _ => by kernel_rfl) hn hp
theorem go101 {k : Nat} {args : List PV} {st : Store} {out : PV × Store} (hn : decide (args.length ≤ 62) = true)
    (hp : endS false Tryz.prog [.tmp 4] st (pcodeS ⟨Tryz.prog, ann, pcall Tryz.prog ann noSums k, 101, 62, st.length⟩ k (Tryz.f101.body.getD .skip) ⟨params args, st⟩) = some out) : pcall Tryz.prog ann noSums (k + 1) 101 args st = some out :=
  pcall_end rfl Tryz.func101 rfl rfl rfl (fun _ _ => by kernel_rfl) hn hp
theorem go102 {k : Nat} {args : List PV} {st : Store} {out : PV × Store} (hn : decide (args.length ≤ 177) = true)
    (hp : endS false Tryz.prog [.tmp 6] st (pcodeS ⟨Tryz.prog, ann, pcall Tryz.prog ann noSums k, 102, 177, st.length⟩ k (Tryz.f102.body.getD .skip) ⟨params args, st⟩) = some out) : pcall Tryz.prog ann noSums (k + 1) 102 args st = some out :=
  pcall_end rfl Tryz.func102 rfl rfl rfl (fun _ _ => by kernel_rfl) hn hp
theorem go103 {k : Nat} {args : List PV} {st : Store} {out : PV × Store} (hn : decide (args.length ≤ 162) = true)
    (hp : endS false Tryz.prog [.tmp 6, .tmp 7, .tmp 8] st (pcodeS ⟨Tryz.prog, ann, pcall Tryz.prog ann noSums k, 103, 162, st.length⟩ k (Tryz.f103.body.getD .skip) ⟨params args, st⟩) = some out) : pcall Tryz.prog ann noSums (k + 1) 103 args st = some out :=
  pcall_end rfl Tryz.func103 rfl rfl rfl (fun _ _ => by kernel_rfl) hn hp
theorem go104 {k : Nat} {args : List PV} {st : Store} {out : PV × Store} (hn : decide (args.length ≤ 206) = true)
    (hp : endS false Tryz.prog [.tmp 4, .tmp 5, .tmp 6] st (pcodeS ⟨Tryz.prog, ann, pcall Tryz.prog ann noSums k, 104, 206, st.length⟩ k (Tryz.f104.body.getD .skip) ⟨params args, st⟩) = some out) : pcall Tryz.prog ann noSums (k + 1) 104 args st = some out :=
  pcall_end rfl Tryz.func104 rfl rfl rfl (fun _ _ => by kernel_rfl) hn hp
theorem go105 {k : Nat} {args : List PV} {st : Store} {out : PV × Store} (hn : decide (args.length ≤ 299) = true)
    (hp : endS false Tryz.prog [.cell 6 37, .tmp 7, .tmp 8, .tmp 9] st (pcodeS ⟨Tryz.prog, ann, pcall Tryz.prog ann noSums k, 105, 299, st.length⟩ k (Tryz.f105.body.getD .skip) ⟨params args, st⟩) = some out) : pcall Tryz.prog ann noSums (k + 1) 105 args st = some out :=
  pcall_end rfl Tryz.func105 rfl rfl rfl (fun _ _ => by kernel_rfl) hn hp
theorem go106 {k : Nat} {args : List PV} {st : Store} {out : PV × Store} (hn : decide (args.length ≤ 71) = true)
    (hp : endS false Tryz.prog [.cell 6 37, .tmp 7, .tmp 8] st (pcodeS ⟨Tryz.prog, ann, pcall Tryz.prog ann noSums k, 106, 71, st.length⟩ k (Tryz.f106.body.getD .skip) ⟨params args, st⟩) = some out) : pcall Tryz.prog ann noSums (k + 1) 106 args st = some out :=
  pcall_end rfl Tryz.func106 rfl rfl rfl (fun _ _ => by kernel_rfl) hn hp
theorem go107 {k : Nat} {args : List PV} {st : Store} {out : PV × Store} (hn : decide (args.length ≤ 95) = true)
    (hp : endS false Tryz.prog [.tmp 6, .tmp 7, .tmp 8] st (pcodeS ⟨Tryz.prog, ann, pcall Tryz.prog ann noSums k, 107, 95, st.length⟩ k (Tryz.f107.body.getD .skip) ⟨params args, st⟩) = some out) : pcall Tryz.prog ann noSums (k + 1) 107 args st = some out :=
  pcall_end rfl Tryz.func107 rfl rfl rfl (fun _ _ => by kernel_rfl) hn hp
theorem go108 {k : Nat} {args : List PV} {st : Store} {out : PV × Store} (hn : decide (args.length ≤ 26) = true)
    (hp : endS false Tryz.prog [.cell 4 37, .tmp 5] st (pcodeS ⟨Tryz.prog, ann, pcall Tryz.prog ann noSums k, 108, 26, st.length⟩ k (Tryz.f108.body.getD .skip) ⟨params args, st⟩) = some out) : pcall Tryz.prog ann noSums (k + 1) 108 args st = some out :=
  pcall_end rfl Tryz.func108 rfl rfl rfl (fun _ _ => by kernel_rfl) hn hp
theorem go109 {k : Nat} {args : List PV} {st : Store} {out : PV × Store} (hn : decide (args.length ≤ 125) = true)
    (hp : endS false Tryz.prog [.cell 6 37, .tmp 7, .tmp 8, .tmp 9] st (pcodeS ⟨Tryz.prog, ann, pcall Tryz.prog ann noSums k, 109, 125, st.length⟩ k (Tryz.f109.body.getD .skip) ⟨params args, st⟩) = some out) : pcall Tryz.prog ann noSums (k + 1) 109 args st = some out :=
  pcall_end rfl Tryz.func109 rfl rfl rfl (fun _ _ => by kernel_rfl) hn hp
theorem go110 {k : Nat} {args : List PV} {st : Store} {out : PV × Store} (hn : decide (args.length ≤ 141) = true)
    (hp : endS false Tryz.prog [.cell 6 37, .tmp 7, .tmp 8, .tmp 9] st (pcodeS ⟨Tryz.prog, ann, pcall Tryz.prog ann noSums k, 110, 141, st.length⟩ k (Tryz.f110.body.getD .skip) ⟨params args, st⟩) = some out) : pcall Tryz.prog ann noSums (k + 1) 110 args st = some out :=
  pcall_end rfl Tryz.func110 rfl rfl rfl (fun _ _ => by kernel_rfl) hn hp
theorem go111 {k : Nat} {args : List PV} {st : Store} {out : PV × Store} (hn : decide (args.length ≤ 65) = true)
    (hp : endS false Tryz.prog [.cell 6 37, .tmp 7, .tmp 8] st (pcodeS ⟨Tryz.prog, ann, pcall Tryz.prog ann noSums k, 111, 65, st.length⟩ k (Tryz.f111.body.getD .skip) ⟨params args, st⟩) = some out) : pcall Tryz.prog ann noSums (k + 1) 111 args st = some out :=
  pcall_end rfl Tryz.func111 rfl rfl rfl (fun _ _ => by kernel_rfl) hn hp
theorem go112 {k : Nat} {args : List PV} {st : Store} {out : PV × Store} (hn : decide (args.length ≤ 31) = true)
    (hp : endS false Tryz.prog [.tmp 2, .cell 3 37, .tmp 4] st (pcodeS ⟨Tryz.prog, ann, pcall Tryz.prog ann noSums k, 112, 31, st.length⟩ k (Tryz.f112.body.getD .skip) ⟨params args, st⟩) = some out) : pcall Tryz.prog ann noSums (k + 1) 112 args st = some out :=
  pcall_end rfl Tryz.func112 rfl rfl rfl (fun _ _ => by kernel_rfl) hn hp
theorem go113 {k : Nat} {args : List PV} {st : Store} {out : PV × Store} (hn : decide (args.length ≤ 20) = true)
    (hp : endS false Tryz.prog [.tmp 2, .cell 3 37, .tmp 4] st (pcodeS ⟨Tryz.prog, ann, pcall Tryz.prog ann noSums k, 113, 20, st.length⟩ k (Tryz.f113.body.getD .skip) ⟨params args, st⟩) = some out) : pcall Tryz.prog ann noSums (k + 1) 113 args st = some out :=
  pcall_end rfl Tryz.func113 rfl rfl rfl (fun _ _ => by kernel_rfl) hn hp
theorem go114 {k : Nat} {args : List PV} {st : Store} {out : PV × Store} (hn : decide (args.length ≤ 37) = true)
    (hp : endS false Tryz.prog [.tmp 6, .tmp 7] st (pcodeS ⟨Tryz.prog, ann, pcall Tryz.prog ann noSums k, 114, 37, st.length⟩ k (Tryz.f114.body.getD .skip) ⟨params args, st⟩) = some out) : pcall Tryz.prog ann noSums (k + 1) 114 args st = some out :=
  pcall_end rfl Tryz.func114 rfl rfl rfl (fun _ _ => by kernel_rfl) hn hp
theorem go115 {k : Nat} {args : List PV} {st : Store} {out : PV × Store} (hn : decide (args.length ≤ 23) = true)
    (hp : endS false Tryz.prog [.cell 6 28, .tmp 7] st (pcodeS ⟨Tryz.prog, ann, pcall Tryz.prog ann noSums k, 115, 23, st.length⟩ k (Tryz.f115.body.getD .skip) ⟨params args, st⟩) = some out) : pcall Tryz.prog ann noSums (k + 1) 115 args st = some out :=
  pcall_end rfl Tryz.func115 rfl rfl rfl (fun _ _ => by kernel_rfl) hn hp
theorem go116 {k : Nat} {args : List PV} {st : Store} {out : PV × Store} (hn : decide (args.length ≤ 40) = true)
    (hp : endS false Tryz.prog [.tmp 4, .tmp 5, .tmp 6] st (pcodeS ⟨Tryz.prog, ann, pcall Tryz.prog ann noSums k, 116, 40, st.length⟩ k (Tryz.f116.body.getD .skip) ⟨params args, st⟩) = some out) : pcall Tryz.prog ann noSums (k + 1) 116 args st = some out :=
  pcall_end rfl Tryz.func116 rfl rfl rfl (fun _ _ => by kernel_rfl) hn hp
theorem go117 {k : Nat} {args : List PV} {st : Store} {out : PV × Store} (hn : decide (args.length ≤ 5) = true)
    (hp : endS false Tryz.prog [.tmp 2, .tmp 3] st (pcodeS ⟨Tryz.prog, ann, pcall Tryz.prog ann noSums k, 117, 5, st.length⟩ k (Tryz.f117.body.getD .skip) ⟨params args, st⟩) = some out) : pcall Tryz.prog ann noSums (k + 1) 117 args st = some out :=
  pcall_end rfl Tryz.func117 rfl rfl rfl (fun _ _ => by kernel_rfl) hn hp
theorem go118 {k : Nat} {args : List PV} {st : Store} {out : PV × Store} (hn : decide (args.length ≤ 14) = true)
    (hp : endS false Tryz.prog [.tmp 4] st (pcodeS ⟨Tryz.prog, ann, pcall Tryz.prog ann noSums k, 118, 14, st.length⟩ k (Tryz.f118.body.getD .skip) ⟨params args, st⟩) = some out) : pcall Tryz.prog ann noSums (k + 1) 118 args st = some out :=
  pcall_end rfl Tryz.func118 rfl rfl rfl (fun _ _ => by kernel_rfl) hn hp
theorem go119 {k : Nat} {args : List PV} {st : Store} {out : PV × Store} (hn : decide (args.length ≤ 29) = true)
    (hp : endS false Tryz.prog [.tmp 6] st (pcodeS ⟨Tryz.prog, ann, pcall Tryz.prog ann noSums k, 119, 29, st.length⟩ k (Tryz.f119.body.getD .skip) ⟨params args, st⟩) = some out) : pcall Tryz.prog ann noSums (k + 1) 119 args st = some out :=
  pcall_end rfl Tryz.func119 rfl rfl rfl (fun _ _ => by kernel_rfl) hn hp
theorem go120 {k : Nat} {args : List PV} {st : Store} {out : PV × Store} (hn : decide (args.length ≤ 37) = true)
    (hp : endS false Tryz.prog [.tmp 4, .tmp 5] st (pcodeS ⟨Tryz.prog, ann, pcall Tryz.prog ann noSums k, 120, 37, st.length⟩ k (Tryz.f120.body.getD .skip) ⟨params args, st⟩) = some out) : pcall Tryz.prog ann noSums (k + 1) 120 args st = some out :=
  pcall_end rfl Tryz.func120 rfl rfl rfl (fun _ _ => by kernel_rfl) hn hp
theorem go121 {k : Nat} {args : List PV} {st : Store} {out : PV × Store} (hn : decide (args.length ≤ 43) = true)
    (hp : endS false Tryz.prog [.tmp 6, .tmp 7, .tmp 8] st (pcodeS ⟨Tryz.prog, ann, pcall Tryz.prog ann noSums k, 121, 43, st.length⟩ k (Tryz.f121.body.getD .skip) ⟨params args, st⟩) = some out) : pcall Tryz.prog ann noSums (k + 1) 121 args st = some out :=
  pcall_end rfl Tryz.func121 rfl rfl rfl (fun _ _ => by kernel_rfl) hn hp
theorem go122 {k : Nat} {args : List PV} {st : Store} {out : PV × Store} (hn : decide (args.length ≤ 20) = true)
    (hp : endS false Tryz.prog [.tmp 4, .tmp 5] st (pcodeS ⟨Tryz.prog, ann, pcall Tryz.prog ann noSums k, 122, 20, st.length⟩ k (Tryz.f122.body.getD .skip) ⟨params args, st⟩) = some out) : pcall Tryz.prog ann noSums (k + 1) 122 args st = some out :=
  pcall_end rfl Tryz.func122 rfl rfl rfl (fun _ _ => by kernel_rfl) hn hp
theorem go123 {k : Nat} {args : List PV} {st : Store} {out : PV × Store} (hn : decide (args.length ≤ 32) = true)
    (hp : endS false Tryz.prog [.tmp 6, .tmp 7, .tmp 8] st (pcodeS ⟨Tryz.prog, ann, pcall Tryz.prog ann noSums k, 123, 32, st.length⟩ k (Tryz.f123.body.getD .skip) ⟨params args, st⟩) = some out) : pcall Tryz.prog ann noSums (k + 1) 123 args st = some out :=
  pcall_end rfl Tryz.func123 rfl rfl rfl (fun _ _ => by kernel_rfl) hn hp
theorem go124 {k : Nat} {args : List PV} {st : Store} {out : PV × Store} (hn : decide (args.length ≤ 57) = true)
    (hp : endS false Tryz.prog [.tmp 6, .tmp 7, .tmp 8] st (pcodeS ⟨Tryz.prog, ann, pcall Tryz.prog ann noSums k, 124, 57, st.length⟩ k (Tryz.f124.body.getD .skip) ⟨params args, st⟩) = some out) : pcall Tryz.prog ann noSums (k + 1) 124 args st = some out :=
  pcall_end rfl Tryz.func124 rfl rfl rfl (fun _ _ => by kernel_rfl) hn hp
theorem go125 {k : Nat} {args : List PV} {st : Store} {out : PV × Store} (hn : decide (args.length ≤ 4) = true)
    (hp : endS false Tryz.prog [.tmp 2] st (pcodeS ⟨Tryz.prog, ann, pcall Tryz.prog ann noSums k, 125, 4, st.length⟩ k (Tryz.f125.body.getD .skip) ⟨params args, st⟩) = some out) : pcall Tryz.prog ann noSums (k + 1) 125 args st = some out :=
  pcall_end rfl Tryz.func125 rfl rfl rfl (fun _ _ => by kernel_rfl) hn hp
theorem go126 {k : Nat} {args : List PV} {st : Store} {out : PV × Store} (hn : decide (args.length ≤ 18) = true)
    (hp : endS false Tryz.prog [.tmp 6] st (pcodeS ⟨Tryz.prog, ann, pcall Tryz.prog ann noSums k, 126, 18, st.length⟩ k (Tryz.f126.body.getD .skip) ⟨params args, st⟩) = some out) : pcall Tryz.prog ann noSums (k + 1) 126 args st = some out :=
  pcall_end rfl Tryz.func126 rfl rfl rfl (fun _ _ => by kernel_rfl) hn hp
theorem go127 {k : Nat} {args : List PV} {st : Store} {out : PV × Store} (hn : decide (args.length ≤ 18) = true)
    (hp : endS false Tryz.prog [.tmp 4, .tmp 5] st (pcodeS ⟨Tryz.prog, ann, pcall Tryz.prog ann noSums k, 127, 18, st.length⟩ k (Tryz.f127.body.getD .skip) ⟨params args, st⟩) = some out) : pcall Tryz.prog ann noSums (k + 1) 127 args st = some out :=
  pcall_end rfl Tryz.func127 rfl rfl rfl (fun _ _ => by kernel_rfl) hn hp
theorem go128 {k : Nat} {args : List PV} {st : Store} {out : PV × Store} (hn : decide (args.length ≤ 16) = true)
    (hp : endS false Tryz.prog [.cell 6 28, .tmp 7] st (pcodeS ⟨Tryz.prog, ann, pcall Tryz.prog ann noSums k, 128, 16, st.length⟩ k (Tryz.f128.body.getD .skip) ⟨params args, st⟩) = some out) : pcall Tryz.prog ann noSums (k + 1) 128 args st = some out :=
  pcall_end rfl Tryz.func128 rfl rfl rfl (fun _ _ => by kernel_rfl) hn hp
theorem go129 {k : Nat} {args : List PV} {st : Store} {out : PV × Store} (hn : decide (args.length ≤ 38) = true)
    (hp : endS true Tryz.prog [.cell 8 28, .tmp 9] st (pcodeS ⟨Tryz.prog, ann, pcall Tryz.prog ann noSums k, 129, 38, st.length⟩ k (Tryz.f129.body.getD .skip) ⟨params args, st⟩) = some out) : pcall Tryz.prog ann noSums (k + 1) 129 args st = some out :=
  pcall_end rfl Tryz.func129 rfl rfl rfl (fun _ _ => by kernel_rfl) hn hp
theorem go130 {k : Nat} {args : List PV} {st : Store} {out : PV × Store} (hn : decide (args.length ≤ 29) = true)
    (hp : endS false Tryz.prog [.cell 8 28, .tmp 9] st (pcodeS ⟨Tryz.prog, ann, pcall Tryz.prog ann noSums k, 130, 29, st.length⟩ k (Tryz.f130.body.getD .skip) ⟨params args, st⟩) = some out) : pcall Tryz.prog ann noSums (k + 1) 130 args st = some out :=
  pcall_end rfl Tryz.func130 rfl rfl rfl (fun _ _ => by kernel_rfl) hn hp
theorem go131 {k : Nat} {args : List PV} {st : Store} {out : PV × Store} (hn : decide (args.length ≤ 46) = true)
    (hp : endS false Tryz.prog [.tmp 8, .tmp 9] st (pcodeS ⟨Tryz.prog, ann, pcall Tryz.prog ann noSums k, 131, 46, st.length⟩ k (Tryz.f131.body.getD .skip) ⟨params args, st⟩) = some out) : pcall Tryz.prog ann noSums (k + 1) 131 args st = some out :=
  pcall_end rfl Tryz.func131 rfl rfl rfl (fun _ _ => by kernel_rfl) hn hp
theorem go132 {k : Nat} {args : List PV} {st : Store} {out : PV × Store} (hn : decide (args.length ≤ 1) = true)
    (hp : endS false Tryz.prog [.tmp 0] st (pcodeS ⟨Tryz.prog, ann, pcall Tryz.prog ann noSums k, 132, 1, st.length⟩ k (Tryz.f132.body.getD .skip) ⟨params args, st⟩) = some out) : pcall Tryz.prog ann noSums (k + 1) 132 args st = some out :=
  pcall_end rfl Tryz.func132 rfl rfl rfl (fun _ _ => by kernel_rfl) hn hp
theorem go133 {k : Nat} {args : List PV} {st : Store} {out : PV × Store} (hn : decide (args.length ≤ 22) = true)
    (hp : endS false Tryz.prog [.cell 6 28, .tmp 7, .tmp 8] st (pcodeS ⟨Tryz.prog, ann, pcall Tryz.prog ann noSums k, 133, 22, st.length⟩ k (Tryz.f133.body.getD .skip) ⟨params args, st⟩) = some out) : pcall Tryz.prog ann noSums (k + 1) 133 args st = some out :=
  pcall_end rfl Tryz.func133 rfl rfl rfl (fun _ _ => by kernel_rfl) hn hp
theorem go134 {k : Nat} {args : List PV} {st : Store} {out : PV × Store} (hn : decide (args.length ≤ 33) = true)
    (hp : endS false Tryz.prog [.cell 6 28, .tmp 7, .tmp 8] st (pcodeS ⟨Tryz.prog, ann, pcall Tryz.prog ann noSums k, 134, 33, st.length⟩ k (Tryz.f134.body.getD .skip) ⟨params args, st⟩) = some out) : pcall Tryz.prog ann noSums (k + 1) 134 args st = some out :=
  pcall_end rfl Tryz.func134 rfl rfl rfl (fun _ _ => by kernel_rfl) hn hp
theorem go135 {k : Nat} {args : List PV} {st : Store} {out : PV × Store} (hn : decide (args.length ≤ 24) = true)
    (hp : endS false Tryz.prog [.cell 4 28, .tmp 5, .tmp 6] st (pcodeS ⟨Tryz.prog, ann, pcall Tryz.prog ann noSums k, 135, 24, st.length⟩ k (Tryz.f135.body.getD .skip) ⟨params args, st⟩) = some out) : pcall Tryz.prog ann noSums (k + 1) 135 args st = some out :=
  pcall_end rfl Tryz.func135 rfl rfl rfl (fun _ _ => by kernel_rfl) hn hp
theorem go136 {k : Nat} {args : List PV} {st : Store} {out : PV × Store} (hn : decide (args.length ≤ 12) = true)
    (hp : endS false Tryz.prog [.tmp 2] st (pcodeS ⟨Tryz.prog, ann, pcall Tryz.prog ann noSums k, 136, 12, st.length⟩ k (Tryz.f136.body.getD .skip) ⟨params args, st⟩) = some out) : pcall Tryz.prog ann noSums (k + 1) 136 args st = some out :=
  pcall_end rfl Tryz.func136 rfl rfl rfl (fun _ _ => by kernel_rfl) hn hp
theorem go137 {k : Nat} {args : List PV} {st : Store} {out : PV × Store} (hn : decide (args.length ≤ 33) = true)
    (hp : endS false Tryz.prog [.tmp 6, .tmp 7] st (pcodeS ⟨Tryz.prog, ann, pcall Tryz.prog ann noSums k, 137, 33, st.length⟩ k (Tryz.f137.body.getD .skip) ⟨params args, st⟩) = some out) : pcall Tryz.prog ann noSums (k + 1) 137 args st = some out :=
  pcall_end rfl Tryz.func137 rfl rfl rfl (fun _ _ => by kernel_rfl) hn hp
theorem go138 {k : Nat} {args : List PV} {st : Store} {out : PV × Store} (hn : decide (args.length ≤ 27) = true)
    (hp : endS false Tryz.prog [.tmp 4, .tmp 5] st (pcodeS ⟨Tryz.prog, ann, pcall Tryz.prog ann noSums k, 138, 27, st.length⟩ k (Tryz.f138.body.getD .skip) ⟨params args, st⟩) = some out) : pcall Tryz.prog ann noSums (k + 1) 138 args st = some out :=
  pcall_end rfl Tryz.func138 rfl rfl rfl (fun _ _ => by kernel_rfl) hn hp
theorem go139 {k : Nat} {args : List PV} {st : Store} {out : PV × Store} (hn : decide (args.length ≤ 42) = true)
    (hp : endS false Tryz.prog [.tmp 4, .tmp 5] st (pcodeS ⟨Tryz.prog, ann, pcall Tryz.prog ann noSums k, 139, 42, st.length⟩ k (Tryz.f139.body.getD .skip) ⟨params args, st⟩) = some out) : pcall Tryz.prog ann noSums (k + 1) 139 args st = some out :=
  pcall_end rfl Tryz.func139 rfl rfl rfl (fun _ _ => by kernel_rfl) hn hp
theorem go140 {k : Nat} {args : List PV} {st : Store} {out : PV × Store} (hn : decide (args.length ≤ 2) = true)
    (hp : endS false Tryz.prog [.cell 0 33] st (pcodeS ⟨Tryz.prog, ann, pcall Tryz.prog ann noSums k, 140, 2, st.length⟩ k (Tryz.f140.body.getD .skip) ⟨params args, st⟩) = some out) : pcall Tryz.prog ann noSums (k + 1) 140 args st = some out :=
  pcall_end rfl Tryz.func140 rfl rfl rfl (fun _ _ => by kernel_rfl) hn hp
theorem go141 {k : Nat} {args : List PV} {st : Store} {out : PV × Store} (hn : decide (args.length ≤ 64) = true)
    (hp : endS false Tryz.prog [.cell 8 33, .tmp 9, .tmp 10, .tmp 11] st (pcodeS ⟨Tryz.prog, ann, pcall Tryz.prog ann noSums k, 141, 64, st.length⟩ k (Tryz.f141.body.getD .skip) ⟨params args, st⟩) = some out) : pcall Tryz.prog ann noSums (k + 1) 141 args st = some out :=
  pcall_end rfl Tryz.func141 rfl rfl rfl (fun _ _ => by kernel_rfl) hn hp
theorem go142 {k : Nat} {args : List PV} {st : Store} {out : PV × Store} (hn : decide (args.length ≤ 57) = true)
    (hp : endS false Tryz.prog [.cell 8 33, .tmp 9] st (pcodeS ⟨Tryz.prog, ann, pcall Tryz.prog ann noSums k, 142, 57, st.length⟩ k (Tryz.f142.body.getD .skip) ⟨params args, st⟩) = some out) : pcall Tryz.prog ann noSums (k + 1) 142 args st = some out :=
  pcall_end rfl Tryz.func142 rfl rfl rfl (fun _ _ => by kernel_rfl) hn hp
theorem go143 {k : Nat} {args : List PV} {st : Store} {out : PV × Store} (hn : decide (args.length ≤ 25) = true)
    (hp : endS false Tryz.prog [.cell 4 33, .tmp 5] st (pcodeS ⟨Tryz.prog, ann, pcall Tryz.prog ann noSums k, 143, 25, st.length⟩ k (Tryz.f143.body.getD .skip) ⟨params args, st⟩) = some out) : pcall Tryz.prog ann noSums (k + 1) 143 args st = some out :=
  pcall_end rfl Tryz.func143 rfl rfl rfl (fun _ _ => by kernel_rfl) hn hp
theorem go144 {k : Nat} {args : List PV} {st : Store} {out : PV × Store} (hn : decide (args.length ≤ 13) = true)
    (hp : endS false Tryz.prog [.cell 4 33, .tmp 5] st (pcodeS ⟨Tryz.prog, ann, pcall Tryz.prog ann noSums k, 144, 13, st.length⟩ k (Tryz.f144.body.getD .skip) ⟨params args, st⟩) = some out) : pcall Tryz.prog ann noSums (k + 1) 144 args st = some out :=
  pcall_end rfl Tryz.func144 rfl rfl rfl (fun _ _ => by kernel_rfl) hn hp
theorem go145 {k : Nat} {args : List PV} {st : Store} {out : PV × Store} (hn : decide (args.length ≤ 27) = true)
    (hp : endS false Tryz.prog [.tmp 2, .tmp 3] st (pcodeS ⟨Tryz.prog, ann, pcall Tryz.prog ann noSums k, 145, 27, st.length⟩ k (Tryz.f145.body.getD .skip) ⟨params args, st⟩) = some out) : pcall Tryz.prog ann noSums (k + 1) 145 args st = some out :=
  pcall_end rfl Tryz.func145 rfl rfl rfl (fun _ _ => by kernel_rfl) hn hp
theorem go146 {k : Nat} {args : List PV} {st : Store} {out : PV × Store} (hn : decide (args.length ≤ 63) = true)
    (hp : endS true Tryz.prog [.cell 6 28, .tmp 7] st (pcodeS ⟨Tryz.prog, ann, pcall Tryz.prog ann noSums k, 146, 63, st.length⟩ k (Tryz.f146.body.getD .skip) ⟨params args, st⟩) = some out) : pcall Tryz.prog ann noSums (k + 1) 146 args st = some out :=
  pcall_end rfl Tryz.func146 rfl rfl rfl (fun _ _ => by kernel_rfl) hn hp
theorem go147 {k : Nat} {args : List PV} {st : Store} {out : PV × Store} (hn : decide (args.length ≤ 22) = true)
    (hp : endS false Tryz.prog [.tmp 2, .tmp 3, .tmp 4] st (pcodeS ⟨Tryz.prog, ann, pcall Tryz.prog ann noSums k, 147, 22, st.length⟩ k (Tryz.f147.body.getD .skip) ⟨params args, st⟩) = some out) : pcall Tryz.prog ann noSums (k + 1) 147 args st = some out :=
  pcall_end rfl Tryz.func147 rfl rfl rfl (fun _ _ => by kernel_rfl) hn hp
theorem go148 {k : Nat} {args : List PV} {st : Store} {out : PV × Store} (hn : decide (args.length ≤ 21) = true)
    (hp : endS false Tryz.prog [.tmp 2] st (pcodeS ⟨Tryz.prog, ann, pcall Tryz.prog ann noSums k, 148, 21, st.length⟩ k (Tryz.f148.body.getD .skip) ⟨params args, st⟩) = some out) : pcall Tryz.prog ann noSums (k + 1) 148 args st = some out :=
  pcall_end rfl Tryz.func148 rfl rfl rfl (fun _ _ => by kernel_rfl) hn hp
theorem go149 {k : Nat} {args : List PV} {st : Store} {out : PV × Store} (hn : decide (args.length ≤ 63) = true)
    (hp : endS false Tryz.prog [.tmp 4, .tmp 5] st (pcodeS ⟨Tryz.prog, ann, pcall Tryz.prog ann noSums k, 149, 63, st.length⟩ k (Tryz.f149.body.getD .skip) ⟨params args, st⟩) = some out) : pcall Tryz.prog ann noSums (k + 1) 149 args st = some out :=
  pcall_end rfl Tryz.func149 rfl rfl rfl (fun _ _ => by kernel_rfl) hn hp
theorem go150 {k : Nat} {args : List PV} {st : Store} {out : PV × Store} (hn : decide (args.length ≤ 10) = true)
    (hp : endS false Tryz.prog [.tmp 2] st (pcodeS ⟨Tryz.prog, ann, pcall Tryz.prog ann noSums k, 150, 10, st.length⟩ k (Tryz.f150.body.getD .skip) ⟨params args, st⟩) = some out) : pcall Tryz.prog ann noSums (k + 1) 150 args st = some out :=
  pcall_end rfl Tryz.func150 rfl rfl rfl (fun _ _ => by kernel_rfl) hn hp
theorem go151 {k : Nat} {args : List PV} {st : Store} {out : PV × Store} (hn : decide (args.length ≤ 15) = true)
    (hp : endS false Tryz.prog [.tmp 4, .tmp 5] st (pcodeS ⟨Tryz.prog, ann, pcall Tryz.prog ann noSums k, 151, 15, st.length⟩ k (Tryz.f151.body.getD .skip) ⟨params args, st⟩) = some out) : pcall Tryz.prog ann noSums (k + 1) 151 args st = some out :=
  pcall_end rfl Tryz.func151 rfl rfl rfl (fun _ _ => by kernel_rfl) hn hp
theorem go152 {k : Nat} {args : List PV} {st : Store} {out : PV × Store} (hn : decide (args.length ≤ 42) = true)
    (hp : endS false Tryz.prog [.tmp 6, .tmp 7] st (pcodeS ⟨Tryz.prog, ann, pcall Tryz.prog ann noSums k, 152, 42, st.length⟩ k (Tryz.f152.body.getD .skip) ⟨params args, st⟩) = some out) : pcall Tryz.prog ann noSums (k + 1) 152 args st = some out :=
  pcall_end rfl Tryz.func152 rfl rfl rfl (fun _ _ => by kernel_rfl) hn hp
theorem go153 {k : Nat} {args : List PV} {st : Store} {out : PV × Store} (hn : decide (args.length ≤ 43) = true)
    (hp : endS false Tryz.prog [.tmp 6, .tmp 7, .tmp 8] st (pcodeS ⟨Tryz.prog, ann, pcall Tryz.prog ann noSums k, 153, 43, st.length⟩ k (Tryz.f153.body.getD .skip) ⟨params args, st⟩) = some out) : pcall Tryz.prog ann noSums (k + 1) 153 args st = some out :=
  pcall_end rfl Tryz.func153 rfl rfl rfl (fun _ _ => by kernel_rfl) hn hp
theorem go154 {k : Nat} {args : List PV} {st : Store} {out : PV × Store} (hn : decide (args.length ≤ 21) = true)
    (hp : endS false Tryz.prog [.tmp 2] st (pcodeS ⟨Tryz.prog, ann, pcall Tryz.prog ann noSums k, 154, 21, st.length⟩ k (Tryz.f154.body.getD .skip) ⟨params args, st⟩) = some out) : pcall Tryz.prog ann noSums (k + 1) 154 args st = some out :=
  pcall_end rfl Tryz.func154 rfl rfl rfl (fun _ _ => by kernel_rfl) hn hp
end Go.Proofs.YtnjlkgmcoengnaaGreat.PE
