/-
  CflowTexts, part 23: plain laws on a new machine's memory. No condition.
-/
import Derived.Test.YtnjlkgmcoengnaaGreatCf11
set_option linter.unusedSimpArgs false
set_option linter.unusedVariables false
set_option maxRecDepth 20000
set_option maxHeartbeats 8000000
namespace Go.Proofs.YtnjlkgmcoengnaaGreat.PE
open Go

theorem over1_get (B : List Nat) (o x j : Nat) (h : o < B.length) : (over B o [x])[j]? = if j = o then some x else B[j]? := by
  simp only [over, List.length_cons, List.length_nil, Nat.zero_add]
  rw [List.append_assoc]
  by_cases h1 : j < o
  · rw [List.getElem?_append_left (by simp; omega), List.getElem?_take_of_lt h1, if_neg (by omega)]
  · have hl : (B.take o).length = o := by simp; omega
    rw [List.getElem?_append_right (by omega), hl]
    by_cases h2 : j = o
    · subst h2
      simp
    · rw [if_neg h2, show j - o = (j - o - 1) + 1 by omega, List.singleton_append, List.getElem?_cons_succ, List.getElem?_drop]
      congr 1
      omega

/-- A code field's number, by its place in the row of names. -/
def numOf (i : Nat) : Nat := if i < 130 then i else 170 + i
/-- A byte of a new machine's memory, behind so many rounds. -/
def spec (i j : Nat) : Nat :=
  if j = 0 then 10
  else if 32 ≤ j ∧ j < 32 + 8 * i then (if (j - 32) % 8 = 0 then numOf ((j - 32) / 8) % 256 else if (j - 32) % 8 = 1 then numOf ((j - 32) / 8) / 256 else 0)
  else if j = 16 ∧ 8 < i then 96
  else if j = 24 ∧ 9 < i then 104
  else 0
def specIs (B : List Nat) (i : Nat) : Prop := B.length = 2048 ∧ ∀ j, j < 2048 → B[j]? = some (spec i j)

theorem spec_0 : specIs (over (List.replicate 2048 0) 0 [10]) 0 := by
  refine ⟨by rw [over_len _ _ _ (by simp)]; simp, fun j hj => ?_⟩
  rw [over1_get _ _ _ _ (by simp)]
  by_cases h : j = 0
  · subst h; rfl
  · rw [if_neg h, List.getElem?_replicate, if_pos hj]
    simp only [spec, h, if_false]
    rw [if_neg (by omega), if_neg (by omega), if_neg (by omega)]

/-- A round on the memory, but for the two names. -/
def two (B : List Nat) (i : Nat) : List Nat := over (over B (32 + 8 * i) [numOf i % 256]) (32 + 8 * i + 1) [numOf i / 256]
theorem two_len (B : List Nat) (i : Nat) (hB : B.length = 2048) (hi : i < 167) : (two B i).length = 2048 := by
  have h1 : (over B (32 + 8 * i) [numOf i % 256]).length = 2048 := by rw [over_len _ _ _ (by simp; omega)]; exact hB
  rw [two, over_len _ _ _ (by simp; omega)]
  exact h1
theorem two_get (B : List Nat) (i j : Nat) (hB : B.length = 2048) (hi : i < 167) : (two B i)[j]? = if j = 32 + 8 * i + 1 then some (numOf i / 256) else if j = 32 + 8 * i then some (numOf i % 256) else B[j]? := by
  have h1 : (over B (32 + 8 * i) [numOf i % 256]).length = 2048 := by rw [over_len _ _ _ (by simp; omega)]; exact hB
  rw [two, over1_get _ _ _ _ (by omega), over1_get _ _ _ _ (by omega)]

theorem spec_two (B : List Nat) (i : Nat) (hi : i < 167) (h : specIs B i) (h8 : i ≠ 8) (h9 : i ≠ 9) : specIs (two B i) (i + 1) := by
  obtain ⟨hB, hs⟩ := h
  refine ⟨two_len B i hB hi, fun j hj => ?_⟩
  rw [two_get B i j hB hi, hs j hj]
  unfold spec
  by_cases c1 : j = 32 + 8 * i + 1
  · rw [if_pos c1, if_neg (by omega), if_pos (by omega), if_neg (by omega), if_pos (by omega), show (j - 32) / 8 = i by omega]
  · rw [if_neg c1]
    by_cases c2 : j = 32 + 8 * i
    · rw [if_pos c2, if_neg (by omega), if_pos (by omega), if_pos (by omega), show (j - 32) / 8 = i by omega]
    · rw [if_neg c2]
      by_cases c3 : j = 0
      · rw [if_pos c3, if_pos c3]
      · rw [if_neg c3, if_neg c3]
        by_cases c4 : 32 ≤ j ∧ j < 32 + 8 * i
        · rw [if_pos c4, if_pos (show 32 ≤ j ∧ j < 32 + 8 * (i + 1) by omega)]
        · rw [if_neg c4]
          by_cases c5 : 32 ≤ j ∧ j < 32 + 8 * (i + 1)
          · rw [if_pos c5, if_neg (by omega), if_neg (by omega), if_neg (by omega), if_neg (by omega)]
          · rw [if_neg c5]
            by_cases c6 : j = 16 ∧ 8 < i
            · rw [if_pos c6, if_pos (by omega)]
            · rw [if_neg c6]
              by_cases c7 : j = 16 ∧ 8 < i + 1
              · omega
              · rw [if_neg c7]
                by_cases c8 : j = 24 ∧ 9 < i
                · rw [if_pos c8, if_pos (by omega)]
                · rw [if_neg c8, if_neg (by omega)]

theorem spec_8 (B : List Nat) (h : specIs B 8) : specIs (over (over (two B 8) 16 [96]) 17 [0]) 9 := by
  obtain ⟨hB, hs⟩ := h
  have h1 := two_len B 8 hB (by omega)
  have h2 : (over (two B 8) 16 [96]).length = 2048 := by rw [over_len _ _ _ (by simp; omega)]; exact h1
  refine ⟨by rw [over_len _ _ _ (by simp; omega)]; exact h2, fun j hj => ?_⟩
  rw [over1_get _ _ _ _ (by omega), over1_get _ _ _ _ (by omega), two_get B 8 j hB (by omega), hs j hj]
  by_cases c1 : j = 17
  · subst c1; rfl
  · by_cases c2 : j = 16
    · subst c2; rfl
    · by_cases c3 : j = 32 + 8 * 8 + 1
      · subst c3; rfl
      · by_cases c4 : j = 32 + 8 * 8
        · subst c4; rfl
        · rw [if_neg c1, if_neg c2, if_neg c3, if_neg c4]
          unfold spec
          by_cases c5 : j = 0
          · rw [if_pos c5, if_pos c5]
          · rw [if_neg c5, if_neg c5]
            by_cases c6 : 32 ≤ j ∧ j < 32 + 8 * 8
            · rw [if_pos c6, if_pos (show 32 ≤ j ∧ j < 32 + 8 * 9 by omega)]
            · rw [if_neg c6]
              by_cases c7 : 32 ≤ j ∧ j < 32 + 8 * 9
              · rw [if_pos c7, if_neg (by omega), if_neg (by omega), if_neg (by omega), if_neg (by omega)]
              · rw [if_neg c7, if_neg (by omega), if_neg (by omega), if_neg (by omega), if_neg (by omega)]
theorem spec_9 (B : List Nat) (h : specIs B 9) : specIs (over (over (two B 9) 24 [104]) 25 [0]) 10 := by
  obtain ⟨hB, hs⟩ := h
  have h1 := two_len B 9 hB (by omega)
  have h2 : (over (two B 9) 24 [104]).length = 2048 := by rw [over_len _ _ _ (by simp; omega)]; exact h1
  refine ⟨by rw [over_len _ _ _ (by simp; omega)]; exact h2, fun j hj => ?_⟩
  rw [over1_get _ _ _ _ (by omega), over1_get _ _ _ _ (by omega), two_get B 9 j hB (by omega), hs j hj]
  by_cases c1 : j = 25
  · subst c1; rfl
  · by_cases c2 : j = 24
    · subst c2; rfl
    · by_cases c3 : j = 32 + 8 * 9 + 1
      · subst c3; rfl
      · by_cases c4 : j = 32 + 8 * 9
        · subst c4; rfl
        · rw [if_neg c1, if_neg c2, if_neg c3, if_neg c4]
          unfold spec
          by_cases c5 : j = 0
          · rw [if_pos c5, if_pos c5]
          · rw [if_neg c5, if_neg c5]
            by_cases c6 : 32 ≤ j ∧ j < 32 + 8 * 9
            · rw [if_pos c6, if_pos (show 32 ≤ j ∧ j < 32 + 8 * 10 by omega)]
            · rw [if_neg c6]
              by_cases c7 : 32 ≤ j ∧ j < 32 + 8 * 10
              · rw [if_pos c7, if_neg (by omega), if_neg (by omega), if_neg (by omega), if_neg (by omega)]
              · rw [if_neg c7]
                by_cases c8 : j = 16
                · rw [if_pos (by omega), if_pos (by omega)]
                · rw [if_neg (by omega), if_neg (by omega), if_neg (by omega), if_neg (by omega)]

theorem spec_cell (B : List Nat) (i a : Nat) (h : specIs B i) (ha : a + 8 ≤ 2048) : (B.drop a).take 8 = [spec i a, spec i (a + 1), spec i (a + 2), spec i (a + 3), spec i (a + 4), spec i (a + 5), spec i (a + 6), spec i (a + 7)] := by
  obtain ⟨hB, hs⟩ := h
  apply List.ext_getElem?
  intro j
  by_cases hj : j < 8
  · rw [List.getElem?_take_of_lt hj, List.getElem?_drop, hs _ (by omega)]
    have : j = 0 ∨ j = 1 ∨ j = 2 ∨ j = 3 ∨ j = 4 ∨ j = 5 ∨ j = 6 ∨ j = 7 := by omega
    rcases this with rfl | rfl | rfl | rfl | rfl | rfl | rfl | rfl <;> rfl
  · rw [List.getElem?_take, if_neg hj]
    simp
    omega
theorem spec_cb (B : List Nat) (a : Nat) (n : Int) (h : specIs B 167) (h8 : a % 8 = 0) (ha : a + 8 ≤ 2048) (hn : inI64 n)
    (hc : [spec 167 a, spec 167 (a + 1), spec 167 (a + 2), spec 167 (a + 3), spec 167 (a + 4), spec 167 (a + 5), spec 167 (a + 6), spec 167 (a + 7)] = cb n) : cellIs B a n :=
  ⟨h8, ha, by rw [spec_cell B 167 a h ha, hc], hn⟩

theorem new_0 (B : List Nat) (h : specIs B 167) : cellIs B 0 10 := spec_cb B _ _ h (by omega) (by omega) (by unfold inI64; omega) (by decide)
theorem new_16 (B : List Nat) (h : specIs B 167) : cellIs B 16 96 := spec_cb B _ _ h (by omega) (by omega) (by unfold inI64; omega) (by decide)
theorem new_32 (B : List Nat) (h : specIs B 167) : cellIs B 32 0 := spec_cb B _ _ h (by omega) (by omega) (by unfold inI64; omega) (by decide)
theorem new_40 (B : List Nat) (h : specIs B 167) : cellIs B 40 1 := spec_cb B _ _ h (by omega) (by omega) (by unfold inI64; omega) (by decide)
theorem new_96 (B : List Nat) (h : specIs B 167) : cellIs B 96 8 := spec_cb B _ _ h (by omega) (by omega) (by unfold inI64; omega) (by decide)
theorem new_120 (B : List Nat) (h : specIs B 167) : cellIs B 120 11 := spec_cb B _ _ h (by omega) (by omega) (by unfold inI64; omega) (by decide)
theorem new_904 (B : List Nat) (h : specIs B 167) : cellIs B 904 109 := spec_cb B _ _ h (by omega) (by omega) (by unfold inI64; omega) (by decide)

end Go.Proofs.YtnjlkgmcoengnaaGreat.PE
