/-
  Plain laws: the code of a tree that may be, cell by cell, with places as places; what gen.Code lays and what the document's Code answers are both this code.
-/
import Derived.Test.YtfmelnhlljgooaaGen15
set_option linter.unusedSimpArgs false
set_option linter.unusedVariables false
namespace Go.Proofs.Ytfmelnhlljgooaa.PE
open Go

/-! Integers that come round. -/
theorem W_eq (x : Int) : W x = if (9223372036854775808 : Int) ≤ x % 18446744073709551616 then x % 18446744073709551616 - 18446744073709551616 else x % 18446744073709551616 := by
  have hb : IntKind.bits .i64 = 64 := rfl
  have hs : IntKind.signed .i64 = true := rfl
  simp only [W, IntKind.wrap, hb, hs]
  simp

theorem W_add (a b : Int) : W (W a + b) = W (a + b) := by
  simp only [W_eq]; repeat' split
  all_goals omega
theorem W_add' (a b : Int) : W (a + W b) = W (a + b) := by
  rw [Int.add_comm, W_add, Int.add_comm]
theorem W_W (a : Int) : W (W a) = W a := by
  have := W_add a 0
  rwa [Int.add_zero, Int.add_zero] at this
theorem W_mul8 (a : Int) : W (8 * W a) = W (8 * a) := by
  simp only [W_eq]; repeat' split
  all_goals omega
theorem W_mul2 (a : Int) : W (2 * W a) = W (2 * a) := by
  simp only [W_eq]; repeat' split
  all_goals omega
theorem W_small {a : Int} (h : -4611686018427387904 ≤ a) (h' : a ≤ 4611686018427387904) : W a = a := by
  rw [W_eq]; split <;> omega
theorem W_congr {a b : Int} (h : a = b) : W a = W b := by rw [h]

/-! A cell: a number, a place, the code's own word. -/
inductive C where
  | k (v : Int)
  | p (j : Nat)
  | self

def C.ev (at0 self : Int) : C → Int
  | .k v => v
  | .p j => W (at0 + 8 * (j : Int))
  | .self => self

mutual
def T.sz : T → Nat
  | .mk k n _ A _ B =>
    if k = 1 then 2
    else if k = 2 ∨ k = 10 ∨ k = 11 then 1
    else if k = 9 then 3
    else if k = 3 then (if n = 1 then 4 + szn A + szn B else 2 + szn A)
    else if k = 6 then szn A + 2 + szn B + 2
    else if k = 7 ∨ k = 8 then (if n = 1 then 4 + szn A else 3 + szn A)
    else szn A + 2
def szn : List T → Nat
  | [] => 0
  | t :: r => t.sz + szn r
end

mutual
/-- A part that may be, in a loop or not. -/
def T.good : T → Bool → Prop
  | .mk k n _ A _ B, lp =>
    ((k = 1 ∨ k = 2) ∧ A = [] ∧ B = []) ∨ (k = 9 ∧ A = [] ∧ B = [] ∧ n = 0 ∧ lp = true) ∨ ((k = 10 ∨ k = 11) ∧ A = [] ∧ B = [] ∧ n = 0) ∨
    (k = 3 ∧ n = 1 ∧ goods A lp ∧ goods B lp) ∨ (k = 3 ∧ n = 0 ∧ B = [] ∧ goods A lp) ∨
    ((k = 4 ∨ k = 5) ∧ n = 0 ∧ B = [] ∧ goods A lp) ∨ (k = 6 ∧ n = 0 ∧ goods A lp ∧ goods B lp) ∨
    ((k = 7 ∨ k = 8) ∧ (n = 0 ∨ n = 1) ∧ B = [] ∧ goods A true)
def goods : List T → Bool → Prop
  | [], _ => True
  | t :: r, lp => t.good lp ∧ goods r lp
end

theorem len0 {A : List T} (h : (A.length : Int) = 0) : A = [] := List.eq_nil_of_length_eq_zero (by omega)
theorem bareB_nil {A B : List T} (h : bareB A B = true) : A = [] ∧ B = [] := by
  simp only [bareB, Bool.and_eq_true, decide_eq_true_eq] at h
  exact ⟨len0 h.1, len0 h.2⟩

theorem mays_goods (l : List T) (h : ∀ t, t ∈ l → ∀ o lp, t.may o lp = true → t.good (decide (0 < lp))) : ∀ o lp, mays l o lp = true → goods l (decide (0 < lp)) := by
  induction l with
  | nil => intro o lp _; simp [goods]
  | cons t r ih =>
    intro o lp hm
    simp only [mays, Bool.and_eq_true] at hm
    simp only [goods]
    exact ⟨h t (by simp) o lp hm.1, ih (fun x hx => h x (by simp [hx])) o lp hm.2⟩

theorem may_good : ∀ t : T, ∀ o lp, t.may o lp = true → t.good (decide (0 < lp)) := by
  refine T.ind ?_
  intro k n fa A fb B hA hB o lp hm
  have gA := mays_goods A hA
  have gB := mays_goods B hB
  have look : ∀ lp', (if (16 : Int) ≤ o then false else mays A (o + 1) lp' && mays B (o + 1) lp') = true → goods A (decide (0 < lp')) ∧ goods B (decide (0 < lp')) := by
    intro lp' h
    split at h
    · cases h
    · simp only [Bool.and_eq_true] at h
      exact ⟨gA _ _ h.1, gB _ _ h.2⟩
  have hB0 : ¬ (0 : Int) < B.length → B = [] := fun h => len0 (by omega)
  simp only [T.may, sayOf] at hm
  simp only [T.good]
  by_cases h1 : k = 1
  · rw [if_pos h1] at hm
    exact .inl ⟨.inl h1, bareB_nil hm⟩
  rw [if_neg h1] at hm
  by_cases h2 : k = 2
  · rw [if_pos h2] at hm
    exact .inl ⟨.inr h2, bareB_nil hm⟩
  rw [if_neg h2] at hm
  by_cases h9 : k = 9
  · rw [if_pos h9] at hm
    simp only [Bool.and_eq_true, decide_eq_true_eq] at hm
    exact .inr (.inl ⟨h9, (bareB_nil hm.1.1).1, (bareB_nil hm.1.1).2, hm.1.2, by simp; omega⟩)
  rw [if_neg h9] at hm
  by_cases h10 : k = 10
  · rw [if_pos h10] at hm
    simp only [Bool.and_eq_true, decide_eq_true_eq] at hm
    exact .inr (.inr (.inl ⟨.inl h10, (bareB_nil hm.1.1).1, (bareB_nil hm.1.1).2, hm.1.2⟩))
  rw [if_neg h10] at hm
  by_cases h11 : k = 11
  · rw [if_pos h11] at hm
    simp only [Bool.and_eq_true, decide_eq_true_eq] at hm
    exact .inr (.inr (.inl ⟨.inr h11, (bareB_nil hm.1).1, (bareB_nil hm.1).2, hm.2⟩))
  rw [if_neg h11] at hm
  by_cases h3 : k = 3
  · rw [if_pos h3] at hm
    by_cases hn1 : n = 1
    · rw [if_pos hn1] at hm
      exact .inr (.inr (.inr (.inl ⟨h3, hn1, look _ hm⟩)))
    rw [if_neg hn1] at hm
    by_cases hn0 : n = 0
    · rw [if_pos hn0] at hm
      by_cases hb : (0 : Int) < B.length
      · rw [if_pos hb] at hm; cases hm
      · rw [if_neg hb] at hm
        exact .inr (.inr (.inr (.inr (.inl ⟨h3, hn0, hB0 hb, (look _ hm).1⟩))))
    · rw [if_neg hn0] at hm; cases hm
  rw [if_neg h3] at hm
  by_cases h4 : k = 4
  · rw [if_pos h4] at hm
    by_cases hn0 : n = 0
    · rw [if_pos hn0] at hm
      by_cases hb : (0 : Int) < B.length
      · rw [if_pos hb] at hm; cases hm
      · rw [if_neg hb] at hm
        exact .inr (.inr (.inr (.inr (.inr (.inl ⟨.inl h4, hn0, hB0 hb, (look _ hm).1⟩)))))
    · rw [if_neg hn0] at hm; cases hm
  rw [if_neg h4] at hm
  by_cases h5 : k = 5
  · rw [if_pos h5] at hm
    by_cases hn0 : n = 0
    · rw [if_pos hn0] at hm
      by_cases hb : (0 : Int) < B.length
      · rw [if_pos hb] at hm; cases hm
      · rw [if_neg hb] at hm
        exact .inr (.inr (.inr (.inr (.inr (.inl ⟨.inr h5, hn0, hB0 hb, (look _ hm).1⟩)))))
    · rw [if_neg hn0] at hm; cases hm
  rw [if_neg h5] at hm
  by_cases h6 : k = 6
  · rw [if_pos h6] at hm
    by_cases hn0 : n = 0
    · rw [if_pos hn0] at hm
      exact .inr (.inr (.inr (.inr (.inr (.inr (.inl ⟨h6, hn0, look _ hm⟩))))))
    · rw [if_neg hn0] at hm; cases hm
  rw [if_neg h6] at hm
  have h78 : ∀ m, (k = 7 ∨ k = 8) → (match (if n = 0 ∨ n = 1 then (if (0 : Int) < B.length then Say.yes false else Say.look (lp + 1)) else .yes false) with
      | .yes b => b
      | .look lp => if (16 : Int) ≤ o then false else mays A (o + 1) lp && mays B (o + 1) lp) = m → m = true →
      ((k = 7 ∨ k = 8) ∧ (n = 0 ∨ n = 1) ∧ B = [] ∧ goods A true) := by
    intro m hk h he
    subst h
    by_cases hn : n = 0 ∨ n = 1
    · rw [if_pos hn] at he
      by_cases hb : (0 : Int) < B.length
      · rw [if_pos hb] at he; cases he
      · rw [if_neg hb] at he
        have := (look _ he).1
        have ht : decide (0 < lp + 1) = true := by simp
        rw [ht] at this
        exact ⟨hk, hn, hB0 hb, this⟩
    · rw [if_neg hn] at he; cases he
  by_cases h7 : k = 7
  · rw [if_pos h7] at hm
    exact .inr (.inr (.inr (.inr (.inr (.inr (.inr (h78 _ (.inl h7) rfl hm)))))))
  rw [if_neg h7] at hm
  by_cases h8 : k = 8
  · rw [if_pos h8] at hm
    exact .inr (.inr (.inr (.inr (.inr (.inr (.inr (h78 _ (.inr h8) rfl hm)))))))
  rw [if_neg h8] at hm
  cases hm

theorem mays_good {l : List T} {o lp : Nat} (h : mays l o lp = true) : goods l (decide (0 < lp)) := mays_goods l (fun t _ => may_good t) o lp h

/-! The code. -/
mutual
def T.cc : T → Nat → C → List C
  | .mk k n _ A _ B, q, f =>
    if k = 1 then [.k 40, .k n]
    else if k = 2 then [.k n]
    else if k = 11 then [.self]
    else if k = 10 then [.k 32]
    else if k = 9 then [.k 168, .k 48, f]
    else if k = 3 then
      if n = 0 then [.k 56, .p (q + (2 + szn A))] ++ ccs A (q + 2) f
      else [.k 56, .p (q + 4 + szn A)] ++ ccs A (q + 2) f ++ [.k 48, .p (q + (4 + szn A + szn B))] ++ ccs B (q + 4 + szn A) f
    else if k = 7 ∨ k = 8 then
      if n = 1 then [.k 72, .p (q + (4 + szn A))] ++ ccs A (q + 2) (.p (q + (4 + szn A))) ++ [.k (if k = 8 then 88 else 80), .p (q + 2)]
      else [.k 64] ++ ccs A (q + 1) (.p (q + (3 + szn A))) ++ [.k (if k = 8 then 88 else 80), .p (q + 1)]
    else if k = 4 then ccs A q f ++ [.k 56, .p q]
    else if k = 6 then ccs A q f ++ [.k 56, .p (q + (szn A + 2 + szn B + 2))] ++ ccs B (q + szn A + 2) f ++ [.k 48, .p q]
    else ccs A q f ++ [.k 48, .p q]
def ccs : List T → Nat → C → List C
  | [], _, _ => []
  | t :: r, q, f => t.cc q f ++ ccs r (q + t.sz) f
end

theorem ccs_len' (l : List T) (h : ∀ t, t ∈ l → ∀ lp, t.good lp → ∀ q f, (t.cc q f).length = t.sz) : ∀ lp, goods l lp → ∀ q f, (ccs l q f).length = szn l := by
  induction l with
  | nil => intro lp _ q f; simp [ccs, szn]
  | cons t r ih =>
    intro lp hg q f
    simp only [goods] at hg
    simp only [ccs, szn, List.length_append, h t (by simp) lp hg.1, ih (fun x hx => h x (by simp [hx])) lp hg.2]

theorem cc_len : ∀ t : T, ∀ lp, t.good lp → ∀ q f, (t.cc q f).length = t.sz := by
  refine T.ind ?_
  intro k n fa A fb B hA hB lp hg q f
  have lA := ccs_len' A hA
  have lB := ccs_len' B hB
  simp only [T.good] at hg
  rcases hg with ⟨rfl | rfl, _, _⟩ | ⟨rfl, _, _, _, _⟩ | ⟨rfl | rfl, _, _, _⟩ | ⟨rfl, rfl, gA, gB⟩ | ⟨rfl, rfl, _, gA⟩ | ⟨rfl | rfl, _, _, gA⟩ | ⟨rfl, _, gA, gB⟩ | ⟨rfl | rfl, rfl | rfl, _, gA⟩
  all_goals
    simp [T.cc, T.sz]
    try rw [lA _ gA]
    try rw [lB _ gB]
    try omega

theorem ccs_len {l : List T} {lp : Bool} (h : goods l lp) (q : Nat) (f : C) : (ccs l q f).length = szn l := ccs_len' l (fun t _ => cc_len t) lp h q f

/-! Sizes. -/
theorem szs_eq' (l : List T) (h : ∀ t, t ∈ l → ∀ lp, t.good lp → t.one = W t.sz) : ∀ lp, goods l lp → ∀ a, szs (W a) l = W (a + szn l) := by
  induction l with
  | nil => intro lp _ a; simp [szs, szn]
  | cons t r ih =>
    intro lp hg a
    simp only [goods] at hg
    have hr := ih (fun x hx => h x (by simp [hx])) lp hg.2
    simp only [szs, szn, h t (by simp) lp hg.1, W_add, W_add', hr]
    exact W_congr (by push_cast; omega)

theorem W_zero : W 0 = 0 := by decide

theorem szs_nil : szs 0 [] = 0 := by simp [szs]

theorem one_eq : ∀ t : T, ∀ lp, t.good lp → t.one = W t.sz := by
  refine T.ind ?_
  intro k n fa A fb B hA hB lp hg
  have lA := szs_eq' A hA
  have lB := szs_eq' B hB
  have zA : ∀ lp, goods A lp → szs 0 A = W (szn A) := fun lp g => by have := lA lp g 0; rwa [W_zero, Int.zero_add] at this
  have zB : ∀ lp, goods B lp → szs 0 B = W (szn B) := fun lp g => by have := lB lp g 0; rwa [W_zero, Int.zero_add] at this
  simp only [T.good] at hg
  simp only [T.one, T.sz, oneOf]
  rcases hg with ⟨rfl | rfl, _, _⟩ | ⟨rfl, _, _, _, _⟩ | ⟨rfl | rfl, _, _, _⟩ | ⟨rfl, rfl, gA, gB⟩ | ⟨rfl, rfl, hb, gA⟩ | ⟨rfl | rfl, _, hb, gA⟩ | ⟨rfl, _, gA, gB⟩ | ⟨rfl | rfl, rfl | rfl, hb, gA⟩
  all_goals
    try rw [zA _ gA]
    try rw [zB _ gB]
    try rw [hb, szs_nil]
    simp [W_add, W_add']
    first
    | done
    | decide
    | exact W_congr (by omega)

theorem rszs_eq' (l : List T) (h : ∀ t, t ∈ l → ∀ lp, t.good lp → t.rone = W t.sz) : ∀ lp, goods l lp → ∀ a, rszs (W a) l = W (a + szn l) := by
  induction l with
  | nil => intro lp _ a; simp [rszs, szn]
  | cons t r ih =>
    intro lp hg a
    simp only [goods] at hg
    have hr := ih (fun x hx => h x (by simp [hx])) lp hg.2
    simp only [rszs, szn, h t (by simp) lp hg.1, W_add, W_add', hr]
    exact W_congr (by push_cast; omega)

theorem rone_eq : ∀ t : T, ∀ lp, t.good lp → t.rone = W t.sz := by
  refine T.ind ?_
  intro k n fa A fb B hA hB lp hg
  have lA := rszs_eq' A hA
  have lB := rszs_eq' B hB
  have zA : ∀ lp, goods A lp → rszs 0 A = W (szn A) := fun lp g => by have := lA lp g 0; rwa [W_zero, Int.zero_add] at this
  have zB : ∀ lp, goods B lp → rszs 0 B = W (szn B) := fun lp g => by have := lB lp g 0; rwa [W_zero, Int.zero_add] at this
  simp only [T.good] at hg
  simp only [T.rone, T.sz, roneOf]
  rcases hg with ⟨rfl | rfl, _, _⟩ | ⟨rfl, _, _, _, _⟩ | ⟨rfl | rfl, _, _, _⟩ | ⟨rfl, rfl, gA, gB⟩ | ⟨rfl, rfl, hb, gA⟩ | ⟨rfl | rfl, _, hb, gA⟩ | ⟨rfl, _, gA, gB⟩ | ⟨rfl | rfl, rfl | rfl, hb, gA⟩
  all_goals
    try rw [zA _ gA]
    try rw [zB _ gB]
    simp [W_add, W_add']
    first
    | done
    | decide
    | exact W_congr (by omega)

theorem szs_eq {l : List T} {lp : Bool} (h : goods l lp) : szs 0 l = W (szn l) := by
  have := szs_eq' l (fun t _ => one_eq t) lp h 0
  rwa [W_zero, Int.zero_add] at this
theorem rszs_eq {l : List T} {lp : Bool} (h : goods l lp) : rszs 0 l = W (szn l) := by
  have := rszs_eq' l (fun t _ => rone_eq t) lp h 0
  rwa [W_zero, Int.zero_add] at this

end Go.Proofs.Ytfmelnhlljgooaa.PE
