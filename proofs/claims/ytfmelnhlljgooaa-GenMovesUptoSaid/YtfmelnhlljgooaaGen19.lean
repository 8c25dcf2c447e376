/-
  The functions on trees at whole trees: enough fuel is the tree's weight.
-/
import Derived.Test.YtfmelnhlljgooaaGen16
import Derived.Test.YtfmelnhlljgooaaGen18
set_option linter.unusedSimpArgs false
set_option linter.unusedVariables false
namespace Go.Proofs.Ytfmelnhlljgooaa.PE
open Go

mutual
def T.wt : T → Nat
  | .mk _ _ _ A _ B => wts A + wts B + 2
def wts : List T → Nat
  | [] => 2
  | t :: r => t.wt + wts r + 2
end

theorem wt_mk (k n : Int) (fa fb : E) (A B : List T) : (T.mk k n fa A fb B).wt = wts A + wts B + 2 := by simp [T.wt]
theorem wts_len (l : List T) : 2 * l.length + 2 ≤ wts l := by
  induction l with
  | nil => simp [wts]
  | cons t r ih => simp only [wts, List.length_cons]; omega
theorem wts_mem {l : List T} {t : T} (h : t ∈ l) : t.wt + 4 ≤ wts l := by
  induction l with
  | nil => cases h
  | cons x r ih =>
    have := wts_len r
    simp only [wts]
    rcases List.mem_cons.1 h with rfl | h1
    · omega
    · have := ih h1; omega
theorem wts_get {l : List T} {t : T} {i : Nat} (h : l[i]? = some t) : t.wt + 4 ≤ wts l := wts_mem (List.mem_of_getElem? h)
theorem wt_A (t : T) : wts t.A + 4 ≤ t.wt := by
  cases t with
  | mk k n fa A fb B => have := wts_len B; simp only [T.A, T.wt]; omega
theorem wt_B (t : T) : wts t.B + 4 ≤ t.wt := by
  cases t with
  | mk k n fa A fb B => have := wts_len A; simp only [T.B, T.wt]; omega
theorem wt_pos (t : T) : 6 ≤ t.wt := by have := wt_A t; have := wts_len t.A; omega

/-! Sizes. -/
theorem size_list (l : List T) (h : ∀ t, t ∈ l → t.wt < 2 ^ 61 → ∀ k, t.wt ≤ k → pcall Try.prog ann noSums k 19 [t.pv] [] = some (iv t.one, [])) (hb : wts l < 2 ^ 61) (f : E) :
    ∀ k, wts l ≤ k → pcall Try.prog ann noSums k 9 [pvL f l] [] = some (iv (szs 0 l), []) := by
  intro k hk
  have hl := wts_len l
  obtain ⟨k, rfl⟩ : ∃ j, k = j + 1 := ⟨k - 1, by omega⟩
  refine size_ok k f l (by omega) (by omega) fun i t ht => ?_
  have := wts_get ht
  exact h t (List.mem_of_getElem? ht) (by omega) k (by omega)

theorem one_tree : ∀ t : T, t.wt < 2 ^ 61 → ∀ k, t.wt ≤ k → pcall Try.prog ann noSums k 19 [t.pv] [] = some (iv t.one, []) := by
  refine T.ind ?_
  intro kd n fa A fb B hA hB hb k hk
  rw [wt_mk] at hb hk
  obtain ⟨k, rfl⟩ : ∃ j, k = j + 1 := ⟨k - 1, by omega⟩
  exact one_step k kd n fa fb A B (size_list A hA (by omega) fa k (by omega)) (size_list B hB (by omega) fb k (by omega))

theorem size_tree (f : E) (l : List T) (hb : wts l < 2 ^ 61) (k : Nat) (hk : wts l ≤ k) : pcall Try.prog ann noSums k 9 [pvL f l] [] = some (iv (szs 0 l), []) :=
  size_list l (fun t _ => one_tree t) hb f k hk

theorem rsize_list (l : List T) (h : ∀ t, t ∈ l → t.wt < 2 ^ 61 → ∀ k, t.wt ≤ k → pcall Try.prog ann noSums k 20 [t.pv] [] = some (iv t.rone, [])) (hb : wts l < 2 ^ 61) (f : E) :
    ∀ k, wts l ≤ k → pcall Try.prog ann noSums k 10 [pvL f l] [] = some (iv (rszs 0 l), []) := by
  intro k hk
  have hl := wts_len l
  obtain ⟨k, rfl⟩ : ∃ j, k = j + 1 := ⟨k - 1, by omega⟩
  refine rsize_ok k f l (by omega) (by omega) fun i t ht => ?_
  have := wts_get ht
  exact h t (List.mem_of_getElem? ht) (by omega) k (by omega)

theorem rone_tree : ∀ t : T, t.wt < 2 ^ 61 → ∀ k, t.wt ≤ k → pcall Try.prog ann noSums k 20 [t.pv] [] = some (iv t.rone, []) := by
  refine T.ind ?_
  intro kd n fa A fb B hA hB hb k hk
  rw [wt_mk] at hb hk
  obtain ⟨k, rfl⟩ : ∃ j, k = j + 1 := ⟨k - 1, by omega⟩
  exact rone_step k kd n fa fb A B (rsize_list A hA (by omega) fa k (by omega)) (rsize_list B hB (by omega) fb k (by omega))

theorem rsize_tree (f : E) (l : List T) (hb : wts l < 2 ^ 61) (k : Nat) (hk : wts l ≤ k) : pcall Try.prog ann noSums k 10 [pvL f l] [] = some (iv (rszs 0 l), []) :=
  rsize_list l (fun t _ => rone_tree t) hb f k hk

/-! How deep, how many, few. -/
theorem deep_tree : ∀ (m : Nat) (f : E) (l : List T), wts l < 2 ^ 61 → m < 2 ^ 60 → ∀ k, wts l ≤ k → pcall Try.prog ann noSums k 16 [pvL f l, iv (m : Int)] [] = some (iv (deep m l), []) := by
  intro m
  induction m with
  | zero =>
    intro f l hb hm k hk
    have hl := wts_len l
    obtain ⟨k, rfl⟩ : ∃ j, k = j + 1 := ⟨k - 1, by omega⟩
    exact deep_zero k f l
  | succ m ih =>
    intro f l hb hm k hk
    have hl := wts_len l
    obtain ⟨k, rfl⟩ : ∃ j, k = j + 1 := ⟨k - 1, by omega⟩
    refine deep_step k m f l (by omega) (by omega) (by omega) (fun i t ht => ?_) (fun i t ht => ?_)
    · have := wts_get ht
      have := wt_A t
      exact ih t.fa t.A (by omega) (by omega) k (by omega)
    · have := wts_get ht
      have := wt_B t
      exact ih t.fb t.B (by omega) (by omega) k (by omega)

theorem many_list (l : List T) (h : ∀ t, t ∈ l → t.wt < 2 ^ 61 → ∀ k, t.wt ≤ k → pcall Try.prog ann noSums k 17 [pvL t.fa t.A, iv 300] [] = some (iv (manyGo t.A.length t.A), []) ∧
      pcall Try.prog ann noSums k 17 [pvL t.fb t.B, iv 300] [] = some (iv (manyGo t.B.length t.B), [])) (hb : wts l < 2 ^ 61) (f : E) :
    ∀ k, wts l ≤ k → pcall Try.prog ann noSums k 17 [pvL f l, iv 300] [] = some (iv (manyGo l.length l), []) := by
  intro k hk
  have hl := wts_len l
  obtain ⟨k, rfl⟩ : ∃ j, k = j + 1 := ⟨k - 1, by omega⟩
  refine many_step k f l (by omega) (by omega) (fun i t ht => ?_) (fun i t ht => ?_)
  · have := wts_get ht
    exact (h t (List.mem_of_getElem? ht) (by omega) k (by omega)).1
  · have := wts_get ht
    exact (h t (List.mem_of_getElem? ht) (by omega) k (by omega)).2

theorem many_parts : ∀ t : T, t.wt < 2 ^ 61 → ∀ k, t.wt ≤ k → pcall Try.prog ann noSums k 17 [pvL t.fa t.A, iv 300] [] = some (iv (manyGo t.A.length t.A), []) ∧
      pcall Try.prog ann noSums k 17 [pvL t.fb t.B, iv 300] [] = some (iv (manyGo t.B.length t.B), []) := by
  refine T.ind ?_
  intro kd n fa A fb B hA hB hb k hk
  rw [wt_mk] at hb hk
  exact ⟨many_list A hA (by omega) fa k (by omega), many_list B hB (by omega) fb k (by omega)⟩

theorem many_tree (f : E) (l : List T) (hb : wts l < 2 ^ 61) (k : Nat) (hk : wts l ≤ k) : pcall Try.prog ann noSums k 17 [pvL f l, iv 300] [] = some (iv (manyGo l.length l), []) :=
  many_list l (fun t _ => many_parts t) hb f k hk

theorem few_tree (f : E) (l : List T) (hb : wts l < 2 ^ 61) (k : Nat) (hk : wts l + 1 ≤ k) : pcall Try.prog ann noSums k 7 [pvL f l] [] = some (bv (few l), []) := by
  obtain ⟨k, rfl⟩ : ∃ j, k = j + 1 := ⟨k - 1, by omega⟩
  exact few_step k f l (deep_tree 40 f l hb (by omega) k (by omega)) (many_tree f l hb k (by omega))

/-! Whether it may be. -/
theorem may_tree : ∀ t : T, t.wt < 2 ^ 61 → ∀ k, t.wt ≤ k → ∀ o lp : Nat, o ≤ 16 → lp ≤ o → pcall Try.prog ann noSums k 18 [t.pv, iv (o : Nat), iv (lp : Nat)] [] = some (bv (t.may o lp), []) := by
  refine T.ind ?_
  intro kd n fa A fb B hA hB hb k hk o lp ho hlp
  rw [wt_mk] at hb hk
  have lA := wts_len A
  have lB := wts_len B
  obtain ⟨k, rfl⟩ : ∃ j, k = j + 1 := ⟨k - 1, by omega⟩
  refine may_step k kd n fa fb A B o lp (by omega) (by omega) (by omega) (by omega) (by omega) (by omega) (fun h16 lp' hl i t ht => ?_) (fun h16 lp' hl i t ht => ?_)
  · have := wts_get ht
    exact hA t (List.mem_of_getElem? ht) (by omega) k (by omega) (o + 1) lp' (by omega) (by omega)
  · have := wts_get ht
    exact hB t (List.mem_of_getElem? ht) (by omega) k (by omega) (o + 1) lp' (by omega) (by omega)

theorem mayAll_tree (f : E) (l : List T) (hb : wts l < 2 ^ 61) (k : Nat) (hk : wts l ≤ k) : pcall Try.prog ann noSums k 8 [pvL f l] [] = some (bv (mays l 0 0), []) := by
  have hl := wts_len l
  obtain ⟨k, rfl⟩ : ∃ j, k = j + 1 := ⟨k - 1, by omega⟩
  refine mayAll_step k f l (by omega) (by omega) fun i t ht => ?_
  have := wts_get ht
  exact may_tree t (by omega) k (by omega) 0 0 (by omega) (by omega)

/-! gen.Code. -/
theorem ics_snoc (at0 self : Int) (l : List T) (t : T) (fin : Int) : ∀ out, ics at0 self (l ++ [t]) fin out = t.ic at0 self fin (ics at0 self l fin out) := by
  induction l with
  | nil => intro out; simp [ics]
  | cons x r ih => intro out; simp only [List.cons_append, ics]; exact ih _

theorem ics_take (at0 self : Int) {l : List T} {i : Nat} {t : T} (h : l[i]? = some t) (fin : Int) (out : List Int) :
    ics at0 self (l.take (i + 1)) fin out = t.ic at0 self fin (ics at0 self (l.take i) fin out) := by
  rw [List.take_add_one, h, Option.toList_some, ics_snoc]

theorem ics_take_len (at0 self : Int) (l : List T) (i : Nat) (fin : Int) (out : List Int) : (ics at0 self (l.take i) fin out).length ≤ (ics at0 self l fin out).length := by
  induction l generalizing i out with
  | nil => simp
  | cons t r ih =>
    cases i with
    | zero =>
      simp only [List.take_zero, ics]
      exact Nat.le_trans (ic_len at0 self t fin out) (ics_len at0 self r fin _)
    | succ i => simp only [List.take_succ_cons, ics]; exact ih i _

theorem row_list (at0 self : Int) (l : List T) (h : ∀ t, t ∈ l → t.wt < 2 ^ 61 → ∀ k, t.wt + 302 ≤ k → ∀ fin out rest, (t.ic at0 self fin out).length < 2 ^ 42 →
      pcall Try.prog ann noSums k 26 [.ptr 0 0, t.pv] (lyr at0 self fin out :: rest) = some (.tup [], lyr at0 self fin (t.ic at0 self fin out) :: rest)) (hb : wts l < 2 ^ 61) (f : E) :
    ∀ k, wts l + 302 ≤ k → ∀ fin out rest, (ics at0 self l fin out).length < 2 ^ 42 →
      pcall Try.prog ann noSums k 21 [.ptr 0 0, pvL f l] (lyr at0 self fin out :: rest) = some (.tup [], lyr at0 self fin (ics at0 self l fin out) :: rest) := by
  intro k hk fin out rest hl
  have hw := wts_len l
  obtain ⟨k, rfl⟩ : ∃ j, k = j + 1 := ⟨k - 1, by omega⟩
  refine row_step k f l at0 self fin out rest (by omega) (by omega) fun i t ht => ?_
  have := wts_get ht
  rw [ics_take at0 self ht]
  refine h t (List.mem_of_getElem? ht) (by omega) k (by omega) fin _ rest ?_
  rw [← ics_take at0 self ht]
  exact Nat.lt_of_le_of_lt (ics_take_len at0 self l (i + 1) fin out) hl

theorem part_tree (at0 self : Int) : ∀ t : T, t.wt < 2 ^ 61 → ∀ k, t.wt + 302 ≤ k → ∀ fin out rest, (t.ic at0 self fin out).length < 2 ^ 42 →
    pcall Try.prog ann noSums k 26 [.ptr 0 0, t.pv] (lyr at0 self fin out :: rest) = some (.tup [], lyr at0 self fin (t.ic at0 self fin out) :: rest) := by
  refine T.ind ?_
  intro kd n fa A fb B hA hB hb k hk fin out rest hl
  have wA := wts_len A
  have wB := wts_len B
  rw [wt_mk] at hk
  have hb' := hb
  rw [wt_mk] at hb'
  obtain ⟨k, rfl⟩ : ∃ j, k = j + 1 := ⟨k - 1, by omega⟩
  refine part_step k (by omega) kd n fa fb A B at0 self fin out rest hl (one_tree _ hb k (by rw [wt_mk]; omega)) (size_tree fa A (by omega) k (by omega))
    (fun k' hk' fin out rest h => row_list at0 self A hA (by omega) fa k' (by omega) fin out rest h)
    (fun k' hk' fin out rest h => row_list at0 self B hB (by omega) fb k' (by omega) fin out rest h)

/-- The code of a tree, and its end. -/
def code (at0 self : Int) (l : List T) : List Int := (ccs l 0 (.k 0)).map (C.ev at0 self) ++ [32]

theorem code_len {l : List T} {lp : Bool} (h : goods l lp) (at0 self : Int) : (code at0 self l).length = szn l + 1 := by
  simp [code, ccs_len h]

theorem ics_code (at0 self : Int) {l : List T} {lp : Bool} (h : goods l lp) : ics at0 self l 0 [] ++ [32] = code at0 self l := by
  have := ics_eq at0 self h (.k 0) []
  simp only [C.ev, List.nil_append, List.length_nil] at this
  rw [this]
  rfl

theorem code_tree (f : E) (l : List T) (lp : Bool) (at0 self : Int) (hg : goods l lp) (hs : szn l < 2 ^ 41) (hb : wts l < 2 ^ 61) (k : Nat) (hk : wts l + 304 ≤ k) :
    pcall Try.prog ann noSums k 12 [pvL f l, iv at0, iv self] [] = some (outV (code at0 self l), []) := by
  obtain ⟨k, rfl⟩ : ∃ j, k = j + 1 := ⟨k - 1, by omega⟩
  have hl : (ics at0 self l 0 []).length < 2 ^ 42 := by
    have h1 := congrArg List.length (ics_code at0 self hg)
    rw [code_len hg] at h1
    simp at h1
    omega
  rw [← ics_code at0 self hg]
  exact code_step k (by omega) f l at0 self hl fun rest => row_list at0 self l (fun t _ => part_tree at0 self t) hb f k (by omega) 0 [] rest hl

/-! The document's Code. -/
theorem rcs_len_list (self : Int) (l : List T) (h : ∀ t, t ∈ l → ∀ lp, t.good lp → ∀ pl fin, (t.rc self pl fin).length = t.sz) :
    ∀ lp, goods l lp → ∀ pl fin out, (rcs self l pl fin out).length = out.length + szn l := by
  induction l with
  | nil => intro lp _ pl fin out; simp [rcs, szn]
  | cons t r ih =>
    intro lp hg pl fin out
    simp only [goods] at hg
    simp only [rcs, szn]
    rw [ih (fun x hx => h x (by simp [hx])) lp hg.2, List.length_append, h t (by simp) lp hg.1]
    omega

theorem rc_len_eq (self : Int) : ∀ t : T, ∀ lp, t.good lp → ∀ pl fin, (t.rc self pl fin).length = t.sz := by
  refine T.ind ?_
  intro k n fa A fb B hA hB lp hg pl fin
  have lA := rcs_len_list self A hA
  have lB := rcs_len_list self B hB
  simp only [T.good] at hg
  rcases hg with ⟨rfl | rfl, _, _⟩ | ⟨rfl, _, _, _, _⟩ | ⟨rfl | rfl, _, _, _⟩ | ⟨rfl, rfl, gA, gB⟩ | ⟨rfl, rfl, _, gA⟩ | ⟨rfl | rfl, _, _, gA⟩ | ⟨rfl, _, gA, gB⟩ | ⟨rfl | rfl, rfl | rfl, _, gA⟩
  all_goals
    simp [T.rc, T.sz]
    try rw [lB _ gB]
    try rw [lA _ gA]
    try simp
    try omega

theorem rcs_len_eq (self : Int) {l : List T} {lp : Bool} (hg : goods l lp) (pl fin : Int) (out : List Int) : (rcs self l pl fin out).length = out.length + szn l :=
  rcs_len_list self l (fun t _ => rc_len_eq self t) lp hg pl fin out

theorem sz_mem {l : List T} {t : T} (h : t ∈ l) : t.sz ≤ szn l := by
  induction l with
  | nil => cases h
  | cons x r ih =>
    simp only [szn]
    rcases List.mem_cons.1 h with rfl | h1
    · omega
    · have := ih h1; omega

theorem goods_mem {l : List T} {lp : Bool} (hg : goods l lp) {t : T} (h : t ∈ l) : t.good lp := by
  induction l with
  | nil => cases h
  | cons x r ih =>
    simp only [goods] at hg
    rcases List.mem_cons.1 h with rfl | h1
    · exact hg.1
    · exact ih hg.2 h1

theorem good_A {k n : Int} {fa fb : E} {A B : List T} {lp : Bool} (h : (T.mk k n fa A fb B).good lp) : ∃ lp', goods A lp' := by
  simp only [T.good] at h
  rcases h with ⟨_, rfl, _⟩ | ⟨_, rfl, _⟩ | ⟨_, rfl, _⟩ | ⟨_, _, g, _⟩ | ⟨_, _, _, g⟩ | ⟨_, _, _, g⟩ | ⟨_, _, g, _⟩ | ⟨_, _, _, g⟩
  · exact ⟨true, trivial⟩
  · exact ⟨true, trivial⟩
  · exact ⟨true, trivial⟩
  all_goals exact ⟨_, g⟩

theorem good_B {k n : Int} {fa fb : E} {A B : List T} {lp : Bool} (h : (T.mk k n fa A fb B).good lp) : ∃ lp', goods B lp' := by
  simp only [T.good] at h
  rcases h with ⟨_, _, rfl⟩ | ⟨_, _, rfl, _⟩ | ⟨_, _, rfl, _⟩ | ⟨_, _, _, g⟩ | ⟨_, _, rfl, _⟩ | ⟨_, _, rfl, _⟩ | ⟨_, _, _, g⟩ | ⟨_, _, rfl, _⟩
  · exact ⟨true, trivial⟩
  · exact ⟨true, trivial⟩
  · exact ⟨true, trivial⟩
  · exact ⟨_, g⟩
  · exact ⟨true, trivial⟩
  · exact ⟨true, trivial⟩
  · exact ⟨_, g⟩
  · exact ⟨true, trivial⟩

theorem sz_A {k n : Int} {fa fb : E} {A B : List T} {lp : Bool} (h : (T.mk k n fa A fb B).good lp) : szn A ≤ (T.mk k n fa A fb B).sz ∧ szn B ≤ (T.mk k n fa A fb B).sz := by
  simp only [T.good] at h
  rcases h with ⟨rfl | rfl, rfl, rfl⟩ | ⟨rfl, rfl, rfl, _, _⟩ | ⟨rfl | rfl, rfl, rfl, _⟩ | ⟨rfl, rfl, _, _⟩ | ⟨rfl, rfl, rfl, _⟩ | ⟨rfl | rfl, _, rfl, _⟩ | ⟨rfl, _, _, _⟩ | ⟨rfl | rfl, rfl | rfl, rfl, _⟩
  all_goals
    simp [T.sz, szn]
    try omega

theorem rrow_list (self : Int) (l : List T) (h : ∀ t, t ∈ l → ∀ lp, t.good lp → t.sz < 2 ^ 41 → t.wt < 2 ^ 61 → ∀ k, t.wt + 302 ≤ k → ∀ pl fin, ∃ tag, tag ≠ Tag.sh ∧
      pcall Try.prog ann noSums k 29 [t.pv, iv pl, iv self, iv fin] [] = some (.sl tag 1 ((t.rc self pl fin).map iv), [])) (lp : Bool) (hg : goods l lp) (hs : szn l < 2 ^ 41) (hb : wts l < 2 ^ 61) (f : E) :
    ∀ k, wts l + 302 ≤ k → ∀ pl fin, pcall Try.prog ann noSums k 24 [pvL f l, iv pl, iv self, iv fin] [] = some (outV (rcs self l pl fin []), []) := by
  intro k hk pl fin
  have hw := wts_len l
  obtain ⟨k, rfl⟩ : ∃ j, k = j + 1 := ⟨k - 1, by omega⟩
  have hl := rcs_len_eq self hg pl fin []
  refine rrow_step k f l pl self fin (by omega) (by omega) (by rw [hl]; simp; omega) fun i t ht pl => ?_
  have hm := List.mem_of_getElem? ht
  have := wts_mem hm
  have := sz_mem hm
  exact h t hm lp (goods_mem hg hm) (by omega) (by omega) k (by omega) pl fin

theorem rpart_tree (self : Int) : ∀ t : T, ∀ lp, t.good lp → t.sz < 2 ^ 41 → t.wt < 2 ^ 61 → ∀ k, t.wt + 302 ≤ k → ∀ pl fin, ∃ tag, tag ≠ Tag.sh ∧
      pcall Try.prog ann noSums k 29 [t.pv, iv pl, iv self, iv fin] [] = some (.sl tag 1 ((t.rc self pl fin).map iv), []) := by
  refine T.ind ?_
  intro kd n fa A fb B hA hB lp hg hs hb k hk pl fin
  have wA := wts_len A
  have wB := wts_len B
  obtain ⟨la, gA⟩ := good_A hg
  obtain ⟨lb, gB⟩ := good_B hg
  have sA := sz_A hg
  have hb' := hb
  rw [wt_mk] at hk hb'
  obtain ⟨k, rfl⟩ : ∃ j, k = j + 1 := ⟨k - 1, by omega⟩
  refine rpart_step k (by omega) kd n fa fb A B pl self fin (by rw [rc_len_eq self _ lp hg]; omega) (rone_tree _ hb k (by rw [wt_mk]; omega))
    (fun pl fin _ => rrow_list self A hA la gA (by omega) (by omega) fa k (by omega) pl fin)
    (fun pl fin _ => rrow_list self B hB lb gB (by omega) (by omega) fb k (by omega) pl fin)

theorem rcs_code (at0 self : Int) (ha : W at0 = at0) {l : List T} {lp : Bool} (h : goods l lp) : rcs self l at0 0 [] ++ [32] = code at0 self l := by
  have := rcs_eq at0 self h (.k 0)
  simp only [C.ev, ha] at this
  rw [this]
  rfl

theorem rcode_tree (f : E) (l : List T) (lp : Bool) (at0 self : Int) (ha : W at0 = at0) (hg : goods l lp) (hs : szn l < 2 ^ 41) (hb : wts l < 2 ^ 61) (k : Nat) (hk : wts l + 304 ≤ k) :
    pcall Try.prog ann noSums k 13 [pvL f l, iv at0, iv self] [] = some (outV (code at0 self l), []) := by
  obtain ⟨k, rfl⟩ : ∃ j, k = j + 1 := ⟨k - 1, by omega⟩
  rw [← rcs_code at0 self ha hg]
  exact rcode_step k (by omega) f l at0 self (by rw [rcs_len_eq self hg]; simp; omega) (rrow_list self l (fun t _ => rpart_tree self t) lp hg hs hb f k (by omega) at0 0)

end Go.Proofs.Ytfmelnhlljgooaa.PE
