/-
  Plain laws: what gen.Code lays, and what the document's Code answers, is the code of the tree.
-/
import Derived.Test.YtfmelnhlljgooaaGen17
set_option linter.unusedSimpArgs false
set_option linter.unusedVariables false
namespace Go.Proofs.Ytfmelnhlljgooaa.PE
open Go

theorem here_eq (at0 : Int) (out : List Int) : hereOf at0 out = W (at0 + 8 * (out.length : Int)) := by simp only [hereOf, W_add']

theorem ics_eq' (at0 self : Int) (l : List T) (h : ∀ t, t ∈ l → ∀ lp, t.good lp → ∀ (f : C) out, t.ic at0 self (f.ev at0 self) out = out ++ (t.cc out.length f).map (C.ev at0 self)) :
    ∀ lp, goods l lp → ∀ (f : C) out, ics at0 self l (f.ev at0 self) out = out ++ (ccs l out.length f).map (C.ev at0 self) := by
  induction l with
  | nil => intro lp _ f out; simp [ics, ccs]
  | cons t r ih =>
    intro lp hg f out
    simp only [goods] at hg
    have hr := ih (fun x hx => h x (by simp [hx])) lp hg.2
    simp only [ics, ccs, h t (by simp) lp hg.1, hr]
    simp only [List.length_append, List.length_map, cc_len t lp hg.1, List.map_append, List.append_assoc]

theorem ic_eq (at0 self : Int) : ∀ t : T, ∀ lp, t.good lp → ∀ (f : C) out, t.ic at0 self (f.ev at0 self) out = out ++ (t.cc out.length f).map (C.ev at0 self) := by
  refine T.ind ?_
  intro k n fa A fb B hA hB lp hg f out
  have lA := ics_eq' at0 self A hA
  have lB := ics_eq' at0 self B hB
  have hone := one_eq (.mk k n fa A fb B) lp hg
  have he : W (hereOf at0 out + W (8 * oneOf k n (szs 0 A) (szs 0 B))) = (C.p (out.length + (T.mk k n fa A fb B).sz)).ev at0 self := by
    simp only [T.one] at hone
    rw [hone]
    simp only [here_eq, C.ev, W_add, W_add', W_mul8]
    exact W_congr (by push_cast; omega)
  have hp : ∀ o : List Int, hereOf at0 o = (C.p o.length).ev at0 self := fun o => by rw [here_eq]; rfl
  simp only [T.ic, T.cc, he]
  simp only [T.good] at hg
  rcases hg with ⟨rfl | rfl, _, _⟩ | ⟨rfl, _, _, _, _⟩ | ⟨rfl | rfl, _, _, _⟩ | ⟨rfl, rfl, gA, gB⟩ | ⟨rfl, rfl, hb, gA⟩ | ⟨rfl | rfl, _, hb, gA⟩ | ⟨rfl, _, gA, gB⟩ | ⟨rfl | rfl, rfl | rfl, hb, gA⟩
  · simp [C.ev]
  · simp [C.ev]
  · simp [C.ev]
  · simp [C.ev]
  · simp [C.ev]
  · have hx : W (hereOf at0 out + W (8 * W (4 + szs 0 A))) = (C.p (out.length + 4 + szn A)).ev at0 self := by
      rw [szs_eq gA]
      simp only [here_eq, C.ev, W_add, W_add', W_mul8]
      exact W_congr (by push_cast; omega)
    simp only [hx, Int.reduceEq, reduceIte, or_self, T.sz]
    rw [lA _ gA, lB _ gB]
    have hl : ∀ (x y z w : Int), (out ++ [x, y] ++ List.map (C.ev at0 self) (ccs A (out ++ [x, y]).length f) ++ [z, w]).length = out.length + 4 + szn A := by
      intro x y z w
      simp only [List.length_append, List.length_map, ccs_len gA, List.length_cons, List.length_nil]
      omega
    rw [hl]
    simp [C.ev]
  · simp only [Int.reduceEq, reduceIte, or_self, T.sz]
    rw [lA _ gA]
    simp [C.ev]
  · simp only [Int.reduceEq, reduceIte, or_self, T.sz]
    rw [lA _ gA]
    simp [C.ev, here_eq]
  · simp only [Int.reduceEq, reduceIte, or_self, T.sz]
    rw [lA _ gA]
    simp [C.ev, here_eq]
  · simp only [Int.reduceEq, reduceIte, or_self, T.sz]
    rw [lA _ gA, lB _ gB]
    have hl : ∀ (z w : Int), (out ++ List.map (C.ev at0 self) (ccs A out.length f) ++ [z, w]).length = out.length + szn A + 2 := by
      intro z w
      simp only [List.length_append, List.length_map, ccs_len gA, List.length_cons, List.length_nil]
    rw [hl]
    simp [C.ev, here_eq]
  · simp only [Int.reduceEq, reduceIte, or_self, or_true, true_or, T.sz]
    rw [lA _ gA]
    simp [C.ev, here_eq]
  · simp only [Int.reduceEq, reduceIte, or_self, or_true, true_or, T.sz]
    rw [lA _ gA]
    simp [C.ev, here_eq]
  · simp only [Int.reduceEq, reduceIte, or_self, or_true, true_or, T.sz]
    rw [lA _ gA]
    simp [C.ev, here_eq]
  · simp only [Int.reduceEq, reduceIte, or_self, or_true, true_or, T.sz]
    rw [lA _ gA]
    simp [C.ev, here_eq]

theorem ics_eq (at0 self : Int) {l : List T} {lp : Bool} (h : goods l lp) (f : C) (out : List Int) : ics at0 self l (f.ev at0 self) out = out ++ (ccs l out.length f).map (C.ev at0 self) :=
  ics_eq' at0 self l (fun t _ => ic_eq at0 self t) lp h f out

/-! The document's. -/
theorem W_place (at0 self : Int) (q : Nat) (x : Int) (s : Nat) (h : x = 8 * (s : Int)) : W (W (at0 + 8 * (q : Int)) + x) = (C.p (q + s)).ev at0 self := by
  subst h
  simp only [W_add, C.ev]
  exact W_congr (by push_cast; omega)

theorem rcs_eq' (at0 self : Int) (l : List T) (h : ∀ t, t ∈ l → ∀ lp, t.good lp → ∀ (f : C) (q : Nat), t.rc self (W (at0 + 8 * (q : Int))) (f.ev at0 self) = (t.cc q f).map (C.ev at0 self)) :
    ∀ lp, goods l lp → ∀ (f : C) (q : Nat) (out : List Int), rcs self l (W (at0 + 8 * (q : Int))) (f.ev at0 self) out = out ++ (ccs l (q + out.length) f).map (C.ev at0 self) := by
  induction l with
  | nil => intro lp _ f q out; simp [rcs, ccs]
  | cons t r ih =>
    intro lp hg f q out
    simp only [goods] at hg
    have hr := ih (fun x hx => h x (by simp [hx])) lp hg.2
    have hpl : W (W (at0 + 8 * (q : Int)) + W (8 * (out.length : Int))) = W (at0 + 8 * ((q + out.length : Nat) : Int)) := by
      simp only [W_add, W_add']
      exact W_congr (by push_cast; omega)
    simp only [rcs, ccs]
    rw [hpl, h t (by simp) lp hg.1, hr]
    simp only [List.length_append, List.length_map, cc_len t lp hg.1, List.map_append, List.append_assoc, Nat.add_assoc]

theorem rc_eq (at0 self : Int) : ∀ t : T, ∀ lp, t.good lp → ∀ (f : C) (q : Nat), t.rc self (W (at0 + 8 * (q : Int))) (f.ev at0 self) = (t.cc q f).map (C.ev at0 self) := by
  refine T.ind ?_
  intro k n fa A fb B hA hB lp hg f q
  have lA : ∀ lp, goods A lp → ∀ (f : C) (q : Nat), rcs self A (W (at0 + 8 * (q : Int))) (f.ev at0 self) [] = (ccs A q f).map (C.ev at0 self) := fun lp g f q => by
    have := rcs_eq' at0 self A hA lp g f q []
    simpa using this
  have lB : ∀ lp, goods B lp → ∀ (f : C) (q : Nat), rcs self B (W (at0 + 8 * (q : Int))) (f.ev at0 self) [] = (ccs B q f).map (C.ev at0 self) := fun lp g f q => by
    have := rcs_eq' at0 self B hB lp g f q []
    simpa using this
  have hone := rone_eq (.mk k n fa A fb B) lp hg
  have he : W (W (at0 + 8 * (q : Int)) + W (8 * roneOf k n (rszs 0 A) (rszs 0 B))) = (C.p (q + (T.mk k n fa A fb B).sz)).ev at0 self := by
    simp only [T.rone] at hone
    rw [hone]
    simp only [C.ev, W_add, W_add', W_mul8]
    exact W_congr (by push_cast; omega)
  have pl : ∀ s : Nat, W (W (at0 + 8 * (q : Int)) + 8 * (s : Int)) = W (at0 + 8 * ((q + s : Nat) : Int)) := fun s => by
    rw [W_add]
    exact W_congr (by push_cast; omega)
  have p8 : W (W (at0 + 8 * (q : Int)) + 8) = W (at0 + 8 * ((q + 1 : Nat) : Int)) := pl 1
  have p16 : W (W (at0 + 8 * (q : Int)) + 16) = W (at0 + 8 * ((q + 2 : Nat) : Int)) := pl 2
  have ev0 : W (at0 + 8 * (q : Int)) = (C.p q).ev at0 self := rfl
  simp only [T.rc, T.cc, he, p8, p16]
  simp only [T.good] at hg
  rcases hg with ⟨rfl | rfl, _, _⟩ | ⟨rfl, _, _, _, _⟩ | ⟨rfl | rfl, _, _, _⟩ | ⟨rfl, rfl, gA, gB⟩ | ⟨rfl, rfl, hb, gA⟩ | ⟨rfl | rfl, _, hb, gA⟩ | ⟨rfl, _, gA, gB⟩ | ⟨rfl | rfl, rfl | rfl, hb, gA⟩
  · simp [C.ev]
  · simp [C.ev]
  · simp [C.ev]
  · simp [C.ev]
  · simp [C.ev]
  · simp only [Int.reduceEq, reduceIte, or_self, T.sz]
    rw [lA _ gA]
    have hx : W (W (W (at0 + 8 * (q : Int)) + 32) + W (8 * ((List.map (C.ev at0 self) (ccs A (q + 2) f)).length : Int))) = W (at0 + 8 * ((q + 4 + szn A : Nat) : Int)) := by
      rw [List.length_map, ccs_len gA]
      simp only [W_add, W_add']
      exact W_congr (by push_cast; omega)
    rw [hx, lB _ gB]
    simp [C.ev]
  · simp only [Int.reduceEq, reduceIte, or_self, T.sz]
    rw [lA _ gA]
    simp [C.ev]
  · simp only [Int.reduceEq, reduceIte, or_self, T.sz]
    rw [lA _ gA]
    simp [C.ev]
  · simp only [Int.reduceEq, reduceIte, or_self, T.sz]
    rw [lA _ gA]
    simp [C.ev]
  · simp only [Int.reduceEq, reduceIte, or_self, T.sz]
    rw [lA _ gA]
    have hx : ∀ y : Int, W (W (at0 + 8 * (q : Int)) + W (8 * ((List.map (C.ev at0 self) (ccs A q f) ++ [56, y]).length : Int))) = W (at0 + 8 * ((q + szn A + 2 : Nat) : Int)) := by
      intro y
      simp only [List.length_append, List.length_map, ccs_len gA, List.length_cons, List.length_nil]
      simp only [W_add, W_add']
      exact W_congr (by push_cast; omega)
    rw [hx, lB _ gB]
    simp [C.ev]
  · simp only [Int.reduceEq, reduceIte, or_self, or_true, true_or, T.sz]
    rw [lA _ gA]
    simp [C.ev]
  · simp only [Int.reduceEq, reduceIte, or_self, or_true, true_or, T.sz]
    rw [lA _ gA]
    simp [C.ev]
  · simp only [Int.reduceEq, reduceIte, or_self, or_true, true_or, T.sz]
    rw [lA _ gA]
    simp [C.ev]
  · simp only [Int.reduceEq, reduceIte, or_self, or_true, true_or, T.sz]
    rw [lA _ gA]
    simp [C.ev]

theorem rcs_eq (at0 self : Int) {l : List T} {lp : Bool} (h : goods l lp) (f : C) : rcs self l (W at0) (f.ev at0 self) [] = (ccs l 0 f).map (C.ev at0 self) := by
  have := rcs_eq' at0 self l (fun t _ => rc_eq at0 self t) lp h f 0 []
  simpa using this

end Go.Proofs.Ytfmelnhlljgooaa.PE
