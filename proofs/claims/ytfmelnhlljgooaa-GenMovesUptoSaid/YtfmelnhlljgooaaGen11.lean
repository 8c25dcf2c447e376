/-
  The walk of gen's part: what it lays for each kind.
-/
import Derived.Test.YtfmelnhlljgooaaGen10
set_option linter.unusedSimpArgs false
set_option linter.unusedVariables false
namespace Go.Proofs.Ytfmelnhlljgooaa.PE
open Go

mutual
theorem T.ind {P : T → Prop} (h : ∀ k n fa A fb B, (∀ t, t ∈ A → P t) → (∀ t, t ∈ B → P t) → P (.mk k n fa A fb B)) : ∀ t, P t
  | .mk k n fa A fb B => h k n fa A fb B (T.inds h A) (T.inds h B)
theorem T.inds {P : T → Prop} (h : ∀ k n fa A fb B, (∀ t, t ∈ A → P t) → (∀ t, t ∈ B → P t) → P (.mk k n fa A fb B)) : ∀ l : List T, ∀ t, t ∈ l → P t
  | [], t, ht => by cases ht
  | x :: r, t, ht => by
    rcases List.mem_cons.1 ht with h1 | h1
    · rw [h1]; exact T.ind h x
    · exact T.inds h r t h1
end

theorem ics_len' (at0 self : Int) (l : List T) (h : ∀ t, t ∈ l → ∀ fin out, out.length ≤ (t.ic at0 self fin out).length) : ∀ fin out, out.length ≤ (ics at0 self l fin out).length := by
  induction l with
  | nil => intro fin out; simp [ics]
  | cons t r ih =>
    intro fin out
    simp only [ics]
    exact Nat.le_trans (h t (by simp) fin out) (ih (fun x hx => h x (by simp [hx])) fin _)

theorem ic_len (at0 self : Int) : ∀ t : T, ∀ fin out, out.length ≤ (t.ic at0 self fin out).length := by
  refine T.ind ?_
  intro k n fa A fb B hA hB fin out
  have lA := ics_len' at0 self A hA
  have lB := ics_len' at0 self B hB
  have key : ∀ (x y : List Int) (fin : Int), (out ++ x).length ≤ (ics at0 self A fin (out ++ x) ++ y).length := by
    intro x y fin
    have := lA fin (out ++ x)
    simp at this ⊢
    omega
  have key2 : ∀ (x y z : List Int) (fin fin' : Int), (out ++ x).length ≤ (ics at0 self B fin' (ics at0 self A fin (out ++ x) ++ y) ++ z).length := by
    intro x y z fin fin'
    have h1 := lA fin (out ++ x)
    have h2 := lB fin' (ics at0 self A fin (out ++ x) ++ y)
    simp at h1 h2 ⊢
    omega
  have drop : ∀ (x : List Int), out.length ≤ (out ++ x).length := by intro x; simp
  simp only [T.ic]
  repeat' split
  all_goals first
    | (simp; done)
    | (simp; omega)
    | exact Nat.le_trans (drop _) (key _ _ _)
    | exact Nat.le_trans (drop _) (key2 _ _ _ _ _)
    | (have := key2 [] [56, _] _ _ _; simpa using this)
    | (have h := key [] _ _; simpa using h)
    | (refine Nat.le_trans (drop _) (lA _ _))
    | (refine Nat.le_trans (Nat.le_trans (drop _) (lA _ _)) (Nat.le_trans ?_ (lB _ _)); simp)
    | (have h1 := lA fin out; simp; omega)
    | skip
  · generalize W (hereOf at0 out + W (8 * W (4 + szs 0 A))) = a
    generalize W (hereOf at0 out + W (8 * oneOf k n (szs 0 A) (szs 0 B))) = b
    have h1 := lA fin (out ++ [56, a])
    have h2 := lB fin (ics at0 self A fin (out ++ [56, a]) ++ [48, b])
    simp at h1 h2 ⊢
    omega
  · generalize W (hereOf at0 out + W (8 * oneOf k n (szs 0 A) (szs 0 B))) = b
    have h1 := lA fin out
    have h2 := lB fin (ics at0 self A fin out ++ [56, b])
    simp at h1 h2 ⊢
    omega

theorem ics_len (at0 self : Int) (l : List T) : ∀ fin out, out.length ≤ (ics at0 self l fin out).length :=
  ics_len' at0 self l fun t _ => ic_len at0 self t

end Go.Proofs.Ytfmelnhlljgooaa.PE
