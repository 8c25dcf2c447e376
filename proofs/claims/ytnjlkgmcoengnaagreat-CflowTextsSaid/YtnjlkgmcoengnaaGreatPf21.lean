/-
  PF, part 21: strings that are told, held against each other. Holds for every Program; no condition.
-/
import Derived.Test.YtnjlkgmcoengnaaGreatPf20
set_option linter.unusedSimpArgs false
set_option linter.unusedVariables false
namespace Go.Proofs.YtnjlkgmcoengnaaGreat.PE
open Go

theorem toList_loop (s : ByteArray) : ∀ (d i : Nat) (r : List UInt8), s.size - i = d → i ≤ s.size → ByteArray.toList.loop s i r = r.reverse ++ s.data.toList.drop i := by
  intro d
  induction d with
  | zero =>
    intro i r hd hi
    unfold ByteArray.toList.loop
    rw [if_neg (by omega)]
    have : s.data.toList.drop i = [] := List.drop_eq_nil_of_le (by show s.data.toList.length ≤ i; rw [Array.length_toList]; show s.size ≤ i; omega)
    rw [this, List.append_nil]
  | succ d ih =>
    intro i r hd hi
    unfold ByteArray.toList.loop
    have hlt : i < s.size := by omega
    rw [if_pos hlt, ih (i + 1) _ (by omega) (by omega)]
    have hl : i < s.data.toList.length := by rw [Array.length_toList]; exact hlt
    rw [List.drop_eq_getElem_cons hl, List.reverse_cons, List.append_assoc]
    congr 1
    show s.get! i :: _ = _
    congr 1
    simp only [ByteArray.get!]
    have hd' : i < s.data.size := hlt
    rw [getElem!_pos s.data i hd']
    simp
theorem toList_data (s : ByteArray) : s.toList = s.data.toList := by
  rw [ByteArray.toList, toList_loop s s.size 0 [] (by omega) (by omega)]
  simp

/-- Are two rows of bytes the same? -/
def sameS : List UInt8 → List UInt8 → Bool
  | [], [] => true
  | x :: xs, y :: ys => x.toNat == y.toNat && sameS xs ys
  | _, _ => false
theorem sameS_nn : sameS [] [] = true := rfl
theorem sameS_nc (y : UInt8) (ys : List UInt8) : sameS [] (y :: ys) = false := rfl
theorem sameS_cn (y : UInt8) (ys : List UInt8) : sameS (y :: ys) [] = false := rfl
theorem sameS_cc (x y : UInt8) (xs ys : List UInt8) : sameS (x :: xs) (y :: ys) = (x.toNat == y.toNat && sameS xs ys) := rfl
theorem sameS_eq : ∀ x y : List UInt8, (x == y) = sameS x y
  | [], [] => rfl
  | [], _ :: _ => rfl
  | _ :: _, [] => rfl
  | x :: xs, y :: ys => by
    rw [sameS_cc, List.cons_beq_cons, sameS_eq xs ys]
    congr 1
    rw [Bool.eq_iff_iff]
    simp [UInt8.toNat_inj]

theorem eqs_raw (P : Program) (t : TypeId) (x y : Operand) (a b : ByteArray) : pBin P .eql t x y (.s (.string a)) (.s (.string b)) = some (bv (a.toList == b.toList)) := rfl
theorem neqs_raw (P : Program) (t : TypeId) (x y : Operand) (a b : ByteArray) : pBin P .neq t x y (.s (.string a)) (.s (.string b)) = some (bv !(a.toList == b.toList)) := rfl
theorem eqs_ok (P : Program) (t : TypeId) (x y : Operand) (a b : List UInt8) : pBin P .eql t x y (.s (.string ⟨a.toArray⟩)) (.s (.string ⟨b.toArray⟩)) = some (bv (sameS a b)) := by
  rw [eqs_raw, toList_data, toList_data, sameS_eq]
theorem neqs_ok (P : Program) (t : TypeId) (x y : Operand) (a b : List UInt8) : pBin P .neq t x y (.s (.string ⟨a.toArray⟩)) (.s (.string ⟨b.toArray⟩)) = some (bv !(sameS a b)) := by
  rw [neqs_raw, toList_data, toList_data, sameS_eq]

theorem str_dn (b : ByteArray) : (PV.s (.string b)).dn = .s (.string b) := rfl
theorem str_ow (b : ByteArray) : (PV.s (.string b)).isOw = false := rfl
theorem str_solid (b : ByteArray) : (PV.s (.string b)).solid = true := rfl
theorem str_cells (b : ByteArray) : (PV.s (.string b)).cells = [.s (.string b)] := rfl
theorem str_maxRef (b : ByteArray) : (PV.s (.string b)).maxRef = 0 := by simp [PV.maxRef]
theorem str_ofVal (b : ByteArray) : ofVal (.string b) = .s (.string b) := rfl
theorem fn_dn (f : Fn) (a b : List PV) : (PV.fn f a b).dn = .fn f a b := rfl
theorem fn_ow (f : Fn) (a b : List PV) : (PV.fn f a b).isOw = false := rfl
theorem fn_solid (f : Fn) (a b : List PV) : (PV.fn f a b).solid = true := rfl
theorem fn_cells (f : Fn) (a b : List PV) : (PV.fn f a b).cells = [.fn f a b] := rfl
theorem W_lit (n : Nat) (h : n < 4611686018427387904) : W (no_index (OfNat.ofNat n : Int)) = (OfNat.ofNat n : Int) := W_nat (n := n) (by omega)

end Go.Proofs.YtnjlkgmcoengnaaGreat.PE
