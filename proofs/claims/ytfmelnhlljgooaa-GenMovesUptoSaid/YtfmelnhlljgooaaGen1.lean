/-
  The trees of this seat, as PE has them; how many cells the code of one has, by gen.Size and by the document's Size.
-/
import Derived.Test.YtfmelnhlljgooaaFacts
set_option linter.unusedSimpArgs false
set_option linter.unusedVariables false
namespace Go.Proofs.Ytfmelnhlljgooaa.PE
open Go

/-- How a row of no parts is written: nil, one of none, or one of none at whatever address. -/
inductive E where
  | nil
  | emp
  | exa
  | odd (a : Addr) (c : Nat)

/-- A tree: kind, number, and two rows of parts, each with a mark: is it nil, where it is empty? -/
inductive T where
  | mk (k n : Int) (fa : E) (A : List T) (fb : E) (B : List T)

def noneV : E → PV
  | .nil => .nilsl
  | .emp => .sl .sh 4 []
  | .exa => .sl .ex 4 []
  | .odd a c => .s (.slice (some a) 0 c)

mutual
def T.pv : T → PV
  | .mk k n fa A fb B => .agg [iv k, iv n, pvL fa A, pvL fb B]
def pvL : E → List T → PV
  | f, [] => noneV f
  | _, t :: r => .sl .sh 4 (t.pv :: pvs r)
def pvs : List T → List PV
  | [] => []
  | t :: r => t.pv :: pvs r
end

theorem pvs_eq (l : List T) : pvs l = l.map T.pv := by
  induction l with
  | nil => simp [pvs]
  | cons t r ih => simp [pvs, ih]

theorem pvL_cons (f : E) (t : T) (r : List T) : pvL f (t :: r) = .sl .sh 4 ((t :: r).map T.pv) := by
  simp [pvL, pvs_eq]

theorem dn_pvL (f : E) (l : List T) : (pvL f l).dn = pvL f l := by cases l <;> cases f <;> simp [pvL, noneV, Value.oneCell', PV.dn]
theorem ow_pvL (f : E) (l : List T) : (pvL f l).isOw = false := by cases l <;> cases f <;> simp [pvL, noneV, Value.oneCell', PV.isOw]
theorem maxRef_pvL (f : E) (l : List T) : (pvL f l).maxRef = 0 := by cases l <;> cases f <;> simp [pvL, noneV, Value.oneCell', PV.maxRef]
theorem cells_pvL (f : E) (l : List T) : (pvL f l).cells = [pvL f l] := by cases l <;> cases f <;> simp [pvL, noneV, Value.oneCell', PV.cells]
theorem solid_pvL (f : E) (l : List T) : (pvL f l).solid = true := by cases l <;> cases f <;> simp [pvL, noneV, Value.oneCell', PV.solid]
theorem pv_dn (t : T) : t.pv.dn = t.pv := by cases t; rfl
theorem pv_ow (t : T) : t.pv.isOw = false := by cases t; rfl
theorem pv_maxRef (t : T) : t.pv.maxRef = 0 := by
  cases t; simp [T.pv, PV.maxRef, PV.maxRefs, maxRef_pvL, iv]
theorem pv_cells (k n : Int) (fa fb : E) (A B : List T) : (T.mk k n fa A fb B).pv.cells = [iv k, iv n, pvL fa A, pvL fb B] := by simp [T.pv, PV.cells]

theorem part_node (a b c d : PV) : getPart Try.prog 39 [a, b, c, d] 0 = some (.agg [a, b, c, d]) := by
  simp [getPart, aggF, sizeF]

theorem len_pvL (f : E) (l : List T) : pLen Try.prog 22 (pvL f l) = some (iv l.length) := by
  cases l with
  | nil => cases f <;> simp [pvL, noneV, pLen, elemF, iv, goInt]
  | cons t r => simp [pvL_cons, pLen, elemF, iv, goInt]

theorem idx_pvL (f : E) {l : List T} {i : Nat} {t : T} (h : l[i]? = some t) : pIndexAddr Try.prog 22 (pvL f l) (iv i) = some (.ep t.pv 0) := by
  cases l with
  | nil => simp at h
  | cons x r => 
    rw [pvL_cons]
    unfold pIndexAddr
    simp only [asI_iv, elemF, sizeF, Int.toNat_natCast, true_and, Int.natCast_nonneg, if_true, List.getElem?_map, h, Option.map_some]

theorem part_pv (t : T) : getPart Try.prog 39 t.pv.cells 0 = some t.pv := by
  cases t
  rw [pv_cells]
  simp [getPart, aggF, sizeF, T.pv]

def oneOf (k n a b : Int) : Int :=
  if k = 2 ∨ k = 10 ∨ k = 11 then 1 else if k = 1 then 2 else if k = 9 then 3
  else if k = 6 then W (W (W (a + b) + 2) + 2)
  else if k = 3 then W (W (W (a + b) + W (2 * n)) + 2)
  else if k = 7 ∨ k = 8 then W (W (W (a + b) + W (1 + n)) + 2)
  else W (W (a + b) + 2)

mutual
def T.one : T → Int
  | .mk k n _ A _ B => oneOf k n (szs 0 A) (szs 0 B)
def szs : Int → List T → Int
  | n, [] => n
  | n, t :: r => szs (W (n + t.one)) r
end

theorem szs_snoc (l : List T) (t : T) : ∀ n, szs n (l ++ [t]) = W (szs n l + t.one) := by
  induction l with
  | nil => intro n; simp [szs]
  | cons x r ih => intro n; simp [szs, ih]

theorem szs_take {l : List T} {i : Nat} {t : T} (h : l[i]? = some t) : szs 0 (l.take (i + 1)) = W (szs 0 (l.take i) + t.one) := by
  rw [List.take_add_one, h, Option.toList_some, szs_snoc]

theorem size_ok (k : Nat) (f : E) (l : List T) (hk : l.length < k) (hb : l.length < 2 ^ 61)
    (hone : ∀ (i : Nat) (t : T), l[i]? = some t → pcall Try.prog ann noSums k 19 [t.pv] [] = some (iv t.one, [])) : pcall Try.prog ann noSums (k + 1) 9 [pvL f l] [] = some (iv (szs 0 l), []) := by
  refine go9 rfl ?_
  simp only [pcS_seq, pcS_region, pcS_block, pcS_cond, pcS_loop, pcS_exit, pcS_ret, pcS_skip, popsL_nil, popsL_cons, pop_plain, pop_guard, wantS_eq, wantD_some, wantV_t, wantV_f, wantV_tup, guardP_true, guardP_false, bindS_normal, bindS_exit, bindS_ret, blockS_normal, blockS_exit, blockS_ret, bindP_some, doneR_some, condS_true, condS_false, pickI_some, pickI_none, pickR_some, pickR_none, pickL_some, endS_normal, endS_ret, setS_some, resV_none, resV_one, dstOk, doesTake, inert_move, inert_assign, inert_pick, inert_build, inert_buildSlice, inert_load, inert_nilCheck, inert_binOp, inert_unOp, inert_convert, inert_slice, inert_fieldAddr, inert_field, inert_indexAddr, inert_index, inert_extract, inert_builtin, inert_call, inert_alloc, inert_box, inert_store, pickB_bv, loadI_ep, loadI_ptr, nilI_ptr, nilI_ep, unI_not, extrI_tup, pureC_ok, callI_fn, read_load, read_alloc, read_box, read_store, read_call, loadR_ptr, boxR_cells, loud_load, loud_store, loud_alloc, loud_box, loud_call, loadL_ptr, boxL_cells, storeL_ptr, boxS_cells, boxN_eq, callL_fn, put, drop, takes, restrict, ev, lk, params, annF, bodyF, aggF, sizeF, elemF, fieldF, partF, List.zipIdx, List.zipIdx_cons, List.zipIdx_nil, List.map, List.map_cons, List.map_nil, Option.getD_some, Nat.reduceLT, Nat.reduceAdd, Nat.reduceEqDiff, Nat.reduceMul, Int.reduceEq, decide_true, decide_false, Bool.false_eq_true, Bool.and_true, Bool.false_and, Bool.and_false, Bool.true_and, Bool.and_self, if_true, if_false, reduceIte, List.contains_nil, List.contains_cons, beq_self_eq_true, Nat.reduceBEq, Bool.or_false, Bool.false_or, Bool.or_true, Bool.true_or, Bool.not_true, Bool.not_false, ofVal_iv, ofVal_bv, dn_iv, ow_iv, dn_bv, ow_bv, dn_fn, dn_ptr, dn_ep, dn_agg, dn_tup, dn_nilsl, dn_own, dn_sh, dn_ex, ow_ptr, ow_ep, ow_agg, ow_tup, ow_nilsl, ow_own, ow_sh, ow_ex, maxRef_iv, maxRef_bv, maxRef_agg, maxRef_tup, maxRefs_nil, maxRefs_cons, Nat.max_self, Nat.zero_le, List.cons_append, List.nil_append, List.append_nil, pBuiltin, tys1, Option.bind_some, Option.map_some, resultOf, List.getElem?_cons_zero, List.getElem?_cons_succ, cells_agg, cells_iv, solid_iv, solid_agg, List.length_cons, List.length_nil, Nat.zero_add, List.take_zero, List.take_nil, add_iv, sub_iv, mul_iv, lss_iv, leq_iv, gtr_iv, geq_iv, eql_iv, neq_iv, arr2, List.set_cons_zero, List.set_cons_succ, List.take_succ_cons, List.drop_succ_cons, List.drop_zero, List.take_length, or_true, true_or, and_true, true_and, and_self, Nat.reduceLeDiff, eq_self, Try.f9, len_pvL, dn_pvL, ow_pvL]
  generalize hL : ploopC _ _ _ _ _ = L
  obtain ⟨r, hr, hJ⟩ : ∃ r, L = some r ∧ ∃ v4 v6 v7 v8, r = (.exit 0, ⟨[(0, pvL f l), (2, iv 0), (3, iv (szs 0 l)), (4, v4), (6, v6), (7, v7), (8, v8)], []⟩) := by
    rw [← hL]
    refine ploopC_rel (fun i s => ∃ v4 v8, s = ⟨[(0, pvL f l), (2, iv 0), (3, iv (szs 0 (l.take i))), (4, v4), (6, iv l.length), (7, iv i), (8, v8)], []⟩) _ l.length ⟨_, _, rfl⟩ ?_ ?_ hk
    · rintro i s hi ⟨v4, v8, rfl⟩
      have ht : l[i]? = some l[i] := List.getElem?_eq_getElem hi
      have hlt : (i : Int) < l.length := by omega
      have hW := W_succ (n := i) (by omega)
      simp only [pcS_seq, pcS_region, pcS_block, pcS_cond, pcS_loop, pcS_exit, pcS_ret, pcS_skip, popsL_nil, popsL_cons, pop_plain, pop_guard, wantS_eq, wantD_some, wantV_t, wantV_f, wantV_tup, guardP_true, guardP_false, bindS_normal, bindS_exit, bindS_ret, blockS_normal, blockS_exit, blockS_ret, bindP_some, doneR_some, condS_true, condS_false, pickI_some, pickI_none, pickR_some, pickR_none, pickL_some, endS_normal, endS_ret, setS_some, resV_none, resV_one, dstOk, doesTake, inert_move, inert_assign, inert_pick, inert_build, inert_buildSlice, inert_load, inert_nilCheck, inert_binOp, inert_unOp, inert_convert, inert_slice, inert_fieldAddr, inert_field, inert_indexAddr, inert_index, inert_extract, inert_builtin, inert_call, inert_alloc, inert_box, inert_store, pickB_bv, loadI_ep, loadI_ptr, nilI_ptr, nilI_ep, unI_not, extrI_tup, pureC_ok, callI_fn, read_load, read_alloc, read_box, read_store, read_call, loadR_ptr, boxR_cells, loud_load, loud_store, loud_alloc, loud_box, loud_call, loadL_ptr, boxL_cells, storeL_ptr, boxS_cells, boxN_eq, callL_fn, put, drop, takes, restrict, ev, lk, params, annF, bodyF, aggF, sizeF, elemF, fieldF, partF, List.zipIdx, List.zipIdx_cons, List.zipIdx_nil, List.map, List.map_cons, List.map_nil, Option.getD_some, Nat.reduceLT, Nat.reduceAdd, Nat.reduceEqDiff, Nat.reduceMul, Int.reduceEq, decide_true, decide_false, Bool.false_eq_true, Bool.and_true, Bool.false_and, Bool.and_false, Bool.true_and, Bool.and_self, if_true, if_false, reduceIte, List.contains_nil, List.contains_cons, beq_self_eq_true, Nat.reduceBEq, Bool.or_false, Bool.false_or, Bool.or_true, Bool.true_or, Bool.not_true, Bool.not_false, ofVal_iv, ofVal_bv, dn_iv, ow_iv, dn_bv, ow_bv, dn_fn, dn_ptr, dn_ep, dn_agg, dn_tup, dn_nilsl, dn_own, dn_sh, dn_ex, ow_ptr, ow_ep, ow_agg, ow_tup, ow_nilsl, ow_own, ow_sh, ow_ex, maxRef_iv, maxRef_bv, maxRef_agg, maxRef_tup, maxRefs_nil, maxRefs_cons, Nat.max_self, Nat.zero_le, List.cons_append, List.nil_append, List.append_nil, pBuiltin, tys1, Option.bind_some, Option.map_some, resultOf, List.getElem?_cons_zero, List.getElem?_cons_succ, cells_agg, cells_iv, solid_iv, solid_agg, List.length_cons, List.length_nil, Nat.zero_add, List.take_zero, List.take_nil, add_iv, sub_iv, mul_iv, lss_iv, leq_iv, gtr_iv, geq_iv, eql_iv, neq_iv, arr2, List.set_cons_zero, List.set_cons_succ, List.take_succ_cons, List.drop_succ_cons, List.drop_zero, List.take_length, or_true, true_or, and_true, true_and, and_self, Nat.reduceLeDiff, eq_self, hlt, idx_pvL f ht, part_pv, pv_dn, pv_ow, pv_maxRef, hone i _ ht, hW, dn_pvL, ow_pvL, ← szs_take ht]
      exact ⟨_, rfl, _, _, rfl⟩
    · rintro s ⟨v4, v8, rfl⟩
      simp only [pcS_seq, pcS_region, pcS_block, pcS_cond, pcS_loop, pcS_exit, pcS_ret, pcS_skip, popsL_nil, popsL_cons, pop_plain, pop_guard, wantS_eq, wantD_some, wantV_t, wantV_f, wantV_tup, guardP_true, guardP_false, bindS_normal, bindS_exit, bindS_ret, blockS_normal, blockS_exit, blockS_ret, bindP_some, doneR_some, condS_true, condS_false, pickI_some, pickI_none, pickR_some, pickR_none, pickL_some, endS_normal, endS_ret, setS_some, resV_none, resV_one, dstOk, doesTake, inert_move, inert_assign, inert_pick, inert_build, inert_buildSlice, inert_load, inert_nilCheck, inert_binOp, inert_unOp, inert_convert, inert_slice, inert_fieldAddr, inert_field, inert_indexAddr, inert_index, inert_extract, inert_builtin, inert_call, inert_alloc, inert_box, inert_store, pickB_bv, loadI_ep, loadI_ptr, nilI_ptr, nilI_ep, unI_not, extrI_tup, pureC_ok, callI_fn, read_load, read_alloc, read_box, read_store, read_call, loadR_ptr, boxR_cells, loud_load, loud_store, loud_alloc, loud_box, loud_call, loadL_ptr, boxL_cells, storeL_ptr, boxS_cells, boxN_eq, callL_fn, put, drop, takes, restrict, ev, lk, params, annF, bodyF, aggF, sizeF, elemF, fieldF, partF, List.zipIdx, List.zipIdx_cons, List.zipIdx_nil, List.map, List.map_cons, List.map_nil, Option.getD_some, Nat.reduceLT, Nat.reduceAdd, Nat.reduceEqDiff, Nat.reduceMul, Int.reduceEq, decide_true, decide_false, Bool.false_eq_true, Bool.and_true, Bool.false_and, Bool.and_false, Bool.true_and, Bool.and_self, if_true, if_false, reduceIte, List.contains_nil, List.contains_cons, beq_self_eq_true, Nat.reduceBEq, Bool.or_false, Bool.false_or, Bool.or_true, Bool.true_or, Bool.not_true, Bool.not_false, ofVal_iv, ofVal_bv, dn_iv, ow_iv, dn_bv, ow_bv, dn_fn, dn_ptr, dn_ep, dn_agg, dn_tup, dn_nilsl, dn_own, dn_sh, dn_ex, ow_ptr, ow_ep, ow_agg, ow_tup, ow_nilsl, ow_own, ow_sh, ow_ex, maxRef_iv, maxRef_bv, maxRef_agg, maxRef_tup, maxRefs_nil, maxRefs_cons, Nat.max_self, Nat.zero_le, List.cons_append, List.nil_append, List.append_nil, pBuiltin, tys1, Option.bind_some, Option.map_some, resultOf, List.getElem?_cons_zero, List.getElem?_cons_succ, cells_agg, cells_iv, solid_iv, solid_agg, List.length_cons, List.length_nil, Nat.zero_add, List.take_zero, List.take_nil, add_iv, sub_iv, mul_iv, lss_iv, leq_iv, gtr_iv, geq_iv, eql_iv, neq_iv, arr2, List.set_cons_zero, List.set_cons_succ, List.take_succ_cons, List.drop_succ_cons, List.drop_zero, List.take_length, or_true, true_or, and_true, true_and, and_self, Nat.reduceLeDiff, eq_self, Int.lt_irrefl, List.take_length]
      exact ⟨_, rfl, by simp, _, _, _, _, rfl⟩
  obtain ⟨v4, v6, v7, v8, rfl⟩ := hJ
  subst hr
  simp only [pcS_seq, pcS_region, pcS_block, pcS_cond, pcS_loop, pcS_exit, pcS_ret, pcS_skip, popsL_nil, popsL_cons, pop_plain, pop_guard, wantS_eq, wantD_some, wantV_t, wantV_f, wantV_tup, guardP_true, guardP_false, bindS_normal, bindS_exit, bindS_ret, blockS_normal, blockS_exit, blockS_ret, bindP_some, doneR_some, condS_true, condS_false, pickI_some, pickI_none, pickR_some, pickR_none, pickL_some, endS_normal, endS_ret, setS_some, resV_none, resV_one, dstOk, doesTake, inert_move, inert_assign, inert_pick, inert_build, inert_buildSlice, inert_load, inert_nilCheck, inert_binOp, inert_unOp, inert_convert, inert_slice, inert_fieldAddr, inert_field, inert_indexAddr, inert_index, inert_extract, inert_builtin, inert_call, inert_alloc, inert_box, inert_store, pickB_bv, loadI_ep, loadI_ptr, nilI_ptr, nilI_ep, unI_not, extrI_tup, pureC_ok, callI_fn, read_load, read_alloc, read_box, read_store, read_call, loadR_ptr, boxR_cells, loud_load, loud_store, loud_alloc, loud_box, loud_call, loadL_ptr, boxL_cells, storeL_ptr, boxS_cells, boxN_eq, callL_fn, put, drop, takes, restrict, ev, lk, params, annF, bodyF, aggF, sizeF, elemF, fieldF, partF, List.zipIdx, List.zipIdx_cons, List.zipIdx_nil, List.map, List.map_cons, List.map_nil, Option.getD_some, Nat.reduceLT, Nat.reduceAdd, Nat.reduceEqDiff, Nat.reduceMul, Int.reduceEq, decide_true, decide_false, Bool.false_eq_true, Bool.and_true, Bool.false_and, Bool.and_false, Bool.true_and, Bool.and_self, if_true, if_false, reduceIte, List.contains_nil, List.contains_cons, beq_self_eq_true, Nat.reduceBEq, Bool.or_false, Bool.false_or, Bool.or_true, Bool.true_or, Bool.not_true, Bool.not_false, ofVal_iv, ofVal_bv, dn_iv, ow_iv, dn_bv, ow_bv, dn_fn, dn_ptr, dn_ep, dn_agg, dn_tup, dn_nilsl, dn_own, dn_sh, dn_ex, ow_ptr, ow_ep, ow_agg, ow_tup, ow_nilsl, ow_own, ow_sh, ow_ex, maxRef_iv, maxRef_bv, maxRef_agg, maxRef_tup, maxRefs_nil, maxRefs_cons, Nat.max_self, Nat.zero_le, List.cons_append, List.nil_append, List.append_nil, pBuiltin, tys1, Option.bind_some, Option.map_some, resultOf, List.getElem?_cons_zero, List.getElem?_cons_succ, cells_agg, cells_iv, solid_iv, solid_agg, List.length_cons, List.length_nil, Nat.zero_add, List.take_zero, List.take_nil, add_iv, sub_iv, mul_iv, lss_iv, leq_iv, gtr_iv, geq_iv, eql_iv, neq_iv, arr2, List.set_cons_zero, List.set_cons_succ, List.take_succ_cons, List.drop_succ_cons, List.drop_zero, List.take_length, or_true, true_or, and_true, true_and, and_self, Nat.reduceLeDiff, eq_self, List.length_nil, List.take_nil]

end Go.Proofs.Ytfmelnhlljgooaa.PE
