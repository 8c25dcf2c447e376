/-
  Rows of numbers that grow; a layer's lay, here and behind.
-/
import Derived.Test.YtfmelnhlljgooaaGen7
set_option linter.unusedSimpArgs false
set_option linter.unusedVariables false
namespace Go.Proofs.Ytfmelnhlljgooaa.PE
open Go

/-- A row of numbers in one's own hands: nil, where there is none yet. -/
def outV (l : List Int) : PV :=
  match l with
  | [] => .nilsl
  | x :: r => .sl .ow 1 ((x :: r).map iv)

theorem outV_nil : outV [] = .nilsl := rfl
theorem outV_ne {l : List Int} (h : l ≠ []) : outV l = .sl .ow 1 (l.map iv) := by
  cases l with
  | nil => exact absurd rfl h
  | cons x r => rfl
theorem outV_ints (l : List Int) : Ints (outV l) l := by
  cases l with
  | nil => exact .nil
  | cons x r => exact .mk .ow (x :: r)
theorem outV_maxRef (l : List Int) : (outV l).maxRef = 0 := ints_maxRef (outV_ints l)
theorem outV_solid (l : List Int) : (outV l).solid = true := by cases l <;> rfl
theorem outV_cells (l : List Int) : (outV l).cells = [outV l] := by cases l <;> rfl

theorem room27 {n : Nat} (h : n < 2 ^ 43) : roomOk Try.prog 3 n = true := by
  have h0 : (Try.prog.info? 3).map (·.bytes) = some 8 := by kernel_rfl
  obtain ⟨i, h1, h2⟩ := Option.map_eq_some_iff.1 h0
  unfold roomOk
  rw [h1]
  simp only [h2, maxLen, decide_eq_true_eq]
  omega

theorem zero27 : zeroOk Try.prog 3 1 = true := by kernel_rfl

theorem news27 (t : Tag) (m : List Int) : newsOf Try.prog 27 27 3 1 (.sl t 1 (m.map iv)) = some (m.map iv) := by
  simp [newsOf]

/-- Numbers behind a row in one's own hands. -/
theorem app_out (l m : List Int) (t : Tag) (hm : m ≠ []) (hb : l.length + m.length < 2 ^ 43) : pAppend Try.prog 27 27 (outV l) (.sl t 1 (m.map iv)) = some (outV (l ++ m)) := by
  cases m with
  | nil => exact absurd rfl hm
  | cons x r =>
    unfold pAppend
    simp only [elemF, sizeF, news27]
    simp only [List.map_cons]
    cases l with
    | nil =>
      simp only [outV_nil, List.nil_append]
      rw [room27 (by simp at hb ⊢; omega), zero27]
      simp [outV]
    | cons y s =>
      simp only [outV_ne (List.cons_ne_nil y s)]
      rw [room27 (by simp at hb ⊢; omega), zero27]
      simp [outV]

/-- The same behind a row of just so many. -/
theorem app_ex (l m : List Int) (t : Tag) (hm : m ≠ []) (hb : l.length + m.length < 2 ^ 43) : pAppend Try.prog 27 27 (.sl .ex 1 (l.map iv)) (.sl t 1 (m.map iv)) = some (.sl .ow 1 ((l ++ m).map iv)) := by
  cases m with
  | nil => exact absurd rfl hm
  | cons x r =>
    unfold pAppend
    simp only [elemF, sizeF, news27]
    simp only [List.map_cons]
    rw [room27 (by simp at hb ⊢; omega), zero27]
    simp

theorem app_ow (l m : List Int) (t : Tag) (hm : m ≠ []) (hb : l.length + m.length < 2 ^ 43) : pAppend Try.prog 27 27 (.sl .ow 1 (l.map iv)) (.sl t 1 (m.map iv)) = some (.sl .ow 1 ((l ++ m).map iv)) := by
  cases m with
  | nil => exact absurd rfl hm
  | cons x r =>
    unfold pAppend
    simp only [elemF, sizeF, news27]
    simp only [List.map_cons]
    rw [room27 (by simp at hb ⊢; omega), zero27]
    simp

/-- Nothing behind a row. -/
theorem app_nil (t : Tag) (l : List Int) : pAppend Try.prog 27 27 (.sl t 1 (l.map iv)) .nilsl = some (.sl t 1 (l.map iv)) := by
  unfold pAppend
  simp [elemF, sizeF, newsOf]

theorem slice1 (a : Int) : pBuildSlice Try.prog 27 1 [(0, iv a)] = some (.sl .ex 1 ([a].map iv)) := by kernel_rfl
theorem slice2 (a b : Int) : pBuildSlice Try.prog 27 2 [(0, iv a), (1, iv b)] = some (.sl .ex 1 ([a, b].map iv)) := by kernel_rfl
theorem slice3 (a b c : Int) : pBuildSlice Try.prog 27 3 [(0, iv a), (1, iv b), (2, iv c)] = some (.sl .ex 1 ([a, b, c].map iv)) := by kernel_rfl

/-- A layer, as PE has it. -/
def lyr (at0 self fin : Int) (out : List Int) : PBox := .cells [iv at0, iv self, iv fin, outV out]

def hereOf (at0 : Int) (out : List Int) : Int := W (at0 + W (8 * (out.length : Int)))

theorem here_ok (k : Nat) (at0 self fin : Int) (out : List Int) (rest : Store) :
    pcall Try.prog ann noSums (k + 1) 34 [.ptr 0 0] (lyr at0 self fin out :: rest) = some (iv (hereOf at0 out), lyr at0 self fin out :: rest) := by
  refine go34 rfl ?_
  simp only [pcS_seq, pcS_region, pcS_block, pcS_cond, pcS_loop, pcS_exit, pcS_ret, pcS_skip, popsL_nil, popsL_cons, pop_plain, pop_guard, wantS_eq, wantD_some, wantV_t, wantV_f, wantV_tup, guardP_true, guardP_false, bindS_normal, bindS_exit, bindS_ret, blockS_normal, blockS_exit, blockS_ret, bindP_some, doneR_some, condS_true, condS_false, pickI_some, pickI_none, pickR_some, pickR_none, pickL_some, endS_normal, endS_ret, setS_some, resV_none, resV_one, dstOk, doesTake, inert_move, inert_assign, inert_pick, inert_build, inert_buildSlice, inert_load, inert_nilCheck, inert_binOp, inert_unOp, inert_convert, inert_slice, inert_fieldAddr, inert_field, inert_indexAddr, inert_index, inert_extract, inert_builtin, inert_call, inert_alloc, inert_box, inert_store, pickB_bv, loadI_ep, loadI_ptr, nilI_ptr, nilI_ep, unI_not, extrI_tup, pureC_ok, callI_fn, read_load, read_alloc, read_box, read_store, read_call, loadR_ptr, boxR_cells, loud_load, loud_store, loud_alloc, loud_box, loud_call, loadL_ptr, boxL_cells, storeL_ptr, boxS_cells, boxN_eq, callL_fn, put, drop, takes, restrict, ev, lk, params, annF, bodyF, aggF, sizeF, elemF, fieldF, partF, List.zipIdx, List.zipIdx_cons, List.zipIdx_nil, List.map, List.map_cons, List.map_nil, Option.getD_some, Nat.reduceLT, Nat.reduceAdd, Nat.reduceEqDiff, Nat.reduceMul, Int.reduceEq, decide_true, decide_false, Bool.false_eq_true, Bool.and_true, Bool.false_and, Bool.and_false, Bool.true_and, Bool.and_self, if_true, if_false, reduceIte, List.contains_nil, List.contains_cons, beq_self_eq_true, Nat.reduceBEq, Bool.or_false, Bool.false_or, Bool.or_true, Bool.true_or, Bool.not_true, Bool.not_false, ofVal_iv, ofVal_bv, dn_iv, ow_iv, dn_bv, ow_bv, dn_fn, dn_ptr, dn_ep, dn_agg, dn_tup, dn_nilsl, dn_own, dn_sh, dn_ex, ow_ptr, ow_ep, ow_agg, ow_tup, ow_nilsl, ow_own, ow_sh, ow_ex, maxRef_iv, maxRef_bv, maxRef_agg, maxRef_tup, maxRefs_nil, maxRefs_cons, Nat.max_self, Nat.zero_le, List.cons_append, List.nil_append, List.append_nil, pBuiltin, tys1, Option.bind_some, Option.map_some, resultOf, List.getElem?_cons_zero, List.getElem?_cons_succ, cells_agg, cells_iv, solid_iv, solid_agg, List.length_cons, List.length_nil, Nat.zero_add, List.take_zero, List.take_nil, add_iv, sub_iv, mul_iv, lss_iv, leq_iv, gtr_iv, geq_iv, eql_iv, neq_iv, arr2, List.set_cons_zero, List.set_cons_succ, List.take_succ_cons, List.drop_succ_cons, List.drop_zero, List.take_length, or_true, true_or, and_true, true_and, and_self, Nat.reduceLeDiff, eq_self, Try.f34, lyr, ints_len (ints_dn (outV_ints out)), dn_dn, hereOf]

theorem behind_ok (k : Nat) (at0 self fin n : Int) (out : List Int) (rest : Store) :
    pcall Try.prog ann noSums (k + 2) 31 [.ptr 0 0, iv n] (lyr at0 self fin out :: rest) = some (iv (W (hereOf at0 out + W (8 * n))), lyr at0 self fin out :: rest) := by
  refine go31 rfl ?_
  simp only [pcS_seq, pcS_region, pcS_block, pcS_cond, pcS_loop, pcS_exit, pcS_ret, pcS_skip, popsL_nil, popsL_cons, pop_plain, pop_guard, wantS_eq, wantD_some, wantV_t, wantV_f, wantV_tup, guardP_true, guardP_false, bindS_normal, bindS_exit, bindS_ret, blockS_normal, blockS_exit, blockS_ret, bindP_some, doneR_some, condS_true, condS_false, pickI_some, pickI_none, pickR_some, pickR_none, pickL_some, endS_normal, endS_ret, setS_some, resV_none, resV_one, dstOk, doesTake, inert_move, inert_assign, inert_pick, inert_build, inert_buildSlice, inert_load, inert_nilCheck, inert_binOp, inert_unOp, inert_convert, inert_slice, inert_fieldAddr, inert_field, inert_indexAddr, inert_index, inert_extract, inert_builtin, inert_call, inert_alloc, inert_box, inert_store, pickB_bv, loadI_ep, loadI_ptr, nilI_ptr, nilI_ep, unI_not, extrI_tup, pureC_ok, callI_fn, read_load, read_alloc, read_box, read_store, read_call, loadR_ptr, boxR_cells, loud_load, loud_store, loud_alloc, loud_box, loud_call, loadL_ptr, boxL_cells, storeL_ptr, boxS_cells, boxN_eq, callL_fn, put, drop, takes, restrict, ev, lk, params, annF, bodyF, aggF, sizeF, elemF, fieldF, partF, List.zipIdx, List.zipIdx_cons, List.zipIdx_nil, List.map, List.map_cons, List.map_nil, Option.getD_some, Nat.reduceLT, Nat.reduceAdd, Nat.reduceEqDiff, Nat.reduceMul, Int.reduceEq, decide_true, decide_false, Bool.false_eq_true, Bool.and_true, Bool.false_and, Bool.and_false, Bool.true_and, Bool.and_self, if_true, if_false, reduceIte, List.contains_nil, List.contains_cons, beq_self_eq_true, Nat.reduceBEq, Bool.or_false, Bool.false_or, Bool.or_true, Bool.true_or, Bool.not_true, Bool.not_false, ofVal_iv, ofVal_bv, dn_iv, ow_iv, dn_bv, ow_bv, dn_fn, dn_ptr, dn_ep, dn_agg, dn_tup, dn_nilsl, dn_own, dn_sh, dn_ex, ow_ptr, ow_ep, ow_agg, ow_tup, ow_nilsl, ow_own, ow_sh, ow_ex, maxRef_iv, maxRef_bv, maxRef_agg, maxRef_tup, maxRefs_nil, maxRefs_cons, Nat.max_self, Nat.zero_le, List.cons_append, List.nil_append, List.append_nil, pBuiltin, tys1, Option.bind_some, Option.map_some, resultOf, List.getElem?_cons_zero, List.getElem?_cons_succ, cells_agg, cells_iv, solid_iv, solid_agg, List.length_cons, List.length_nil, Nat.zero_add, List.take_zero, List.take_nil, add_iv, sub_iv, mul_iv, lss_iv, leq_iv, gtr_iv, geq_iv, eql_iv, neq_iv, arr2, List.set_cons_zero, List.set_cons_succ, List.take_succ_cons, List.drop_succ_cons, List.drop_zero, List.take_length, or_true, true_or, and_true, true_and, and_self, Nat.reduceLeDiff, eq_self, Try.f31, here_ok]

theorem lay_ok (k : Nat) (at0 self fin : Int) (out m : List Int) (t : Tag) (rest : Store) (ht : t ≠ .ow) (hm : m ≠ []) (hb : out.length + m.length < 2 ^ 43) :
    pcall Try.prog ann noSums (k + 1) 22 [.ptr 0 0, .sl t 1 (m.map iv)] (lyr at0 self fin out :: rest) = some (.tup [], lyr at0 self fin (out ++ m) :: rest) := by
  refine go22 rfl ?_
  have hd : (PV.sl t 1 (m.map iv)).dn = .sl t 1 (m.map iv) := by cases t <;> first | rfl | exact absurd rfl ht
  simp only [pcS_seq, pcS_region, pcS_block, pcS_cond, pcS_loop, pcS_exit, pcS_ret, pcS_skip, popsL_nil, popsL_cons, pop_plain, pop_guard, wantS_eq, wantD_some, wantV_t, wantV_f, wantV_tup, guardP_true, guardP_false, bindS_normal, bindS_exit, bindS_ret, blockS_normal, blockS_exit, blockS_ret, bindP_some, doneR_some, condS_true, condS_false, pickI_some, pickI_none, pickR_some, pickR_none, pickL_some, endS_normal, endS_ret, setS_some, resV_none, resV_one, dstOk, doesTake, inert_move, inert_assign, inert_pick, inert_build, inert_buildSlice, inert_load, inert_nilCheck, inert_binOp, inert_unOp, inert_convert, inert_slice, inert_fieldAddr, inert_field, inert_indexAddr, inert_index, inert_extract, inert_builtin, inert_call, inert_alloc, inert_box, inert_store, pickB_bv, loadI_ep, loadI_ptr, nilI_ptr, nilI_ep, unI_not, extrI_tup, pureC_ok, callI_fn, read_load, read_alloc, read_box, read_store, read_call, loadR_ptr, boxR_cells, loud_load, loud_store, loud_alloc, loud_box, loud_call, loadL_ptr, boxL_cells, storeL_ptr, boxS_cells, boxN_eq, callL_fn, put, drop, takes, restrict, ev, lk, params, annF, bodyF, aggF, sizeF, elemF, fieldF, partF, List.zipIdx, List.zipIdx_cons, List.zipIdx_nil, List.map, List.map_cons, List.map_nil, Option.getD_some, Nat.reduceLT, Nat.reduceAdd, Nat.reduceEqDiff, Nat.reduceMul, Int.reduceEq, decide_true, decide_false, Bool.false_eq_true, Bool.and_true, Bool.false_and, Bool.and_false, Bool.true_and, Bool.and_self, if_true, if_false, reduceIte, List.contains_nil, List.contains_cons, beq_self_eq_true, Nat.reduceBEq, Bool.or_false, Bool.false_or, Bool.or_true, Bool.true_or, Bool.not_true, Bool.not_false, ofVal_iv, ofVal_bv, dn_iv, ow_iv, dn_bv, ow_bv, dn_fn, dn_ptr, dn_ep, dn_agg, dn_tup, dn_nilsl, dn_own, dn_sh, dn_ex, ow_ptr, ow_ep, ow_agg, ow_tup, ow_nilsl, ow_own, ow_sh, ow_ex, maxRef_iv, maxRef_bv, maxRef_agg, maxRef_tup, maxRefs_nil, maxRefs_cons, Nat.max_self, Nat.zero_le, List.cons_append, List.nil_append, List.append_nil, pBuiltin, tys1, Option.bind_some, Option.map_some, resultOf, List.getElem?_cons_zero, List.getElem?_cons_succ, cells_agg, cells_iv, solid_iv, solid_agg, List.length_cons, List.length_nil, Nat.zero_add, List.take_zero, List.take_nil, add_iv, sub_iv, mul_iv, lss_iv, leq_iv, gtr_iv, geq_iv, eql_iv, neq_iv, arr2, List.set_cons_zero, List.set_cons_succ, List.take_succ_cons, List.drop_succ_cons, List.drop_zero, List.take_length, or_true, true_or, and_true, true_and, and_self, Nat.reduceLeDiff, eq_self, Try.f22, lyr, hd, app_out _ _ _ hm hb, outV_solid, outV_cells, outV_maxRef]
  cases how : (outV out).isOw with
  | true => simp only [pcS_seq, pcS_region, pcS_block, pcS_cond, pcS_loop, pcS_exit, pcS_ret, pcS_skip, popsL_nil, popsL_cons, pop_plain, pop_guard, wantS_eq, wantD_some, wantV_t, wantV_f, wantV_tup, guardP_true, guardP_false, bindS_normal, bindS_exit, bindS_ret, blockS_normal, blockS_exit, blockS_ret, bindP_some, doneR_some, condS_true, condS_false, pickI_some, pickI_none, pickR_some, pickR_none, pickL_some, endS_normal, endS_ret, setS_some, resV_none, resV_one, dstOk, doesTake, inert_move, inert_assign, inert_pick, inert_build, inert_buildSlice, inert_load, inert_nilCheck, inert_binOp, inert_unOp, inert_convert, inert_slice, inert_fieldAddr, inert_field, inert_indexAddr, inert_index, inert_extract, inert_builtin, inert_call, inert_alloc, inert_box, inert_store, pickB_bv, loadI_ep, loadI_ptr, nilI_ptr, nilI_ep, unI_not, extrI_tup, pureC_ok, callI_fn, read_load, read_alloc, read_box, read_store, read_call, loadR_ptr, boxR_cells, loud_load, loud_store, loud_alloc, loud_box, loud_call, loadL_ptr, boxL_cells, storeL_ptr, boxS_cells, boxN_eq, callL_fn, put, drop, takes, restrict, ev, lk, params, annF, bodyF, aggF, sizeF, elemF, fieldF, partF, List.zipIdx, List.zipIdx_cons, List.zipIdx_nil, List.map, List.map_cons, List.map_nil, Option.getD_some, Nat.reduceLT, Nat.reduceAdd, Nat.reduceEqDiff, Nat.reduceMul, Int.reduceEq, decide_true, decide_false, Bool.false_eq_true, Bool.and_true, Bool.false_and, Bool.and_false, Bool.true_and, Bool.and_self, if_true, if_false, reduceIte, List.contains_nil, List.contains_cons, beq_self_eq_true, Nat.reduceBEq, Bool.or_false, Bool.false_or, Bool.or_true, Bool.true_or, Bool.not_true, Bool.not_false, ofVal_iv, ofVal_bv, dn_iv, ow_iv, dn_bv, ow_bv, dn_fn, dn_ptr, dn_ep, dn_agg, dn_tup, dn_nilsl, dn_own, dn_sh, dn_ex, ow_ptr, ow_ep, ow_agg, ow_tup, ow_nilsl, ow_own, ow_sh, ow_ex, maxRef_iv, maxRef_bv, maxRef_agg, maxRef_tup, maxRefs_nil, maxRefs_cons, Nat.max_self, Nat.zero_le, List.cons_append, List.nil_append, List.append_nil, pBuiltin, tys1, Option.bind_some, Option.map_some, resultOf, List.getElem?_cons_zero, List.getElem?_cons_succ, cells_agg, cells_iv, solid_iv, solid_agg, List.length_cons, List.length_nil, Nat.zero_add, List.take_zero, List.take_nil, add_iv, sub_iv, mul_iv, lss_iv, leq_iv, gtr_iv, geq_iv, eql_iv, neq_iv, arr2, List.set_cons_zero, List.set_cons_succ, List.take_succ_cons, List.drop_succ_cons, List.drop_zero, List.take_length, or_true, true_or, and_true, true_and, and_self, Nat.reduceLeDiff, eq_self, how, hd, outV_solid, outV_cells, outV_maxRef]
  | false => simp only [pcS_seq, pcS_region, pcS_block, pcS_cond, pcS_loop, pcS_exit, pcS_ret, pcS_skip, popsL_nil, popsL_cons, pop_plain, pop_guard, wantS_eq, wantD_some, wantV_t, wantV_f, wantV_tup, guardP_true, guardP_false, bindS_normal, bindS_exit, bindS_ret, blockS_normal, blockS_exit, blockS_ret, bindP_some, doneR_some, condS_true, condS_false, pickI_some, pickI_none, pickR_some, pickR_none, pickL_some, endS_normal, endS_ret, setS_some, resV_none, resV_one, dstOk, doesTake, inert_move, inert_assign, inert_pick, inert_build, inert_buildSlice, inert_load, inert_nilCheck, inert_binOp, inert_unOp, inert_convert, inert_slice, inert_fieldAddr, inert_field, inert_indexAddr, inert_index, inert_extract, inert_builtin, inert_call, inert_alloc, inert_box, inert_store, pickB_bv, loadI_ep, loadI_ptr, nilI_ptr, nilI_ep, unI_not, extrI_tup, pureC_ok, callI_fn, read_load, read_alloc, read_box, read_store, read_call, loadR_ptr, boxR_cells, loud_load, loud_store, loud_alloc, loud_box, loud_call, loadL_ptr, boxL_cells, storeL_ptr, boxS_cells, boxN_eq, callL_fn, put, drop, takes, restrict, ev, lk, params, annF, bodyF, aggF, sizeF, elemF, fieldF, partF, List.zipIdx, List.zipIdx_cons, List.zipIdx_nil, List.map, List.map_cons, List.map_nil, Option.getD_some, Nat.reduceLT, Nat.reduceAdd, Nat.reduceEqDiff, Nat.reduceMul, Int.reduceEq, decide_true, decide_false, Bool.false_eq_true, Bool.and_true, Bool.false_and, Bool.and_false, Bool.true_and, Bool.and_self, if_true, if_false, reduceIte, List.contains_nil, List.contains_cons, beq_self_eq_true, Nat.reduceBEq, Bool.or_false, Bool.false_or, Bool.or_true, Bool.true_or, Bool.not_true, Bool.not_false, ofVal_iv, ofVal_bv, dn_iv, ow_iv, dn_bv, ow_bv, dn_fn, dn_ptr, dn_ep, dn_agg, dn_tup, dn_nilsl, dn_own, dn_sh, dn_ex, ow_ptr, ow_ep, ow_agg, ow_tup, ow_nilsl, ow_own, ow_sh, ow_ex, maxRef_iv, maxRef_bv, maxRef_agg, maxRef_tup, maxRefs_nil, maxRefs_cons, Nat.max_self, Nat.zero_le, List.cons_append, List.nil_append, List.append_nil, pBuiltin, tys1, Option.bind_some, Option.map_some, resultOf, List.getElem?_cons_zero, List.getElem?_cons_succ, cells_agg, cells_iv, solid_iv, solid_agg, List.length_cons, List.length_nil, Nat.zero_add, List.take_zero, List.take_nil, add_iv, sub_iv, mul_iv, lss_iv, leq_iv, gtr_iv, geq_iv, eql_iv, neq_iv, arr2, List.set_cons_zero, List.set_cons_succ, List.take_succ_cons, List.drop_succ_cons, List.drop_zero, List.take_length, or_true, true_or, and_true, true_and, and_self, Nat.reduceLeDiff, eq_self, how, hd, outV_solid, outV_cells, outV_maxRef]

end Go.Proofs.Ytfmelnhlljgooaa.PE
