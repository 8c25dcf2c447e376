/-
  The walk of the document's Code.
-/
import Derived.Test.YtfmelnhlljgooaaGen14
set_option linter.unusedSimpArgs false
set_option linter.unusedVariables false
namespace Go.Proofs.Ytfmelnhlljgooaa.PE
open Go

theorem rcode_step (k : Nat) (hk : 300 ≤ k) (f : E) (l : List T) (pl self : Int) (hb : (rcs self l pl 0 []).length < 2 ^ 42)
    (hrow : pcall Try.prog ann noSums k 24 [pvL f l, iv pl, iv self, iv 0] [] = some (outV (rcs self l pl 0 []), [])) :
    pcall Try.prog ann noSums (k + 1) 13 [pvL f l, iv pl, iv self] [] = some (outV (rcs self l pl 0 [] ++ [32]), []) := by
  have xt := rxtF k hk
  have happ : pAppend Try.prog 27 27 (outV (rcs self l pl 0 [])) (.sl .ex 1 [iv 32]) = some (outV (rcs self l pl 0 [] ++ [32])) := app_out (rcs self l pl 0 []) [32] .ex (by simp) (by simp; omega)
  refine go13 rfl ?_
  generalize rcs self l pl 0 [] = q at hb hrow happ ⊢
  have hq := outV_own (l := q ++ [32]) (by simp)
  cases how : (outV q).isOw with
  | true =>
    simp only [pcS_seq, pcS_region, pcS_block, pcS_cond, pcS_loop, pcS_exit, pcS_ret, pcS_skip, popsL_nil, popsL_cons, pop_plain, pop_guard, wantS_eq, wantD_some, wantV_t, wantV_f, wantV_tup, guardP_true, guardP_false, bindS_normal, bindS_exit, bindS_ret, blockS_normal, blockS_exit, blockS_ret, bindP_some, doneR_some, condS_true, condS_false, pickI_some, pickI_none, pickR_some, pickR_none, pickL_some, endS_normal, endS_ret, setS_some, resV_none, resV_one, dstOk, doesTake, inert_move, inert_assign, inert_pick, inert_build, inert_buildSlice, inert_load, inert_nilCheck, inert_binOp, inert_unOp, inert_convert, inert_slice, inert_fieldAddr, inert_field, inert_indexAddr, inert_index, inert_extract, inert_builtin, inert_call, inert_alloc, inert_box, inert_store, pickB_bv, loadI_ep, loadI_ptr, nilI_ptr, nilI_ep, unI_not, extrI_tup, pureC_ok, callI_fn, read_load, read_alloc, read_box, read_store, read_call, loadR_ptr, boxR_cells, loud_load, loud_store, loud_alloc, loud_box, loud_call, loadL_ptr, boxL_cells, storeL_ptr, boxS_cells, boxN_eq, callL_fn, put, drop, takes, restrict, ev, lk, params, annF, bodyF, aggF, sizeF, elemF, fieldF, partF, List.zipIdx, List.zipIdx_cons, List.zipIdx_nil, List.map, List.map_cons, List.map_nil, Option.getD_some, Nat.reduceLT, Nat.reduceAdd, Nat.reduceEqDiff, Nat.reduceMul, Int.reduceEq, decide_true, decide_false, Bool.false_eq_true, Bool.and_true, Bool.false_and, Bool.and_false, Bool.true_and, Bool.and_self, if_true, if_false, reduceIte, List.contains_nil, List.contains_cons, beq_self_eq_true, Nat.reduceBEq, Bool.or_false, Bool.false_or, Bool.or_true, Bool.true_or, Bool.not_true, Bool.not_false, ofVal_iv, ofVal_bv, dn_iv, ow_iv, dn_bv, ow_bv, dn_fn, dn_ptr, dn_ep, dn_agg, dn_tup, dn_nilsl, dn_own, dn_sh, dn_ex, ow_ptr, ow_ep, ow_agg, ow_tup, ow_nilsl, ow_own, ow_sh, ow_ex, maxRef_iv, maxRef_bv, maxRef_agg, maxRef_tup, maxRefs_nil, maxRefs_cons, Nat.max_self, Nat.zero_le, List.cons_append, List.nil_append, List.append_nil, pBuiltin, tys1, Option.bind_some, Option.map_some, resultOf, List.getElem?_cons_zero, List.getElem?_cons_succ, cells_agg, cells_iv, solid_iv, solid_agg, List.length_cons, List.length_nil, Nat.zero_add, List.take_zero, List.take_nil, add_iv, sub_iv, mul_iv, lss_iv, leq_iv, gtr_iv, geq_iv, eql_iv, neq_iv, arr2, List.set_cons_zero, List.set_cons_succ, List.take_succ_cons, List.drop_succ_cons, List.drop_zero, List.take_length, or_true, true_or, and_true, true_and, and_self, Nat.reduceLeDiff, eq_self, Try.f13, dn_pvL, ow_pvL, maxRef_pvL, ofVal_nilslice, hrow, str_dn, str_ow, str_maxRef, xt, mk1, outV_maxRef, happ, how, hq]
  | false =>
    simp only [pcS_seq, pcS_region, pcS_block, pcS_cond, pcS_loop, pcS_exit, pcS_ret, pcS_skip, popsL_nil, popsL_cons, pop_plain, pop_guard, wantS_eq, wantD_some, wantV_t, wantV_f, wantV_tup, guardP_true, guardP_false, bindS_normal, bindS_exit, bindS_ret, blockS_normal, blockS_exit, blockS_ret, bindP_some, doneR_some, condS_true, condS_false, pickI_some, pickI_none, pickR_some, pickR_none, pickL_some, endS_normal, endS_ret, setS_some, resV_none, resV_one, dstOk, doesTake, inert_move, inert_assign, inert_pick, inert_build, inert_buildSlice, inert_load, inert_nilCheck, inert_binOp, inert_unOp, inert_convert, inert_slice, inert_fieldAddr, inert_field, inert_indexAddr, inert_index, inert_extract, inert_builtin, inert_call, inert_alloc, inert_box, inert_store, pickB_bv, loadI_ep, loadI_ptr, nilI_ptr, nilI_ep, unI_not, extrI_tup, pureC_ok, callI_fn, read_load, read_alloc, read_box, read_store, read_call, loadR_ptr, boxR_cells, loud_load, loud_store, loud_alloc, loud_box, loud_call, loadL_ptr, boxL_cells, storeL_ptr, boxS_cells, boxN_eq, callL_fn, put, drop, takes, restrict, ev, lk, params, annF, bodyF, aggF, sizeF, elemF, fieldF, partF, List.zipIdx, List.zipIdx_cons, List.zipIdx_nil, List.map, List.map_cons, List.map_nil, Option.getD_some, Nat.reduceLT, Nat.reduceAdd, Nat.reduceEqDiff, Nat.reduceMul, Int.reduceEq, decide_true, decide_false, Bool.false_eq_true, Bool.and_true, Bool.false_and, Bool.and_false, Bool.true_and, Bool.and_self, if_true, if_false, reduceIte, List.contains_nil, List.contains_cons, beq_self_eq_true, Nat.reduceBEq, Bool.or_false, Bool.false_or, Bool.or_true, Bool.true_or, Bool.not_true, Bool.not_false, ofVal_iv, ofVal_bv, dn_iv, ow_iv, dn_bv, ow_bv, dn_fn, dn_ptr, dn_ep, dn_agg, dn_tup, dn_nilsl, dn_own, dn_sh, dn_ex, ow_ptr, ow_ep, ow_agg, ow_tup, ow_nilsl, ow_own, ow_sh, ow_ex, maxRef_iv, maxRef_bv, maxRef_agg, maxRef_tup, maxRefs_nil, maxRefs_cons, Nat.max_self, Nat.zero_le, List.cons_append, List.nil_append, List.append_nil, pBuiltin, tys1, Option.bind_some, Option.map_some, resultOf, List.getElem?_cons_zero, List.getElem?_cons_succ, cells_agg, cells_iv, solid_iv, solid_agg, List.length_cons, List.length_nil, Nat.zero_add, List.take_zero, List.take_nil, add_iv, sub_iv, mul_iv, lss_iv, leq_iv, gtr_iv, geq_iv, eql_iv, neq_iv, arr2, List.set_cons_zero, List.set_cons_succ, List.take_succ_cons, List.drop_succ_cons, List.drop_zero, List.take_length, or_true, true_or, and_true, true_and, and_self, Nat.reduceLeDiff, eq_self, Try.f13, dn_pvL, ow_pvL, maxRef_pvL, ofVal_nilslice, hrow, str_dn, str_ow, str_maxRef, xt, mk1, outV_maxRef, happ, how, hq]

/-- A row, whichever it is, behind one of just so many; behind one in one's own hands. -/
theorem app_row_ex (l m : List Int) (hb : l.length + m.length < 2 ^ 43) :
    pAppend Try.prog 27 27 (.sl .ex 1 (l.map iv)) (outV m).dn = some (.sl (if m = [] then .ex else .ow) 1 ((l ++ m).map iv)) := by
  cases m with
  | nil => simp only [outV_nil, dn_nilsl, app_nil, if_true, List.append_nil]
  | cons x r =>
    rw [outV_ne (List.cons_ne_nil x r), dn_own, app_ex l (x :: r) .sh (List.cons_ne_nil x r) hb, if_neg (List.cons_ne_nil x r)]

theorem app_row_ow (l m : List Int) (hb : l.length + m.length < 2 ^ 43) :
    pAppend Try.prog 27 27 (.sl .ow 1 (l.map iv)) (outV m).dn = some (.sl .ow 1 ((l ++ m).map iv)) := by
  cases m with
  | nil => simp only [outV_nil, dn_nilsl, app_nil, List.append_nil]
  | cons x r =>
    rw [outV_ne (List.cons_ne_nil x r), dn_own, app_ow l (x :: r) .sh (List.cons_ne_nil x r) hb]

end Go.Proofs.Ytfmelnhlljgooaa.PE
