/-
  The walk of the law GenTells.
-/
import Derived.Test.YtfmelnhlljgooaaGen19
set_option linter.unusedSimpArgs false
set_option linter.unusedVariables false
namespace Go.Proofs.Ytfmelnhlljgooaa.PE
open Go

mutual
theorem sz_wt : ∀ t : T, t.sz ≤ t.wt
  | .mk k n fa A fb B => by
    have h1 := szn_wts A
    have h2 := szn_wts B
    simp only [T.sz, T.wt]
    repeat' split
    all_goals omega
theorem szn_wts : ∀ l : List T, szn l + 2 ≤ wts l
  | [] => by simp [szn, wts]
  | t :: r => by
    have h1 := sz_wt t
    have h2 := szn_wts r
    simp only [szn, wts]
    omega
end

theorem shown_ok (k : Nat) (hk : 300 ≤ k) : pcall Try.prog ann noSums k 6 [] [] = some (bv true, []) :=
  pcall_mono hk (by kernel_rfl)

theorem same_code (l : List Int) (k : Nat) (hk : l.length + 2 ≤ k) (hb : l.length < 2 ^ 61) : pcall Try.prog ann noSums k 11 [(outV l).dn, (outV l).dn] [] = some (bv true, []) := by
  obtain ⟨k, rfl⟩ : ∃ j, k = j + 1 := ⟨k - 1, by omega⟩
  have h := ints_dn (outV_ints l)
  exact same_ok k _ _ l h h (ints_ow_dn _) (ints_ow_dn _) (by omega) hb

theorem tells_ok (f : E) (l : List T) (at0 self : Int) (ha : W at0 = at0) (hb : wts l < 2 ^ 40) :
    pcall Try.prog ann noSums (wts l + 401) 3 [pvL f l, iv at0, iv self] [] = some (bv true, []) := by
  have hsz := szn_wts l
  have h1 := shown_ok (wts l + 400) (by omega)
  have h2 := few_tree f l (by omega) (wts l + 400) (by omega)
  have h3 := mayAll_tree f l (by omega) (wts l + 400) (by omega)
  refine go3 rfl ?_
  cases hf : few l with
  | false =>
    rw [hf] at h2
    simp only [pcS_seq, pcS_region, pcS_block, pcS_cond, pcS_loop, pcS_exit, pcS_ret, pcS_skip, popsL_nil, popsL_cons, pop_plain, pop_guard, wantS_eq, wantD_some, wantV_t, wantV_f, wantV_tup, guardP_true, guardP_false, bindS_normal, bindS_exit, bindS_ret, blockS_normal, blockS_exit, blockS_ret, bindP_some, doneR_some, condS_true, condS_false, pickI_some, pickI_none, pickR_some, pickR_none, pickL_some, endS_normal, endS_ret, setS_some, resV_none, resV_one, dstOk, doesTake, inert_move, inert_assign, inert_pick, inert_build, inert_buildSlice, inert_load, inert_nilCheck, inert_binOp, inert_unOp, inert_convert, inert_slice, inert_fieldAddr, inert_field, inert_indexAddr, inert_index, inert_extract, inert_builtin, inert_call, inert_alloc, inert_box, inert_store, pickB_bv, loadI_ep, loadI_ptr, nilI_ptr, nilI_ep, unI_not, extrI_tup, pureC_ok, callI_fn, read_load, read_alloc, read_box, read_store, read_call, loadR_ptr, boxR_cells, loud_load, loud_store, loud_alloc, loud_box, loud_call, loadL_ptr, boxL_cells, storeL_ptr, boxS_cells, boxN_eq, callL_fn, put, drop, takes, restrict, ev, lk, params, annF, bodyF, aggF, sizeF, elemF, fieldF, partF, List.zipIdx, List.zipIdx_cons, List.zipIdx_nil, List.map, List.map_cons, List.map_nil, Option.getD_some, Nat.reduceLT, Nat.reduceAdd, Nat.reduceEqDiff, Nat.reduceMul, Int.reduceEq, decide_true, decide_false, Bool.false_eq_true, Bool.and_true, Bool.false_and, Bool.and_false, Bool.true_and, Bool.and_self, if_true, if_false, reduceIte, List.contains_nil, List.contains_cons, beq_self_eq_true, Nat.reduceBEq, Bool.or_false, Bool.false_or, Bool.or_true, Bool.true_or, Bool.not_true, Bool.not_false, ofVal_iv, ofVal_bv, dn_iv, ow_iv, dn_bv, ow_bv, dn_fn, dn_ptr, dn_ep, dn_agg, dn_tup, dn_nilsl, dn_own, dn_sh, dn_ex, ow_ptr, ow_ep, ow_agg, ow_tup, ow_nilsl, ow_own, ow_sh, ow_ex, maxRef_iv, maxRef_bv, maxRef_agg, maxRef_tup, maxRefs_nil, maxRefs_cons, Nat.max_self, Nat.zero_le, List.cons_append, List.nil_append, List.append_nil, pBuiltin, tys1, Option.bind_some, Option.map_some, resultOf, List.getElem?_cons_zero, List.getElem?_cons_succ, cells_agg, cells_iv, solid_iv, solid_agg, List.length_cons, List.length_nil, Nat.zero_add, List.take_zero, List.take_nil, add_iv, sub_iv, mul_iv, lss_iv, leq_iv, gtr_iv, geq_iv, eql_iv, neq_iv, arr2, List.set_cons_zero, List.set_cons_succ, List.take_succ_cons, List.drop_succ_cons, List.drop_zero, List.take_length, or_true, true_or, and_true, true_and, and_self, Nat.reduceLeDiff, eq_self, Try.f3, h1, h2, dn_pvL, ow_pvL, maxRef_pvL]
  | true =>
    rw [hf] at h2
    cases hm : mays l 0 0 with
    | false =>
      rw [hm] at h3
      simp only [pcS_seq, pcS_region, pcS_block, pcS_cond, pcS_loop, pcS_exit, pcS_ret, pcS_skip, popsL_nil, popsL_cons, pop_plain, pop_guard, wantS_eq, wantD_some, wantV_t, wantV_f, wantV_tup, guardP_true, guardP_false, bindS_normal, bindS_exit, bindS_ret, blockS_normal, blockS_exit, blockS_ret, bindP_some, doneR_some, condS_true, condS_false, pickI_some, pickI_none, pickR_some, pickR_none, pickL_some, endS_normal, endS_ret, setS_some, resV_none, resV_one, dstOk, doesTake, inert_move, inert_assign, inert_pick, inert_build, inert_buildSlice, inert_load, inert_nilCheck, inert_binOp, inert_unOp, inert_convert, inert_slice, inert_fieldAddr, inert_field, inert_indexAddr, inert_index, inert_extract, inert_builtin, inert_call, inert_alloc, inert_box, inert_store, pickB_bv, loadI_ep, loadI_ptr, nilI_ptr, nilI_ep, unI_not, extrI_tup, pureC_ok, callI_fn, read_load, read_alloc, read_box, read_store, read_call, loadR_ptr, boxR_cells, loud_load, loud_store, loud_alloc, loud_box, loud_call, loadL_ptr, boxL_cells, storeL_ptr, boxS_cells, boxN_eq, callL_fn, put, drop, takes, restrict, ev, lk, params, annF, bodyF, aggF, sizeF, elemF, fieldF, partF, List.zipIdx, List.zipIdx_cons, List.zipIdx_nil, List.map, List.map_cons, List.map_nil, Option.getD_some, Nat.reduceLT, Nat.reduceAdd, Nat.reduceEqDiff, Nat.reduceMul, Int.reduceEq, decide_true, decide_false, Bool.false_eq_true, Bool.and_true, Bool.false_and, Bool.and_false, Bool.true_and, Bool.and_self, if_true, if_false, reduceIte, List.contains_nil, List.contains_cons, beq_self_eq_true, Nat.reduceBEq, Bool.or_false, Bool.false_or, Bool.or_true, Bool.true_or, Bool.not_true, Bool.not_false, ofVal_iv, ofVal_bv, dn_iv, ow_iv, dn_bv, ow_bv, dn_fn, dn_ptr, dn_ep, dn_agg, dn_tup, dn_nilsl, dn_own, dn_sh, dn_ex, ow_ptr, ow_ep, ow_agg, ow_tup, ow_nilsl, ow_own, ow_sh, ow_ex, maxRef_iv, maxRef_bv, maxRef_agg, maxRef_tup, maxRefs_nil, maxRefs_cons, Nat.max_self, Nat.zero_le, List.cons_append, List.nil_append, List.append_nil, pBuiltin, tys1, Option.bind_some, Option.map_some, resultOf, List.getElem?_cons_zero, List.getElem?_cons_succ, cells_agg, cells_iv, solid_iv, solid_agg, List.length_cons, List.length_nil, Nat.zero_add, List.take_zero, List.take_nil, add_iv, sub_iv, mul_iv, lss_iv, leq_iv, gtr_iv, geq_iv, eql_iv, neq_iv, arr2, List.set_cons_zero, List.set_cons_succ, List.take_succ_cons, List.drop_succ_cons, List.drop_zero, List.take_length, or_true, true_or, and_true, true_and, and_self, Nat.reduceLeDiff, eq_self, Try.f3, h1, h2, h3, dn_pvL, ow_pvL, maxRef_pvL]
    | true =>
      rw [hm] at h3
      have hg := mays_good hm
      have h4 := size_tree f l (by omega) (wts l + 400) (by omega)
      have h5 := rsize_tree f l (by omega) (wts l + 400) (by omega)
      have h6 := code_tree f l _ at0 self hg (by omega) (by omega) (wts l + 400) (by omega)
      have h7 := rcode_tree f l _ at0 self ha hg (by omega) (by omega) (wts l + 400) (by omega)
      rw [szs_eq hg] at h4
      rw [rszs_eq hg] at h5
      have h8 := same_code (code at0 self l) (wts l + 400) (by rw [code_len hg]; omega) (by rw [code_len hg]; omega)
      cases how : (outV (code at0 self l)).isOw
      all_goals simp only [pcS_seq, pcS_region, pcS_block, pcS_cond, pcS_loop, pcS_exit, pcS_ret, pcS_skip, popsL_nil, popsL_cons, pop_plain, pop_guard, wantS_eq, wantD_some, wantV_t, wantV_f, wantV_tup, guardP_true, guardP_false, bindS_normal, bindS_exit, bindS_ret, blockS_normal, blockS_exit, blockS_ret, bindP_some, doneR_some, condS_true, condS_false, pickI_some, pickI_none, pickR_some, pickR_none, pickL_some, endS_normal, endS_ret, setS_some, resV_none, resV_one, dstOk, doesTake, inert_move, inert_assign, inert_pick, inert_build, inert_buildSlice, inert_load, inert_nilCheck, inert_binOp, inert_unOp, inert_convert, inert_slice, inert_fieldAddr, inert_field, inert_indexAddr, inert_index, inert_extract, inert_builtin, inert_call, inert_alloc, inert_box, inert_store, pickB_bv, loadI_ep, loadI_ptr, nilI_ptr, nilI_ep, unI_not, extrI_tup, pureC_ok, callI_fn, read_load, read_alloc, read_box, read_store, read_call, loadR_ptr, boxR_cells, loud_load, loud_store, loud_alloc, loud_box, loud_call, loadL_ptr, boxL_cells, storeL_ptr, boxS_cells, boxN_eq, callL_fn, put, drop, takes, restrict, ev, lk, params, annF, bodyF, aggF, sizeF, elemF, fieldF, partF, List.zipIdx, List.zipIdx_cons, List.zipIdx_nil, List.map, List.map_cons, List.map_nil, Option.getD_some, Nat.reduceLT, Nat.reduceAdd, Nat.reduceEqDiff, Nat.reduceMul, Int.reduceEq, decide_true, decide_false, Bool.false_eq_true, Bool.and_true, Bool.false_and, Bool.and_false, Bool.true_and, Bool.and_self, if_true, if_false, reduceIte, List.contains_nil, List.contains_cons, beq_self_eq_true, Nat.reduceBEq, Bool.or_false, Bool.false_or, Bool.or_true, Bool.true_or, Bool.not_true, Bool.not_false, ofVal_iv, ofVal_bv, dn_iv, ow_iv, dn_bv, ow_bv, dn_fn, dn_ptr, dn_ep, dn_agg, dn_tup, dn_nilsl, dn_own, dn_sh, dn_ex, ow_ptr, ow_ep, ow_agg, ow_tup, ow_nilsl, ow_own, ow_sh, ow_ex, maxRef_iv, maxRef_bv, maxRef_agg, maxRef_tup, maxRefs_nil, maxRefs_cons, Nat.max_self, Nat.zero_le, List.cons_append, List.nil_append, List.append_nil, pBuiltin, tys1, Option.bind_some, Option.map_some, resultOf, List.getElem?_cons_zero, List.getElem?_cons_succ, cells_agg, cells_iv, solid_iv, solid_agg, List.length_cons, List.length_nil, Nat.zero_add, List.take_zero, List.take_nil, add_iv, sub_iv, mul_iv, lss_iv, leq_iv, gtr_iv, geq_iv, eql_iv, neq_iv, arr2, List.set_cons_zero, List.set_cons_succ, List.take_succ_cons, List.drop_succ_cons, List.drop_zero, List.take_length, or_true, true_or, and_true, true_and, and_self, Nat.reduceLeDiff, eq_self, Try.f3, h1, h2, h3, h4, h5, h6, h7, h8, how, dn_dn, isOw_dn, outV_maxRef, ints_maxRef (ints_dn (outV_ints (code at0 self l))), dn_pvL, ow_pvL, maxRef_pvL]

end Go.Proofs.Ytfmelnhlljgooaa.PE
