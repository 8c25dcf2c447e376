/-
  CflowTexts, part 20: the run. No condition.
-/
import Derived.Test.YtnjlkgmcoengnaaGreatCf19
set_option linter.unusedSimpArgs false
set_option linter.unusedVariables false
set_option maxRecDepth 20000
set_option maxHeartbeats 8000000
namespace Go.Proofs.YtnjlkgmcoengnaaGreat.PE
open Go

/-- What is laid, from the first place on, and the words and kinds that it leans on. -/
structure Laid (B : List Nat) (s : ByteArray) (n : Int) : Prop where
  len : B.length = 2048
  size : s.size ≤ 100
  b0 : cellIs B 0 10
  halt : cellIs B 16 96
  k0 : cellIs B 32 0
  k1 : cellIs B 40 1
  k8 : cellIs B 96 8
  k11 : cellIs B 120 11
  k109 : cellIs B 904 109
  c0 : cellIs B 1368 256
  c1 : cellIs B 1376 120
  c2 : cellIs B 1384 s.size
  txt : (B.drop 1392).take s.size = nats s
  c3 : cellIs B (1392 + 8 * ((s.size + 7) / 8)) 904
  c4 : cellIs B (1392 + 8 * ((s.size + 7) / 8) + 8) 40
  c5 : cellIs B (1392 + 8 * ((s.size + 7) / 8) + 8 + 8) n
  c6 : cellIs B (1392 + 8 * ((s.size + 7) / 8) + 8 + 16) 32

theorem run_ok (k : Nat) (B : List Nat) (p : Nat × List Nat) (O : List (Nat × List Nat)) (wl : List PV) (h : Int) (s : ByteArray) (n : Int) (q : Laid B s n) :
    pcall Tryz.prog ann noSums (k + 311) 10 [.agg (rmC (.sl .sh 1 (bs B)) (.sl .sh 2 ((p :: O).map pch)) (.sl .sh 3 wl) h .nilsl .nilsl .nilsl), iv 1368, iv 50] [] =
      some (.tup [.agg (rmC (.sl .sh 1 (bs B)) (.sl .sh 2 ((p :: O).map pch)) (.sl .sh 3 wl) h (.sl .sh 1 [iv n]) .nilsl (outOf (nats s))), iv 44, iv 0], []) := by
  have c1 := step1 (k + 6) B p O wl h q.len q.c0
  have c2 := step2 k B p O wl h s.size q.size q.len q.c1 q.k11 q.c2
  have hA : 1392 + 8 * ((s.size + 7) / 8) < 1600 := by have := q.size; omega
  have c3 := step3 k B p O wl h (1392 + 8 * ((s.size + 7) / 8)) s q.size (by omega) q.len q.b0 q.c3 q.k109 q.txt
  have o := outOf_is (nats s)
  have c4 := step4 k B p O wl h (outOf (nats s)) (bs (nats s)) o (1392 + 8 * ((s.size + 7) / 8) + 8) n (by omega) q.len q.c4 q.k1 q.c5
  have c5 := step5 k B p O wl h (outOf (nats s)) (bs (nats s)) [iv n] o rfl (1392 + 8 * ((s.size + 7) / 8) + 8 + 16) (by omega) q.len q.c6 q.k0
  have c6 := step6 k B p O wl h (outOf (nats s)) (bs (nats s)) [iv n] o rfl q.len q.halt q.k8
  have d1 := o.dn
  have d2 := o.ow
  have d3 := o.mr
  have d4 : (outOf (nats s)).solid = true := by rcases o with e | e <;> rw [e] <;> rfl
  have d5 : (outOf (nats s)).cells = [outOf (nats s)] := by rcases o with e | e <;> rw [e] <;> rfl
  generalize outOf (nats s) = V at c3 c4 c5 c6 d1 d2 d3 d4 d5
  generalize 1392 + 8 * ((s.size + 7) / 8) + 8 + 16 = A3 at c4 c5
  generalize 1392 + 8 * ((s.size + 7) / 8) + 8 = A2 at c3 c4
  generalize 1392 + 8 * ((s.size + 7) / 8) = A1 at c2 c3
  generalize (p :: O).map pch = mo at c1 c2 c3 c4 c5 c6
  generalize bs B = mb at c1 c2 c3 c4 c5 c6
  simp only [runC] at c1 c2 c3 c4 c5 c6
  simp (maxSteps := 2000000) only [pcS_seq, pcS_region, dynR_no, unBox_false, unBox_true, doesBox, loud_make, inert_make, read_make, read_slice, loud_append, loud_copy, loud_clear, readCls_load, readCls_slice, loudCls_store, loudCls_alloc, loudCls_box, loudCls_call, atR_ptr, atS_ptr, Option.map_none, setS_frz, pcS_block, pcS_cond, pcS_loop, pcS_exit, pcS_ret, pcS_skip, popsL_nil, popsL_cons, pop_plain, pop_guard, wantS_eq, wantD_some, wantV_t, wantV_f, wantV_tup, guardP_true, guardP_false, bindS_normal, bindS_exit, bindS_ret, blockS_normal, blockS_exit, blockS_ret, bindP_some, doneR_some, condS_true, condS_false, pickI_some, pickI_none, pickR_some, pickR_none, pickL_some, endS_normal, endS_ret, setS_some, resV_none, resV_one, dstOk, doesTake, inert_move, inert_assign, inert_pick, inert_build, inert_buildSlice, inert_load, inert_nilCheck, inert_binOp, inert_unOp, inert_convert, inert_slice, inert_fieldAddr, inert_field, inert_indexAddr, inert_index, inert_extract, inert_builtin, inert_call, inert_alloc, inert_box, inert_store, pickB_bv, loadI_ep, loadI_ptr, nilI_ptr, nilI_ep, unI_not, extrI_tup, pureC_ok, callI_fn, read_load, read_alloc, read_box, read_store, read_call, loadR_ptr, boxR_cells, loud_load, loud_store, loud_alloc, loud_box, loud_call, loadL_ptr, boxL_cells, storeL_ptr, boxS_cells, boxN_eq, callL_fn, put, drop, takes, restrict, ev, lk, params, annF, bodyF, aggF, sizeF, elemF, fieldF, partF, List.zipIdx, List.zipIdx_cons, List.zipIdx_nil, List.map, List.map_cons, List.map_nil, Option.getD_some, Nat.reduceLT, Nat.reduceAdd, Nat.reduceEqDiff, Nat.reduceMul, Int.reduceEq, decide_true, decide_false, Bool.false_eq_true, Bool.and_true, Bool.false_and, Bool.and_false, Bool.true_and, Bool.and_self, if_true, if_false, reduceIte, List.contains_nil, List.contains_cons, beq_self_eq_true, Nat.reduceBEq, Bool.or_false, Bool.false_or, Bool.or_true, Bool.true_or, Bool.not_true, Bool.not_false, ofVal_iv, ofVal_bv, dn_iv, ow_iv, dn_bv, ow_bv, dn_fn, dn_ptr, dn_ep, dn_agg, dn_tup, dn_nilsl, dn_own, dn_sh, dn_ex, ow_ptr, ow_ep, ow_agg, ow_tup, ow_nilsl, ow_own, ow_sh, ow_ex, maxRef_iv, maxRef_bv, maxRef_agg, maxRef_tup, maxRefs_nil, maxRefs_cons, Nat.max_self, Nat.zero_le, List.cons_append, List.nil_append, List.append_nil, pBuiltin, tys1, Option.bind_some, Option.map_some, resultOf, List.getElem?_cons_zero, List.getElem?_cons_succ, cells_agg, cells_iv, solid_iv, solid_agg, List.length_cons, List.length_nil, Nat.zero_add, List.take_zero, List.take_nil, add_iv, sub_iv, mul_iv, lss_iv, leq_iv, gtr_iv, geq_iv, eql_iv, neq_iv, arr2, List.set_cons_zero, List.set_cons_succ, List.take_succ_cons, List.drop_succ_cons, List.drop_zero, List.take_length, or_true, true_or, and_true, true_and, and_self, Nat.reduceLeDiff, eq_self, maxRef_sl, maxRef_nil, dn_slsh, dn_vs, ow_vs, solid_sl, cells_sl, solid_nil, cells_nil, dn_olds, ow_olds, maxRef_olds, dn_memV, ow_memV, maxRef_memV, solid_memV, cells_memV, eqs_ok, neqs_ok, sameS_nn, sameS_nc, sameS_cn, sameS_cc, UInt8.reduceToNat, str_dn, str_ow, str_solid, str_cells, str_maxRef, str_ofVal, fn_dn, fn_ow, fn_solid, fn_cells, W_lit, resV_two, resM_cons, resM_nil, consR_some, Int.reduceLE, Int.reduceLT, Int.reduceAdd, Int.reduceSub, Int.reduceMul, len25, len55, castN, solid_bv, cells_bv, dynR_yes, popsK_nil, popsK_cons, bindK_some, consK_some, doneK_if, call10, Tryz.f10, call26, Tryz.f26, rmC, c1, c2, c3, c4, c5, c6, d1, d2, d3, d4, d5, part28', part37, part72, alloc98, alloc72, alloc37, z37, z98, z72, build98, build72, build72', ploopC_succ, loopS_normal, loopS_exit, loopS_ret, ofVal_nil]
  rw [if_pos (by kernel_rfl)]
  simp only [pcS_seq, pcS_region, dynR_no, unBox_false, unBox_true, doesBox, loud_make, inert_make, read_make, read_slice, loud_append, loud_copy, loud_clear, readCls_load, readCls_slice, loudCls_store, loudCls_alloc, loudCls_box, loudCls_call, atR_ptr, atS_ptr, Option.map_none, setS_frz, pcS_block, pcS_cond, pcS_loop, pcS_exit, pcS_ret, pcS_skip, popsL_nil, popsL_cons, pop_plain, pop_guard, wantS_eq, wantD_some, wantV_t, wantV_f, wantV_tup, guardP_true, guardP_false, bindS_normal, bindS_exit, bindS_ret, blockS_normal, blockS_exit, blockS_ret, bindP_some, doneR_some, condS_true, condS_false, pickI_some, pickI_none, pickR_some, pickR_none, pickL_some, endS_normal, endS_ret, setS_some, resV_none, resV_one, dstOk, doesTake, inert_move, inert_assign, inert_pick, inert_build, inert_buildSlice, inert_load, inert_nilCheck, inert_binOp, inert_unOp, inert_convert, inert_slice, inert_fieldAddr, inert_field, inert_indexAddr, inert_index, inert_extract, inert_builtin, inert_call, inert_alloc, inert_box, inert_store, pickB_bv, loadI_ep, loadI_ptr, nilI_ptr, nilI_ep, unI_not, extrI_tup, pureC_ok, callI_fn, read_load, read_alloc, read_box, read_store, read_call, loadR_ptr, boxR_cells, loud_load, loud_store, loud_alloc, loud_box, loud_call, loadL_ptr, boxL_cells, storeL_ptr, boxS_cells, boxN_eq, callL_fn, put, drop, takes, restrict, ev, lk, params, annF, bodyF, aggF, sizeF, elemF, fieldF, partF, List.zipIdx, List.zipIdx_cons, List.zipIdx_nil, List.map, List.map_cons, List.map_nil, Option.getD_some, Nat.reduceLT, Nat.reduceAdd, Nat.reduceEqDiff, Nat.reduceMul, Int.reduceEq, decide_true, decide_false, Bool.false_eq_true, Bool.and_true, Bool.false_and, Bool.and_false, Bool.true_and, Bool.and_self, if_true, if_false, reduceIte, List.contains_nil, List.contains_cons, beq_self_eq_true, Nat.reduceBEq, Bool.or_false, Bool.false_or, Bool.or_true, Bool.true_or, Bool.not_true, Bool.not_false, ofVal_iv, ofVal_bv, dn_iv, ow_iv, dn_bv, ow_bv, dn_fn, dn_ptr, dn_ep, dn_agg, dn_tup, dn_nilsl, dn_own, dn_sh, dn_ex, ow_ptr, ow_ep, ow_agg, ow_tup, ow_nilsl, ow_own, ow_sh, ow_ex, maxRef_iv, maxRef_bv, maxRef_agg, maxRef_tup, maxRefs_nil, maxRefs_cons, Nat.max_self, Nat.zero_le, List.cons_append, List.nil_append, List.append_nil, pBuiltin, tys1, Option.bind_some, Option.map_some, resultOf, List.getElem?_cons_zero, List.getElem?_cons_succ, cells_agg, cells_iv, solid_iv, solid_agg, List.length_cons, List.length_nil, Nat.zero_add, List.take_zero, List.take_nil, add_iv, sub_iv, mul_iv, lss_iv, leq_iv, gtr_iv, geq_iv, eql_iv, neq_iv, arr2, List.set_cons_zero, List.set_cons_succ, List.take_succ_cons, List.drop_succ_cons, List.drop_zero, List.take_length, or_true, true_or, and_true, true_and, and_self, Nat.reduceLeDiff, eq_self, maxRef_sl, maxRef_nil, dn_slsh, dn_vs, ow_vs, solid_sl, cells_sl, solid_nil, cells_nil, dn_olds, ow_olds, maxRef_olds, dn_memV, ow_memV, maxRef_memV, solid_memV, cells_memV, eqs_ok, neqs_ok, sameS_nn, sameS_nc, sameS_cn, sameS_cc, UInt8.reduceToNat, str_dn, str_ow, str_solid, str_cells, str_maxRef, str_ofVal, fn_dn, fn_ow, fn_solid, fn_cells, W_lit, resV_two, resM_cons, resM_nil, consR_some, Int.reduceLE, Int.reduceLT, Int.reduceAdd, Int.reduceSub, Int.reduceMul, len25, len55, castN, solid_bv, cells_bv, part37, d1, d2, d3, loopS_ret]
  done

end Go.Proofs.YtnjlkgmcoengnaaGreat.PE
