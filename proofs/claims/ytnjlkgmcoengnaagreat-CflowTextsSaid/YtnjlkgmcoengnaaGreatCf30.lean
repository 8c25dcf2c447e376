/-
  CflowTexts, part 30: the law answers true. Condition: the number is an integer of 64 bits.
-/
import Derived.Test.YtnjlkgmcoengnaaGreatCf29
set_option linter.unusedSimpArgs false
set_option linter.unusedVariables false
set_option maxRecDepth 20000
set_option maxHeartbeats 8000000
namespace Go.Proofs.YtnjlkgmcoengnaaGreat.PE
open Go

theorem texts_long (k : Nat) (s : ByteArray) (n : Int) (hs : ¬ s.size ≤ 100) : pcall Tryz.prog ann noSums (k + 500) 3 [.s (.string s), iv n] [] = some (bv true, []) := by
  have c0 : ∀ k, _ := fun k => shown_ok k
  have h1 : (100 : Int) < s.size := by omega
  simp (maxSteps := 2000000) only [pcS_seqN, pcS_region, dynR_noN, unBox_false, unBox_true, doesBox, loud_make, inert_make, read_make, read_slice, loud_append, loud_copy, loud_clear, readCls_load, readCls_slice, loudCls_store, loudCls_alloc, loudCls_box, loudCls_call, atR_ptr, atS_ptr, Option.map_none, setS_frz, pcS_blockN, pcS_condN, pcS_loopN, pcS_exitN, pcS_retN, pcS_skipN, popsL_nilN, popsL_cons, pop_plain, pop_guard, wantS_eq, wantD_some, wantV_t, wantV_f, wantV_tup, guardP_true, guardP_false, bindS_normalN, bindS_exitN, bindS_retN, blockS_normalN, blockS_exitN, blockS_retN, bindP_someN, doneR_someN, condS_trueN, condS_falseN, pickI_someN, pickI_none, pickR_someN, pickR_none, pickL_someN, endS_normalN, endS_retN, setS_some, resV_none, resV_one, dstOk, doesTake, inert_move, inert_assign, inert_pick, inert_build, inert_buildSlice, inert_load, inert_nilCheck, inert_binOp, inert_unOp, inert_convert, inert_slice, inert_fieldAddr, inert_field, inert_indexAddr, inert_index, inert_extract, inert_builtin, inert_call, inert_alloc, inert_box, inert_store, pickB_bv, loadI_ep, loadI_ptr, nilI_ptr, nilI_ep, unI_not, extrI_tup, pureC_ok, callI_fn, read_load, read_alloc, read_box, read_store, read_call, loadR_ptr, boxR_cells, loud_load, loud_store, loud_alloc, loud_box, loud_call, loadL_ptr, boxL_cells, storeL_ptr, boxS_cells, boxN_eq, callL_fn, put, drop, takes, restrict, ev, lk, params, annF, bodyF, aggF, sizeF, elemF, fieldF, partF, List.zipIdx, List.zipIdx_cons, List.zipIdx_nil, List.map, List.map_cons, List.map_nil, Option.getD_some, Nat.reduceLT, Nat.reduceAdd, Nat.reduceEqDiff, Nat.reduceMul, Int.reduceEq, decide_true, decide_false, Bool.false_eq_true, Bool.and_true, Bool.false_and, Bool.and_false, Bool.true_and, Bool.and_self, if_true, if_false, reduceIte, List.contains_nil, List.contains_cons, beq_self_eq_true, Nat.reduceBEq, Bool.or_false, Bool.false_or, Bool.or_true, Bool.true_or, Bool.not_true, Bool.not_false, ofVal_iv, ofVal_bv, dn_iv, ow_iv, dn_bv, ow_bv, dn_fn, dn_ptr, dn_ep, dn_agg, dn_tup, dn_nilsl, dn_own, dn_sh, dn_ex, ow_ptr, ow_ep, ow_agg, ow_tup, ow_nilsl, ow_own, ow_sh, ow_ex, maxRef_iv, maxRef_bv, maxRef_agg, maxRef_tup, maxRefs_nil, maxRefs_cons, Nat.max_self, Nat.zero_le, List.cons_append, List.nil_append, List.append_nil, pBuiltin, tys1, Option.bind_some, Option.map_some, resultOf, List.getElem?_cons_zero, List.getElem?_cons_succ, cells_agg, cells_iv, solid_iv, solid_agg, List.length_cons, List.length_nil, Nat.zero_add, List.take_zero, List.take_nil, add_iv, sub_iv, mul_iv, lss_iv, leq_iv, gtr_iv, geq_iv, eql_iv, neq_iv, arr2, List.set_cons_zero, List.set_cons_succ, List.take_succ_cons, List.drop_succ_cons, List.drop_zero, List.take_length, or_true, true_or, and_true, true_and, and_self, Nat.reduceLeDiff, eq_self, maxRef_sl, maxRef_nil, dn_slsh, dn_vs, ow_vs, solid_sl, cells_sl, solid_nil, cells_nil, dn_olds, ow_olds, maxRef_olds, dn_memV, ow_memV, maxRef_memV, solid_memV, cells_memV, eqs_ok, neqs_ok, sameS_nn, sameS_nc, sameS_cn, sameS_cc, UInt8.reduceToNat, str_dn, str_ow, str_solid, str_cells, str_maxRef, str_ofVal, fn_dn, fn_ow, fn_solid, fn_cells, W_lit, resV_two, resM_cons, resM_nil, consR_some, Int.reduceLE, Int.reduceLT, Int.reduceAdd, Int.reduceSub, Int.reduceMul, len25, len55, castN, solid_bv, cells_bv, dynR_yes, popsK_nil, popsK_cons, bindK_some, consK_some, doneK_if, call3, Tryz.f3, c0, len9, h1]

theorem texts_short (k : Nat) (s : ByteArray) (n : Int) (hs : s.size ≤ 100) (hn : inI64 n) : pcall Tryz.prog ann noSums (k + 500) 3 [.s (.string s), iv n] [] = some (bv true, []) := by
  have c0 : ∀ k, _ := fun k => shown_ok k
  have h1 : ¬ (100 : Int) < s.size := by omega
  obtain ⟨B, wl, hB, f0⟩ := fresh_ok 0
  have c1 : ∀ k, pcall Tryz.prog ann noSums (k + 301) 5 [] [] = some (vmV wl B [] 1368, []) := fun k => pcall_mono (by omega) f0
  have hB0 := hB.1
  have l1 := put1_len B 171 256 hB0 (by omega)
  have c2 : ∀ k, pcall Tryz.prog ann noSums (k + 302) 6 [vmV wl B [] 1368, iv 256] [] = some (.tup [vmV wl (put1 B 171 256) (log1 [] B 171) 1376, iv 0], []) := fun k => lay_x k wl B [] (by simp) 171 256 hB0 (by omega)
  obtain ⟨O2, hO2, g3⟩ := str_ok 0 wl (put1 B 171 256) (log1 [] B 171) (by rw [log1_len]; simp) 172 s hs l1 (by omega)
  rw [log1_len] at hO2
  have hL2 := memT_len B s hs hB0
  have hp := pad_eq s.size
  have c3 : ∀ k, pcall Tryz.prog ann noSums (k + 306) 7 [vmV wl (put1 B 171 256) (log1 [] B 171) 1376, .s (.string s)] [] = some (.tup [vmV wl (memT B s) O2 (8 * (174 + (s.size + 7) / 8)), iv 0], []) := fun k => by
    rw [← hp]
    exact pcall_mono (by omega) g3
  have hLaid := laid_all B s n hs hB hn
  have hM : memL B s n = put1 (put1 (put1 (put1 (memT B s) (174 + (s.size + 7) / 8) 904) (174 + (s.size + 7) / 8 + 1) 40) (174 + (s.size + 7) / 8 + 2) n) (174 + (s.size + 7) / 8 + 3) 32 := rfl
  have hq : 174 + (s.size + 7) / 8 ≤ 190 := by omega
  rw [hM] at hLaid
  generalize 174 + (s.size + 7) / 8 = q at *
  generalize memT B s = M2 at *
  have hO2' : O2.length ≤ 6 := by simp at hO2; omega
  have k1 := put1_len M2 q 904 hL2 (by omega)
  have k2 := put1_len _ (q + 1) 40 k1 (by omega)
  have k3 := put1_len _ (q + 2) n k2 (by omega)
  have c4 : ∀ k, _ := fun k => lay_x k wl M2 O2 (by omega) q 904 hL2 (by omega)
  have c5 : ∀ k, _ := fun k => lit_ok k wl (put1 M2 q 904) (log1 O2 M2 q) (by rw [log1_len]; omega) (q + 1) n k1 (by omega)
  have c6 : ∀ k, _ := fun k => lay_x k wl (put1 (put1 (put1 M2 q 904) (q + 1) 40) (q + 2) n) (log1 (log1 (log1 O2 M2 q) (put1 M2 q 904) (q + 1)) (put1 (put1 M2 q 904) (q + 1) 40) (q + 2)) (by rw [log1_len, log1_len, log1_len]; omega) (q + 3) 32 k3 (by omega)
  generalize hO6 : log1 (log1 (log1 (log1 O2 M2 q) (put1 M2 q 904) (q + 1)) (put1 (put1 M2 q 904) (q + 1) 40) (q + 2)) (put1 (put1 (put1 M2 q 904) (q + 1) 40) (q + 2) n) (q + 3) = O6 at c6
  obtain ⟨p, O7, hp7⟩ : ∃ p O7, O6 = p :: O7 := by
    cases O6 with
    | nil =>
      have := congrArg List.length hO6
      rw [log1_len] at this
      simp at this
    | cons p O7 => exact ⟨p, O7, rfl⟩
  have c7 : ∀ k, _ := fun k => run_ok k _ p O7 wl ((8 * (q + 3 + 1) : Nat) : Int) s n hLaid
  rw [hp7] at c6
  have ho : olds (p :: O7) = .sl .sh 2 ((p :: O7).map pch) := rfl
  have o := outOf_is (nats s)
  have d1 := o.dn
  have d2 := o.ow
  have d3 := o.mr
  have d4 : (outOf (nats s)).solid = true := by rcases o with e | e <;> rw [e] <;> rfl
  have d5 : (outOf (nats s)).cells = [outOf (nats s)] := by rcases o with e | e <;> rw [e] <;> rfl
  have d6 := conv_out s
  have d7 := fun x y => eqs_self x y s
  generalize outOf (nats s) = V at *
  clear hLaid hO6 hO2 g3 f0 hp hL2
  simp only [vmV, vmC, rmC, olds_nil, castN, ho] at c1 c2 c3 c4 c5 c6 c7
  generalize (p :: O7).map pch = mo at c6 c7
  generalize log1 (log1 (log1 O2 M2 q) (put1 M2 q 904) (q + 1)) (put1 (put1 M2 q 904) (q + 1) 40) (q + 2) = O5 at c5 c6
  generalize log1 O2 M2 q = O4 at c4 c5
  generalize log1 [] B 171 = O1 at c2 c3
  generalize bs (put1 (put1 (put1 (put1 M2 q 904) (q + 1) 40) (q + 2) n) (q + 3) 32) = m6 at c6 c7
  have e3 : q + 1 + 1 = q + 2 := rfl
  have e4 : q + 1 + 2 = q + 3 := rfl
  rw [e3, e4] at c5
  generalize bs (put1 (put1 (put1 M2 q 904) (q + 1) 40) (q + 2) n) = m5 at c5 c6
  generalize bs (put1 M2 q 904) = m4 at c4 c5
  generalize bs M2 = m3 at c3 c4
  generalize bs (put1 B 171 256) = m2 at c2 c3
  generalize bs B = m1 at c1 c2
  generalize 8 * (q + 3 + 1) = q4 at c6 c7
  generalize 8 * (q + 3) = q3 at c5 c6
  generalize 8 * (q + 1) = q1 at c4 c5
  generalize 8 * q = q0 at c3 c4
  have w44 : W (50 - 6) = 44 := rfl
  simp (maxSteps := 2000000) only [pcS_seqN, pcS_region, dynR_noN, unBox_false, unBox_true, doesBox, loud_make, inert_make, read_make, read_slice, loud_append, loud_copy, loud_clear, readCls_load, readCls_slice, loudCls_store, loudCls_alloc, loudCls_box, loudCls_call, atR_ptr, atS_ptr, Option.map_none, setS_frz, pcS_blockN, pcS_condN, pcS_loopN, pcS_exitN, pcS_retN, pcS_skipN, popsL_nilN, popsL_cons, pop_plain, pop_guard, wantS_eq, wantD_some, wantV_t, wantV_f, wantV_tup, guardP_true, guardP_false, bindS_normalN, bindS_exitN, bindS_retN, blockS_normalN, blockS_exitN, blockS_retN, bindP_someN, doneR_someN, condS_trueN, condS_falseN, pickI_someN, pickI_none, pickR_someN, pickR_none, pickL_someN, endS_normalN, endS_retN, setS_some, resV_none, resV_one, dstOk, doesTake, inert_move, inert_assign, inert_pick, inert_build, inert_buildSlice, inert_load, inert_nilCheck, inert_binOp, inert_unOp, inert_convert, inert_slice, inert_fieldAddr, inert_field, inert_indexAddr, inert_index, inert_extract, inert_builtin, inert_call, inert_alloc, inert_box, inert_store, pickB_bv, loadI_ep, loadI_ptr, nilI_ptr, nilI_ep, unI_not, extrI_tup, pureC_ok, callI_fn, read_load, read_alloc, read_box, read_store, read_call, loadR_ptr, boxR_cells, loud_load, loud_store, loud_alloc, loud_box, loud_call, loadL_ptr, boxL_cells, storeL_ptr, boxS_cells, boxN_eq, callL_fn, put, drop, takes, restrict, ev, lk, params, annF, bodyF, aggF, sizeF, elemF, fieldF, partF, List.zipIdx, List.zipIdx_cons, List.zipIdx_nil, List.map, List.map_cons, List.map_nil, Option.getD_some, Nat.reduceLT, Nat.reduceAdd, Nat.reduceEqDiff, Nat.reduceMul, Int.reduceEq, decide_true, decide_false, Bool.false_eq_true, Bool.and_true, Bool.false_and, Bool.and_false, Bool.true_and, Bool.and_self, if_true, if_false, reduceIte, List.contains_nil, List.contains_cons, beq_self_eq_true, Nat.reduceBEq, Bool.or_false, Bool.false_or, Bool.or_true, Bool.true_or, Bool.not_true, Bool.not_false, ofVal_iv, ofVal_bv, dn_iv, ow_iv, dn_bv, ow_bv, dn_fn, dn_ptr, dn_ep, dn_agg, dn_tup, dn_nilsl, dn_own, dn_sh, dn_ex, ow_ptr, ow_ep, ow_agg, ow_tup, ow_nilsl, ow_own, ow_sh, ow_ex, maxRef_iv, maxRef_bv, maxRef_agg, maxRef_tup, maxRefs_nil, maxRefs_cons, Nat.max_self, Nat.zero_le, List.cons_append, List.nil_append, List.append_nil, pBuiltin, tys1, Option.bind_some, Option.map_some, resultOf, List.getElem?_cons_zero, List.getElem?_cons_succ, cells_agg, cells_iv, solid_iv, solid_agg, List.length_cons, List.length_nil, Nat.zero_add, List.take_zero, List.take_nil, add_iv, sub_iv, mul_iv, lss_iv, leq_iv, gtr_iv, geq_iv, eql_iv, neq_iv, arr2, List.set_cons_zero, List.set_cons_succ, List.take_succ_cons, List.drop_succ_cons, List.drop_zero, List.take_length, or_true, true_or, and_true, true_and, and_self, Nat.reduceLeDiff, eq_self, maxRef_sl, maxRef_nil, dn_slsh, dn_vs, ow_vs, solid_sl, cells_sl, solid_nil, cells_nil, dn_olds, ow_olds, maxRef_olds, dn_memV, ow_memV, maxRef_memV, solid_memV, cells_memV, eqs_ok, neqs_ok, sameS_nn, sameS_nc, sameS_cn, sameS_cc, UInt8.reduceToNat, str_dn, str_ow, str_solid, str_cells, str_maxRef, str_ofVal, fn_dn, fn_ow, fn_solid, fn_cells, W_lit, resV_two, resM_cons, resM_nil, consR_some, Int.reduceLE, Int.reduceLT, Int.reduceAdd, Int.reduceSub, Int.reduceMul, len25, len55, castN, solid_bv, cells_bv, dynR_yes, popsK_nil, popsK_cons, bindK_some, consK_some, doneK_if, call3, Tryz.f3, c0, c1, c2, c3, c4, c5, c6, c7, len9, h1, d1, d2, d3, d4, d5, d6, d7, xt_type, xt_exit, same11, bslice29, part28', part37, alloc37, z37, ofVal_nil, dn_olds, ow_olds, solid_olds, cells_olds]

theorem texts_ok (s : ByteArray) (n : Int) (hn : inI64 n) : pcall Tryz.prog ann noSums 500 3 [.s (.string s), iv n] [] = some (bv true, []) := by
  by_cases hs : s.size ≤ 100
  · exact texts_short 0 s n hs hn
  · exact texts_long 0 s n hs

end Go.Proofs.YtnjlkgmcoengnaaGreat.PE
