/-
  CflowTexts, part 15: a run's second step: a text. No condition.
-/
import Derived.Test.YtnjlkgmcoengnaaGreatCf14
set_option linter.unusedSimpArgs false
set_option linter.unusedVariables false
set_option maxRecDepth 20000
set_option maxHeartbeats 4000000
namespace Go.Proofs.YtnjlkgmcoengnaaGreat.PE
open Go

/-- Is an answer a number, and yes? -/
def chkA (x : Int) : Option (PV × Store) → Bool
  | some (.tup [.s (.int .i64 y), .s (.bool true)], []) => decide (y = x)
  | _ => false
theorem chkA_ok {x : Int} {r : Option (PV × Store)} (h : chkA x r = true) : r = some (.tup [iv x, bv true], []) := by
  unfold chkA at h
  split at h
  · rw [of_decide_eq_true h]; rfl
  · cases h

theorem aligned_all : ((List.range 101).all fun n => chkA ((1392 + 8 * ((n + 7) / 8) : Nat) : Int) (pcall Tryz.prog ann noSums 20 96 [.s (.string ⟨#[65, 76, 73, 71, 78, 69, 68]⟩), iv ((1392 + n : Nat) : Int)] [])) = true := by kernel_rfl
theorem aligned_ok (k n : Nat) (h : n ≤ 100) : pcall Tryz.prog ann noSums (k + 20) 96 [.s (.string ⟨#[65, 76, 73, 71, 78, 69, 68]⟩), iv ((1392 + n : Nat) : Int)] [] = some (.tup [iv ((1392 + 8 * ((n + 7) / 8) : Nat) : Int), bv true], []) :=
  pcall_mono (k := 20) (by omega) (chkA_ok (List.all_eq_true.1 aligned_all n (List.mem_range.2 (by omega))))

section
variable (mb mo wl : List PV) (h : Int) (k : Nat)
theorem push0 (b0 b1 b3 : PBox) (r out : PV) (rl ol : List PV) (hr : r = .sl .sh 1 rl) (ho : out = .nilsl) (ip a w : Int) (dn over : Bool) : pcall Tryz.prog ann noSums (k + 20) 69 [.ptr 2 0, iv a] [b0, b1, wkV mb mo wl h .nilsl r out ip w dn over 0, b3] =
    some (.tup [], [b0, b1, wkV mb mo wl h (.sl .sh 1 [iv a]) r out ip w dn over 0, b3]) := by
  subst hr ho
  exact pcall_mono (k := 20) (by omega) (by kernel_rfl)
theorem push1 (b0 b1 b3 : PBox) (r out : PV) (rl ol : List PV) (hr : r = .sl .sh 1 rl) (ho : out = .nilsl) (ip a b w : Int) (dn over : Bool) : pcall Tryz.prog ann noSums (k + 20) 69 [.ptr 2 0, iv b] [b0, b1, wkV mb mo wl h (.sl .sh 1 [iv a]) r out ip w dn over 0, b3] =
    some (.tup [], [b0, b1, wkV mb mo wl h (.sl .sh 1 [iv a, iv b]) r out ip w dn over 0, b3]) := by
  subst hr ho
  exact pcall_mono (k := 20) (by omega) (by kernel_rfl)
end

/-- A fetch, of a memory by its parts. -/
theorem fetch_x (k : Nat) (B : List Nat) (p : Nat × List Nat) (O : List (Nat × List Nat)) (a : Nat) (n : Int) (hB : B.length = 2048) (h : cellIs B a n) :
    pcall Tryz.prog ann noSums (k + 301) 13 [.agg [.sl .sh 1 (bs B), .sl .sh 2 ((p :: O).map pch)], iv a] [] = some (.tup [iv n, iv 0], []) := fetch_ok k B (p :: O) a n hB h
theorem there_x (k : Nat) (B : List Nat) (p : Nat × List Nat) (O : List (Nat × List Nat)) (a n : Nat) (hB : B.length = 2048) (h : a + n ≤ 2048) :
    pcall Tryz.prog ann noSums (k + 1) 60 [.agg [.sl .sh 1 (bs B), .sl .sh 2 ((p :: O).map pch)], iv a, iv n] [] = some (bv true, []) := there_r k B (p :: O) a n hB h
theorem kind_x (k : Nat) (B : List Nat) (p : Nat × List Nat) (O : List (Nat × List Nat)) (wl : List PV) (h : Int) (d r out : PV) (a n : Nat) (hB : B.length = 2048) (hc : cellIs B a n) (hn : n < 130) (h3 : d.dn = d) (h4 : r.dn = r) (h5 : out.dn = out) :
    pcall Tryz.prog ann noSums (k + 302) 67 [.agg (rmC (.sl .sh 1 (bs B)) (.sl .sh 2 ((p :: O).map pch)) (.sl .sh 3 wl) h d r out), iv a] [] = some (.tup [iv n, iv 0], []) :=
  kind_lo k B (p :: O) (.sl .sh 3 wl) d r out h a n hB hc hn rfl h3 h4 h5

theorem step2 (k : Nat) (B : List Nat) (p : Nat × List Nat) (O : List (Nat × List Nat)) (wl : List PV) (h : Int) (n : Nat) (hn : n ≤ 100) (hB : B.length = 2048) (q1 : cellIs B 1376 120) (q2 : cellIs B 120 11) (q3 : cellIs B 1384 n) :
    pcall Tryz.prog ann noSums (k + 310) 27 [.agg (runC (.sl .sh 1 (bs B)) (.sl .sh 2 ((p :: O).map pch)) (.sl .sh 3 wl) h .nilsl (.sl .sh 1 [iv 16]) .nilsl 1376 0 false 49)] [] =
      some (.tup [.agg (runC (.sl .sh 1 (bs B)) (.sl .sh 2 ((p :: O).map pch)) (.sl .sh 3 wl) h (.sl .sh 1 [iv 1392, iv n]) (.sl .sh 1 [iv 16]) .nilsl ((1392 + 8 * ((n + 7) / 8) : Nat) : Int) 0 false 48), bv false, iv 0], []) := by
  have c1 : ∀ k, pcall Tryz.prog ann noSums (k + 301) 13 [.agg [.sl .sh 1 (bs B), .sl .sh 2 ((p :: O).map pch)], iv 1376] [] = some (.tup [iv 120, iv 0], []) := fun k => fetch_x k B p O 1376 120 hB q1
  have c2 : ∀ k, pcall Tryz.prog ann noSums (k + 301) 13 [.agg [.sl .sh 1 (bs B), .sl .sh 2 ((p :: O).map pch)], iv 1384] [] = some (.tup [iv n, iv 0], []) := fun k => fetch_x k B p O 1384 n hB q3
  have c3 : ∀ k, pcall Tryz.prog ann noSums (k + 302) 67 [.agg (rmC (.sl .sh 1 (bs B)) (.sl .sh 2 ((p :: O).map pch)) (.sl .sh 3 wl) h .nilsl (.sl .sh 1 [iv 16]) .nilsl), iv 120] [] = some (.tup [iv 11, iv 0], []) := fun k => kind_x k B p O wl h _ _ _ 120 11 hB q2 (by omega) rfl rfl rfl
  have c4 : ∀ k, pcall Tryz.prog ann noSums (k + 1) 60 [.agg [.sl .sh 1 (bs B), .sl .sh 2 ((p :: O).map pch)], iv 1392, iv n] [] = some (bv true, []) := fun k => there_x k B p O 1392 n hB (by omega)
  have c5 : ∀ k, pcall Tryz.prog ann noSums (k + 20) 96 [.s (.string ⟨#[65, 76, 73, 71, 78, 69, 68]⟩), iv (1392 + (n : Int))] [] = some (.tup [iv ((1392 + 8 * ((n + 7) / 8) : Nat) : Int), bv true], []) := fun k => by
    have := aligned_ok k n hn
    rwa [Int.natCast_add] at this
  have w1 : W (1392 + (n : Int)) = 1392 + (n : Int) := by
    have := W_nat (n := 1392 + n) (by omega)
    rwa [Int.natCast_add] at this
  have c6 := fun k b0 b1 b3 ip a w dn over => push0 (bs B) ((p :: O).map pch) wl h k b0 b1 b3 (.sl .sh 1 [iv 16]) .nilsl [iv 16] [] rfl rfl ip a w dn over
  have c7 := fun k b0 b1 b3 ip a b w dn over => push1 (bs B) ((p :: O).map pch) wl h k b0 b1 b3 (.sl .sh 1 [iv 16]) .nilsl [iv 16] [] rfl rfl ip a b w dn over
  have w2 : W (1376 + 8) = 1384 := rfl
  have w3 : W (1384 + 8) = 1392 := rfl
  have w4 : W (49 - 1) = 48 := rfl
  generalize (p :: O).map pch = mo at c1 c2 c3 c4 c6 c7
  generalize ((1392 + 8 * ((n + 7) / 8) : Nat) : Int) = A at c5
  simp only [rmC, wkV, workC] at c3 c6 c7
  simp (maxSteps := 2000000) only [pcS_seq, pcS_region, dynR_no, unBox_false, unBox_true, doesBox, loud_make, inert_make, read_make, read_slice, loud_append, loud_copy, loud_clear, readCls_load, readCls_slice, loudCls_store, loudCls_alloc, loudCls_box, loudCls_call, atR_ptr, atS_ptr, Option.map_none, setS_frz, pcS_block, pcS_cond, pcS_loop, pcS_exit, pcS_ret, pcS_skip, popsL_nil, popsL_cons, pop_plain, pop_guard, wantS_eq, wantD_some, wantV_t, wantV_f, wantV_tup, guardP_true, guardP_false, bindS_normal, bindS_exit, bindS_ret, blockS_normal, blockS_exit, blockS_ret, bindP_some, doneR_some, condS_true, condS_false, pickI_some, pickI_none, pickR_some, pickR_none, pickL_some, endS_normal, endS_ret, setS_some, resV_none, resV_one, dstOk, doesTake, inert_move, inert_assign, inert_pick, inert_build, inert_buildSlice, inert_load, inert_nilCheck, inert_binOp, inert_unOp, inert_convert, inert_slice, inert_fieldAddr, inert_field, inert_indexAddr, inert_index, inert_extract, inert_builtin, inert_call, inert_alloc, inert_box, inert_store, pickB_bv, loadI_ep, loadI_ptr, nilI_ptr, nilI_ep, unI_not, extrI_tup, pureC_ok, callI_fn, read_load, read_alloc, read_box, read_store, read_call, loadR_ptr, boxR_cells, loud_load, loud_store, loud_alloc, loud_box, loud_call, loadL_ptr, boxL_cells, storeL_ptr, boxS_cells, boxN_eq, callL_fn, put, drop, takes, restrict, ev, lk, params, annF, bodyF, aggF, sizeF, elemF, fieldF, partF, List.zipIdx, List.zipIdx_cons, List.zipIdx_nil, List.map, List.map_cons, List.map_nil, Option.getD_some, Nat.reduceLT, Nat.reduceAdd, Nat.reduceEqDiff, Nat.reduceMul, Int.reduceEq, decide_true, decide_false, Bool.false_eq_true, Bool.and_true, Bool.false_and, Bool.and_false, Bool.true_and, Bool.and_self, if_true, if_false, reduceIte, List.contains_nil, List.contains_cons, beq_self_eq_true, Nat.reduceBEq, Bool.or_false, Bool.false_or, Bool.or_true, Bool.true_or, Bool.not_true, Bool.not_false, ofVal_iv, ofVal_bv, dn_iv, ow_iv, dn_bv, ow_bv, dn_fn, dn_ptr, dn_ep, dn_agg, dn_tup, dn_nilsl, dn_own, dn_sh, dn_ex, ow_ptr, ow_ep, ow_agg, ow_tup, ow_nilsl, ow_own, ow_sh, ow_ex, maxRef_iv, maxRef_bv, maxRef_agg, maxRef_tup, maxRefs_nil, maxRefs_cons, Nat.max_self, Nat.zero_le, List.cons_append, List.nil_append, List.append_nil, pBuiltin, tys1, Option.bind_some, Option.map_some, resultOf, List.getElem?_cons_zero, List.getElem?_cons_succ, cells_agg, cells_iv, solid_iv, solid_agg, List.length_cons, List.length_nil, Nat.zero_add, List.take_zero, List.take_nil, add_iv, sub_iv, mul_iv, lss_iv, leq_iv, gtr_iv, geq_iv, eql_iv, neq_iv, arr2, List.set_cons_zero, List.set_cons_succ, List.take_succ_cons, List.drop_succ_cons, List.drop_zero, List.take_length, or_true, true_or, and_true, true_and, and_self, Nat.reduceLeDiff, eq_self, maxRef_sl, maxRef_nil, dn_slsh, dn_vs, ow_vs, solid_sl, cells_sl, solid_nil, cells_nil, dn_olds, ow_olds, maxRef_olds, dn_memV, ow_memV, maxRef_memV, solid_memV, cells_memV, eqs_ok, neqs_ok, sameS_nn, sameS_nc, sameS_cn, sameS_cc, UInt8.reduceToNat, str_dn, str_ow, str_solid, str_cells, str_maxRef, str_ofVal, fn_dn, fn_ow, fn_solid, fn_cells, W_lit, resV_two, resM_cons, resM_nil, consR_some, Int.reduceLE, Int.reduceLT, Int.reduceAdd, Int.reduceSub, Int.reduceMul, len25, len55, castN, solid_bv, cells_bv, dynR_yes, popsK_nil, popsK_cons, bindK_some, consK_some, doneK_if, call27, Tryz.f27, call45, Tryz.f45, call44, Tryz.f44, call66, Tryz.f66, call72, Tryz.f72, c1, c2, c3, c4, c5, c6, c7, w1, w2, w3, w4, nm11, names36, runC, part28', part37, part72, alloc98, alloc72, z98, z72, build98, build72, build72']
  rw [if_pos (by kernel_rfl)]
  simp only [pcS_seq, pcS_region, dynR_no, unBox_false, unBox_true, doesBox, loud_make, inert_make, read_make, read_slice, loud_append, loud_copy, loud_clear, readCls_load, readCls_slice, loudCls_store, loudCls_alloc, loudCls_box, loudCls_call, atR_ptr, atS_ptr, Option.map_none, setS_frz, pcS_block, pcS_cond, pcS_loop, pcS_exit, pcS_ret, pcS_skip, popsL_nil, popsL_cons, pop_plain, pop_guard, wantS_eq, wantD_some, wantV_t, wantV_f, wantV_tup, guardP_true, guardP_false, bindS_normal, bindS_exit, bindS_ret, blockS_normal, blockS_exit, blockS_ret, bindP_some, doneR_some, condS_true, condS_false, pickI_some, pickI_none, pickR_some, pickR_none, pickL_some, endS_normal, endS_ret, setS_some, resV_none, resV_one, dstOk, doesTake, inert_move, inert_assign, inert_pick, inert_build, inert_buildSlice, inert_load, inert_nilCheck, inert_binOp, inert_unOp, inert_convert, inert_slice, inert_fieldAddr, inert_field, inert_indexAddr, inert_index, inert_extract, inert_builtin, inert_call, inert_alloc, inert_box, inert_store, pickB_bv, loadI_ep, loadI_ptr, nilI_ptr, nilI_ep, unI_not, extrI_tup, pureC_ok, callI_fn, read_load, read_alloc, read_box, read_store, read_call, loadR_ptr, boxR_cells, loud_load, loud_store, loud_alloc, loud_box, loud_call, loadL_ptr, boxL_cells, storeL_ptr, boxS_cells, boxN_eq, callL_fn, put, drop, takes, restrict, ev, lk, params, annF, bodyF, aggF, sizeF, elemF, fieldF, partF, List.zipIdx, List.zipIdx_cons, List.zipIdx_nil, List.map, List.map_cons, List.map_nil, Option.getD_some, Nat.reduceLT, Nat.reduceAdd, Nat.reduceEqDiff, Nat.reduceMul, Int.reduceEq, decide_true, decide_false, Bool.false_eq_true, Bool.and_true, Bool.false_and, Bool.and_false, Bool.true_and, Bool.and_self, if_true, if_false, reduceIte, List.contains_nil, List.contains_cons, beq_self_eq_true, Nat.reduceBEq, Bool.or_false, Bool.false_or, Bool.or_true, Bool.true_or, Bool.not_true, Bool.not_false, ofVal_iv, ofVal_bv, dn_iv, ow_iv, dn_bv, ow_bv, dn_fn, dn_ptr, dn_ep, dn_agg, dn_tup, dn_nilsl, dn_own, dn_sh, dn_ex, ow_ptr, ow_ep, ow_agg, ow_tup, ow_nilsl, ow_own, ow_sh, ow_ex, maxRef_iv, maxRef_bv, maxRef_agg, maxRef_tup, maxRefs_nil, maxRefs_cons, Nat.max_self, Nat.zero_le, List.cons_append, List.nil_append, List.append_nil, pBuiltin, tys1, Option.bind_some, Option.map_some, resultOf, List.getElem?_cons_zero, List.getElem?_cons_succ, cells_agg, cells_iv, solid_iv, solid_agg, List.length_cons, List.length_nil, Nat.zero_add, List.take_zero, List.take_nil, add_iv, sub_iv, mul_iv, lss_iv, leq_iv, gtr_iv, geq_iv, eql_iv, neq_iv, arr2, List.set_cons_zero, List.set_cons_succ, List.take_succ_cons, List.drop_succ_cons, List.drop_zero, List.take_length, or_true, true_or, and_true, true_and, and_self, Nat.reduceLeDiff, eq_self, maxRef_sl, maxRef_nil, dn_slsh, dn_vs, ow_vs, solid_sl, cells_sl, solid_nil, cells_nil, dn_olds, ow_olds, maxRef_olds, dn_memV, ow_memV, maxRef_memV, solid_memV, cells_memV, eqs_ok, neqs_ok, sameS_nn, sameS_nc, sameS_cn, sameS_cc, UInt8.reduceToNat, str_dn, str_ow, str_solid, str_cells, str_maxRef, str_ofVal, fn_dn, fn_ow, fn_solid, fn_cells, W_lit, resV_two, resM_cons, resM_nil, consR_some, Int.reduceLE, Int.reduceLT, Int.reduceAdd, Int.reduceSub, Int.reduceMul, len25, len55, castN, solid_bv, cells_bv, part72]
  done

end Go.Proofs.YtnjlkgmcoengnaaGreat.PE
