/-
  CflowTexts, part 21: a number laid. No condition.
-/
import Derived.Test.YtnjlkgmcoengnaaGreatCf14
set_option linter.unusedSimpArgs false
set_option linter.unusedVariables false
set_option maxRecDepth 20000
set_option maxHeartbeats 8000000
namespace Go.Proofs.YtnjlkgmcoengnaaGreat.PE
open Go

theorem build64 (c0 c1 c2 c3 c4 c5 c6 c7 c8 c9 c10 c11 c12 c13 c14 c15 c16 c17 c18 c19 c20 c21 c22 : PV) : pBuild Tryz.prog 64 [(0, .agg [c0, c1, c2, c3, c4, c5, c6, c7, c8, c9, c10, c11, c12, c13, c14, c15, c16, c17, c18, c19, c20, c21, c22])] = some (.agg [c0, c1, c2, c3, c4, c5, c6, c7, c8, c9, c10, c11, c12, c13, c14, c15, c16, c17, c18, c19, c20, c21, c22, .nilsl, iv 0]) := by kernel_rfl
def z64 : List PV := [iv 0, iv 0, iv 0, iv 0, iv 0, .nilsl, .nilsl, iv 0, .nilsl, .nilsl, .nilsl, .nilsl, iv 0, .nilsl, .nilsl, bv false, .nilsl, iv 0, iv 0, iv 0, iv 0, iv 0, .nilsl, .nilsl, iv 0]
theorem alloc64 (st : Store) : allocN Tryz.prog 64 st = some (.ptr st.length 0, st ++ [.cells z64]) := by kernel_rfl
/-- The program's own names. -/
noncomputable def namesV : List PV := ((pcall Tryz.prog ann noSums 4 41 [] []).map fun r => match r.1 with | .sl _ _ l => l | _ => []).getD []
noncomputable def namesT : Tag := ((pcall Tryz.prog ann noSums 4 41 [] []).map fun r => match r.1 with | .sl t _ _ => t | _ => .ow).getD .ow
theorem names41 (k : Nat) : pcall Tryz.prog ann noSums (k + 4) 41 [] [] = some (.sl .ex 1 namesV, []) := pcall_mono (k := 4) (by omega) (by kernel_rfl)
theorem index1 (k : Nat) : pcall Tryz.prog ann noSums (k + 200) 40 [.sl .ex 1 namesV, .s (.string ⟨#[40, 108, 105, 116, 41]⟩)] [] = some (iv 1, []) := pcall_mono (k := 200) (by omega) (by kernel_rfl)
theorem index11 (k : Nat) : pcall Tryz.prog ann noSums (k + 200) 40 [.sl .ex 1 namesV, .s (.string ⟨#[40, 115, 116, 114, 41]⟩)] [] = some (iv 11, []) := pcall_mono (k := 200) (by omega) (by kernel_rfl)

theorem solid_olds (O : List (Nat × List Nat)) : (olds O).solid = true := by cases O <;> rfl
theorem cells_olds (O : List (Nat × List Nat)) : (olds O).cells = [olds O] := by cases O <;> rfl
theorem olds_snoc (O : List (Nat × List Nat)) (x : Nat × List Nat) : ∃ mo, olds (O ++ [x]) = .sl .sh 2 mo := by
  cases O with
  | nil => exact ⟨_, rfl⟩
  | cons y O => exact ⟨_, rfl⟩

section
variable (mb mo wl vl : List PV) (h : Int) (k : Nat)
/-- A machine, as cells. -/
abbrev vmL : List PV := [iv 2048, iv 32, iv 32, iv 200, iv 500, .sl .sh 1 mb, .sl .sh 2 mo, iv h, .nilsl, .nilsl, .nilsl, .sl .sh 3 wl, iv 0, .nilsl, .nilsl, bv false, .nilsl, iv 0, iv 0, iv 0, iv 0, iv 0, .nilsl]
abbrev wkL : List PV := [iv 2048, iv 32, iv 32, iv 200, iv 500, .sl .sh 1 mb, .sl .sh 2 mo, iv h, .nilsl, .nilsl, .nilsl, .sl .sh 3 wl, iv 0, .nilsl, .nilsl, bv false, .nilsl, iv 0, iv 0, iv 0, iv 0, iv 0, .nilsl, .nilsl, iv 0]
theorem done_a (b0 b1 : PBox) (hv : vl.length = 23) : pcall Tryz.prog ann noSums (k + 10) 24 [.ptr 2 0, .agg vl, .nilsl] [b0, b1, .cells (wkL mb mo wl h)] = some (.tup [.agg (vmL mb mo wl h), .nilsl, iv 0], [b0, b1, .cells (wkL mb mo wl h)]) := pcall_mono (k := 10) (by omega) (by kernel_rfl)
theorem done_b (b0 b1 b3 : PBox) (hv : vl.length = 23) : pcall Tryz.prog ann noSums (k + 10) 24 [.ptr 2 0, .agg vl, .nilsl] [b0, b1, .cells (wkL mb mo wl h), b3] = some (.tup [.agg (vmL mb mo wl h), .nilsl, iv 0], [b0, b1, .cells (wkL mb mo wl h), b3]) := pcall_mono (k := 10) (by omega) (by kernel_rfl)
end

/-- A cell laid; what was there. -/
def put1 (B : List Nat) (q : Nat) (n : Int) : List Nat := over B (8 * q) (cb n)
def log1 (O : List (Nat × List Nat)) (B : List Nat) (q : Nat) : List (Nat × List Nat) := O ++ [(8 * q, (B.drop (8 * q)).take 8)]
theorem log1_len (O : List (Nat × List Nat)) (B : List Nat) (q : Nat) : (log1 O B q).length = O.length + 1 := by simp [log1]
theorem log1_some (O : List (Nat × List Nat)) (B : List Nat) (q : Nat) : ∃ mo, olds (log1 O B q) = .sl .sh 2 mo := olds_snoc _ _
theorem put1_len (B : List Nat) (q : Nat) (n : Int) (hB : B.length = 2048) (h : 8 * q + 8 ≤ 2048) : (put1 B q n).length = 2048 := by
  rw [put1, over_len _ _ _ (by rw [cb_len]; omega)]; exact hB
theorem lay_x (k : Nat) (wl : List PV) (B : List Nat) (O : List (Nat × List Nat)) (hO : O.length ≤ 1000) (q : Nat) (n : Int) (hB : B.length = 2048) (h : 8 * q + 8 ≤ 2048) :
    pcall Tryz.prog ann noSums (k + 302) 6 [vmV wl B O (8 * q), iv n] [] =
      some (.tup [vmV wl (put1 B q n) (log1 O B q) (8 * (q + 1)), iv 0], []) := cvlay_ok k wl B O hO q n hB h

theorem lit_ok (k : Nat) (wl : List PV) (B : List Nat) (O : List (Nat × List Nat)) (hO : O.length ≤ 900) (q : Nat) (n : Int) (hB : B.length = 2048) (h : 8 * q + 16 ≤ 2048) :
    pcall Tryz.prog ann noSums (k + 306) 9 [vmV wl B O (8 * q), iv n] [] =
      some (.tup [vmV wl (put1 (put1 B q 40) (q + 1) n) (log1 (log1 O B q) (put1 B q 40) (q + 1)) (8 * (q + 2)), iv 0], []) := by
  have c1 : ∀ k, _ := fun k => lay_x k wl B O (by omega) q 40 hB (by omega)
  have c2 : ∀ k, _ := fun k => lay_x k wl (put1 B q 40) (log1 O B q) (by rw [log1_len]; omega) (q + 1) n (put1_len _ _ _ hB (by omega)) (by omega)
  obtain ⟨mo, hm⟩ := log1_some (log1 O B q) (put1 B q 40) (q + 1)
  have c3 := fun k vl b0 b1 hv => done_a (bs (put1 (put1 B q 40) (q + 1) n)) mo wl vl ((8 * (q + 2) : Nat) : Int) k b0 b1 hv
  simp only [vmV, vmC] at c1 c2 ⊢
  rw [hm] at c2 ⊢
  generalize log1 O B q = O1 at c1 c2
  generalize hb1 : bs (put1 (put1 B q 40) (q + 1) n) = m2 at c2 c3 ⊢
  generalize bs (put1 B q 40) = m1 at c1 c2
  generalize bs B = m0 at c1
  generalize 8 * (q + 1 + 1) = q2 at c2 c3
  generalize 8 * (q + 1) = q1 at c1 c2
  simp (maxSteps := 2000000) only [pcS_seq, pcS_region, dynR_no, unBox_false, unBox_true, doesBox, loud_make, inert_make, read_make, read_slice, loud_append, loud_copy, loud_clear, readCls_load, readCls_slice, loudCls_store, loudCls_alloc, loudCls_box, loudCls_call, atR_ptr, atS_ptr, Option.map_none, setS_frz, pcS_block, pcS_cond, pcS_loop, pcS_exit, pcS_ret, pcS_skip, popsL_nil, popsL_cons, pop_plain, pop_guard, wantS_eq, wantD_some, wantV_t, wantV_f, wantV_tup, guardP_true, guardP_false, bindS_normal, bindS_exit, bindS_ret, blockS_normal, blockS_exit, blockS_ret, bindP_some, doneR_some, condS_true, condS_false, pickI_some, pickI_none, pickR_some, pickR_none, pickL_some, endS_normal, endS_ret, setS_some, resV_none, resV_one, dstOk, doesTake, inert_move, inert_assign, inert_pick, inert_build, inert_buildSlice, inert_load, inert_nilCheck, inert_binOp, inert_unOp, inert_convert, inert_slice, inert_fieldAddr, inert_field, inert_indexAddr, inert_index, inert_extract, inert_builtin, inert_call, inert_alloc, inert_box, inert_store, pickB_bv, loadI_ep, loadI_ptr, nilI_ptr, nilI_ep, unI_not, extrI_tup, pureC_ok, callI_fn, read_load, read_alloc, read_box, read_store, read_call, loadR_ptr, boxR_cells, loud_load, loud_store, loud_alloc, loud_box, loud_call, loadL_ptr, boxL_cells, storeL_ptr, boxS_cells, boxN_eq, callL_fn, put, drop, takes, restrict, ev, lk, params, annF, bodyF, aggF, sizeF, elemF, fieldF, partF, List.zipIdx, List.zipIdx_cons, List.zipIdx_nil, List.map, List.map_cons, List.map_nil, Option.getD_some, Nat.reduceLT, Nat.reduceAdd, Nat.reduceEqDiff, Nat.reduceMul, Int.reduceEq, decide_true, decide_false, Bool.false_eq_true, Bool.and_true, Bool.false_and, Bool.and_false, Bool.true_and, Bool.and_self, if_true, if_false, reduceIte, List.contains_nil, List.contains_cons, beq_self_eq_true, Nat.reduceBEq, Bool.or_false, Bool.false_or, Bool.or_true, Bool.true_or, Bool.not_true, Bool.not_false, ofVal_iv, ofVal_bv, dn_iv, ow_iv, dn_bv, ow_bv, dn_fn, dn_ptr, dn_ep, dn_agg, dn_tup, dn_nilsl, dn_own, dn_sh, dn_ex, ow_ptr, ow_ep, ow_agg, ow_tup, ow_nilsl, ow_own, ow_sh, ow_ex, maxRef_iv, maxRef_bv, maxRef_agg, maxRef_tup, maxRefs_nil, maxRefs_cons, Nat.max_self, Nat.zero_le, List.cons_append, List.nil_append, List.append_nil, pBuiltin, tys1, Option.bind_some, Option.map_some, resultOf, List.getElem?_cons_zero, List.getElem?_cons_succ, cells_agg, cells_iv, solid_iv, solid_agg, List.length_cons, List.length_nil, Nat.zero_add, List.take_zero, List.take_nil, add_iv, sub_iv, mul_iv, lss_iv, leq_iv, gtr_iv, geq_iv, eql_iv, neq_iv, arr2, List.set_cons_zero, List.set_cons_succ, List.take_succ_cons, List.drop_succ_cons, List.drop_zero, List.take_length, or_true, true_or, and_true, true_and, and_self, Nat.reduceLeDiff, eq_self, maxRef_sl, maxRef_nil, dn_slsh, dn_vs, ow_vs, solid_sl, cells_sl, solid_nil, cells_nil, dn_olds, ow_olds, maxRef_olds, dn_memV, ow_memV, maxRef_memV, solid_memV, cells_memV, eqs_ok, neqs_ok, sameS_nn, sameS_nc, sameS_cn, sameS_cc, UInt8.reduceToNat, str_dn, str_ow, str_solid, str_cells, str_maxRef, str_ofVal, fn_dn, fn_ow, fn_solid, fn_cells, W_lit, resV_two, resM_cons, resM_nil, consR_some, Int.reduceLE, Int.reduceLT, Int.reduceAdd, Int.reduceSub, Int.reduceMul, len25, len55, castN, solid_bv, cells_bv, dynR_yes, popsK_nil, popsK_cons, bindK_some, consK_some, doneK_if, call9, Tryz.f9, call19, Tryz.f19, call20, Tryz.f20, call22, Tryz.f22, c1, c2, c3, names41, index1, part37, alloc37, alloc64, z37, z64, build64, ofVal_nil, solid_olds, cells_olds]

end Go.Proofs.YtnjlkgmcoengnaaGreat.PE
