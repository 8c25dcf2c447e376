/-
  CflowTexts, part 22: a text laid. No condition.
-/
import Derived.Test.YtnjlkgmcoengnaaGreatCf18
import Derived.Test.YtnjlkgmcoengnaaGreatCf21
set_option linter.unusedSimpArgs false
set_option linter.unusedVariables false
set_option maxRecDepth 20000
set_option maxHeartbeats 8000000
namespace Go.Proofs.YtnjlkgmcoengnaaGreat.PE
open Go

def logB (O : List (Nat × List Nat)) (B : List Nat) (a : Nat) (b : List Nat) : List (Nat × List Nat) := if b = [] then O else O ++ [(a, (B.drop a).take b.length)]
theorem over_nil (B : List Nat) (a : Nat) : over B a [] = B := by simp [over]
theorem logB_len (O : List (Nat × List Nat)) (B : List Nat) (a : Nat) (b : List Nat) : (logB O B a b).length ≤ O.length + 1 := by
  unfold logB
  split <;> simp
theorem lay_any (k : Nat) (B : List Nat) (O : List (Nat × List Nat)) (hO : O.length ≤ 1000) (a : Nat) (b : List Nat) (t : Tag) (ht : t ≠ .ow) (hB : B.length = 2048) (h : a + b.length ≤ 2048) :
    pcall Tryz.prog ann noSums (k + 3) 21 [.agg [.sl .sh 1 (bs B), olds O], iv a, .sl t 1 (bs b)] [] = some (.tup [.agg [.sl .sh 1 (bs (over B a b)), olds (logB O B a b)], iv ((a + b.length : Nat) : Int), iv 0], []) := by
  cases b with
  | nil =>
    rw [over_nil]
    exact lay_nil k B O a t ht hB (by simpa using h)
  | cons x b => exact lay_ok k B O hO a (x :: b) t ht (by simp) hB h

theorem makeF25 : ∀ n : Nat, n < 8 → pMakeF Tryz.prog 25 (iv n) (iv n) = some (.sl .ex 1 (bs (List.replicate n 0)))
  | 0, _ => by kernel_rfl
  | 1, _ => by kernel_rfl
  | 2, _ => by kernel_rfl
  | 3, _ => by kernel_rfl
  | 4, _ => by kernel_rfl
  | 5, _ => by kernel_rfl
  | 6, _ => by kernel_rfl
  | 7, _ => by kernel_rfl
  | n + 8, h => absurd h (by omega)
theorem part28s (cs : List PV) (off : Nat) : getPart Tryz.prog 28 cs off = if off + 2 ≤ cs.length then some (.agg ((cs.drop off).take 2)) else none := part28' cs off
theorem rem8' (t : TypeId) (n : Int) (x y : Operand) : pBin Tryz.prog .rem t x y (iv n) (iv 8) = some (iv (Int.tmod n 8)) := by kernel_rfl

def padOf (a : Nat) : Nat := (8 - a % 8) % 8
theorem padOf_lt (a : Nat) : padOf a < 8 := Nat.mod_lt _ (by omega)

theorem align_ok (k : Nat) (B : List Nat) (O : List (Nat × List Nat)) (hO : O.length ≤ 1000) (a : Nat) (hB : B.length = 2048) (h : a + padOf a ≤ 2048) :
    pcall Tryz.prog ann noSums (k + 4) 23 [.agg [.sl .sh 1 (bs B), olds O], iv a] [] = some (.tup [.agg [.sl .sh 1 (bs (over B a (List.replicate (padOf a) 0))), olds (logB O B a (List.replicate (padOf a) 0))], iv ((a + padOf a : Nat) : Int), iv 0], []) := by
  have c1 := lay_any k B O hO a (List.replicate (padOf a) 0) .ex (by simp) hB (by simpa using h)
  rw [List.length_replicate] at c1
  have r1 : Int.tmod (a : Int) 8 = ((a % 8 : Nat) : Int) := by rw [Int.tmod_eq_emod_of_nonneg (by omega)]; omega
  have w1 : W (8 - ((a % 8 : Nat) : Int)) = ((8 - a % 8 : Nat) : Int) := by
    rw [← W_nat (n := 8 - a % 8) (by omega)]
    congr 1
    omega
  have r2 : Int.tmod ((8 - a % 8 : Nat) : Int) 8 = ((padOf a : Nat) : Int) := by rw [Int.tmod_eq_emod_of_nonneg (by omega)]; simp only [padOf]; omega
  have m := makeF25 (padOf a) (padOf_lt a)
  generalize logB O B a (List.replicate (padOf a) 0) = O2 at c1
  simp (maxSteps := 2000000) only [pcS_seq, pcS_region, dynR_no, unBox_false, unBox_true, doesBox, loud_make, inert_make, read_make, read_slice, loud_append, loud_copy, loud_clear, readCls_load, readCls_slice, loudCls_store, loudCls_alloc, loudCls_box, loudCls_call, atR_ptr, atS_ptr, Option.map_none, setS_frz, pcS_block, pcS_cond, pcS_loop, pcS_exit, pcS_ret, pcS_skip, popsL_nil, popsL_cons, pop_plain, pop_guard, wantS_eq, wantD_some, wantV_t, wantV_f, wantV_tup, guardP_true, guardP_false, bindS_normal, bindS_exit, bindS_ret, blockS_normal, blockS_exit, blockS_ret, bindP_some, doneR_some, condS_true, condS_false, pickI_some, pickI_none, pickR_some, pickR_none, pickL_some, endS_normal, endS_ret, setS_some, resV_none, resV_one, dstOk, doesTake, inert_move, inert_assign, inert_pick, inert_build, inert_buildSlice, inert_load, inert_nilCheck, inert_binOp, inert_unOp, inert_convert, inert_slice, inert_fieldAddr, inert_field, inert_indexAddr, inert_index, inert_extract, inert_builtin, inert_call, inert_alloc, inert_box, inert_store, pickB_bv, loadI_ep, loadI_ptr, nilI_ptr, nilI_ep, unI_not, extrI_tup, pureC_ok, callI_fn, read_load, read_alloc, read_box, read_store, read_call, loadR_ptr, boxR_cells, loud_load, loud_store, loud_alloc, loud_box, loud_call, loadL_ptr, boxL_cells, storeL_ptr, boxS_cells, boxN_eq, callL_fn, put, drop, takes, restrict, ev, lk, params, annF, bodyF, aggF, sizeF, elemF, fieldF, partF, List.zipIdx, List.zipIdx_cons, List.zipIdx_nil, List.map, List.map_cons, List.map_nil, Option.getD_some, Nat.reduceLT, Nat.reduceAdd, Nat.reduceEqDiff, Nat.reduceMul, Int.reduceEq, decide_true, decide_false, Bool.false_eq_true, Bool.and_true, Bool.false_and, Bool.and_false, Bool.true_and, Bool.and_self, if_true, if_false, reduceIte, List.contains_nil, List.contains_cons, beq_self_eq_true, Nat.reduceBEq, Bool.or_false, Bool.false_or, Bool.or_true, Bool.true_or, Bool.not_true, Bool.not_false, ofVal_iv, ofVal_bv, dn_iv, ow_iv, dn_bv, ow_bv, dn_fn, dn_ptr, dn_ep, dn_agg, dn_tup, dn_nilsl, dn_own, dn_sh, dn_ex, ow_ptr, ow_ep, ow_agg, ow_tup, ow_nilsl, ow_own, ow_sh, ow_ex, maxRef_iv, maxRef_bv, maxRef_agg, maxRef_tup, maxRefs_nil, maxRefs_cons, Nat.max_self, Nat.zero_le, List.cons_append, List.nil_append, List.append_nil, pBuiltin, tys1, Option.bind_some, Option.map_some, resultOf, List.getElem?_cons_zero, List.getElem?_cons_succ, cells_agg, cells_iv, solid_iv, solid_agg, List.length_cons, List.length_nil, Nat.zero_add, List.take_zero, List.take_nil, add_iv, sub_iv, mul_iv, lss_iv, leq_iv, gtr_iv, geq_iv, eql_iv, neq_iv, arr2, List.set_cons_zero, List.set_cons_succ, List.take_succ_cons, List.drop_succ_cons, List.drop_zero, List.take_length, or_true, true_or, and_true, true_and, and_self, Nat.reduceLeDiff, eq_self, maxRef_sl, maxRef_nil, dn_slsh, dn_vs, ow_vs, solid_sl, cells_sl, solid_nil, cells_nil, dn_olds, ow_olds, maxRef_olds, dn_memV, ow_memV, maxRef_memV, solid_memV, cells_memV, eqs_ok, neqs_ok, sameS_nn, sameS_nc, sameS_cn, sameS_cc, UInt8.reduceToNat, str_dn, str_ow, str_solid, str_cells, str_maxRef, str_ofVal, fn_dn, fn_ow, fn_solid, fn_cells, W_lit, resV_two, resM_cons, resM_nil, consR_some, Int.reduceLE, Int.reduceLT, Int.reduceAdd, Int.reduceSub, Int.reduceMul, len25, len55, castN, solid_bv, cells_bv, dynR_yes, popsK_nil, popsK_cons, bindK_some, consK_some, doneK_if, call23, Tryz.f23, c1, r1, w1, r2, m, rem8', part28s, alloc28, ofVal_nil, solid_olds, cells_olds]

theorem str_ok (k : Nat) (wl : List PV) (B : List Nat) (O : List (Nat × List Nat)) (hO : O.length ≤ 900) (q : Nat) (s : ByteArray) (hs : s.size ≤ 100) (hB : B.length = 2048) (h : 8 * (q + 2) + s.size + 8 ≤ 2048) :
    ∃ O2, O2.length ≤ O.length + 4 ∧ pcall Tryz.prog ann noSums (k + 306) 7 [vmV wl B (O) (8 * q), .s (.string s)] [] =
      some (.tup [vmV wl (over (over (put1 (put1 B q 120) (q + 1) s.size) (8 * (q + 2)) (nats s)) (8 * (q + 2) + s.size) (List.replicate (padOf (8 * (q + 2) + s.size)) 0)) O2 (8 * (q + 2) + s.size + padOf (8 * (q + 2) + s.size)), iv 0], []) := by
  have c1 : ∀ k, _ := fun k => lay_x k wl B O (by omega) q 120 hB (by omega)
  have c2 : ∀ k, _ := fun k => lay_x k wl (put1 B q 120) (log1 O B q) (by rw [log1_len]; omega) (q + 1) s.size (put1_len _ _ _ hB (by omega)) (by omega)
  have hB2 : (put1 (put1 B q 120) (q + 1) s.size).length = 2048 := put1_len _ _ _ (put1_len _ _ _ hB (by omega)) (by omega)
  have hp := padOf_lt (8 * (q + 2) + s.size)
  have hO2 : (log1 (log1 O B q) (put1 B q 120) (q + 1)).length = O.length + 2 := by rw [log1_len, log1_len]
  have c3 := fun k => lay_any k (put1 (put1 B q 120) (q + 1) s.size) (log1 (log1 O B q) (put1 B q 120) (q + 1)) (by omega) (8 * (q + 2)) (nats s) .sh (by simp) hB2 (by rw [nats_len]; omega)
  rw [nats_len] at c3
  have hB3 : (over (put1 (put1 B q 120) (q + 1) s.size) (8 * (q + 2)) (nats s)).length = 2048 := by rw [over_len _ _ _ (by rw [nats_len]; omega)]; exact hB2
  have hO3 := logB_len (log1 (log1 O B q) (put1 B q 120) (q + 1)) (put1 (put1 B q 120) (q + 1) s.size) (8 * (q + 2)) (nats s)
  have hO4 := logB_len (logB (log1 (log1 O B q) (put1 B q 120) (q + 1)) (put1 (put1 B q 120) (q + 1) s.size) (8 * (q + 2)) (nats s)) (over (put1 (put1 B q 120) (q + 1) s.size) (8 * (q + 2)) (nats s)) (8 * (q + 2) + s.size) (List.replicate (padOf (8 * (q + 2) + s.size)) 0)
  have c4 := fun k => align_ok k (over (put1 (put1 B q 120) (q + 1) s.size) (8 * (q + 2)) (nats s)) (logB (log1 (log1 O B q) (put1 B q 120) (q + 1)) (put1 (put1 B q 120) (q + 1) s.size) (8 * (q + 2)) (nats s)) (by omega) (8 * (q + 2) + s.size) hB3 (by omega)
  refine ⟨logB (logB (log1 (log1 O B q) (put1 B q 120) (q + 1)) (put1 (put1 B q 120) (q + 1) s.size) (8 * (q + 2)) (nats s)) (over (put1 (put1 B q 120) (q + 1) s.size) (8 * (q + 2)) (nats s)) (8 * (q + 2) + s.size) (List.replicate (padOf (8 * (q + 2) + s.size)) 0), by omega, ?_⟩
  obtain ⟨mo, hm⟩ : ∃ mo, olds (logB (logB (log1 (log1 O B q) (put1 B q 120) (q + 1)) (put1 (put1 B q 120) (q + 1) s.size) (8 * (q + 2)) (nats s)) (over (put1 (put1 B q 120) (q + 1) s.size) (8 * (q + 2)) (nats s)) (8 * (q + 2) + s.size) (List.replicate (padOf (8 * (q + 2) + s.size)) 0)) = .sl .sh 2 mo := by
    have h1 := log1_some (log1 O B q) (put1 B q 120) (q + 1)
    have hl : ∀ O B a b, (∃ mo, olds O = .sl .sh 2 mo) → ∃ mo, olds (logB O B a b) = .sl .sh 2 mo := by
      intro O B a b h
      unfold logB
      split
      · exact h
      · exact olds_snoc _ _
    exact hl _ _ _ _ (hl _ _ _ _ h1)
  have c5 := conv25 s hs
  have c6 := fun k vl b0 b1 b3 hv => done_b (bs (over (over (put1 (put1 B q 120) (q + 1) s.size) (8 * (q + 2)) (nats s)) (8 * (q + 2) + s.size) (List.replicate (padOf (8 * (q + 2) + s.size)) 0))) mo wl vl ((8 * (q + 2) + s.size + padOf (8 * (q + 2) + s.size) : Nat) : Int) k b0 b1 b3 hv
  clear hO3 hO4 hB2 hB3 hO2
  simp only [vmV, vmC] at c1 c2 ⊢
  rw [hm] at c4 ⊢
  clear hm
  generalize logB (log1 (log1 O B q) (put1 B q 120) (q + 1)) (put1 (put1 B q 120) (q + 1) s.size) (8 * (q + 2)) (nats s) = O3 at c3 c4
  generalize log1 (log1 O B q) (put1 B q 120) (q + 1) = O2 at c2 c3
  generalize log1 O B q = O1 at c1 c2
  generalize bs (over (over (put1 (put1 B q 120) (q + 1) s.size) (8 * (q + 2)) (nats s)) (8 * (q + 2) + s.size) (List.replicate (padOf (8 * (q + 2) + s.size)) 0)) = m4 at c4 c6 ⊢
  generalize bs (over (put1 (put1 B q 120) (q + 1) s.size) (8 * (q + 2)) (nats s)) = m3 at c3 c4
  generalize bs (put1 (put1 B q 120) (q + 1) s.size) = m2 at c2 c3
  generalize bs (put1 B q 120) = m1 at c1 c2
  generalize bs B = m0 at c1
  generalize 8 * (q + 2) + s.size + padOf (8 * (q + 2) + s.size) = q4 at c4 c6 ⊢
  generalize 8 * (q + 2) + s.size = q3 at c3 c4
  have e2 : 8 * (q + 1 + 1) = 8 * (q + 2) := rfl
  rw [e2] at c2
  generalize 8 * (q + 2) = q2 at c2 c3
  generalize 8 * (q + 1) = q1 at c1 c2
  simp (maxSteps := 2000000) only [pcS_seq, pcS_region, dynR_no, unBox_false, unBox_true, doesBox, loud_make, inert_make, read_make, read_slice, loud_append, loud_copy, loud_clear, readCls_load, readCls_slice, loudCls_store, loudCls_alloc, loudCls_box, loudCls_call, atR_ptr, atS_ptr, Option.map_none, setS_frz, pcS_block, pcS_cond, pcS_loop, pcS_exit, pcS_ret, pcS_skip, popsL_nil, popsL_cons, pop_plain, pop_guard, wantS_eq, wantD_some, wantV_t, wantV_f, wantV_tup, guardP_true, guardP_false, bindS_normal, bindS_exit, bindS_ret, blockS_normal, blockS_exit, blockS_ret, bindP_some, doneR_some, condS_true, condS_false, pickI_some, pickI_none, pickR_some, pickR_none, pickL_some, endS_normal, endS_ret, setS_some, resV_none, resV_one, dstOk, doesTake, inert_move, inert_assign, inert_pick, inert_build, inert_buildSlice, inert_load, inert_nilCheck, inert_binOp, inert_unOp, inert_convert, inert_slice, inert_fieldAddr, inert_field, inert_indexAddr, inert_index, inert_extract, inert_builtin, inert_call, inert_alloc, inert_box, inert_store, pickB_bv, loadI_ep, loadI_ptr, nilI_ptr, nilI_ep, unI_not, extrI_tup, pureC_ok, callI_fn, read_load, read_alloc, read_box, read_store, read_call, loadR_ptr, boxR_cells, loud_load, loud_store, loud_alloc, loud_box, loud_call, loadL_ptr, boxL_cells, storeL_ptr, boxS_cells, boxN_eq, callL_fn, put, drop, takes, restrict, ev, lk, params, annF, bodyF, aggF, sizeF, elemF, fieldF, partF, List.zipIdx, List.zipIdx_cons, List.zipIdx_nil, List.map, List.map_cons, List.map_nil, Option.getD_some, Nat.reduceLT, Nat.reduceAdd, Nat.reduceEqDiff, Nat.reduceMul, Int.reduceEq, decide_true, decide_false, Bool.false_eq_true, Bool.and_true, Bool.false_and, Bool.and_false, Bool.true_and, Bool.and_self, if_true, if_false, reduceIte, List.contains_nil, List.contains_cons, beq_self_eq_true, Nat.reduceBEq, Bool.or_false, Bool.false_or, Bool.or_true, Bool.true_or, Bool.not_true, Bool.not_false, ofVal_iv, ofVal_bv, dn_iv, ow_iv, dn_bv, ow_bv, dn_fn, dn_ptr, dn_ep, dn_agg, dn_tup, dn_nilsl, dn_own, dn_sh, dn_ex, ow_ptr, ow_ep, ow_agg, ow_tup, ow_nilsl, ow_own, ow_sh, ow_ex, maxRef_iv, maxRef_bv, maxRef_agg, maxRef_tup, maxRefs_nil, maxRefs_cons, Nat.max_self, Nat.zero_le, List.cons_append, List.nil_append, List.append_nil, pBuiltin, tys1, Option.bind_some, Option.map_some, resultOf, List.getElem?_cons_zero, List.getElem?_cons_succ, cells_agg, cells_iv, solid_iv, solid_agg, List.length_cons, List.length_nil, Nat.zero_add, List.take_zero, List.take_nil, add_iv, sub_iv, mul_iv, lss_iv, leq_iv, gtr_iv, geq_iv, eql_iv, neq_iv, arr2, List.set_cons_zero, List.set_cons_succ, List.take_succ_cons, List.drop_succ_cons, List.drop_zero, List.take_length, or_true, true_or, and_true, true_and, and_self, Nat.reduceLeDiff, eq_self, maxRef_sl, maxRef_nil, dn_slsh, dn_vs, ow_vs, solid_sl, cells_sl, solid_nil, cells_nil, dn_olds, ow_olds, maxRef_olds, dn_memV, ow_memV, maxRef_memV, solid_memV, cells_memV, eqs_ok, neqs_ok, sameS_nn, sameS_nc, sameS_cn, sameS_cc, UInt8.reduceToNat, str_dn, str_ow, str_solid, str_cells, str_maxRef, str_ofVal, fn_dn, fn_ow, fn_solid, fn_cells, W_lit, resV_two, resM_cons, resM_nil, consR_some, Int.reduceLE, Int.reduceLT, Int.reduceAdd, Int.reduceSub, Int.reduceMul, len25, len55, castN, solid_bv, cells_bv, dynR_yes, popsK_nil, popsK_cons, bindK_some, consK_some, doneK_if, call7, Tryz.f7, call19, Tryz.f19, call20, Tryz.f20, call22, Tryz.f22, c1, c2, c3, c4, c5, c6, len9, names41, index11, part28s, part37, alloc28, alloc37, alloc64, z37, z64, build64, ofVal_nil, solid_olds, cells_olds]

end Go.Proofs.YtnjlkgmcoengnaaGreat.PE
