/-
  CflowTexts, part 11: a cell is read. No condition.
-/
import Derived.Test.YtnjlkgmcoengnaaGreatCfA
import Derived.Test.YtnjlkgmcoengnaaGreatPf20
set_option linter.unusedSimpArgs false
set_option linter.unusedVariables false
set_option maxRecDepth 20000
namespace Go.Proofs.YtnjlkgmcoengnaaGreat.PE
open Go

/-- One byte more. -/
def gst (n b : Int) : Int := IntKind.wrap .u64 (IntKind.wrap .u64 (256 * n) + IntKind.wrap .u64 b)
def gall (b : Nat → Int) : Int := IntKind.wrap .i64 (gst (gst (gst (gst (gst (gst (gst (gst 0 (b 7)) (b 6)) (b 5)) (b 4)) (b 3)) (b 2)) (b 1)) (b 0))

def bi (x : Int) : PV := .s (.int .u8 x)
theorem get_raw (b0 b1 b2 b3 b4 b5 b6 b7 : Int) : pcall Tryz.prog ann noSums 300 31 [.sl .sh 1 [bi b0, bi b1, bi b2, bi b3, bi b4, bi b5, bi b6, bi b7]] [] =
    some (.tup [iv (IntKind.wrap .i64 (gst (gst (gst (gst (gst (gst (gst (gst 0 b7) b6) b5) b4) b3) b2) b1) b0)), iv 0], []) := by kernel_rfl

def inI64 (n : Int) : Prop := -9223372036854775808 ≤ n ∧ n < 9223372036854775808

theorem gst_ok (u : Nat) (hu : u < 2 ^ 64) (k : Nat) : gst ((u / 2 ^ (8 * (k + 1)) : Nat) : Int) (((u / 2 ^ (8 * k)) % 256 : Nat) : Int) = ((u / 2 ^ (8 * k) : Nat) : Int) := by
  have h64 : IntKind.bits .u64 = 64 := rfl
  have e : u / 2 ^ (8 * (k + 1)) = (u / 2 ^ (8 * k)) / 256 := by
    rw [Nat.div_div_eq_div_mul, show 8 * (k + 1) = 8 * k + 8 by omega, Nat.pow_add]
  have hx : u / 2 ^ (8 * k) < 2 ^ 64 := Nat.lt_of_le_of_lt (Nat.div_le_self _ _) hu
  rw [e]
  generalize u / 2 ^ (8 * k) = x at hx
  simp only [gst, IntKind.wrap, h64, IntKind.signed]
  simp
  omega

theorem pbAt_u (n : Int) (i : Nat) : pbAt n i = (((IntKind.wrap .u64 n).toNat / 2 ^ (8 * i)) % 256 : Nat) := by
  have h8 : IntKind.bits .u8 = 8 := rfl
  have h0 : 0 ≤ IntKind.wrap .u64 n := by
    have h64 : IntKind.bits .u64 = 64 := rfl
    simp only [IntKind.wrap, h64, IntKind.signed]
    simp
    omega
  obtain ⟨u, hu⟩ := Int.eq_ofNat_of_zero_le h0
  have hp : ((2 : Int) ^ (8 * i)) = ((2 ^ (8 * i) : Nat) : Int) := by simp
  simp only [pbAt, hu, hp]
  rw [Int.fdiv_eq_ediv_of_nonneg _ (Int.natCast_nonneg _)]
  rw [← Int.natCast_ediv, Int.toNat_natCast]
  generalize u / 2 ^ (8 * i) = x
  simp only [IntKind.wrap, h8, IntKind.signed]
  simp

theorem gall_ok (n : Int) (h : inI64 n) : gall (pbAt n) = n := by
  have hb := pbAt_u n
  have h64 : IntKind.bits .u64 = 64 := rfl
  have hi64 : IntKind.bits .i64 = 64 := rfl
  have hw0 : 0 ≤ IntKind.wrap .u64 n ∧ IntKind.wrap .u64 n < 18446744073709551616 ∧ IntKind.wrap .i64 (IntKind.wrap .u64 n) = n := by
    obtain ⟨h1, h2⟩ := h
    simp only [IntKind.wrap, h64, hi64, IntKind.signed]
    simp
    omega
  obtain ⟨hw1, hw2, hw3⟩ := hw0
  obtain ⟨u, hu⟩ := Int.eq_ofNat_of_zero_le hw1
  rw [hu] at hb hw2 hw3
  rw [Int.toNat_natCast] at hb
  have hu2 : u < 2 ^ 64 := by omega
  have g := gst_ok u hu2
  have e8 : u / 2 ^ (8 * (7 + 1)) = 0 := Nat.div_eq_of_lt hu2
  have g7 := g 7
  rw [e8] at g7
  simp only [gall, hb]
  rw [show (0 : Int) = ((0 : Nat) : Int) from rfl, g7, g 6, g 5, g 4, g 3, g 2, g 1, g 0]
  simpa using hw3

theorem cb_get (n : Int) : bs (cb n) = [bi (pbAt n 0), bi (pbAt n 1), bi (pbAt n 2), bi (pbAt n 3), bi (pbAt n 4), bi (pbAt n 5), bi (pbAt n 6), bi (pbAt n 7)] := by
  have hr : List.range 8 = [0, 1, 2, 3, 4, 5, 6, 7] := rfl
  simp only [bs, cb, hr, List.map_cons, List.map_nil, u8, pbAt_nat, bi]

theorem get_ok (n : Int) (h : inI64 n) : pcall Tryz.prog ann noSums 300 31 [.sl .sh 1 (bs (cb n))] [] = some (.tup [iv n, iv 0], []) := by
  rw [cb_get, get_raw]
  have := gall_ok n h
  simp only [gall] at this
  rw [this]
theorem get_at (k : Nat) (n : Int) (h : inI64 n) : pcall Tryz.prog ann noSums (k + 300) 31 [.sl .sh 1 (bs (cb n))] [] = some (.tup [iv n, iv 0], []) := pcall_mono (by omega) (get_ok n h)

/-- A cell of a memory. -/
def cellIs (B : List Nat) (a : Nat) (n : Int) : Prop := a % 8 = 0 ∧ a + 8 ≤ 2048 ∧ (B.drop a).take 8 = cb n ∧ inI64 n

theorem there_r (k : Nat) (B : List Nat) (O : List (Nat × List Nat)) (a n : Nat) (hB : B.length = 2048) (h : a + n ≤ 2048) :
    pcall Tryz.prog ann noSums (k + 1) 60 [memV B O, iv a, iv n] [] = some (bv true, []) := by
  refine go60 rfl ?_
  have e1 : W ((2048 : Nat) - (n : Int)) = ((2048 - n : Nat) : Int) := by
    rw [← W_nat (n := 2048 - n) (by omega)]
    congr 1
    omega
  by_cases hn : n = 0
  · subst hn
    have h0 : (((0 : Nat) : Int) = 0) := rfl
    simp only [pcS_seq, pcS_region, dynR_no, unBox_false, unBox_true, doesBox, loud_make, inert_make, read_make, read_slice, loud_append, loud_copy, loud_clear, readCls_load, readCls_slice, loudCls_store, loudCls_alloc, loudCls_box, loudCls_call, atR_ptr, atS_ptr, Option.map_none, setS_frz, pcS_block, pcS_cond, pcS_loop, pcS_exit, pcS_ret, pcS_skip, popsL_nil, popsL_cons, pop_plain, pop_guard, wantS_eq, wantD_some, wantV_t, wantV_f, wantV_tup, guardP_true, guardP_false, bindS_normal, bindS_exit, bindS_ret, blockS_normal, blockS_exit, blockS_ret, bindP_some, doneR_some, condS_true, condS_false, pickI_some, pickI_none, pickR_some, pickR_none, pickL_some, endS_normal, endS_ret, setS_some, resV_none, resV_one, dstOk, doesTake, inert_move, inert_assign, inert_pick, inert_build, inert_buildSlice, inert_load, inert_nilCheck, inert_binOp, inert_unOp, inert_convert, inert_slice, inert_fieldAddr, inert_field, inert_indexAddr, inert_index, inert_extract, inert_builtin, inert_call, inert_alloc, inert_box, inert_store, pickB_bv, loadI_ep, loadI_ptr, nilI_ptr, nilI_ep, unI_not, extrI_tup, pureC_ok, callI_fn, read_load, read_alloc, read_box, read_store, read_call, loadR_ptr, boxR_cells, loud_load, loud_store, loud_alloc, loud_box, loud_call, loadL_ptr, boxL_cells, storeL_ptr, boxS_cells, boxN_eq, callL_fn, put, drop, takes, restrict, ev, lk, params, annF, bodyF, aggF, sizeF, elemF, fieldF, partF, List.zipIdx, List.zipIdx_cons, List.zipIdx_nil, List.map, List.map_cons, List.map_nil, Option.getD_some, Nat.reduceLT, Nat.reduceAdd, Nat.reduceEqDiff, Nat.reduceMul, Int.reduceEq, decide_true, decide_false, Bool.false_eq_true, Bool.and_true, Bool.false_and, Bool.and_false, Bool.true_and, Bool.and_self, if_true, if_false, reduceIte, List.contains_nil, List.contains_cons, beq_self_eq_true, Nat.reduceBEq, Bool.or_false, Bool.false_or, Bool.or_true, Bool.true_or, Bool.not_true, Bool.not_false, ofVal_iv, ofVal_bv, dn_iv, ow_iv, dn_bv, ow_bv, dn_fn, dn_ptr, dn_ep, dn_agg, dn_tup, dn_nilsl, dn_own, dn_sh, dn_ex, ow_ptr, ow_ep, ow_agg, ow_tup, ow_nilsl, ow_own, ow_sh, ow_ex, maxRef_iv, maxRef_bv, maxRef_agg, maxRef_tup, maxRefs_nil, maxRefs_cons, Nat.max_self, Nat.zero_le, List.cons_append, List.nil_append, List.append_nil, pBuiltin, tys1, Option.bind_some, Option.map_some, resultOf, List.getElem?_cons_zero, List.getElem?_cons_succ, cells_agg, cells_iv, solid_iv, solid_agg, List.length_cons, List.length_nil, Nat.zero_add, List.take_zero, List.take_nil, add_iv, sub_iv, mul_iv, lss_iv, leq_iv, gtr_iv, geq_iv, eql_iv, neq_iv, arr2, List.set_cons_zero, List.set_cons_succ, List.take_succ_cons, List.drop_succ_cons, List.drop_zero, List.take_length, or_true, true_or, and_true, true_and, and_self, Nat.reduceLeDiff, eq_self, Tryz.f60, dn_slsh, len25, hB, h0, dn_memV, ow_memV, cells_memV, solid_memV]
  · have h1 : ¬ ((n : Int) = 0) := by omega
    have h2 : (0 : Int) < n := by omega
    have h3 : (0 : Int) ≤ a := by omega
    have h4 : (n : Int) ≤ (2048 : Nat) := by omega
    have h5 : (a : Int) ≤ (2048 - n : Nat) := by omega
    simp only [pcS_seq, pcS_region, dynR_no, unBox_false, unBox_true, doesBox, loud_make, inert_make, read_make, read_slice, loud_append, loud_copy, loud_clear, readCls_load, readCls_slice, loudCls_store, loudCls_alloc, loudCls_box, loudCls_call, atR_ptr, atS_ptr, Option.map_none, setS_frz, pcS_block, pcS_cond, pcS_loop, pcS_exit, pcS_ret, pcS_skip, popsL_nil, popsL_cons, pop_plain, pop_guard, wantS_eq, wantD_some, wantV_t, wantV_f, wantV_tup, guardP_true, guardP_false, bindS_normal, bindS_exit, bindS_ret, blockS_normal, blockS_exit, blockS_ret, bindP_some, doneR_some, condS_true, condS_false, pickI_some, pickI_none, pickR_some, pickR_none, pickL_some, endS_normal, endS_ret, setS_some, resV_none, resV_one, dstOk, doesTake, inert_move, inert_assign, inert_pick, inert_build, inert_buildSlice, inert_load, inert_nilCheck, inert_binOp, inert_unOp, inert_convert, inert_slice, inert_fieldAddr, inert_field, inert_indexAddr, inert_index, inert_extract, inert_builtin, inert_call, inert_alloc, inert_box, inert_store, pickB_bv, loadI_ep, loadI_ptr, nilI_ptr, nilI_ep, unI_not, extrI_tup, pureC_ok, callI_fn, read_load, read_alloc, read_box, read_store, read_call, loadR_ptr, boxR_cells, loud_load, loud_store, loud_alloc, loud_box, loud_call, loadL_ptr, boxL_cells, storeL_ptr, boxS_cells, boxN_eq, callL_fn, put, drop, takes, restrict, ev, lk, params, annF, bodyF, aggF, sizeF, elemF, fieldF, partF, List.zipIdx, List.zipIdx_cons, List.zipIdx_nil, List.map, List.map_cons, List.map_nil, Option.getD_some, Nat.reduceLT, Nat.reduceAdd, Nat.reduceEqDiff, Nat.reduceMul, Int.reduceEq, decide_true, decide_false, Bool.false_eq_true, Bool.and_true, Bool.false_and, Bool.and_false, Bool.true_and, Bool.and_self, if_true, if_false, reduceIte, List.contains_nil, List.contains_cons, beq_self_eq_true, Nat.reduceBEq, Bool.or_false, Bool.false_or, Bool.or_true, Bool.true_or, Bool.not_true, Bool.not_false, ofVal_iv, ofVal_bv, dn_iv, ow_iv, dn_bv, ow_bv, dn_fn, dn_ptr, dn_ep, dn_agg, dn_tup, dn_nilsl, dn_own, dn_sh, dn_ex, ow_ptr, ow_ep, ow_agg, ow_tup, ow_nilsl, ow_own, ow_sh, ow_ex, maxRef_iv, maxRef_bv, maxRef_agg, maxRef_tup, maxRefs_nil, maxRefs_cons, Nat.max_self, Nat.zero_le, List.cons_append, List.nil_append, List.append_nil, pBuiltin, tys1, Option.bind_some, Option.map_some, resultOf, List.getElem?_cons_zero, List.getElem?_cons_succ, cells_agg, cells_iv, solid_iv, solid_agg, List.length_cons, List.length_nil, Nat.zero_add, List.take_zero, List.take_nil, add_iv, sub_iv, mul_iv, lss_iv, leq_iv, gtr_iv, geq_iv, eql_iv, neq_iv, arr2, List.set_cons_zero, List.set_cons_succ, List.take_succ_cons, List.drop_succ_cons, List.drop_zero, List.take_length, or_true, true_or, and_true, true_and, and_self, Nat.reduceLeDiff, eq_self, Tryz.f60, dn_slsh, len25, hB, h1, h2, h3, h4, e1, h5, dn_memV, ow_memV, cells_memV, solid_memV]

theorem cellat_r (k : Nat) (B : List Nat) (O : List (Nat × List Nat)) (a : Nat) (hB : B.length = 2048) (ha : a % 8 = 0) (h : a + 8 ≤ 2048) :
    pcall Tryz.prog ann noSums (k + 2) 30 [memV B O, iv a] [] = some (iv 0, []) := by
  refine go30 rfl ?_
  have c1 : pcall Tryz.prog ann noSums (k + 1) 60 [memV B O, iv a, iv 8] [] = some (bv true, []) := there_r k B O a 8 hB h
  have hr : ∀ x y, pBin Tryz.prog .rem 3 x y (iv (a : Int)) (iv 8) = some (iv 0) := fun x y => by
    rw [rem8, show Int.tmod (a : Int) 8 = 0 by
      rw [Int.tmod_eq_emod_of_nonneg (by omega)]
      omega]
  simp only [pcS_seq, pcS_region, dynR_no, unBox_false, unBox_true, doesBox, loud_make, inert_make, read_make, read_slice, loud_append, loud_copy, loud_clear, readCls_load, readCls_slice, loudCls_store, loudCls_alloc, loudCls_box, loudCls_call, atR_ptr, atS_ptr, Option.map_none, setS_frz, pcS_block, pcS_cond, pcS_loop, pcS_exit, pcS_ret, pcS_skip, popsL_nil, popsL_cons, pop_plain, pop_guard, wantS_eq, wantD_some, wantV_t, wantV_f, wantV_tup, guardP_true, guardP_false, bindS_normal, bindS_exit, bindS_ret, blockS_normal, blockS_exit, blockS_ret, bindP_some, doneR_some, condS_true, condS_false, pickI_some, pickI_none, pickR_some, pickR_none, pickL_some, endS_normal, endS_ret, setS_some, resV_none, resV_one, dstOk, doesTake, inert_move, inert_assign, inert_pick, inert_build, inert_buildSlice, inert_load, inert_nilCheck, inert_binOp, inert_unOp, inert_convert, inert_slice, inert_fieldAddr, inert_field, inert_indexAddr, inert_index, inert_extract, inert_builtin, inert_call, inert_alloc, inert_box, inert_store, pickB_bv, loadI_ep, loadI_ptr, nilI_ptr, nilI_ep, unI_not, extrI_tup, pureC_ok, callI_fn, read_load, read_alloc, read_box, read_store, read_call, loadR_ptr, boxR_cells, loud_load, loud_store, loud_alloc, loud_box, loud_call, loadL_ptr, boxL_cells, storeL_ptr, boxS_cells, boxN_eq, callL_fn, put, drop, takes, restrict, ev, lk, params, annF, bodyF, aggF, sizeF, elemF, fieldF, partF, List.zipIdx, List.zipIdx_cons, List.zipIdx_nil, List.map, List.map_cons, List.map_nil, Option.getD_some, Nat.reduceLT, Nat.reduceAdd, Nat.reduceEqDiff, Nat.reduceMul, Int.reduceEq, decide_true, decide_false, Bool.false_eq_true, Bool.and_true, Bool.false_and, Bool.and_false, Bool.true_and, Bool.and_self, if_true, if_false, reduceIte, List.contains_nil, List.contains_cons, beq_self_eq_true, Nat.reduceBEq, Bool.or_false, Bool.false_or, Bool.or_true, Bool.true_or, Bool.not_true, Bool.not_false, ofVal_iv, ofVal_bv, dn_iv, ow_iv, dn_bv, ow_bv, dn_fn, dn_ptr, dn_ep, dn_agg, dn_tup, dn_nilsl, dn_own, dn_sh, dn_ex, ow_ptr, ow_ep, ow_agg, ow_tup, ow_nilsl, ow_own, ow_sh, ow_ex, maxRef_iv, maxRef_bv, maxRef_agg, maxRef_tup, maxRefs_nil, maxRefs_cons, Nat.max_self, Nat.zero_le, List.cons_append, List.nil_append, List.append_nil, pBuiltin, tys1, Option.bind_some, Option.map_some, resultOf, List.getElem?_cons_zero, List.getElem?_cons_succ, cells_agg, cells_iv, solid_iv, solid_agg, List.length_cons, List.length_nil, Nat.zero_add, List.take_zero, List.take_nil, add_iv, sub_iv, mul_iv, lss_iv, leq_iv, gtr_iv, geq_iv, eql_iv, neq_iv, arr2, List.set_cons_zero, List.set_cons_succ, List.take_succ_cons, List.drop_succ_cons, List.drop_zero, List.take_length, or_true, true_or, and_true, true_and, and_self, Nat.reduceLeDiff, eq_self, Tryz.f30, dn_slsh, len25, hB, dn_memV, ow_memV, cells_memV, solid_memV, dn_olds, part28m, c1, maxRef_memV, hr]

/-- A FETCH. -/
theorem fetch_ok (k : Nat) (B : List Nat) (O : List (Nat × List Nat)) (a : Nat) (n : Int) (hB : B.length = 2048) (h : cellIs B a n) :
    pcall Tryz.prog ann noSums (k + 301) 13 [memV B O, iv a] [] = some (.tup [iv n, iv 0], []) := by
  refine go13 rfl ?_
  obtain ⟨ha, hl, hc, hn⟩ := h
  have c1 := cellat_r (k + 298) B O a hB ha hl
  have c2 := get_at k n hn
  have w1 : W ((a : Int) + 8) = ((a + 8 : Nat) : Int) := by rw [← W_nat (n := a + 8) (by omega)]; congr 1
  have hs := slice25 B a 8 (by rw [hB]; exact hl)
  rw [hc] at hs
  simp only [pcS_seq, pcS_region, dynR_no, unBox_false, unBox_true, doesBox, loud_make, inert_make, read_make, read_slice, loud_append, loud_copy, loud_clear, readCls_load, readCls_slice, loudCls_store, loudCls_alloc, loudCls_box, loudCls_call, atR_ptr, atS_ptr, Option.map_none, setS_frz, pcS_block, pcS_cond, pcS_loop, pcS_exit, pcS_ret, pcS_skip, popsL_nil, popsL_cons, pop_plain, pop_guard, wantS_eq, wantD_some, wantV_t, wantV_f, wantV_tup, guardP_true, guardP_false, bindS_normal, bindS_exit, bindS_ret, blockS_normal, blockS_exit, blockS_ret, bindP_some, doneR_some, condS_true, condS_false, pickI_some, pickI_none, pickR_some, pickR_none, pickL_some, endS_normal, endS_ret, setS_some, resV_none, resV_one, dstOk, doesTake, inert_move, inert_assign, inert_pick, inert_build, inert_buildSlice, inert_load, inert_nilCheck, inert_binOp, inert_unOp, inert_convert, inert_slice, inert_fieldAddr, inert_field, inert_indexAddr, inert_index, inert_extract, inert_builtin, inert_call, inert_alloc, inert_box, inert_store, pickB_bv, loadI_ep, loadI_ptr, nilI_ptr, nilI_ep, unI_not, extrI_tup, pureC_ok, callI_fn, read_load, read_alloc, read_box, read_store, read_call, loadR_ptr, boxR_cells, loud_load, loud_store, loud_alloc, loud_box, loud_call, loadL_ptr, boxL_cells, storeL_ptr, boxS_cells, boxN_eq, callL_fn, put, drop, takes, restrict, ev, lk, params, annF, bodyF, aggF, sizeF, elemF, fieldF, partF, List.zipIdx, List.zipIdx_cons, List.zipIdx_nil, List.map, List.map_cons, List.map_nil, Option.getD_some, Nat.reduceLT, Nat.reduceAdd, Nat.reduceEqDiff, Nat.reduceMul, Int.reduceEq, decide_true, decide_false, Bool.false_eq_true, Bool.and_true, Bool.false_and, Bool.and_false, Bool.true_and, Bool.and_self, if_true, if_false, reduceIte, List.contains_nil, List.contains_cons, beq_self_eq_true, Nat.reduceBEq, Bool.or_false, Bool.false_or, Bool.or_true, Bool.true_or, Bool.not_true, Bool.not_false, ofVal_iv, ofVal_bv, dn_iv, ow_iv, dn_bv, ow_bv, dn_fn, dn_ptr, dn_ep, dn_agg, dn_tup, dn_nilsl, dn_own, dn_sh, dn_ex, ow_ptr, ow_ep, ow_agg, ow_tup, ow_nilsl, ow_own, ow_sh, ow_ex, maxRef_iv, maxRef_bv, maxRef_agg, maxRef_tup, maxRefs_nil, maxRefs_cons, Nat.max_self, Nat.zero_le, List.cons_append, List.nil_append, List.append_nil, pBuiltin, tys1, Option.bind_some, Option.map_some, resultOf, List.getElem?_cons_zero, List.getElem?_cons_succ, cells_agg, cells_iv, solid_iv, solid_agg, List.length_cons, List.length_nil, Nat.zero_add, List.take_zero, List.take_nil, add_iv, sub_iv, mul_iv, lss_iv, leq_iv, gtr_iv, geq_iv, eql_iv, neq_iv, arr2, List.set_cons_zero, List.set_cons_succ, List.take_succ_cons, List.drop_succ_cons, List.drop_zero, List.take_length, or_true, true_or, and_true, true_and, and_self, Nat.reduceLeDiff, eq_self, Tryz.f13, dn_slsh, len25, hB, dn_memV, ow_memV, cells_memV, solid_memV, dn_olds, part28m, c1, c2, maxRef_memV, maxRef_sl, w1, hs, resV_two, resM_cons, resM_nil, consR_some]

end Go.Proofs.YtnjlkgmcoengnaaGreat.PE
