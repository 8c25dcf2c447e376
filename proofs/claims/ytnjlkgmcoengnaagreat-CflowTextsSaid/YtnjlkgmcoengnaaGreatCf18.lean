/-
  CflowTexts, part 18: a text is put out. No condition.
-/
import Derived.Test.YtnjlkgmcoengnaaGreatCf16
import Derived.Test.YtnjlkgmcoengnaaGreatCf17
set_option linter.unusedSimpArgs false
set_option linter.unusedVariables false
set_option maxRecDepth 20000
set_option maxHeartbeats 4000000
namespace Go.Proofs.YtnjlkgmcoengnaaGreat.PE
open Go

/-- What a cell of a machine in a run may be. -/
structure CalmV (v : PV) : Prop where
  dn : v.dn = v
  ow : v.isOw = false
  mr : v.maxRef = 0
  so : v.solid = true
  ce : v.cells = [v]
theorem CalmV.nil : CalmV .nilsl := ⟨rfl, rfl, maxRef_nil, rfl, rfl⟩
theorem CalmV.sh (sz : Nat) (l : List PV) : CalmV (.sl .sh sz l) := ⟨rfl, rfl, maxRef_sl _ _ _, rfl, rfl⟩
theorem CalmV.ex (sz : Nat) (l : List PV) : CalmV (.sl .ex sz l) := ⟨rfl, rfl, maxRef_sl _ _ _, rfl, rfl⟩

/-- A text's bytes, as numbers. -/
def nats (s : ByteArray) : List Nat := s.data.toList.map UInt8.toNat
theorem nats_len (s : ByteArray) : (nats s).length = s.size := by rw [nats, List.length_map]; rfl
theorem bytesOf_bs (l : List Nat) : bytesOf (bs l) = some (l.map UInt8.ofNat) := by
  induction l with
  | nil => rfl
  | cons x r ih =>
    have hb : bs (x :: r) = u8 x :: bs r := rfl
    simp only [hb, u8, bytesOf, ih, Option.map_some, List.map_cons, Int.toNat_natCast]
theorem nats_back (s : ByteArray) : (nats s).map UInt8.ofNat = s.data.toList := by
  rw [nats, List.map_map]
  have : (UInt8.ofNat ∘ UInt8.toNat) = id := by
    funext x
    simp
  rw [this, List.map_id]
theorem conv_sl (l : List PV) : pConvert Tryz.prog 25 9 (.sl .sh 1 l) = (bytesOf l).map fun l => .s (.string ⟨l.toArray⟩) := by kernel_rfl
theorem conv_nil : pConvert Tryz.prog 25 9 .nilsl = some (.s (.string ByteArray.empty)) := by kernel_rfl
theorem conv9 (s : ByteArray) : pConvert Tryz.prog 25 9 (accV (nats s)).dn = some (.s (.string s)) := by
  have hb := nats_back s
  cases hq : nats s with
  | nil =>
    rw [hq] at hb
    have hs : s = ByteArray.empty := by
      obtain ⟨⟨l⟩⟩ := s
      simp only [List.map_nil] at hb
      have hb' : l = [] := hb.symm
      subst hb'
      rfl
    rw [accV_nil, hs]
    exact conv_nil
  | cons x l =>
    rw [hq] at hb
    have hd : (accV (x :: l)).dn = .sl .sh 1 (bs (x :: l)) := rfl
    rw [hd, conv_sl, bytesOf_bs, hb]
    rfl
theorem conv25 (s : ByteArray) (h : s.size ≤ 100) : pConvert Tryz.prog 9 25 (.s (.string s)) = some (.sl .sh 1 (bs (nats s))) := by
  have he : tElem Tryz.prog 25 = some 5 := by kernel_rfl
  have h8 : tU8 Tryz.prog 5 = true := by kernel_rfl
  have h9 : tString Tryz.prog 9 = true := by kernel_rfl
  have h25 : tString Tryz.prog 25 = false := by kernel_rfl
  have hm : s.size ≤ maxLen := by have : maxLen = 9223372036854775807 := rfl; omega
  simp only [pConvert, he, h8, h9, h25, hm, Bool.false_and, Bool.false_eq_true, if_false, Bool.and_self, decide_true, if_true]
  rw [nats, bs, List.map_map]
  rfl
theorem len9 (s : ByteArray) : pLen Tryz.prog 9 (.s (.string s)) = some (iv s.size) := by kernel_rfl
/-- What a text puts out. -/
def outOf (l : List Nat) : PV := if l = [] then .sl .ex 1 [] else .sl .sh 1 (bs l)
theorem outOf_is (l : List Nat) : outIs (outOf l) (bs l) := by
  cases l with
  | nil => exact .inr rfl
  | cons x l => exact .inl rfl
theorem app25e : pAppend Tryz.prog 25 25 (.sl .ex 1 []) .nilsl = some (.sl .ex 1 []) := by kernel_rfl
theorem app25x : pAppend Tryz.prog 25 25 (.sl .ex 1 []) (.sl .sh 1 (bs [])) = some (.sl .ex 1 []) := by kernel_rfl
theorem len25n : pLen Tryz.prog 25 .nilsl = some (iv 0) := by kernel_rfl

theorem print_ok (k : Nat) (m0 m1 ws d r : PV) (h : Int) (s : ByteArray) (hs : s.size ≤ 100) (e0 : CalmV m0) (e1 : CalmV m1) (e2 : CalmV ws) (e3 : CalmV d) (e4 : CalmV r) :
    pcall Tryz.prog ann noSums (k + 1) 108 [.agg (rmC m0 m1 ws h d r .nilsl), .s (.string s)] [] = some (.tup [.agg (rmC m0 m1 ws h d r (outOf (nats s))), iv 0], []) := by
  have hc := conv25 s hs
  have hl : ¬ (500 : Int) < s.size := by omega
  obtain ⟨a0, a1, a2, a3, a4⟩ := e0
  obtain ⟨b0, b1, b2, b3, b4⟩ := e1
  obtain ⟨f0, f1, f2, f3, f4⟩ := e2
  obtain ⟨g0, g1, g2, g3, g4⟩ := e3
  obtain ⟨i0, i1, i2, i3, i4⟩ := e4
  cases hq : nats s with
  | nil =>
    rw [hq] at hc
    simp only [pcS_seq, pcS_region, dynR_no, unBox_false, unBox_true, doesBox, loud_make, inert_make, read_make, read_slice, loud_append, loud_copy, loud_clear, readCls_load, readCls_slice, loudCls_store, loudCls_alloc, loudCls_box, loudCls_call, atR_ptr, atS_ptr, Option.map_none, setS_frz, pcS_block, pcS_cond, pcS_loop, pcS_exit, pcS_ret, pcS_skip, popsL_nil, popsL_cons, pop_plain, pop_guard, wantS_eq, wantD_some, wantV_t, wantV_f, wantV_tup, guardP_true, guardP_false, bindS_normal, bindS_exit, bindS_ret, blockS_normal, blockS_exit, blockS_ret, bindP_some, doneR_some, condS_true, condS_false, pickI_some, pickI_none, pickR_some, pickR_none, pickL_some, endS_normal, endS_ret, setS_some, resV_none, resV_one, dstOk, doesTake, inert_move, inert_assign, inert_pick, inert_build, inert_buildSlice, inert_load, inert_nilCheck, inert_binOp, inert_unOp, inert_convert, inert_slice, inert_fieldAddr, inert_field, inert_indexAddr, inert_index, inert_extract, inert_builtin, inert_call, inert_alloc, inert_box, inert_store, pickB_bv, loadI_ep, loadI_ptr, nilI_ptr, nilI_ep, unI_not, extrI_tup, pureC_ok, callI_fn, read_load, read_alloc, read_box, read_store, read_call, loadR_ptr, boxR_cells, loud_load, loud_store, loud_alloc, loud_box, loud_call, loadL_ptr, boxL_cells, storeL_ptr, boxS_cells, boxN_eq, callL_fn, put, drop, takes, restrict, ev, lk, params, annF, bodyF, aggF, sizeF, elemF, fieldF, partF, List.zipIdx, List.zipIdx_cons, List.zipIdx_nil, List.map, List.map_cons, List.map_nil, Option.getD_some, Nat.reduceLT, Nat.reduceAdd, Nat.reduceEqDiff, Nat.reduceMul, Int.reduceEq, decide_true, decide_false, Bool.false_eq_true, Bool.and_true, Bool.false_and, Bool.and_false, Bool.true_and, Bool.and_self, if_true, if_false, reduceIte, List.contains_nil, List.contains_cons, beq_self_eq_true, Nat.reduceBEq, Bool.or_false, Bool.false_or, Bool.or_true, Bool.true_or, Bool.not_true, Bool.not_false, ofVal_iv, ofVal_bv, dn_iv, ow_iv, dn_bv, ow_bv, dn_fn, dn_ptr, dn_ep, dn_agg, dn_tup, dn_nilsl, dn_own, dn_sh, dn_ex, ow_ptr, ow_ep, ow_agg, ow_tup, ow_nilsl, ow_own, ow_sh, ow_ex, maxRef_iv, maxRef_bv, maxRef_agg, maxRef_tup, maxRefs_nil, maxRefs_cons, Nat.max_self, Nat.zero_le, List.cons_append, List.nil_append, List.append_nil, pBuiltin, tys1, Option.bind_some, Option.map_some, resultOf, List.getElem?_cons_zero, List.getElem?_cons_succ, cells_agg, cells_iv, solid_iv, solid_agg, List.length_cons, List.length_nil, Nat.zero_add, List.take_zero, List.take_nil, add_iv, sub_iv, mul_iv, lss_iv, leq_iv, gtr_iv, geq_iv, eql_iv, neq_iv, arr2, List.set_cons_zero, List.set_cons_succ, List.take_succ_cons, List.drop_succ_cons, List.drop_zero, List.take_length, or_true, true_or, and_true, true_and, and_self, Nat.reduceLeDiff, eq_self, maxRef_sl, maxRef_nil, dn_slsh, dn_vs, ow_vs, solid_sl, cells_sl, solid_nil, cells_nil, dn_olds, ow_olds, maxRef_olds, dn_memV, ow_memV, maxRef_memV, solid_memV, cells_memV, eqs_ok, neqs_ok, sameS_nn, sameS_nc, sameS_cn, sameS_cc, UInt8.reduceToNat, str_dn, str_ow, str_solid, str_cells, str_maxRef, str_ofVal, fn_dn, fn_ow, fn_solid, fn_cells, W_lit, resV_two, resM_cons, resM_nil, consR_some, Int.reduceLE, Int.reduceLT, Int.reduceAdd, Int.reduceSub, Int.reduceMul, len25, len55, castN, solid_bv, cells_bv, call108, Tryz.f108, rmC, part37, alloc37, z37, a0, a1, a2, a3, a4, b0, b1, b2, b3, b4, f0, f1, f2, f3, f4, g0, g1, g2, g3, g4, i0, i1, i2, i3, i4, hc, len9, len25n, hl, ofVal_nil, build0, app25e, app25x, outOf]
  | cons x l =>
    rw [hq] at hc
    have ha : pAppend Tryz.prog 25 25 (.sl .ex 1 []) (.sl .sh 1 (bs (x :: l))) = some (.sl .ow 1 (bs (x :: l))) := app8 .ex .sh (by simp) [] x l (by
      have := congrArg List.length hq
      rw [nats_len] at this
      simp at this ⊢
      omega)
    simp only [pcS_seq, pcS_region, dynR_no, unBox_false, unBox_true, doesBox, loud_make, inert_make, read_make, read_slice, loud_append, loud_copy, loud_clear, readCls_load, readCls_slice, loudCls_store, loudCls_alloc, loudCls_box, loudCls_call, atR_ptr, atS_ptr, Option.map_none, setS_frz, pcS_block, pcS_cond, pcS_loop, pcS_exit, pcS_ret, pcS_skip, popsL_nil, popsL_cons, pop_plain, pop_guard, wantS_eq, wantD_some, wantV_t, wantV_f, wantV_tup, guardP_true, guardP_false, bindS_normal, bindS_exit, bindS_ret, blockS_normal, blockS_exit, blockS_ret, bindP_some, doneR_some, condS_true, condS_false, pickI_some, pickI_none, pickR_some, pickR_none, pickL_some, endS_normal, endS_ret, setS_some, resV_none, resV_one, dstOk, doesTake, inert_move, inert_assign, inert_pick, inert_build, inert_buildSlice, inert_load, inert_nilCheck, inert_binOp, inert_unOp, inert_convert, inert_slice, inert_fieldAddr, inert_field, inert_indexAddr, inert_index, inert_extract, inert_builtin, inert_call, inert_alloc, inert_box, inert_store, pickB_bv, loadI_ep, loadI_ptr, nilI_ptr, nilI_ep, unI_not, extrI_tup, pureC_ok, callI_fn, read_load, read_alloc, read_box, read_store, read_call, loadR_ptr, boxR_cells, loud_load, loud_store, loud_alloc, loud_box, loud_call, loadL_ptr, boxL_cells, storeL_ptr, boxS_cells, boxN_eq, callL_fn, put, drop, takes, restrict, ev, lk, params, annF, bodyF, aggF, sizeF, elemF, fieldF, partF, List.zipIdx, List.zipIdx_cons, List.zipIdx_nil, List.map, List.map_cons, List.map_nil, Option.getD_some, Nat.reduceLT, Nat.reduceAdd, Nat.reduceEqDiff, Nat.reduceMul, Int.reduceEq, decide_true, decide_false, Bool.false_eq_true, Bool.and_true, Bool.false_and, Bool.and_false, Bool.true_and, Bool.and_self, if_true, if_false, reduceIte, List.contains_nil, List.contains_cons, beq_self_eq_true, Nat.reduceBEq, Bool.or_false, Bool.false_or, Bool.or_true, Bool.true_or, Bool.not_true, Bool.not_false, ofVal_iv, ofVal_bv, dn_iv, ow_iv, dn_bv, ow_bv, dn_fn, dn_ptr, dn_ep, dn_agg, dn_tup, dn_nilsl, dn_own, dn_sh, dn_ex, ow_ptr, ow_ep, ow_agg, ow_tup, ow_nilsl, ow_own, ow_sh, ow_ex, maxRef_iv, maxRef_bv, maxRef_agg, maxRef_tup, maxRefs_nil, maxRefs_cons, Nat.max_self, Nat.zero_le, List.cons_append, List.nil_append, List.append_nil, pBuiltin, tys1, Option.bind_some, Option.map_some, resultOf, List.getElem?_cons_zero, List.getElem?_cons_succ, cells_agg, cells_iv, solid_iv, solid_agg, List.length_cons, List.length_nil, Nat.zero_add, List.take_zero, List.take_nil, add_iv, sub_iv, mul_iv, lss_iv, leq_iv, gtr_iv, geq_iv, eql_iv, neq_iv, arr2, List.set_cons_zero, List.set_cons_succ, List.take_succ_cons, List.drop_succ_cons, List.drop_zero, List.take_length, or_true, true_or, and_true, true_and, and_self, Nat.reduceLeDiff, eq_self, maxRef_sl, maxRef_nil, dn_slsh, dn_vs, ow_vs, solid_sl, cells_sl, solid_nil, cells_nil, dn_olds, ow_olds, maxRef_olds, dn_memV, ow_memV, maxRef_memV, solid_memV, cells_memV, eqs_ok, neqs_ok, sameS_nn, sameS_nc, sameS_cn, sameS_cc, UInt8.reduceToNat, str_dn, str_ow, str_solid, str_cells, str_maxRef, str_ofVal, fn_dn, fn_ow, fn_solid, fn_cells, W_lit, resV_two, resM_cons, resM_nil, consR_some, Int.reduceLE, Int.reduceLT, Int.reduceAdd, Int.reduceSub, Int.reduceMul, len25, len55, castN, solid_bv, cells_bv, call108, Tryz.f108, rmC, part37, alloc37, z37, a0, a1, a2, a3, a4, b0, b1, b2, b3, b4, f0, f1, f2, f3, f4, g0, g1, g2, g3, g4, i0, i1, i2, i3, i4, hc, len9, len25n, hl, ofVal_nil, build0, app25e, ha, outOf, reduceCtorEq]

section
variable (mb mo wl : List PV) (h : Int) (k : Nat)
theorem base_ok (k : Nat) (B : List Nat) (p : Nat × List Nat) (O : List (Nat × List Nat)) (wl : List PV) (h : Int) (d r out : PV) (hB : B.length = 2048) (hc : cellIs B 0 10) (h3 : CalmV d) (h4 : CalmV r) (h5 : CalmV out) :
    pcall Tryz.prog ann noSums (k + 302) 136 [.agg (rmC (.sl .sh 1 (bs B)) (.sl .sh 2 ((p :: O).map pch)) (.sl .sh 3 wl) h d r out)] [] = some (iv 10, []) := by
  have c1 : pcall Tryz.prog ann noSums (k + 301) 13 [.agg [.sl .sh 1 (bs B), .sl .sh 2 ((p :: O).map pch)], iv 0] [] = some (.tup [iv 10, iv 0], []) := fetch_x k B p O 0 10 hB hc
  generalize (p :: O).map pch = mo at c1
  obtain ⟨g0, g1, g2, g3, g4⟩ := h3
  obtain ⟨i0, i1, i2, i3, i4⟩ := h4
  obtain ⟨j0, j1, j2, j3, j4⟩ := h5
  simp only [pcS_seq, pcS_region, dynR_no, unBox_false, unBox_true, doesBox, loud_make, inert_make, read_make, read_slice, loud_append, loud_copy, loud_clear, readCls_load, readCls_slice, loudCls_store, loudCls_alloc, loudCls_box, loudCls_call, atR_ptr, atS_ptr, Option.map_none, setS_frz, pcS_block, pcS_cond, pcS_loop, pcS_exit, pcS_ret, pcS_skip, popsL_nil, popsL_cons, pop_plain, pop_guard, wantS_eq, wantD_some, wantV_t, wantV_f, wantV_tup, guardP_true, guardP_false, bindS_normal, bindS_exit, bindS_ret, blockS_normal, blockS_exit, blockS_ret, bindP_some, doneR_some, condS_true, condS_false, pickI_some, pickI_none, pickR_some, pickR_none, pickL_some, endS_normal, endS_ret, setS_some, resV_none, resV_one, dstOk, doesTake, inert_move, inert_assign, inert_pick, inert_build, inert_buildSlice, inert_load, inert_nilCheck, inert_binOp, inert_unOp, inert_convert, inert_slice, inert_fieldAddr, inert_field, inert_indexAddr, inert_index, inert_extract, inert_builtin, inert_call, inert_alloc, inert_box, inert_store, pickB_bv, loadI_ep, loadI_ptr, nilI_ptr, nilI_ep, unI_not, extrI_tup, pureC_ok, callI_fn, read_load, read_alloc, read_box, read_store, read_call, loadR_ptr, boxR_cells, loud_load, loud_store, loud_alloc, loud_box, loud_call, loadL_ptr, boxL_cells, storeL_ptr, boxS_cells, boxN_eq, callL_fn, put, drop, takes, restrict, ev, lk, params, annF, bodyF, aggF, sizeF, elemF, fieldF, partF, List.zipIdx, List.zipIdx_cons, List.zipIdx_nil, List.map, List.map_cons, List.map_nil, Option.getD_some, Nat.reduceLT, Nat.reduceAdd, Nat.reduceEqDiff, Nat.reduceMul, Int.reduceEq, decide_true, decide_false, Bool.false_eq_true, Bool.and_true, Bool.false_and, Bool.and_false, Bool.true_and, Bool.and_self, if_true, if_false, reduceIte, List.contains_nil, List.contains_cons, beq_self_eq_true, Nat.reduceBEq, Bool.or_false, Bool.false_or, Bool.or_true, Bool.true_or, Bool.not_true, Bool.not_false, ofVal_iv, ofVal_bv, dn_iv, ow_iv, dn_bv, ow_bv, dn_fn, dn_ptr, dn_ep, dn_agg, dn_tup, dn_nilsl, dn_own, dn_sh, dn_ex, ow_ptr, ow_ep, ow_agg, ow_tup, ow_nilsl, ow_own, ow_sh, ow_ex, maxRef_iv, maxRef_bv, maxRef_agg, maxRef_tup, maxRefs_nil, maxRefs_cons, Nat.max_self, Nat.zero_le, List.cons_append, List.nil_append, List.append_nil, pBuiltin, tys1, Option.bind_some, Option.map_some, resultOf, List.getElem?_cons_zero, List.getElem?_cons_succ, cells_agg, cells_iv, solid_iv, solid_agg, List.length_cons, List.length_nil, Nat.zero_add, List.take_zero, List.take_nil, add_iv, sub_iv, mul_iv, lss_iv, leq_iv, gtr_iv, geq_iv, eql_iv, neq_iv, arr2, List.set_cons_zero, List.set_cons_succ, List.take_succ_cons, List.drop_succ_cons, List.drop_zero, List.take_length, or_true, true_or, and_true, true_and, and_self, Nat.reduceLeDiff, eq_self, maxRef_sl, maxRef_nil, dn_slsh, dn_vs, ow_vs, solid_sl, cells_sl, solid_nil, cells_nil, dn_olds, ow_olds, maxRef_olds, dn_memV, ow_memV, maxRef_memV, solid_memV, cells_memV, eqs_ok, neqs_ok, sameS_nn, sameS_nc, sameS_cn, sameS_cc, UInt8.reduceToNat, str_dn, str_ow, str_solid, str_cells, str_maxRef, str_ofVal, fn_dn, fn_ow, fn_solid, fn_cells, W_lit, resV_two, resM_cons, resM_nil, consR_some, Int.reduceLE, Int.reduceLT, Int.reduceAdd, Int.reduceSub, Int.reduceMul, len25, len55, castN, solid_bv, cells_bv, call136, Tryz.f136, rmC, part28', c1, g0, g1, g2, g3, g4, i0, i1, i2, i3, i4, j0, j1, j2, j3, j4]
end

end Go.Proofs.YtnjlkgmcoengnaaGreat.PE
