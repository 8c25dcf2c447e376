/-
  CflowTexts, part 28: the document's example holds. No condition.
-/
import Derived.Test.YtnjlkgmcoengnaaGreatCf22
import Derived.Test.YtnjlkgmcoengnaaGreatCf26
import Derived.Test.YtnjlkgmcoengnaaGreatCf27
set_option linter.unusedSimpArgs false
set_option linter.unusedVariables false
set_option maxRecDepth 20000
set_option maxHeartbeats 8000000
namespace Go.Proofs.YtnjlkgmcoengnaaGreat.PE
open Go

/-! What stands in a memory behind something laid. -/
theorem part_same (B : List Nat) (o : Nat) (b : List Nat) (h : o + b.length ≤ B.length) : ((over B o b).drop o).take b.length = b := by
  have hl : (B.take o).length = o := by simp; omega
  have e : over B o b = B.take o ++ (b ++ B.drop (o + b.length)) := by rw [over, List.append_assoc]
  rw [e, List.drop_append_of_le_length (by omega), List.drop_eq_nil_of_le (by omega), List.nil_append, List.take_left]
theorem part_other (B : List Nat) (o : Nat) (b : List Nat) (a n : Nat) (h : o + b.length ≤ B.length) (hd : a + n ≤ o ∨ o + b.length ≤ a) : ((over B o b).drop a).take n = (B.drop a).take n := by
  have hl : (B.take o).length = o := by simp; omega
  apply List.ext_getElem?
  intro j
  by_cases hj : j < n
  · rw [List.getElem?_take_of_lt hj, List.getElem?_take_of_lt hj, List.getElem?_drop, List.getElem?_drop]
    have e : over B o b = B.take o ++ (b ++ B.drop (o + b.length)) := by rw [over, List.append_assoc]
    rw [e]
    rcases hd with hd | hd
    · rw [List.getElem?_append_left (by omega), List.getElem?_take_of_lt (by omega)]
    · rw [List.getElem?_append_right (by omega), hl, List.getElem?_append_right (by omega), List.getElem?_drop]
      congr 1
      omega
  · rw [List.getElem?_take, if_neg hj, List.getElem?_take, if_neg hj]
theorem cellput_same (B : List Nat) (q : Nat) (n : Int) (hB : B.length = 2048) (h : 8 * q + 8 ≤ 2048) (hn : inI64 n) : cellIs (put1 B q n) (8 * q) n := by
  refine ⟨by omega, h, ?_, hn⟩
  have := part_same B (8 * q) (cb n) (by rw [cb_len]; omega)
  rwa [cb_len] at this
theorem cell_other (B : List Nat) (o : Nat) (b : List Nat) (a : Nat) (n : Int) (hB : o + b.length ≤ B.length) (hd : a + 8 ≤ o ∨ o + b.length ≤ a) (h : cellIs B a n) : cellIs (over B o b) a n :=
  ⟨h.1, h.2.1, by rw [part_other B o b a 8 hB hd]; exact h.2.2.1, h.2.2.2⟩
theorem cell_put (B : List Nat) (q : Nat) (m : Int) (a : Nat) (n : Int) (hB : B.length = 2048) (hq : 8 * q + 8 ≤ 2048) (hd : a + 8 ≤ 8 * q ∨ 8 * q + 8 ≤ a) (h : cellIs B a n) : cellIs (put1 B q m) a n :=
  cell_other B (8 * q) (cb m) a n (by rw [cb_len]; omega) (by rw [cb_len]; exact hd) h

theorem lap_cons {α : Type} (x : α) (a b : List α) : List.append (x :: a) b = x :: List.append a b := rfl
theorem lap_nil {α : Type} (b : List α) : List.append [] b = b := rfl
theorem idx48 (a : Int) : pIndexAddr Tryz.prog 48 (.sl .sh 3 [.agg [iv 1, iv a, .nilsl]]) (iv 0) = some (.ep (.agg [iv 1, iv a, .nilsl]) 0) := by kernel_rfl
theorem len48 (t : Tag) (m : List PV) : pLen Tryz.prog 48 (.sl t 3 m) = some (iv m.length) := by kernel_rfl
theorem len48n : pLen Tryz.prog 48 .nilsl = some (iv 0) := by kernel_rfl
theorem build54e : pBuild Tryz.prog 54 [] = some (.agg [iv 0, iv 0, .nilsl]) := by kernel_rfl
theorem bslice48e : pBuildSlice Tryz.prog 48 1 [(0, .agg [iv 0, iv 0, .nilsl])] = some (.sl .ex 3 [.agg [iv 0, iv 0, .nilsl]]) := by kernel_rfl
noncomputable def names14L : List PV := ((pcall Tryz.prog ann noSums 4 14 [] []).map fun r => match r.1 with | .sl _ _ l => l | _ => []).getD []
theorem names14 (k : Nat) : pcall Tryz.prog ann noSums (k + 4) 14 [] [] = some (.sl .ex 1 names14L, []) := pcall_mono (k := 4) (by omega) (by kernel_rfl)
theorem names14_len : names14L.length = 13 := by kernel_rfl
theorem right_l (k : Nat) : pcall Tryz.prog ann noSums (k + 10) 15 [.sl .sh 3 [.agg [iv 1, iv 1376, .nilsl]]] [] = some (bv true, []) := pcall_mono (k := 10) (by omega) (by kernel_rfl)
theorem right_e (k : Nat) : pcall Tryz.prog ann noSums (k + 10) 15 [.sl .ex 3 [.agg [iv 0, iv 0, .nilsl]]] [] = some (bv false, []) := pcall_mono (k := 10) (by omega) (by kernel_rfl)
theorem same_ll (k : Nat) : pcall Tryz.prog ann noSums (k + 20) 16 [.sl .sh 3 [.agg [iv 1, iv 1376, .nilsl]], .sl .sh 3 [.agg [iv 1, iv 1376, .nilsl]]] [] = some (bv true, []) := pcall_mono (k := 20) (by omega) (by kernel_rfl)
theorem same_lm (k : Nat) : pcall Tryz.prog ann noSums (k + 20) 16 [.sl .sh 3 [.agg [iv 1, iv 1376, .nilsl]], .sl .sh 3 []] [] = some (bv false, []) := pcall_mono (k := 20) (by omega) (by kernel_rfl)
abbrev abcS : PV := .s (.string ⟨#[97, 98, 99]⟩)

theorem shown_ok (k : Nat) : pcall Tryz.prog ann noSums (k + 400) 4 [] [] = some (bv true, []) := by
  obtain ⟨B, wl, hs, h0⟩ := fresh_ok 0
  have hB := hs.1
  have c0 : ∀ k, pcall Tryz.prog ann noSums (k + 301) 5 [] [] = some (vmV wl B [] 1368, []) := fun k => pcall_mono (by omega) h0
  obtain ⟨B1, O1, hB1, hO1, ho1, c1⟩ : ∃ B1 O1, B1.length = 2048 ∧ O1.length ≤ 900 ∧ (∃ mo, olds O1 = .sl .sh 2 mo) ∧ ∀ k, pcall Tryz.prog ann noSums (k + 308) 12 [vmV wl B [] 1368, .nilsl, ifS] [] = some (.tup [vmV wl B1 O1 1384, .sl .sh 3 [.agg [iv 1, iv 1376, .nilsl]], iv 0], []) :=
    ⟨_, _, put1_len _ _ _ (put1_len _ _ _ hB (by omega)) (by omega), by rw [log1_len, log1_len]; simp, log1_some _ _ _, fun k => bracket_if k wl B 171 hB (by omega)⟩
  obtain ⟨mo1, hm1⟩ := ho1
  have c2 : ∀ k, pcall Tryz.prog ann noSums (k + 308) 12 [vmV wl B1 O1 1384, .sl .sh 3 [.agg [iv 1, iv 1376, .nilsl]], thenS] [] = some (.tup [vmV wl (put1 B1 172 1384) (log1 O1 B1 172) 1384, .sl .sh 3 [], iv 0], []) :=
    fun k => bracket_then k wl B1 O1 hO1 ⟨mo1, hm1⟩ 172 173 hB1 (by omega)
  have c3 : ∀ k, pcall Tryz.prog ann noSums (k + 308) 12 [vmV wl B [] 1368, .nilsl, thenS] [] = some (.tup [vmV wl B [] 1368, .nilsl, iv (-22)], []) := fun k => bracket_no k wl B 1368
  have c4 : ∀ k, pcall Tryz.prog ann noSums (k + 301) 13 [memV (put1 B1 172 1384) (log1 O1 B1 172), iv 1376] [] = some (.tup [iv 1384, iv 0], []) := fun k =>
    fetch_ok k _ _ 1376 1384 (put1_len _ _ _ hB1 (by omega)) (cellput_same B1 172 1384 hB1 (by omega) (by unfold inI64; omega))
  obtain ⟨B2, O2, c5⟩ : ∃ B2 O2, ∀ k, pcall Tryz.prog ann noSums (k + 306) 9 [vmV wl B [] 1368, iv 5] [] = some (.tup [vmV wl B2 O2 1384, iv 0], []) := ⟨_, _, fun k => lit_ok k wl B [] (by simp) 171 5 hB (by omega)⟩
  obtain ⟨O3, _, h3⟩ := str_ok 0 wl B [] (by simp) 171 ⟨#[97, 98, 99]⟩ (by decide) hB (by decide)
  obtain ⟨B3, c6⟩ : ∃ B3, ∀ k, pcall Tryz.prog ann noSums (k + 306) 7 [vmV wl B [] 1368, abcS] [] = some (.tup [vmV wl B3 O3 1392, iv 0], []) := ⟨_, fun k => pcall_mono (by omega) h3⟩
  obtain ⟨mo4, hm4⟩ := log1_some O1 B1 172
  simp only [memV, vmV, vmC, olds_nil, castN, hm1, hm4] at c0 c1 c2 c3 c4 c5 c6
  generalize bs B = m0 at c0 c1 c3 c5 c6
  generalize bs (put1 B1 172 1384) = m1 at c2 c4
  generalize bs B1 = m2 at c1 c2
  generalize bs B2 = m3 at c5
  generalize bs B3 = m4 at c6
  have d2 := dn_olds O2
  have d3 := dn_olds O3
  have e2 := ow_olds O2
  have e3 := ow_olds O3
  have nl := names14_len
  simp (maxSteps := 2000000) only [pcS_seqN, pcS_region, dynR_noN, unBox_false, unBox_true, doesBox, loud_make, inert_make, read_make, read_slice, loud_append, loud_copy, loud_clear, readCls_load, readCls_slice, loudCls_store, loudCls_alloc, loudCls_box, loudCls_call, atR_ptr, atS_ptr, Option.map_none, setS_frz, pcS_blockN, pcS_condN, pcS_loopN, pcS_exitN, pcS_retN, pcS_skipN, popsL_nilN, popsL_cons, pop_plain, pop_guard, wantS_eq, wantD_some, wantV_t, wantV_f, wantV_tup, guardP_true, guardP_false, bindS_normalN, bindS_exitN, bindS_retN, blockS_normalN, blockS_exitN, blockS_retN, bindP_someN, doneR_someN, condS_trueN, condS_falseN, pickI_someN, pickI_none, pickR_someN, pickR_none, pickL_someN, endS_normalN, endS_retN, setS_some, resV_none, resV_one, dstOk, doesTake, inert_move, inert_assign, inert_pick, inert_build, inert_buildSlice, inert_load, inert_nilCheck, inert_binOp, inert_unOp, inert_convert, inert_slice, inert_fieldAddr, inert_field, inert_indexAddr, inert_index, inert_extract, inert_builtin, inert_call, inert_alloc, inert_box, inert_store, pickB_bv, loadI_ep, loadI_ptr, nilI_ptr, nilI_ep, unI_not, extrI_tup, pureC_ok, callI_fn, read_load, read_alloc, read_box, read_store, read_call, loadR_ptr, boxR_cells, loud_load, loud_store, loud_alloc, loud_box, loud_call, loadL_ptr, boxL_cells, storeL_ptr, boxS_cells, boxN_eq, callL_fn, put, drop, takes, restrict, ev, lk, params, annF, bodyF, aggF, sizeF, elemF, fieldF, partF, List.zipIdx, List.zipIdx_cons, List.zipIdx_nil, List.map, List.map_cons, List.map_nil, Option.getD_some, Nat.reduceLT, Nat.reduceAdd, Nat.reduceEqDiff, Nat.reduceMul, Int.reduceEq, decide_true, decide_false, Bool.false_eq_true, Bool.and_true, Bool.false_and, Bool.and_false, Bool.true_and, Bool.and_self, if_true, if_false, reduceIte, List.contains_nil, List.contains_cons, beq_self_eq_true, Nat.reduceBEq, Bool.or_false, Bool.false_or, Bool.or_true, Bool.true_or, Bool.not_true, Bool.not_false, ofVal_iv, ofVal_bv, dn_iv, ow_iv, dn_bv, ow_bv, dn_fn, dn_ptr, dn_ep, dn_agg, dn_tup, dn_nilsl, dn_own, dn_sh, dn_ex, ow_ptr, ow_ep, ow_agg, ow_tup, ow_nilsl, ow_own, ow_sh, ow_ex, maxRef_iv, maxRef_bv, maxRef_agg, maxRef_tup, maxRefs_nil, maxRefs_cons, Nat.max_self, Nat.zero_le, List.cons_append, List.nil_append, List.append_nil, pBuiltin, tys1, Option.bind_some, Option.map_some, resultOf, List.getElem?_cons_zero, List.getElem?_cons_succ, cells_agg, cells_iv, solid_iv, solid_agg, List.length_cons, List.length_nil, Nat.zero_add, List.take_zero, List.take_nil, add_iv, sub_iv, mul_iv, lss_iv, leq_iv, gtr_iv, geq_iv, eql_iv, neq_iv, arr2, List.set_cons_zero, List.set_cons_succ, List.take_succ_cons, List.drop_succ_cons, List.drop_zero, List.take_length, or_true, true_or, and_true, true_and, and_self, Nat.reduceLeDiff, eq_self, maxRef_sl, maxRef_nil, dn_slsh, dn_vs, ow_vs, solid_sl, cells_sl, solid_nil, cells_nil, dn_olds, ow_olds, maxRef_olds, dn_memV, ow_memV, maxRef_memV, solid_memV, cells_memV, eqs_ok, neqs_ok, sameS_nn, sameS_nc, sameS_cn, sameS_cc, UInt8.reduceToNat, str_dn, str_ow, str_solid, str_cells, str_maxRef, str_ofVal, fn_dn, fn_ow, fn_solid, fn_cells, W_lit, resV_two, resM_cons, resM_nil, consR_some, Int.reduceLE, Int.reduceLT, Int.reduceAdd, Int.reduceSub, Int.reduceMul, len25, len55, castN, solid_bv, cells_bv, dynR_yes, popsK_nil, popsK_cons, bindK_some, consK_some, doneK_if, call4, Tryz.f4, c0, c1, c2, c3, c4, c5, c6, part28', part37, alloc37, z37, ofVal_nil, solid_olds, cells_olds, names14, nl, right_l, right_e, same_ll, same_lm, build54e, bslice48e, idx48, len48, len48n, lap_cons, lap_nil]

end Go.Proofs.YtnjlkgmcoengnaaGreat.PE
