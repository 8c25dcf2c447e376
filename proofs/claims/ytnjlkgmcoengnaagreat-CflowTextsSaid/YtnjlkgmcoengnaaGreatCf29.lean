/-
  CflowTexts, part 29: the law answers true. Condition: the number is an integer of 64 bits.
-/
import Derived.Test.YtnjlkgmcoengnaaGreatCf20
import Derived.Test.YtnjlkgmcoengnaaGreatCf28
set_option linter.unusedSimpArgs false
set_option linter.unusedVariables false
set_option maxRecDepth 20000
set_option maxHeartbeats 8000000
namespace Go.Proofs.YtnjlkgmcoengnaaGreat.PE
open Go

theorem conv_ex : pConvert Tryz.prog 25 9 (.sl .ex 1 []) = some (.s (.string ByteArray.empty)) := by kernel_rfl
theorem conv_out (s : ByteArray) : pConvert Tryz.prog 25 9 (outOf (nats s)) = some (.s (.string s)) := by
  have hb := nats_back s
  cases hq : nats s with
  | nil =>
    rw [hq] at hb
    have hs : s = ByteArray.empty := by
      obtain ⟨⟨l⟩⟩ := s
      simp only [List.map_nil] at hb
      have hb' : l = [] := hb.symm
      subst hb'
      rfl
    rw [hs]
    exact conv_ex
  | cons x l =>
    rw [hq] at hb
    have hd : outOf (x :: l) = .sl .sh 1 (bs (x :: l)) := rfl
    rw [hd, conv_sl, bytesOf_bs, hb]
    rfl
theorem eqs_self (x y : Operand) (s : ByteArray) : pBin Tryz.prog .eql 9 x y (.s (.string s)) (.s (.string s)) = some (bv true) := by
  rw [eqs_raw, beq_self_eq_true]
theorem ix29 (t : Tag) (x : Int) : pIndexAddr Tryz.prog 29 (.sl t 1 [iv x]) (iv 0) = some (.ep (iv x) 0) := by kernel_rfl
theorem bslice29 (x : Int) : pBuildSlice Tryz.prog 29 1 [(0, iv x)] = some (.sl .ex 1 [iv x]) := by kernel_rfl
theorem same11 (k : Nat) (n : Int) : pcall Tryz.prog ann noSums (k + 20) 11 [.sl .sh 1 [iv n], .sl .ex 1 [iv n]] [] = some (bv true, []) := by
  simp (maxSteps := 2000000) only [pcS_seqN, pcS_region, dynR_noN, unBox_false, unBox_true, doesBox, loud_make, inert_make, read_make, read_slice, loud_append, loud_copy, loud_clear, readCls_load, readCls_slice, loudCls_store, loudCls_alloc, loudCls_box, loudCls_call, atR_ptr, atS_ptr, Option.map_none, setS_frz, pcS_blockN, pcS_condN, pcS_loopN, pcS_exitN, pcS_retN, pcS_skipN, popsL_nilN, popsL_cons, pop_plain, pop_guard, wantS_eq, wantD_some, wantV_t, wantV_f, wantV_tup, guardP_true, guardP_false, bindS_normalN, bindS_exitN, bindS_retN, blockS_normalN, blockS_exitN, blockS_retN, bindP_someN, doneR_someN, condS_trueN, condS_falseN, pickI_someN, pickI_none, pickR_someN, pickR_none, pickL_someN, endS_normalN, endS_retN, setS_some, resV_none, resV_one, dstOk, doesTake, inert_move, inert_assign, inert_pick, inert_build, inert_buildSlice, inert_load, inert_nilCheck, inert_binOp, inert_unOp, inert_convert, inert_slice, inert_fieldAddr, inert_field, inert_indexAddr, inert_index, inert_extract, inert_builtin, inert_call, inert_alloc, inert_box, inert_store, pickB_bv, loadI_ep, loadI_ptr, nilI_ptr, nilI_ep, unI_not, extrI_tup, pureC_ok, callI_fn, read_load, read_alloc, read_box, read_store, read_call, loadR_ptr, boxR_cells, loud_load, loud_store, loud_alloc, loud_box, loud_call, loadL_ptr, boxL_cells, storeL_ptr, boxS_cells, boxN_eq, callL_fn, put, drop, takes, restrict, ev, lk, params, annF, bodyF, aggF, sizeF, elemF, fieldF, partF, List.zipIdx, List.zipIdx_cons, List.zipIdx_nil, List.map, List.map_cons, List.map_nil, Option.getD_some, Nat.reduceLT, Nat.reduceAdd, Nat.reduceEqDiff, Nat.reduceMul, Int.reduceEq, decide_true, decide_false, Bool.false_eq_true, Bool.and_true, Bool.false_and, Bool.and_false, Bool.true_and, Bool.and_self, if_true, if_false, reduceIte, List.contains_nil, List.contains_cons, beq_self_eq_true, Nat.reduceBEq, Bool.or_false, Bool.false_or, Bool.or_true, Bool.true_or, Bool.not_true, Bool.not_false, ofVal_iv, ofVal_bv, dn_iv, ow_iv, dn_bv, ow_bv, dn_fn, dn_ptr, dn_ep, dn_agg, dn_tup, dn_nilsl, dn_own, dn_sh, dn_ex, ow_ptr, ow_ep, ow_agg, ow_tup, ow_nilsl, ow_own, ow_sh, ow_ex, maxRef_iv, maxRef_bv, maxRef_agg, maxRef_tup, maxRefs_nil, maxRefs_cons, Nat.max_self, Nat.zero_le, List.cons_append, List.nil_append, List.append_nil, pBuiltin, tys1, Option.bind_some, Option.map_some, resultOf, List.getElem?_cons_zero, List.getElem?_cons_succ, cells_agg, cells_iv, solid_iv, solid_agg, List.length_cons, List.length_nil, Nat.zero_add, List.take_zero, List.take_nil, add_iv, sub_iv, mul_iv, lss_iv, leq_iv, gtr_iv, geq_iv, eql_iv, neq_iv, arr2, List.set_cons_zero, List.set_cons_succ, List.take_succ_cons, List.drop_succ_cons, List.drop_zero, List.take_length, or_true, true_or, and_true, true_and, and_self, Nat.reduceLeDiff, eq_self, maxRef_sl, maxRef_nil, dn_slsh, dn_vs, ow_vs, solid_sl, cells_sl, solid_nil, cells_nil, dn_olds, ow_olds, maxRef_olds, dn_memV, ow_memV, maxRef_memV, solid_memV, cells_memV, eqs_ok, neqs_ok, sameS_nn, sameS_nc, sameS_cn, sameS_cc, UInt8.reduceToNat, str_dn, str_ow, str_solid, str_cells, str_maxRef, str_ofVal, fn_dn, fn_ow, fn_solid, fn_cells, W_lit, resV_two, resM_cons, resM_nil, consR_some, Int.reduceLE, Int.reduceLT, Int.reduceAdd, Int.reduceSub, Int.reduceMul, len25, len55, castN, solid_bv, cells_bv, dynR_yes, popsK_nil, popsK_cons, bindK_some, consK_some, doneK_if, call11, Tryz.f11, ploopC_succ, loopS_normal, loopS_exit, loopS_ret, len29, ix29]
theorem xt_type (k : Nat) : pcall Tryz.prog ann noSums (k + 300) 8 [typeS] [] = some (iv 904, []) := pcall_mono (k := 300) (by omega) (by kernel_rfl)
theorem xt_exit (k : Nat) : pcall Tryz.prog ann noSums (k + 300) 8 [.s (.string ⟨#[40, 101, 120, 105, 116, 41]⟩)] [] = some (iv 32, []) := pcall_mono (k := 300) (by omega) (by kernel_rfl)

/-- What lies there when all is laid. -/
def memT (B : List Nat) (s : ByteArray) : List Nat := over (over (put1 (put1 (put1 B 171 256) 172 120) 173 s.size) 1392 (nats s)) (1392 + s.size) (List.replicate (padOf (1392 + s.size)) 0)
def memL (B : List Nat) (s : ByteArray) (n : Int) : List Nat := put1 (put1 (put1 (put1 (memT B s) (174 + (s.size + 7) / 8) 904) (174 + (s.size + 7) / 8 + 1) 40) (174 + (s.size + 7) / 8 + 2) n) (174 + (s.size + 7) / 8 + 3) 32
theorem pad_eq (n : Nat) : 1392 + n + padOf (1392 + n) = 8 * (174 + (n + 7) / 8) := by unfold padOf; omega

theorem memT_len (B : List Nat) (s : ByteArray) (hs : s.size ≤ 100) (hB : B.length = 2048) : (memT B s).length = 2048 := by
  have hp := padOf_lt (1392 + s.size)
  have h1 : (put1 (put1 (put1 B 171 256) 172 120) 173 s.size).length = 2048 := put1_len _ _ _ (put1_len _ _ _ (put1_len _ _ _ hB (by omega)) (by omega)) (by omega)
  have h2 : (over (put1 (put1 (put1 B 171 256) 172 120) 173 s.size) 1392 (nats s)).length = 2048 := by rw [over_len _ _ _ (by rw [nats_len]; omega)]; exact h1
  rw [memT, over_len _ _ _ (by rw [List.length_replicate]; omega)]
  exact h2

theorem laid_all (B : List Nat) (s : ByteArray) (n : Int) (hs : s.size ≤ 100) (hB : specIs B 167) (hn : inI64 n) : Laid (memL B s n) s n := by
  have hp := padOf_lt (1392 + s.size)
  have hB0 := hB.1
  have n1 : inI64 256 := by unfold inI64; omega
  have n2 : inI64 120 := by unfold inI64; omega
  have n3 : inI64 (s.size : Int) := by unfold inI64; omega
  have n4 : inI64 904 := by unfold inI64; omega
  have n5 : inI64 40 := by unfold inI64; omega
  have n6 : inI64 32 := by unfold inI64; omega
  have l1 := put1_len B 171 256 hB0 (by omega)
  have l2 := put1_len _ 172 120 l1 (by omega)
  have l3 := put1_len _ 173 s.size l2 (by omega)
  have l4 : (over (put1 (put1 (put1 B 171 256) 172 120) 173 s.size) 1392 (nats s)).length = 2048 := by rw [over_len _ _ _ (by rw [nats_len]; omega)]; exact l3
  have l5 := memT_len B s hs hB0
  -- a cell ahead of all
  have low : ∀ (X : List Nat) (a : Nat) (m : Int), X = memT B s → a + 8 ≤ 1368 → cellIs B a m → cellIs X a m := by
    intro X a m hX ha h
    subst hX
    refine cell_other _ _ _ a m (by rw [List.length_replicate, l4]; omega) (.inl (by omega)) ?_
    refine cell_other _ _ _ a m (by rw [nats_len, l3]; omega) (.inl (by omega)) ?_
    exact cell_put _ _ _ a m l2 (by omega) (.inl (by omega)) (cell_put _ _ _ a m l1 (by omega) (.inl (by omega)) (cell_put _ _ _ a m hB0 (by omega) (.inl (by omega)) h))
  have m0 : cellIs (memT B s) 1368 256 := by
    refine cell_other _ _ _ _ _ (by rw [List.length_replicate, l4]; omega) (.inl (by omega)) ?_
    refine cell_other _ _ _ _ _ (by rw [nats_len, l3]; omega) (.inl (by omega)) ?_
    exact cell_put _ _ _ _ _ l2 (by omega) (.inl (by omega)) (cell_put _ _ _ _ _ l1 (by omega) (.inl (by omega)) (cellput_same B 171 256 hB0 (by omega) n1))
  have m1 : cellIs (memT B s) 1376 120 := by
    refine cell_other _ _ _ _ _ (by rw [List.length_replicate, l4]; omega) (.inl (by omega)) ?_
    refine cell_other _ _ _ _ _ (by rw [nats_len, l3]; omega) (.inl (by omega)) ?_
    exact cell_put _ _ _ _ _ l2 (by omega) (.inl (by omega)) (cellput_same _ 172 120 l1 (by omega) n2)
  have m2 : cellIs (memT B s) 1384 s.size := by
    refine cell_other _ _ _ _ _ (by rw [List.length_replicate, l4]; omega) (.inl (by omega)) ?_
    refine cell_other _ _ _ _ _ (by rw [nats_len, l3]; omega) (.inl (by omega)) ?_
    exact cellput_same _ 173 s.size l2 (by omega) n3
  have mt : ((memT B s).drop 1392).take s.size = nats s := by
    have h1 := part_same (put1 (put1 (put1 B 171 256) 172 120) 173 s.size) 1392 (nats s) (by rw [nats_len]; omega)
    rw [nats_len] at h1
    rw [memT, part_other _ _ _ _ _ (by rw [List.length_replicate, l4]; omega) (.inl (by omega))]
    exact h1
  generalize hT : memT B s = T at *
  have e : memL B s n = put1 (put1 (put1 (put1 T (174 + (s.size + 7) / 8) 904) (174 + (s.size + 7) / 8 + 1) 40) (174 + (s.size + 7) / 8 + 2) n) (174 + (s.size + 7) / 8 + 3) 32 := by rw [memL, hT]
  have hq : 174 + (s.size + 7) / 8 ≤ 190 := by omega
  have ha : 1392 + 8 * ((s.size + 7) / 8) = 8 * (174 + (s.size + 7) / 8) := by omega
  have ht : 1392 + s.size ≤ 8 * (174 + (s.size + 7) / 8) := by omega
  generalize 174 + (s.size + 7) / 8 = q at *
  have k1 := put1_len T q 904 l5 (by omega)
  have k2 := put1_len _ (q + 1) 40 k1 (by omega)
  have k3 := put1_len _ (q + 2) n k2 (by omega)
  have k4 := put1_len _ (q + 3) 32 k3 (by omega)
  have up : ∀ (a : Nat) (m : Int), a + 8 ≤ 8 * q → cellIs T a m → cellIs (memL B s n) a m := by
    intro a m h hc
    rw [e]
    exact cell_put _ _ _ a m k3 (by omega) (.inl (by omega)) (cell_put _ _ _ a m k2 (by omega) (.inl (by omega)) (cell_put _ _ _ a m k1 (by omega) (.inl (by omega)) (cell_put _ _ _ a m l5 (by omega) (.inl (by omega)) hc)))
  refine ⟨?_, hs, ?_, ?_, ?_, ?_, ?_, ?_, ?_, ?_, ?_, ?_, ?_, ?_, ?_, ?_, ?_⟩
  · rw [e]; exact k4
  · exact up _ _ (by omega) (low _ _ _ rfl (by omega) (new_0 B hB))
  · exact up _ _ (by omega) (low _ _ _ rfl (by omega) (new_16 B hB))
  · exact up _ _ (by omega) (low _ _ _ rfl (by omega) (new_32 B hB))
  · exact up _ _ (by omega) (low _ _ _ rfl (by omega) (new_40 B hB))
  · exact up _ _ (by omega) (low _ _ _ rfl (by omega) (new_96 B hB))
  · exact up _ _ (by omega) (low _ _ _ rfl (by omega) (new_120 B hB))
  · exact up _ _ (by omega) (low _ _ _ rfl (by omega) (new_904 B hB))
  · exact up _ _ (by omega) m0
  · exact up _ _ (by omega) m1
  · exact up _ _ (by omega) m2
  · rw [e]
    unfold put1
    rw [part_other _ _ _ _ _ (by rw [cb_len]; exact Nat.le_trans (by omega) (Nat.le_of_eq k3.symm)) (.inl (by omega)), part_other _ _ _ _ _ (by rw [cb_len]; exact Nat.le_trans (by omega) (Nat.le_of_eq k2.symm)) (.inl (by omega)),
      part_other _ _ _ _ _ (by rw [cb_len]; exact Nat.le_trans (by omega) (Nat.le_of_eq k1.symm)) (.inl (by omega)), part_other _ _ _ _ _ (by rw [cb_len, l5]; omega) (.inl (by omega))]
    exact mt
  · rw [ha, e]
    exact cell_put _ _ _ _ _ k3 (by omega) (.inl (by omega)) (cell_put _ _ _ _ _ k2 (by omega) (.inl (by omega)) (cell_put _ _ _ _ _ k1 (by omega) (.inl (by omega)) (cellput_same T q 904 l5 (by omega) n4)))
  · rw [ha, e]
    exact cell_put _ _ _ _ _ k3 (by omega) (.inl (by omega)) (cell_put _ _ _ _ _ k2 (by omega) (.inl (by omega)) (cellput_same _ (q + 1) 40 k1 (by omega) n5))
  · rw [ha, e]
    exact cell_put _ _ _ _ _ k3 (by omega) (.inl (by omega)) (cellput_same _ (q + 2) n k2 (by omega) hn)
  · rw [ha, e]
    exact cellput_same _ (q + 3) 32 k3 (by omega) n6

end Go.Proofs.YtnjlkgmcoengnaaGreat.PE
