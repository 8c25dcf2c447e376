/-
  CflowTexts, part 25: a new machine. No condition.
-/
import Derived.Test.YtnjlkgmcoengnaaGreatCf23
import Derived.Test.YtnjlkgmcoengnaaGreatCf24
import Derived.Test.YtnjlkgmcoengnaaGreatPf22
set_option linter.unusedSimpArgs false
set_option linter.unusedVariables false
set_option maxRecDepth 20000
set_option maxHeartbeats 8000000
namespace Go.Proofs.YtnjlkgmcoengnaaGreat.PE
open Go

theorem quo256 (n : Int) (x y : Operand) : pBin Tryz.prog .quo 3 x y (iv n) (iv 256) = some (iv (W (Int.tdiv n 256))) := by kernel_rfl
theorem rem256 (n : Int) (x y : Operand) : pBin Tryz.prog .rem 3 x y (iv n) (iv 256) = some (iv ((Int.tmod n 256))) := by kernel_rfl
theorem conv35 (n : Int) : pConvert Tryz.prog 3 5 (iv n) = some (.s (.int .u8 (IntKind.wrap .u8 n))) := by kernel_rfl
theorem wrap8 (n : Nat) (h : n < 256) : (PV.s (.int .u8 (IntKind.wrap .u8 (n : Int)))) = u8 n := by
  have h8 : IntKind.bits .u8 = 8 := rfl
  have : IntKind.wrap .u8 (n : Int) = n := by
    simp only [IntKind.wrap, h8, IntKind.signed]
    simp
    omega
  rw [this]; rfl
theorem idxvs (j : Nat) (h : j < 2048) : pIndexAddr Tryz.prog 25 (.vs 2 0 2048 2048 1) (iv (j : Nat)) = some (.ptr 2 j) := by
  have he : tElem Tryz.prog 25 = some 5 := by kernel_rfl
  have hs : tSize Tryz.prog 5 = some 1 := by kernel_rfl
  have h0 : (0 : Int) ≤ (j : Int) ∧ (j : Int) < (2048 : Nat) := by omega
  simp only [pIndexAddr, asI_iv', he, hs, h0, and_self, if_true, Int.toNat_natCast, Nat.zero_add, Nat.mul_one]
theorem idx55 (t : Tag) (l : List PV) (j : Nat) (el : PV) (h : l[j]? = some el) : pIndexAddr Tryz.prog 55 (.sl t 1 l) (iv (j : Nat)) = some (.ep el 0) := by
  have he : tElem Tryz.prog 55 = some 9 := by kernel_rfl
  have hs : tSize Tryz.prog 9 = some 1 := by kernel_rfl
  have h0 : (0 : Int) ≤ (j : Int) := by omega
  simp only [pIndexAddr, asI_iv', he, hs, h0, and_self, if_true, Int.toNat_natCast, h, Option.map_some]
theorem u8_solid (x : Nat) : (u8 x).solid = true := rfl
theorem u8_mr (x : Nat) : (u8 x).maxRef = 0 := by simp [u8, PV.maxRef]
theorem u8_c (x : Nat) : (u8 x).cells = [u8 x] := rfl
theorem u8_d (x : Nat) : (u8 x).dn = u8 x := rfl
theorem u8_o (x : Nat) : (u8 x).isOw = false := rfl
theorem bs_st (B : List Nat) (j x : Nat) : (bs B).take j ++ [u8 x] ++ (bs B).drop (j + 1) = bs (over B j [x]) := by
  have : [u8 x] = bs [x] := rfl
  rw [this, bs_take, bs_drop, bs_app, bs_app]
  rfl
theorem build89 (el : ByteArray) (a f : Int) : pBuild Tryz.prog 89 [(0, .s (.string el)), (1, iv a), (2, iv f)] = some (.agg [.s (.string el), iv a, iv f]) := by kernel_rfl
theorem bslice31 (el : ByteArray) (a f : Int) : pBuildSlice Tryz.prog 31 1 [(0, .agg [.s (.string el), iv a, iv f])] = some (.sl .ex 3 [.agg [.s (.string el), iv a, iv f]]) := by kernel_rfl
/-- Words so far. -/
def accW (l : List PV) : PV := if l = [] then .nilsl else .sl .ow 3 l
theorem accW_nil : accW [] = .nilsl := rfl
theorem accW_cons (x : PV) (l : List PV) : accW (x :: l) = .sl .ow 3 (x :: l) := rfl
theorem app31n (x : PV) : pAppend Tryz.prog 31 31 .nilsl (.sl .ex 3 [x]) = some (.sl .ow 3 [x]) := by kernel_rfl
theorem app31 (y : PV) (l : List PV) (x : PV) (h : (y :: l).length + 1 ≤ 2000) : pAppend Tryz.prog 31 31 (.sl .ow 3 (y :: l)) (.sl .ex 3 [x]) = some (.sl .ow 3 (y :: (l ++ [x]))) := by
  have he : tElem Tryz.prog 31 = some 89 := by kernel_rfl
  have hs : tSize Tryz.prog 89 = some 3 := by kernel_rfl
  have hz : zeroOk Tryz.prog 89 3 = true := by kernel_rfl
  have hi : ∃ i, Tryz.prog.info? 89 = some i ∧ i.bytes = 32 := by
    refine ⟨(Tryz.prog.info? 89).getD default, ?_, ?_⟩ <;> kernel_rfl
  obtain ⟨i, h1, h2⟩ := hi
  have hm : maxLen = 9223372036854775807 := rfl
  have hr : roomOk Tryz.prog 89 ((y :: l).length + 1) = true := by
    simp only [roomOk, h1, h2, hm, decide_eq_true_eq]
    omega
  simp only [pAppend, he, hs, newsOf, and_self, if_true, List.length_nil, Nat.zero_add, hr, hz, ne_eq, reduceCtorEq, not_false_eq_true, List.cons_append]

theorem fits35 (k : Nat) : pcall Tryz.prog ann noSums (k + 10) 35 [.agg [iv 2048, iv 32, iv 32, iv 200, iv 500]] [] = some (bv true, []) := pcall_mono (k := 10) (by omega) (by kernel_rfl)
theorem part24 (a b c d e : PV) : getPart Tryz.prog 24 [a, b, c, d, e] 0 = some (.agg [a, b, c, d, e]) := by kernel_rfl

theorem u8_ten : ofVal (.int .u8 10) = u8 10 := rfl
theorem st0 (B : List Nat) (x : Nat) : u8 x :: (bs B).drop 1 = bs (over B 0 [x]) := bs_st B 0 x
theorem st16 (B : List Nat) (x : Nat) : (bs B).take 16 ++ [u8 x] ++ (bs B).drop 17 = bs (over B 16 [x]) := bs_st B 16 x
theorem st17 (B : List Nat) (x : Nat) : (bs B).take 17 ++ [u8 x] ++ (bs B).drop 18 = bs (over B 17 [x]) := bs_st B 17 x
theorem st24 (B : List Nat) (x : Nat) : (bs B).take 24 ++ [u8 x] ++ (bs B).drop 25 = bs (over B 24 [x]) := bs_st B 24 x
theorem st25 (B : List Nat) (x : Nat) : (bs B).take 25 ++ [u8 x] ++ (bs B).drop 26 = bs (over B 25 [x]) := bs_st B 25 x
theorem ix_16 : pIndexAddr Tryz.prog 25 (PV.vs 2 0 2048 2048 1) (iv 16) = some (PV.ptr 2 16) := idxvs 16 (by omega)
theorem ix_17 : pIndexAddr Tryz.prog 25 (PV.vs 2 0 2048 2048 1) (iv 17) = some (PV.ptr 2 17) := idxvs 17 (by omega)
theorem ix_24 : pIndexAddr Tryz.prog 25 (PV.vs 2 0 2048 2048 1) (iv 24) = some (PV.ptr 2 24) := idxvs 24 (by omega)
theorem ix_25 : pIndexAddr Tryz.prog 25 (PV.vs 2 0 2048 2048 1) (iv 25) = some (PV.ptr 2 25) := idxvs 25 (by omega)
theorem wr_96 : PV.s (.int .u8 (IntKind.wrap .u8 96)) = u8 96 := by kernel_rfl
theorem wr_104 : PV.s (.int .u8 (IntKind.wrap .u8 104)) = u8 104 := by kernel_rfl
theorem wr_0 : PV.s (.int .u8 (IntKind.wrap .u8 0)) = u8 0 := by kernel_rfl

/-- What a new machine's loop holds. -/
def NewI (c0 : Int) (allL : List PV) (i : Nat) (s : PS) : Prop :=
  ∃ B wl v9 v10 v27 v37 v75 v90, specIs B i ∧ wl.length = i ∧ s = ⟨[(0, .agg [iv c0, iv 32, iv 32, iv 200, iv 500]), (1, .ptr 0 0), (2, .ptr 1 0), (3, iv 0), (4, bv true), (5, .vs 2 0 2048 2048 1), (6, .sl .ow 1 allL), (7, accW wl), (8, iv i), (9, v9), (10, v10), (14, bv false), (27, v27), (37, v37), (75, v75), (90, v90)],
    [.cells [iv c0, iv 32, iv 32, iv 200, iv 500], .cells z37, .cells (bs B)]⟩

def loopsOf : Code → List Code
  | .seq a b => loopsOf a ++ loopsOf b
  | .cond _ a b => loopsOf a ++ loopsOf b
  | .block _ b => loopsOf b
  | .loop b => b :: loopsOf b
  | _ => []

theorem new_round (k : Nat) (c0 : Int) (i : Nat) (hi : i < 167) (s : PS) (h : NewI c0 (namesL ++ specsL) i s) :
    ∃ s', pcodeS ⟨Tryz.prog, ann, pcall Tryz.prog ann noSums (k + 299), 17, 106, 0⟩ (k + 299) ((loopsOf (Tryz.f17.body.getD .skip)).getD 0 .skip) s = some (.normal, s') ∧ NewI c0 (namesL ++ specsL) (i + 1) s' := by
  obtain ⟨B, wl, v9, v10, v27, v37, v75, v90, hB, hw, rfl⟩ := h
  obtain ⟨b, hb, hh, hc⟩ := strs_at i hi
  have hl := strs_len
  have hfl := fun k => flags_all i _ hb hi k
  have hx := fun t => idx55 t _ i _ hb
  generalize namesL ++ specsL = allL at hl hx
  clear hb
  have nl := names_len
  have hlt : (i : Int) < 167 := by omega
  have w0 : W ((i : Int) + 1) = ((i + 1 : Nat) : Int) := W_succ (by omega)
  have w1 : W (8 * (i : Int)) = ((8 * i : Nat) : Int) := by rw [← W_nat (n := 8 * i) (by omega)]; congr 1
  have w2 : W (32 + ((8 * i : Nat) : Int)) = ((32 + 8 * i : Nat) : Int) := by rw [← W_nat (n := 32 + 8 * i) (by omega)]; congr 1
  have w3 : W (((32 + 8 * i : Nat) : Int) + 1) = ((32 + 8 * i + 1 : Nat) : Int) := W_succ (by omega)
  have x1 := idxvs (32 + 8 * i) (by omega)
  have x2 := idxvs (32 + 8 * i + 1) (by omega)
  have hB0 := hB.1
  have l1 : (over B (32 + 8 * i) [numOf i % 256]).length = 2048 := by rw [over_len _ _ _ (by simp; omega)]; exact hB0
  have l2 : (over (over B (32 + 8 * i) [numOf i % 256]) (32 + 8 * i + 1) [numOf i / 256]).length = 2048 := two_len B i hB0 hi
  have hn : numOf i < 512 := by unfold numOf; split <;> omega
  have wr1 := wrap8 (numOf i % 256) (by omega)
  have wr2 := wrap8 (numOf i / 256) (by omega)
  have le1 : 32 + 8 * i + 1 ≤ 2048 := by omega
  have le2 : 32 + 8 * i + 1 + 1 ≤ 2048 := by omega
  obtain ⟨fl, hf⟩ := hfl (k + 239)
  by_cases h8 : i = 8
  · have e8 : (i == 8) = true := by simp [h8]
    have e9 : (i == 9) = false := by simp [h8]
    have n130 : ¬ (130 : Int) ≤ (i : Int) := by omega
    have r1 : Int.tmod (i : Int) 256 = ((numOf i % 256 : Nat) : Int) := by subst h8; rfl
    have r2 : W (Int.tdiv (i : Int) 256) = ((numOf i / 256 : Nat) : Int) := by subst h8; rfl
    have r3 : Int.tmod ((32 + 8 * i : Nat) : Int) 256 = 96 := by subst h8; rfl
    have r4 : W (Int.tdiv ((32 + 8 * i : Nat) : Int) 256) = 0 := by subst h8; rfl
    have l3 : (over (over (over B (32 + 8 * i) [numOf i % 256]) (32 + 8 * i + 1) [numOf i / 256]) 16 [96]).length = 2048 := by rw [over_len _ _ _ (by simp; omega)]; exact l2
    have fin := spec_8 B (by rw [← h8]; exact hB)
    rw [e8] at hh
    rw [e9] at hc
    cases wl with
    | nil => simp at hw; omega
    | cons y wl =>
      have ha := fun x => app31 y wl x (by rw [hw]; omega)
      simp (maxSteps := 2000000) only [Tryz.f17, Option.getD_some, loopsOf, List.nil_append, List.cons_append, List.append_nil, List.getD_cons_zero, accW_cons]
      simp (maxSteps := 2000000) only [pcS_seqN, pcS_region, dynR_noN, unBox_false, unBox_true, doesBox, loud_make, inert_make, read_make, read_slice, loud_append, loud_copy, loud_clear, readCls_load, readCls_slice, loudCls_store, loudCls_alloc, loudCls_box, loudCls_call, atR_ptr, atS_ptr, Option.map_none, setS_frz, pcS_blockN, pcS_condN, pcS_loopN, pcS_exitN, pcS_retN, pcS_skipN, popsL_nilN, popsL_cons, pop_plain, pop_guard, wantS_eq, wantD_some, wantV_t, wantV_f, wantV_tup, guardP_true, guardP_false, bindS_normalN, bindS_exitN, bindS_retN, blockS_normalN, blockS_exitN, blockS_retN, bindP_someN, doneR_someN, condS_trueN, condS_falseN, pickI_someN, pickI_none, pickR_someN, pickR_none, pickL_someN, endS_normalN, endS_retN, setS_some, resV_none, resV_one, dstOk, doesTake, inert_move, inert_assign, inert_pick, inert_build, inert_buildSlice, inert_load, inert_nilCheck, inert_binOp, inert_unOp, inert_convert, inert_slice, inert_fieldAddr, inert_field, inert_indexAddr, inert_index, inert_extract, inert_builtin, inert_call, inert_alloc, inert_box, inert_store, pickB_bv, loadI_ep, loadI_ptr, nilI_ptr, nilI_ep, unI_not, extrI_tup, pureC_ok, callI_fn, read_load, read_alloc, read_box, read_store, read_call, loadR_ptr, boxR_cells, loud_load, loud_store, loud_alloc, loud_box, loud_call, loadL_ptr, boxL_cells, storeL_ptr, boxS_cells, boxN_eq, callL_fn, put, drop, takes, restrict, ev, lk, params, annF, bodyF, aggF, sizeF, elemF, fieldF, partF, List.zipIdx, List.zipIdx_cons, List.zipIdx_nil, List.map, List.map_cons, List.map_nil, Option.getD_some, Nat.reduceLT, Nat.reduceAdd, Nat.reduceEqDiff, Nat.reduceMul, Int.reduceEq, decide_true, decide_false, Bool.false_eq_true, Bool.and_true, Bool.false_and, Bool.and_false, Bool.true_and, Bool.and_self, if_true, if_false, reduceIte, List.contains_nil, List.contains_cons, beq_self_eq_true, Nat.reduceBEq, Bool.or_false, Bool.false_or, Bool.or_true, Bool.true_or, Bool.not_true, Bool.not_false, ofVal_iv, ofVal_bv, dn_iv, ow_iv, dn_bv, ow_bv, dn_fn, dn_ptr, dn_ep, dn_agg, dn_tup, dn_nilsl, dn_own, dn_sh, dn_ex, ow_ptr, ow_ep, ow_agg, ow_tup, ow_nilsl, ow_own, ow_sh, ow_ex, maxRef_iv, maxRef_bv, maxRef_agg, maxRef_tup, maxRefs_nil, maxRefs_cons, Nat.max_self, Nat.zero_le, List.cons_append, List.nil_append, List.append_nil, pBuiltin, tys1, Option.bind_some, Option.map_some, resultOf, List.getElem?_cons_zero, List.getElem?_cons_succ, cells_agg, cells_iv, solid_iv, solid_agg, List.length_cons, List.length_nil, Nat.zero_add, List.take_zero, List.take_nil, add_iv, sub_iv, mul_iv, lss_iv, leq_iv, gtr_iv, geq_iv, eql_iv, neq_iv, arr2, List.set_cons_zero, List.set_cons_succ, List.take_succ_cons, List.drop_succ_cons, List.drop_zero, List.take_length, or_true, true_or, and_true, true_and, and_self, Nat.reduceLeDiff, eq_self, maxRef_sl, maxRef_nil, dn_slsh, dn_vs, ow_vs, solid_sl, cells_sl, solid_nil, cells_nil, dn_olds, ow_olds, maxRef_olds, dn_memV, ow_memV, maxRef_memV, solid_memV, cells_memV, eqs_ok, neqs_ok, sameS_nn, sameS_nc, sameS_cn, sameS_cc, UInt8.reduceToNat, str_dn, str_ow, str_solid, str_cells, str_maxRef, str_ofVal, fn_dn, fn_ow, fn_solid, fn_cells, W_lit, resV_two, resM_cons, resM_nil, consR_some, Int.reduceLE, Int.reduceLT, Int.reduceAdd, Int.reduceSub, Int.reduceMul, len25, len55, castN, solid_bv, cells_bv, dynR_yes, popsK_nil, popsK_cons, bindK_some, consK_some, doneK_if, hlt, hl, hx, hh, hc, nl, w0, w1, w2, w3, x1, x2, hB0, l1, l2, wr1, wr2, le1, le2, hf, n130, r1, r2, r3, r4, l3, ha, names36, quo256, rem256, conv35, u8_solid, u8_mr, u8_c, u8_d, u8_o, bs_len, bs_st, st16, st17, st24, st25, ix_16, ix_17, ix_24, ix_25, wr_96, wr_104, wr_0, build89, bslice31]
      refine ⟨_, rfl, _, y :: (wl ++ [_]), _, _, _, _, _, _, ?_, ?_, by rw [accW_cons]⟩
      · rw [h8]; exact fin
      · simp at hw ⊢; omega
  by_cases h9 : i = 9
  · have e8 : (i == 8) = false := by simp [h9]
    have e9 : (i == 9) = true := by simp [h9]
    have n130 : ¬ (130 : Int) ≤ (i : Int) := by omega
    have r1 : Int.tmod (i : Int) 256 = ((numOf i % 256 : Nat) : Int) := by subst h9; rfl
    have r2 : W (Int.tdiv (i : Int) 256) = ((numOf i / 256 : Nat) : Int) := by subst h9; rfl
    have r3 : Int.tmod ((32 + 8 * i : Nat) : Int) 256 = 104 := by subst h9; rfl
    have r4 : W (Int.tdiv ((32 + 8 * i : Nat) : Int) 256) = 0 := by subst h9; rfl
    have l3 : (over (over (over B (32 + 8 * i) [numOf i % 256]) (32 + 8 * i + 1) [numOf i / 256]) 24 [104]).length = 2048 := by rw [over_len _ _ _ (by simp; omega)]; exact l2
    have fin := spec_9 B (by rw [← h9]; exact hB)
    rw [e8] at hh
    rw [e9] at hc
    cases wl with
    | nil => simp at hw; omega
    | cons y wl =>
      have ha := fun x => app31 y wl x (by rw [hw]; omega)
      simp (maxSteps := 2000000) only [Tryz.f17, Option.getD_some, loopsOf, List.nil_append, List.cons_append, List.append_nil, List.getD_cons_zero, accW_cons]
      simp (maxSteps := 2000000) only [pcS_seqN, pcS_region, dynR_noN, unBox_false, unBox_true, doesBox, loud_make, inert_make, read_make, read_slice, loud_append, loud_copy, loud_clear, readCls_load, readCls_slice, loudCls_store, loudCls_alloc, loudCls_box, loudCls_call, atR_ptr, atS_ptr, Option.map_none, setS_frz, pcS_blockN, pcS_condN, pcS_loopN, pcS_exitN, pcS_retN, pcS_skipN, popsL_nilN, popsL_cons, pop_plain, pop_guard, wantS_eq, wantD_some, wantV_t, wantV_f, wantV_tup, guardP_true, guardP_false, bindS_normalN, bindS_exitN, bindS_retN, blockS_normalN, blockS_exitN, blockS_retN, bindP_someN, doneR_someN, condS_trueN, condS_falseN, pickI_someN, pickI_none, pickR_someN, pickR_none, pickL_someN, endS_normalN, endS_retN, setS_some, resV_none, resV_one, dstOk, doesTake, inert_move, inert_assign, inert_pick, inert_build, inert_buildSlice, inert_load, inert_nilCheck, inert_binOp, inert_unOp, inert_convert, inert_slice, inert_fieldAddr, inert_field, inert_indexAddr, inert_index, inert_extract, inert_builtin, inert_call, inert_alloc, inert_box, inert_store, pickB_bv, loadI_ep, loadI_ptr, nilI_ptr, nilI_ep, unI_not, extrI_tup, pureC_ok, callI_fn, read_load, read_alloc, read_box, read_store, read_call, loadR_ptr, boxR_cells, loud_load, loud_store, loud_alloc, loud_box, loud_call, loadL_ptr, boxL_cells, storeL_ptr, boxS_cells, boxN_eq, callL_fn, put, drop, takes, restrict, ev, lk, params, annF, bodyF, aggF, sizeF, elemF, fieldF, partF, List.zipIdx, List.zipIdx_cons, List.zipIdx_nil, List.map, List.map_cons, List.map_nil, Option.getD_some, Nat.reduceLT, Nat.reduceAdd, Nat.reduceEqDiff, Nat.reduceMul, Int.reduceEq, decide_true, decide_false, Bool.false_eq_true, Bool.and_true, Bool.false_and, Bool.and_false, Bool.true_and, Bool.and_self, if_true, if_false, reduceIte, List.contains_nil, List.contains_cons, beq_self_eq_true, Nat.reduceBEq, Bool.or_false, Bool.false_or, Bool.or_true, Bool.true_or, Bool.not_true, Bool.not_false, ofVal_iv, ofVal_bv, dn_iv, ow_iv, dn_bv, ow_bv, dn_fn, dn_ptr, dn_ep, dn_agg, dn_tup, dn_nilsl, dn_own, dn_sh, dn_ex, ow_ptr, ow_ep, ow_agg, ow_tup, ow_nilsl, ow_own, ow_sh, ow_ex, maxRef_iv, maxRef_bv, maxRef_agg, maxRef_tup, maxRefs_nil, maxRefs_cons, Nat.max_self, Nat.zero_le, List.cons_append, List.nil_append, List.append_nil, pBuiltin, tys1, Option.bind_some, Option.map_some, resultOf, List.getElem?_cons_zero, List.getElem?_cons_succ, cells_agg, cells_iv, solid_iv, solid_agg, List.length_cons, List.length_nil, Nat.zero_add, List.take_zero, List.take_nil, add_iv, sub_iv, mul_iv, lss_iv, leq_iv, gtr_iv, geq_iv, eql_iv, neq_iv, arr2, List.set_cons_zero, List.set_cons_succ, List.take_succ_cons, List.drop_succ_cons, List.drop_zero, List.take_length, or_true, true_or, and_true, true_and, and_self, Nat.reduceLeDiff, eq_self, maxRef_sl, maxRef_nil, dn_slsh, dn_vs, ow_vs, solid_sl, cells_sl, solid_nil, cells_nil, dn_olds, ow_olds, maxRef_olds, dn_memV, ow_memV, maxRef_memV, solid_memV, cells_memV, eqs_ok, neqs_ok, sameS_nn, sameS_nc, sameS_cn, sameS_cc, UInt8.reduceToNat, str_dn, str_ow, str_solid, str_cells, str_maxRef, str_ofVal, fn_dn, fn_ow, fn_solid, fn_cells, W_lit, resV_two, resM_cons, resM_nil, consR_some, Int.reduceLE, Int.reduceLT, Int.reduceAdd, Int.reduceSub, Int.reduceMul, len25, len55, castN, solid_bv, cells_bv, dynR_yes, popsK_nil, popsK_cons, bindK_some, consK_some, doneK_if, hlt, hl, hx, hh, hc, nl, w0, w1, w2, w3, x1, x2, hB0, l1, l2, wr1, wr2, le1, le2, hf, n130, r1, r2, r3, r4, l3, ha, names36, quo256, rem256, conv35, u8_solid, u8_mr, u8_c, u8_d, u8_o, bs_len, bs_st, st16, st17, st24, st25, ix_16, ix_17, ix_24, ix_25, wr_96, wr_104, wr_0, build89, bslice31]
      refine ⟨_, rfl, _, y :: (wl ++ [_]), _, _, _, _, _, _, ?_, ?_, by rw [accW_cons]⟩
      · rw [h9]; exact fin
      · simp at hw ⊢; omega
  have e8 : (i == 8) = false := by simp [h8]
  have e9 : (i == 9) = false := by simp [h9]
  have fin := spec_two B i hi hB h8 h9
  rw [e8] at hh
  rw [e9] at hc
  by_cases n130 : (130 : Int) ≤ (i : Int)
  · have w4 : W (300 + (i : Int)) = ((300 + i : Nat) : Int) := by rw [← W_nat (n := 300 + i) (by omega)]; congr 1
    have w5 : W (((300 + i : Nat) : Int) - 130) = ((170 + i : Nat) : Int) := by rw [← W_nat (n := 170 + i) (by omega)]; congr 1; omega
    have hni : numOf i = 170 + i := by unfold numOf; rw [if_neg (by omega)]
    have r1 : Int.tmod ((170 + i : Nat) : Int) 256 = ((numOf i % 256 : Nat) : Int) := by rw [hni, Int.tmod_eq_emod_of_nonneg (by omega)]; omega
    have r2 : W (Int.tdiv ((170 + i : Nat) : Int) 256) = ((numOf i / 256 : Nat) : Int) := by
      rw [hni, Int.tdiv_eq_ediv_of_nonneg (by omega)]
      exact W_nat (n := (170 + i) / 256) (by omega)
    cases wl with
    | nil => simp at hw; omega
    | cons y wl =>
      have ha := fun x => app31 y wl x (by rw [hw]; omega)
      simp (maxSteps := 2000000) only [Tryz.f17, Option.getD_some, loopsOf, List.nil_append, List.cons_append, List.append_nil, List.getD_cons_zero, accW_cons]
      simp (maxSteps := 2000000) only [pcS_seqN, pcS_region, dynR_noN, unBox_false, unBox_true, doesBox, loud_make, inert_make, read_make, read_slice, loud_append, loud_copy, loud_clear, readCls_load, readCls_slice, loudCls_store, loudCls_alloc, loudCls_box, loudCls_call, atR_ptr, atS_ptr, Option.map_none, setS_frz, pcS_blockN, pcS_condN, pcS_loopN, pcS_exitN, pcS_retN, pcS_skipN, popsL_nilN, popsL_cons, pop_plain, pop_guard, wantS_eq, wantD_some, wantV_t, wantV_f, wantV_tup, guardP_true, guardP_false, bindS_normalN, bindS_exitN, bindS_retN, blockS_normalN, blockS_exitN, blockS_retN, bindP_someN, doneR_someN, condS_trueN, condS_falseN, pickI_someN, pickI_none, pickR_someN, pickR_none, pickL_someN, endS_normalN, endS_retN, setS_some, resV_none, resV_one, dstOk, doesTake, inert_move, inert_assign, inert_pick, inert_build, inert_buildSlice, inert_load, inert_nilCheck, inert_binOp, inert_unOp, inert_convert, inert_slice, inert_fieldAddr, inert_field, inert_indexAddr, inert_index, inert_extract, inert_builtin, inert_call, inert_alloc, inert_box, inert_store, pickB_bv, loadI_ep, loadI_ptr, nilI_ptr, nilI_ep, unI_not, extrI_tup, pureC_ok, callI_fn, read_load, read_alloc, read_box, read_store, read_call, loadR_ptr, boxR_cells, loud_load, loud_store, loud_alloc, loud_box, loud_call, loadL_ptr, boxL_cells, storeL_ptr, boxS_cells, boxN_eq, callL_fn, put, drop, takes, restrict, ev, lk, params, annF, bodyF, aggF, sizeF, elemF, fieldF, partF, List.zipIdx, List.zipIdx_cons, List.zipIdx_nil, List.map, List.map_cons, List.map_nil, Option.getD_some, Nat.reduceLT, Nat.reduceAdd, Nat.reduceEqDiff, Nat.reduceMul, Int.reduceEq, decide_true, decide_false, Bool.false_eq_true, Bool.and_true, Bool.false_and, Bool.and_false, Bool.true_and, Bool.and_self, if_true, if_false, reduceIte, List.contains_nil, List.contains_cons, beq_self_eq_true, Nat.reduceBEq, Bool.or_false, Bool.false_or, Bool.or_true, Bool.true_or, Bool.not_true, Bool.not_false, ofVal_iv, ofVal_bv, dn_iv, ow_iv, dn_bv, ow_bv, dn_fn, dn_ptr, dn_ep, dn_agg, dn_tup, dn_nilsl, dn_own, dn_sh, dn_ex, ow_ptr, ow_ep, ow_agg, ow_tup, ow_nilsl, ow_own, ow_sh, ow_ex, maxRef_iv, maxRef_bv, maxRef_agg, maxRef_tup, maxRefs_nil, maxRefs_cons, Nat.max_self, Nat.zero_le, List.cons_append, List.nil_append, List.append_nil, pBuiltin, tys1, Option.bind_some, Option.map_some, resultOf, List.getElem?_cons_zero, List.getElem?_cons_succ, cells_agg, cells_iv, solid_iv, solid_agg, List.length_cons, List.length_nil, Nat.zero_add, List.take_zero, List.take_nil, add_iv, sub_iv, mul_iv, lss_iv, leq_iv, gtr_iv, geq_iv, eql_iv, neq_iv, arr2, List.set_cons_zero, List.set_cons_succ, List.take_succ_cons, List.drop_succ_cons, List.drop_zero, List.take_length, or_true, true_or, and_true, true_and, and_self, Nat.reduceLeDiff, eq_self, maxRef_sl, maxRef_nil, dn_slsh, dn_vs, ow_vs, solid_sl, cells_sl, solid_nil, cells_nil, dn_olds, ow_olds, maxRef_olds, dn_memV, ow_memV, maxRef_memV, solid_memV, cells_memV, eqs_ok, neqs_ok, sameS_nn, sameS_nc, sameS_cn, sameS_cc, UInt8.reduceToNat, str_dn, str_ow, str_solid, str_cells, str_maxRef, str_ofVal, fn_dn, fn_ow, fn_solid, fn_cells, W_lit, resV_two, resM_cons, resM_nil, consR_some, Int.reduceLE, Int.reduceLT, Int.reduceAdd, Int.reduceSub, Int.reduceMul, len25, len55, castN, solid_bv, cells_bv, dynR_yes, popsK_nil, popsK_cons, bindK_some, consK_some, doneK_if, hlt, hl, hx, hh, hc, nl, w0, w1, w2, w3, x1, x2, hB0, l1, l2, wr1, wr2, le1, le2, hf, n130, r1, r2, w4, w5, ha, names36, quo256, rem256, conv35, u8_solid, u8_mr, u8_c, u8_d, u8_o, bs_len, bs_st, st16, st17, st24, st25, ix_16, ix_17, ix_24, ix_25, wr_96, wr_104, wr_0, build89, bslice31]
      refine ⟨_, rfl, _, y :: (wl ++ [_]), _, _, _, _, _, _, ?_, ?_, by rw [accW_cons]⟩
      · exact fin
      · simp at hw ⊢; omega
  · have hni : numOf i = i := by unfold numOf; rw [if_pos (by omega)]
    have r1 : Int.tmod (i : Int) 256 = ((numOf i % 256 : Nat) : Int) := by rw [hni, Int.tmod_eq_emod_of_nonneg (by omega)]; omega
    have r2 : W (Int.tdiv (i : Int) 256) = ((numOf i / 256 : Nat) : Int) := by
      rw [hni, Int.tdiv_eq_ediv_of_nonneg (by omega)]
      exact W_nat (n := i / 256) (by omega)
    cases wl with
    | nil =>
      have ha := fun x => app31n x
      simp (maxSteps := 2000000) only [Tryz.f17, Option.getD_some, loopsOf, List.nil_append, List.cons_append, List.append_nil, List.getD_cons_zero, accW_nil]
      simp (maxSteps := 2000000) only [pcS_seqN, pcS_region, dynR_noN, unBox_false, unBox_true, doesBox, loud_make, inert_make, read_make, read_slice, loud_append, loud_copy, loud_clear, readCls_load, readCls_slice, loudCls_store, loudCls_alloc, loudCls_box, loudCls_call, atR_ptr, atS_ptr, Option.map_none, setS_frz, pcS_blockN, pcS_condN, pcS_loopN, pcS_exitN, pcS_retN, pcS_skipN, popsL_nilN, popsL_cons, pop_plain, pop_guard, wantS_eq, wantD_some, wantV_t, wantV_f, wantV_tup, guardP_true, guardP_false, bindS_normalN, bindS_exitN, bindS_retN, blockS_normalN, blockS_exitN, blockS_retN, bindP_someN, doneR_someN, condS_trueN, condS_falseN, pickI_someN, pickI_none, pickR_someN, pickR_none, pickL_someN, endS_normalN, endS_retN, setS_some, resV_none, resV_one, dstOk, doesTake, inert_move, inert_assign, inert_pick, inert_build, inert_buildSlice, inert_load, inert_nilCheck, inert_binOp, inert_unOp, inert_convert, inert_slice, inert_fieldAddr, inert_field, inert_indexAddr, inert_index, inert_extract, inert_builtin, inert_call, inert_alloc, inert_box, inert_store, pickB_bv, loadI_ep, loadI_ptr, nilI_ptr, nilI_ep, unI_not, extrI_tup, pureC_ok, callI_fn, read_load, read_alloc, read_box, read_store, read_call, loadR_ptr, boxR_cells, loud_load, loud_store, loud_alloc, loud_box, loud_call, loadL_ptr, boxL_cells, storeL_ptr, boxS_cells, boxN_eq, callL_fn, put, drop, takes, restrict, ev, lk, params, annF, bodyF, aggF, sizeF, elemF, fieldF, partF, List.zipIdx, List.zipIdx_cons, List.zipIdx_nil, List.map, List.map_cons, List.map_nil, Option.getD_some, Nat.reduceLT, Nat.reduceAdd, Nat.reduceEqDiff, Nat.reduceMul, Int.reduceEq, decide_true, decide_false, Bool.false_eq_true, Bool.and_true, Bool.false_and, Bool.and_false, Bool.true_and, Bool.and_self, if_true, if_false, reduceIte, List.contains_nil, List.contains_cons, beq_self_eq_true, Nat.reduceBEq, Bool.or_false, Bool.false_or, Bool.or_true, Bool.true_or, Bool.not_true, Bool.not_false, ofVal_iv, ofVal_bv, dn_iv, ow_iv, dn_bv, ow_bv, dn_fn, dn_ptr, dn_ep, dn_agg, dn_tup, dn_nilsl, dn_own, dn_sh, dn_ex, ow_ptr, ow_ep, ow_agg, ow_tup, ow_nilsl, ow_own, ow_sh, ow_ex, maxRef_iv, maxRef_bv, maxRef_agg, maxRef_tup, maxRefs_nil, maxRefs_cons, Nat.max_self, Nat.zero_le, List.cons_append, List.nil_append, List.append_nil, pBuiltin, tys1, Option.bind_some, Option.map_some, resultOf, List.getElem?_cons_zero, List.getElem?_cons_succ, cells_agg, cells_iv, solid_iv, solid_agg, List.length_cons, List.length_nil, Nat.zero_add, List.take_zero, List.take_nil, add_iv, sub_iv, mul_iv, lss_iv, leq_iv, gtr_iv, geq_iv, eql_iv, neq_iv, arr2, List.set_cons_zero, List.set_cons_succ, List.take_succ_cons, List.drop_succ_cons, List.drop_zero, List.take_length, or_true, true_or, and_true, true_and, and_self, Nat.reduceLeDiff, eq_self, maxRef_sl, maxRef_nil, dn_slsh, dn_vs, ow_vs, solid_sl, cells_sl, solid_nil, cells_nil, dn_olds, ow_olds, maxRef_olds, dn_memV, ow_memV, maxRef_memV, solid_memV, cells_memV, eqs_ok, neqs_ok, sameS_nn, sameS_nc, sameS_cn, sameS_cc, UInt8.reduceToNat, str_dn, str_ow, str_solid, str_cells, str_maxRef, str_ofVal, fn_dn, fn_ow, fn_solid, fn_cells, W_lit, resV_two, resM_cons, resM_nil, consR_some, Int.reduceLE, Int.reduceLT, Int.reduceAdd, Int.reduceSub, Int.reduceMul, len25, len55, castN, solid_bv, cells_bv, dynR_yes, popsK_nil, popsK_cons, bindK_some, consK_some, doneK_if, hlt, hl, hx, hh, hc, nl, w0, w1, w2, w3, x1, x2, hB0, l1, l2, wr1, wr2, le1, le2, hf, n130, r1, r2, ha, names36, quo256, rem256, conv35, u8_solid, u8_mr, u8_c, u8_d, u8_o, bs_len, bs_st, st16, st17, st24, st25, ix_16, ix_17, ix_24, ix_25, wr_96, wr_104, wr_0, build89, bslice31]
      refine ⟨_, rfl, _, [_], _, _, _, _, _, _, ?_, ?_, by rw [accW_cons]⟩
      · exact fin
      · simp at hw ⊢; omega
    | cons y wl =>
      have ha := fun x => app31 y wl x (by rw [hw]; omega)
      simp (maxSteps := 2000000) only [Tryz.f17, Option.getD_some, loopsOf, List.nil_append, List.cons_append, List.append_nil, List.getD_cons_zero, accW_cons]
      simp (maxSteps := 2000000) only [pcS_seqN, pcS_region, dynR_noN, unBox_false, unBox_true, doesBox, loud_make, inert_make, read_make, read_slice, loud_append, loud_copy, loud_clear, readCls_load, readCls_slice, loudCls_store, loudCls_alloc, loudCls_box, loudCls_call, atR_ptr, atS_ptr, Option.map_none, setS_frz, pcS_blockN, pcS_condN, pcS_loopN, pcS_exitN, pcS_retN, pcS_skipN, popsL_nilN, popsL_cons, pop_plain, pop_guard, wantS_eq, wantD_some, wantV_t, wantV_f, wantV_tup, guardP_true, guardP_false, bindS_normalN, bindS_exitN, bindS_retN, blockS_normalN, blockS_exitN, blockS_retN, bindP_someN, doneR_someN, condS_trueN, condS_falseN, pickI_someN, pickI_none, pickR_someN, pickR_none, pickL_someN, endS_normalN, endS_retN, setS_some, resV_none, resV_one, dstOk, doesTake, inert_move, inert_assign, inert_pick, inert_build, inert_buildSlice, inert_load, inert_nilCheck, inert_binOp, inert_unOp, inert_convert, inert_slice, inert_fieldAddr, inert_field, inert_indexAddr, inert_index, inert_extract, inert_builtin, inert_call, inert_alloc, inert_box, inert_store, pickB_bv, loadI_ep, loadI_ptr, nilI_ptr, nilI_ep, unI_not, extrI_tup, pureC_ok, callI_fn, read_load, read_alloc, read_box, read_store, read_call, loadR_ptr, boxR_cells, loud_load, loud_store, loud_alloc, loud_box, loud_call, loadL_ptr, boxL_cells, storeL_ptr, boxS_cells, boxN_eq, callL_fn, put, drop, takes, restrict, ev, lk, params, annF, bodyF, aggF, sizeF, elemF, fieldF, partF, List.zipIdx, List.zipIdx_cons, List.zipIdx_nil, List.map, List.map_cons, List.map_nil, Option.getD_some, Nat.reduceLT, Nat.reduceAdd, Nat.reduceEqDiff, Nat.reduceMul, Int.reduceEq, decide_true, decide_false, Bool.false_eq_true, Bool.and_true, Bool.false_and, Bool.and_false, Bool.true_and, Bool.and_self, if_true, if_false, reduceIte, List.contains_nil, List.contains_cons, beq_self_eq_true, Nat.reduceBEq, Bool.or_false, Bool.false_or, Bool.or_true, Bool.true_or, Bool.not_true, Bool.not_false, ofVal_iv, ofVal_bv, dn_iv, ow_iv, dn_bv, ow_bv, dn_fn, dn_ptr, dn_ep, dn_agg, dn_tup, dn_nilsl, dn_own, dn_sh, dn_ex, ow_ptr, ow_ep, ow_agg, ow_tup, ow_nilsl, ow_own, ow_sh, ow_ex, maxRef_iv, maxRef_bv, maxRef_agg, maxRef_tup, maxRefs_nil, maxRefs_cons, Nat.max_self, Nat.zero_le, List.cons_append, List.nil_append, List.append_nil, pBuiltin, tys1, Option.bind_some, Option.map_some, resultOf, List.getElem?_cons_zero, List.getElem?_cons_succ, cells_agg, cells_iv, solid_iv, solid_agg, List.length_cons, List.length_nil, Nat.zero_add, List.take_zero, List.take_nil, add_iv, sub_iv, mul_iv, lss_iv, leq_iv, gtr_iv, geq_iv, eql_iv, neq_iv, arr2, List.set_cons_zero, List.set_cons_succ, List.take_succ_cons, List.drop_succ_cons, List.drop_zero, List.take_length, or_true, true_or, and_true, true_and, and_self, Nat.reduceLeDiff, eq_self, maxRef_sl, maxRef_nil, dn_slsh, dn_vs, ow_vs, solid_sl, cells_sl, solid_nil, cells_nil, dn_olds, ow_olds, maxRef_olds, dn_memV, ow_memV, maxRef_memV, solid_memV, cells_memV, eqs_ok, neqs_ok, sameS_nn, sameS_nc, sameS_cn, sameS_cc, UInt8.reduceToNat, str_dn, str_ow, str_solid, str_cells, str_maxRef, str_ofVal, fn_dn, fn_ow, fn_solid, fn_cells, W_lit, resV_two, resM_cons, resM_nil, consR_some, Int.reduceLE, Int.reduceLT, Int.reduceAdd, Int.reduceSub, Int.reduceMul, len25, len55, castN, solid_bv, cells_bv, dynR_yes, popsK_nil, popsK_cons, bindK_some, consK_some, doneK_if, hlt, hl, hx, hh, hc, nl, w0, w1, w2, w3, x1, x2, hB0, l1, l2, wr1, wr2, le1, le2, hf, n130, r1, r2, ha, names36, quo256, rem256, conv35, u8_solid, u8_mr, u8_c, u8_d, u8_o, bs_len, bs_st, st16, st17, st24, st25, ix_16, ix_17, ix_24, ix_25, wr_96, wr_104, wr_0, build89, bslice31]
      refine ⟨_, rfl, _, y :: (wl ++ [_]), _, _, _, _, _, _, ?_, ?_, by rw [accW_cons]⟩
      · exact fin
      · simp at hw ⊢; omega

end Go.Proofs.YtnjlkgmcoengnaaGreat.PE
