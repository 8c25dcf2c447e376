/-
  CflowTexts, parts 1 to 10: what is laid into a memory, a row of bytes by a row. No condition.
-/
import Derived.Test.YtnjlkgmcoengnaaGreatFacts
import Derived.Test.YtnjlkgmcoengnaaGreatPf18
set_option linter.unusedSimpArgs false
set_option linter.unusedVariables false
set_option maxRecDepth 20000
namespace Go.Proofs.YtnjlkgmcoengnaaGreat.PE
open Go

/-! part 1: rows of bytes as values; plain laws. No condition. -/
def u8 (n : Nat) : PV := .s (.int .u8 n)
/-- A row of bytes. -/
def bs (l : List Nat) : List PV := l.map u8

theorem bs_len (l : List Nat) : (bs l).length = l.length := by simp [bs]
theorem bs_nil : bs [] = [] := rfl
theorem bs_app (l m : List Nat) : bs l ++ bs m = bs (l ++ m) := by simp [bs]
theorem bs_take (l : List Nat) (n : Nat) : (bs l).take n = bs (l.take n) := by simp [bs, List.map_take]
theorem bs_drop (l : List Nat) (n : Nat) : (bs l).drop n = bs (l.drop n) := by simp [bs, List.map_drop]
theorem bs_dn (l : List Nat) : (bs l).map PV.dn = bs l := by
  simp only [bs, List.map_map]
  rfl
theorem bs_cells (l : List Nat) : (bs l).flatMap PV.cells = bs l := by
  induction l with
  | nil => rfl
  | cons x r ih =>
    have hc : (u8 x).cells = [u8 x] := rfl
    simp only [bs, List.map_cons, List.flatMap_cons, hc] at ih ⊢
    rw [ih]
    rfl
theorem bs_maxRef (l : List Nat) : PV.maxRefs (bs l) = 0 := by
  induction l with
  | nil => rfl
  | cons x r ih =>
    simp only [bs, List.map_cons, PV.maxRefs] at ih ⊢
    rw [ih]
    rfl
theorem bs_els (l : List Nat) : rowEls 1 l.length (bs l) = bs l := by
  induction l with
  | nil => rfl
  | cons x r ih =>
    simp only [bs, List.map_cons, List.length_cons, rowEls, List.take_succ_cons, List.take_zero, List.drop_succ_cons, List.drop_zero] at ih ⊢
    rw [ih]
    rfl
theorem bs_rep (n x : Nat) : (List.replicate n [u8 x]).flatten = bs (List.replicate n x) := by
  induction n with
  | zero => rfl
  | succ n ih => simp only [List.replicate_succ, List.flatten_cons, ih, bs, List.map_cons, List.singleton_append]
theorem bs_wr (l m : List Nat) (off : Nat) : wr (bs l) off (bs m) = bs (l.take off ++ m ++ l.drop (off + m.length)) := by
  simp only [wr, bs_take, bs_drop, bs_app, bs_len]
theorem bs_get (l : List Nat) (i : Nat) : (bs l)[i]? = (l[i]?).map u8 := by simp [bs]

/-! part 2: memory with bytes laid in it. No condition. -/
/-- Bytes with others at a place. -/
def over (B : List Nat) (at_ : Nat) (b : List Nat) : List Nat := B.take at_ ++ b ++ B.drop (at_ + b.length)

theorem over_len (B : List Nat) (n : Nat) (b : List Nat) (h : n + b.length ≤ B.length) : (over B n b).length = B.length := by
  simp [over]; omega
theorem over_all (B b : List Nat) (h : b.length = B.length) : over B 0 b = b := by
  simp [over, h]

theorem dn_slsh (sz : Nat) (els : List PV) : (PV.sl .sh sz els).dn = .sl .sh sz els := rfl
theorem dn_vs (b off n c sz : Nat) : (PV.vs b off n c sz).dn = .vs b off n c sz := rfl
theorem ow_vs (b off n c sz : Nat) : (PV.vs b off n c sz).isOw = false := rfl
theorem len25 (t : Tag) (l : List Nat) : pLen Tryz.prog 25 (.sl t 1 (bs l)) = some (iv l.length) := by
  have h : ∀ (m : List PV), pLen Tryz.prog 25 (.sl t 1 m) = some (iv m.length) := fun m => by kernel_rfl
  rw [h, bs_len]
theorem make8 (st : Store) : pMakeB Tryz.prog 25 (iv ((2048 : Nat) : Int)) (iv ((2048 : Nat) : Int)) st = some (.vs st.length 0 2048 2048 1, st ++ [.cells (bs (List.replicate 2048 0))]) := by
  have h : ∀ st : Store, pMakeB Tryz.prog 25 (iv ((2048 : Nat) : Int)) (iv ((2048 : Nat) : Int)) st = some (.vs st.length 0 2048 2048 1, st ++ [.cells (List.replicate 2048 [u8 0]).flatten]) := fun st => by kernel_rfl
  rw [h, bs_rep]

theorem copy8 (st : Store) (b off n c : Nat) (C m : List Nat) (t : Tag) (h : st[b]? = some (.cells (bs C))) (hm : m.length ≤ n) (hn : off + n ≤ C.length) :
    copyL Tryz.prog (.vs b off n c 1) (.sl t 1 (bs m)) [25, 25] st = some (iv m.length, st.set b (.cells (bs (over C off m)))) := by
  have he : tElem Tryz.prog 25 = some 5 := by kernel_rfl
  have hs : tSize Tryz.prog 5 = some 1 := by kernel_rfl
  simp only [copyL, pCopyB, he, hs, srcCells, newsOf, and_self, if_true, Option.map_some, bs_len, bs_cells, h, hm, Nat.mul_one, hn, bs_maxRef, bs_wr]
  rfl

theorem asI_iv' (n : Int) : asI (iv n) = some n := rfl
theorem slice8 (b off n c k : Nat) (h : k ≤ n) (hc : n ≤ c) : pSlice Tryz.prog 25 (.vs b off n c 1) (some (iv k)) none none = some (.vs b (off + k) (n - k) (c - k) 1) := by
  have he : tElem Tryz.prog 25 = some 5 := by kernel_rfl
  have hs : tSize Tryz.prog 5 = some 1 := by kernel_rfl
  have h0 : (0 : Int) ≤ (k : Int) ∧ (k : Int) ≤ (n : Int) := by omega
  simp only [pSlice, he, hs, if_true, boundsC, Option.isNone_none, Option.bind_some, bLow, asI_iv', hc, and_self]
  rw [if_pos h0]
  simp

/-- A row of bytes, frozen. -/
theorem frz8 (l : List Nat) (c : Nat) : setS true [] (some (.vs 0 0 l.length c 1)) [.cells (bs l)] = some (.sl .sh 1 (bs l), []) := by
  rw [setS_frz]
  have h : frz (.vs 0 0 l.length c 1) [.cells (bs l)] = (.sl .sh 1 (bs l), [.dead]) := by
    simp only [frz, frz2, frz1, List.getElem?_cons_zero, bs_len, Nat.zero_add, Nat.mul_one, Nat.le_refl, true_and, List.drop_zero]
    rw [if_pos (by simp [bs_take, bs_maxRef])]
    simp only [bs_take, List.take_length, bs_dn, bs_els, List.set_cons_zero]
  rw [h]
  rfl

theorem laid_ok (k : Nat) (B b : List Nat) (n : Nat) (t : Tag) (ht : t ≠ .ow) (hB : B.length = 2048) (hn : n + b.length ≤ 2048) :
    pcall Tryz.prog ann noSums (k + 1) 65 [.sl .sh 1 (bs B), iv n, .sl t 1 (bs b)] [] = some (.sl .sh 1 (bs (over B n b)), []) := by
  refine go65 rfl ?_
  have h1 := copy8 [.cells (bs (List.replicate 2048 0))] 0 0 2048 2048 (List.replicate 2048 0) B .sh rfl (by omega) (by simp)
  have h2 := copy8 [.cells (bs (over (List.replicate 2048 0) 0 B))] 0 (0 + n) (2048 - n) (2048 - n) (over (List.replicate 2048 0) 0 B) b t rfl (by omega) (by rw [over_len _ _ _ (by simp; omega)]; simp; omega)
  have hd : (PV.sl t 1 (bs b)).dn = .sl t 1 (bs b) := by cases t <;> first | rfl | exact absurd rfl ht
  have h3 := slice8 0 0 2048 2048 n (by omega) (by omega)
  rw [Nat.zero_add] at h2
  simp only [pcS_seq, pcS_region, dynR_no, unBox_false, unBox_true, doesBox, loud_make, inert_make, read_make, read_slice, loud_append, loud_copy, loud_clear, readCls_load, readCls_slice, loudCls_store, loudCls_alloc, loudCls_box, loudCls_call, atR_ptr, atS_ptr, Option.map_none, setS_frz, pcS_block, pcS_cond, pcS_loop, pcS_exit, pcS_ret, pcS_skip, popsL_nil, popsL_cons, pop_plain, pop_guard, wantS_eq, wantD_some, wantV_t, wantV_f, wantV_tup, guardP_true, guardP_false, bindS_normal, bindS_exit, bindS_ret, blockS_normal, blockS_exit, blockS_ret, bindP_some, doneR_some, condS_true, condS_false, pickI_some, pickI_none, pickR_some, pickR_none, pickL_some, endS_normal, endS_ret, setS_some, resV_none, resV_one, dstOk, doesTake, inert_move, inert_assign, inert_pick, inert_build, inert_buildSlice, inert_load, inert_nilCheck, inert_binOp, inert_unOp, inert_convert, inert_slice, inert_fieldAddr, inert_field, inert_indexAddr, inert_index, inert_extract, inert_builtin, inert_call, inert_alloc, inert_box, inert_store, pickB_bv, loadI_ep, loadI_ptr, nilI_ptr, nilI_ep, unI_not, extrI_tup, pureC_ok, callI_fn, read_load, read_alloc, read_box, read_store, read_call, loadR_ptr, boxR_cells, loud_load, loud_store, loud_alloc, loud_box, loud_call, loadL_ptr, boxL_cells, storeL_ptr, boxS_cells, boxN_eq, callL_fn, put, drop, takes, restrict, ev, lk, params, annF, bodyF, aggF, sizeF, elemF, fieldF, partF, List.zipIdx, List.zipIdx_cons, List.zipIdx_nil, List.map, List.map_cons, List.map_nil, Option.getD_some, Nat.reduceLT, Nat.reduceAdd, Nat.reduceEqDiff, Nat.reduceMul, Int.reduceEq, decide_true, decide_false, Bool.false_eq_true, Bool.and_true, Bool.false_and, Bool.and_false, Bool.true_and, Bool.and_self, if_true, if_false, reduceIte, List.contains_nil, List.contains_cons, beq_self_eq_true, Nat.reduceBEq, Bool.or_false, Bool.false_or, Bool.or_true, Bool.true_or, Bool.not_true, Bool.not_false, ofVal_iv, ofVal_bv, dn_iv, ow_iv, dn_bv, ow_bv, dn_fn, dn_ptr, dn_ep, dn_agg, dn_tup, dn_nilsl, dn_own, dn_sh, dn_ex, ow_ptr, ow_ep, ow_agg, ow_tup, ow_nilsl, ow_own, ow_sh, ow_ex, maxRef_iv, maxRef_bv, maxRef_agg, maxRef_tup, maxRefs_nil, maxRefs_cons, Nat.max_self, Nat.zero_le, List.cons_append, List.nil_append, List.append_nil, pBuiltin, tys1, Option.bind_some, Option.map_some, resultOf, List.getElem?_cons_zero, List.getElem?_cons_succ, cells_agg, cells_iv, solid_iv, solid_agg, List.length_cons, List.length_nil, Nat.zero_add, List.take_zero, List.take_nil, add_iv, sub_iv, mul_iv, lss_iv, leq_iv, gtr_iv, geq_iv, eql_iv, neq_iv, arr2, List.set_cons_zero, List.set_cons_succ, List.take_succ_cons, List.drop_succ_cons, List.drop_zero, List.take_length, or_true, true_or, and_true, true_and, and_self, Nat.reduceLeDiff, eq_self, Tryz.f65, dn_slsh, dn_vs, ow_vs, hd, len25, hB, make8, h1, h2, h3, List.length_nil, List.nil_append]
  have h4 : over (over (List.replicate 2048 0) 0 B) n b = over B n b := by rw [over_all _ _ (by simp [hB])]
  have h5 : (over B n b).length = 2048 := by rw [over_len _ _ _ (by omega)]; exact hB
  rw [h4]
  have h6 := frz8 (over B n b) 2048
  rw [h5] at h6
  exact h6

/-! part 3: a cell's bytes. No condition. -/
/-- A byte of a cell. -/
def pbAt (n : Int) (i : Nat) : Int := IntKind.wrap .u8 ((IntKind.wrap .u64 n).fdiv (2 ^ (8 * i)))
/-- A cell's bytes. -/
def cb (n : Int) : List Nat := (List.range 8).map fun i => (pbAt n i).toNat

theorem cb_len (n : Int) : (cb n).length = 8 := by simp [cb]

theorem pbAt_nat (n : Int) (i : Nat) : ((pbAt n i).toNat : Int) = pbAt n i := by
  have h : IntKind.bits .u8 = 8 := rfl
  simp only [pbAt, IntKind.wrap, h]
  generalize (Int.fdiv _ _) = x
  simp [IntKind.signed]
  omega

theorem put_raw (n : Int) : pcall Tryz.prog ann noSums 300 39 [iv n] [] = some (.sl .sh 1 [.s (.int .u8 (pbAt n 0)), .s (.int .u8 (pbAt n 1)), .s (.int .u8 (pbAt n 2)), .s (.int .u8 (pbAt n 3)),
    .s (.int .u8 (pbAt n 4)), .s (.int .u8 (pbAt n 5)), .s (.int .u8 (pbAt n 6)), .s (.int .u8 (pbAt n 7))], []) := by kernel_rfl

theorem put_ok (n : Int) : pcall Tryz.prog ann noSums 300 39 [iv n] [] = some (.sl .sh 1 (bs (cb n)), []) := by
  rw [put_raw]
  have h : bs (cb n) = [.s (.int .u8 (pbAt n 0)), .s (.int .u8 (pbAt n 1)), .s (.int .u8 (pbAt n 2)), .s (.int .u8 (pbAt n 3)),
    .s (.int .u8 (pbAt n 4)), .s (.int .u8 (pbAt n 5)), .s (.int .u8 (pbAt n 6)), .s (.int .u8 (pbAt n 7))] := by
    have hr : List.range 8 = [0, 1, 2, 3, 4, 5, 6, 7] := rfl
    simp only [bs, cb, hr, List.map_cons, List.map_nil, u8, pbAt_nat]
  rw [h]

/-! part 4: bytes written into a memory. No condition. -/
theorem there_ok (k : Nat) (B : List Nat) (old : PV) (a n : Nat) (hB : B.length = 2048) (h : a + n ≤ 2048) :
    pcall Tryz.prog ann noSums (k + 1) 62 [.agg [.sl .sh 1 (bs B), old], iv a, iv n] [] = some (bv true, []) := by
  refine go62 rfl ?_
  have e1 : W ((2048 : Nat) - (a : Int)) = ((2048 - a : Nat) : Int) := by
    rw [← W_nat (n := 2048 - a) (by omega)]
    congr 1
    omega
  by_cases hn : n = 0
  · subst hn
    have h0 : (((0 : Nat) : Int) = 0) := rfl
    simp only [pcS_seq, pcS_region, dynR_no, unBox_false, unBox_true, doesBox, loud_make, inert_make, read_make, read_slice, loud_append, loud_copy, loud_clear, readCls_load, readCls_slice, loudCls_store, loudCls_alloc, loudCls_box, loudCls_call, atR_ptr, atS_ptr, Option.map_none, setS_frz, pcS_block, pcS_cond, pcS_loop, pcS_exit, pcS_ret, pcS_skip, popsL_nil, popsL_cons, pop_plain, pop_guard, wantS_eq, wantD_some, wantV_t, wantV_f, wantV_tup, guardP_true, guardP_false, bindS_normal, bindS_exit, bindS_ret, blockS_normal, blockS_exit, blockS_ret, bindP_some, doneR_some, condS_true, condS_false, pickI_some, pickI_none, pickR_some, pickR_none, pickL_some, endS_normal, endS_ret, setS_some, resV_none, resV_one, dstOk, doesTake, inert_move, inert_assign, inert_pick, inert_build, inert_buildSlice, inert_load, inert_nilCheck, inert_binOp, inert_unOp, inert_convert, inert_slice, inert_fieldAddr, inert_field, inert_indexAddr, inert_index, inert_extract, inert_builtin, inert_call, inert_alloc, inert_box, inert_store, pickB_bv, loadI_ep, loadI_ptr, nilI_ptr, nilI_ep, unI_not, extrI_tup, pureC_ok, callI_fn, read_load, read_alloc, read_box, read_store, read_call, loadR_ptr, boxR_cells, loud_load, loud_store, loud_alloc, loud_box, loud_call, loadL_ptr, boxL_cells, storeL_ptr, boxS_cells, boxN_eq, callL_fn, put, drop, takes, restrict, ev, lk, params, annF, bodyF, aggF, sizeF, elemF, fieldF, partF, List.zipIdx, List.zipIdx_cons, List.zipIdx_nil, List.map, List.map_cons, List.map_nil, Option.getD_some, Nat.reduceLT, Nat.reduceAdd, Nat.reduceEqDiff, Nat.reduceMul, Int.reduceEq, decide_true, decide_false, Bool.false_eq_true, Bool.and_true, Bool.false_and, Bool.and_false, Bool.true_and, Bool.and_self, if_true, if_false, reduceIte, List.contains_nil, List.contains_cons, beq_self_eq_true, Nat.reduceBEq, Bool.or_false, Bool.false_or, Bool.or_true, Bool.true_or, Bool.not_true, Bool.not_false, ofVal_iv, ofVal_bv, dn_iv, ow_iv, dn_bv, ow_bv, dn_fn, dn_ptr, dn_ep, dn_agg, dn_tup, dn_nilsl, dn_own, dn_sh, dn_ex, ow_ptr, ow_ep, ow_agg, ow_tup, ow_nilsl, ow_own, ow_sh, ow_ex, maxRef_iv, maxRef_bv, maxRef_agg, maxRef_tup, maxRefs_nil, maxRefs_cons, Nat.max_self, Nat.zero_le, List.cons_append, List.nil_append, List.append_nil, pBuiltin, tys1, Option.bind_some, Option.map_some, resultOf, List.getElem?_cons_zero, List.getElem?_cons_succ, cells_agg, cells_iv, solid_iv, solid_agg, List.length_cons, List.length_nil, Nat.zero_add, List.take_zero, List.take_nil, add_iv, sub_iv, mul_iv, lss_iv, leq_iv, gtr_iv, geq_iv, eql_iv, neq_iv, arr2, List.set_cons_zero, List.set_cons_succ, List.take_succ_cons, List.drop_succ_cons, List.drop_zero, List.take_length, or_true, true_or, and_true, true_and, and_self, Nat.reduceLeDiff, eq_self, Tryz.f62, dn_slsh, len25, hB, h0]
  · have h1 : ¬ ((n : Int) = 0) := by omega
    have h2 : (0 : Int) < n := by omega
    have h3 : (0 : Int) ≤ a := by omega
    have h4 : (a : Int) ≤ (2048 : Nat) := by omega
    have h5 : (n : Int) ≤ (2048 - a : Nat) := by omega
    simp only [pcS_seq, pcS_region, dynR_no, unBox_false, unBox_true, doesBox, loud_make, inert_make, read_make, read_slice, loud_append, loud_copy, loud_clear, readCls_load, readCls_slice, loudCls_store, loudCls_alloc, loudCls_box, loudCls_call, atR_ptr, atS_ptr, Option.map_none, setS_frz, pcS_block, pcS_cond, pcS_loop, pcS_exit, pcS_ret, pcS_skip, popsL_nil, popsL_cons, pop_plain, pop_guard, wantS_eq, wantD_some, wantV_t, wantV_f, wantV_tup, guardP_true, guardP_false, bindS_normal, bindS_exit, bindS_ret, blockS_normal, blockS_exit, blockS_ret, bindP_some, doneR_some, condS_true, condS_false, pickI_some, pickI_none, pickR_some, pickR_none, pickL_some, endS_normal, endS_ret, setS_some, resV_none, resV_one, dstOk, doesTake, inert_move, inert_assign, inert_pick, inert_build, inert_buildSlice, inert_load, inert_nilCheck, inert_binOp, inert_unOp, inert_convert, inert_slice, inert_fieldAddr, inert_field, inert_indexAddr, inert_index, inert_extract, inert_builtin, inert_call, inert_alloc, inert_box, inert_store, pickB_bv, loadI_ep, loadI_ptr, nilI_ptr, nilI_ep, unI_not, extrI_tup, pureC_ok, callI_fn, read_load, read_alloc, read_box, read_store, read_call, loadR_ptr, boxR_cells, loud_load, loud_store, loud_alloc, loud_box, loud_call, loadL_ptr, boxL_cells, storeL_ptr, boxS_cells, boxN_eq, callL_fn, put, drop, takes, restrict, ev, lk, params, annF, bodyF, aggF, sizeF, elemF, fieldF, partF, List.zipIdx, List.zipIdx_cons, List.zipIdx_nil, List.map, List.map_cons, List.map_nil, Option.getD_some, Nat.reduceLT, Nat.reduceAdd, Nat.reduceEqDiff, Nat.reduceMul, Int.reduceEq, decide_true, decide_false, Bool.false_eq_true, Bool.and_true, Bool.false_and, Bool.and_false, Bool.true_and, Bool.and_self, if_true, if_false, reduceIte, List.contains_nil, List.contains_cons, beq_self_eq_true, Nat.reduceBEq, Bool.or_false, Bool.false_or, Bool.or_true, Bool.true_or, Bool.not_true, Bool.not_false, ofVal_iv, ofVal_bv, dn_iv, ow_iv, dn_bv, ow_bv, dn_fn, dn_ptr, dn_ep, dn_agg, dn_tup, dn_nilsl, dn_own, dn_sh, dn_ex, ow_ptr, ow_ep, ow_agg, ow_tup, ow_nilsl, ow_own, ow_sh, ow_ex, maxRef_iv, maxRef_bv, maxRef_agg, maxRef_tup, maxRefs_nil, maxRefs_cons, Nat.max_self, Nat.zero_le, List.cons_append, List.nil_append, List.append_nil, pBuiltin, tys1, Option.bind_some, Option.map_some, resultOf, List.getElem?_cons_zero, List.getElem?_cons_succ, cells_agg, cells_iv, solid_iv, solid_agg, List.length_cons, List.length_nil, Nat.zero_add, List.take_zero, List.take_nil, add_iv, sub_iv, mul_iv, lss_iv, leq_iv, gtr_iv, geq_iv, eql_iv, neq_iv, arr2, List.set_cons_zero, List.set_cons_succ, List.take_succ_cons, List.drop_succ_cons, List.drop_zero, List.take_length, or_true, true_or, and_true, true_and, and_self, Nat.reduceLeDiff, eq_self, Tryz.f62, dn_slsh, len25, hB, h1, h2, h3, h4, e1, h5]

/-- A change that can be undone. -/
def pch (p : Nat × List Nat) : PV := .agg [iv p.1, .sl .sh 1 (bs p.2)]
def olds : List (Nat × List Nat) → PV
  | [] => .nilsl
  | p :: l => .sl .sh 2 ((p :: l).map pch)
/-- A memory. -/
def memV (B : List Nat) (O : List (Nat × List Nat)) : PV := .agg [.sl .sh 1 (bs B), olds O]

theorem maxRef_sl (t : Tag) (sz : Nat) (els : List PV) : (PV.sl t sz els).maxRef = 0 := by simp [PV.maxRef]
theorem ofVal_nil : ofVal (.slice none 0 0) = .nilsl := rfl
theorem eq25 (t : Tag) (m : List PV) (x y : Operand) : pBin Tryz.prog .eql 25 x y (.sl t 1 m) .nilsl = some (bv false) := by kernel_rfl
theorem build0 : pBuildSlice Tryz.prog 25 0 [] = some (.sl .ex 1 []) := by kernel_rfl

theorem room8 (n : Nat) (h : n ≤ 65536) : roomOk Tryz.prog 5 n = true := by
  have hi : ∃ i, Tryz.prog.info? 5 = some i ∧ i.bytes = 1 := by
    refine ⟨(Tryz.prog.info? 5).getD default, ?_, ?_⟩ <;> kernel_rfl
  obtain ⟨i, h1, h2⟩ := hi
  have hm : maxLen = 9223372036854775807 := rfl
  simp only [roomOk, h1, h2, hm, decide_eq_true_eq]
  omega
theorem app8 (tag t : Tag) (hx : tag ≠ .sh) (l : List Nat) (x : Nat) (m : List Nat) (h : l.length + (m.length + 1) ≤ 65536) :
    pAppend Tryz.prog 25 25 (.sl tag 1 (bs l)) (.sl t 1 (bs (x :: m))) = some (.sl .ow 1 (bs (l ++ x :: m))) := by
  have he : tElem Tryz.prog 25 = some 5 := by kernel_rfl
  have hs : tSize Tryz.prog 5 = some 1 := by kernel_rfl
  have hz : zeroOk Tryz.prog 5 1 = true := by kernel_rfl
  have hb : bs (x :: m) = u8 x :: bs m := rfl
  simp only [pAppend, he, hs, newsOf, and_self, if_true, hb, bs_len, room8 _ h, hz, hx, ne_eq, not_false_eq_true]
  rw [← hb, bs_app]

theorem clone_ok (k : Nat) (t : Tag) (ht : t ≠ .ow) (x : Nat) (l : List Nat) (h : (x :: l).length ≤ 2048) :
    pcall Tryz.prog ann noSums (k + 1) 64 [.sl t 1 (bs (x :: l))] [] = some (.sl .ow 1 (bs (x :: l)), []) := by
  refine go64 rfl ?_
  have hA : pAppend Tryz.prog 25 25 (.sl .ex 1 []) (.sl t 1 (bs (x :: l))) = some (.sl .ow 1 (bs (x :: l))) := app8 .ex t (by simp) [] x l (by simp at h ⊢; omega)
  have hd : (PV.sl t 1 (bs (x :: l))).dn = PV.sl t 1 (bs (x :: l)) := by cases t <;> first | rfl | exact absurd rfl ht
  simp only [pcS_seq, pcS_region, dynR_no, unBox_false, unBox_true, doesBox, loud_make, inert_make, read_make, read_slice, loud_append, loud_copy, loud_clear, readCls_load, readCls_slice, loudCls_store, loudCls_alloc, loudCls_box, loudCls_call, atR_ptr, atS_ptr, Option.map_none, setS_frz, pcS_block, pcS_cond, pcS_loop, pcS_exit, pcS_ret, pcS_skip, popsL_nil, popsL_cons, pop_plain, pop_guard, wantS_eq, wantD_some, wantV_t, wantV_f, wantV_tup, guardP_true, guardP_false, bindS_normal, bindS_exit, bindS_ret, blockS_normal, blockS_exit, blockS_ret, bindP_some, doneR_some, condS_true, condS_false, pickI_some, pickI_none, pickR_some, pickR_none, pickL_some, endS_normal, endS_ret, setS_some, resV_none, resV_one, dstOk, doesTake, inert_move, inert_assign, inert_pick, inert_build, inert_buildSlice, inert_load, inert_nilCheck, inert_binOp, inert_unOp, inert_convert, inert_slice, inert_fieldAddr, inert_field, inert_indexAddr, inert_index, inert_extract, inert_builtin, inert_call, inert_alloc, inert_box, inert_store, pickB_bv, loadI_ep, loadI_ptr, nilI_ptr, nilI_ep, unI_not, extrI_tup, pureC_ok, callI_fn, read_load, read_alloc, read_box, read_store, read_call, loadR_ptr, boxR_cells, loud_load, loud_store, loud_alloc, loud_box, loud_call, loadL_ptr, boxL_cells, storeL_ptr, boxS_cells, boxN_eq, callL_fn, put, drop, takes, restrict, ev, lk, params, annF, bodyF, aggF, sizeF, elemF, fieldF, partF, List.zipIdx, List.zipIdx_cons, List.zipIdx_nil, List.map, List.map_cons, List.map_nil, Option.getD_some, Nat.reduceLT, Nat.reduceAdd, Nat.reduceEqDiff, Nat.reduceMul, Int.reduceEq, decide_true, decide_false, Bool.false_eq_true, Bool.and_true, Bool.false_and, Bool.and_false, Bool.true_and, Bool.and_self, if_true, if_false, reduceIte, List.contains_nil, List.contains_cons, beq_self_eq_true, Nat.reduceBEq, Bool.or_false, Bool.false_or, Bool.or_true, Bool.true_or, Bool.not_true, Bool.not_false, ofVal_iv, ofVal_bv, dn_iv, ow_iv, dn_bv, ow_bv, dn_fn, dn_ptr, dn_ep, dn_agg, dn_tup, dn_nilsl, dn_own, dn_sh, dn_ex, ow_ptr, ow_ep, ow_agg, ow_tup, ow_nilsl, ow_own, ow_sh, ow_ex, maxRef_iv, maxRef_bv, maxRef_agg, maxRef_tup, maxRefs_nil, maxRefs_cons, Nat.max_self, Nat.zero_le, List.cons_append, List.nil_append, List.append_nil, pBuiltin, tys1, Option.bind_some, Option.map_some, resultOf, List.getElem?_cons_zero, List.getElem?_cons_succ, cells_agg, cells_iv, solid_iv, solid_agg, List.length_cons, List.length_nil, Nat.zero_add, List.take_zero, List.take_nil, add_iv, sub_iv, mul_iv, lss_iv, leq_iv, gtr_iv, geq_iv, eql_iv, neq_iv, arr2, List.set_cons_zero, List.set_cons_succ, List.take_succ_cons, List.drop_succ_cons, List.drop_zero, List.take_length, or_true, true_or, and_true, true_and, and_self, Nat.reduceLeDiff, eq_self, Tryz.f64, dn_slsh, len25, hd, ofVal_nil, eq25, build0, hA, maxRef_sl]

/-! part 5: a write, whole. No condition. -/
theorem len26 (t : Tag) (m : List PV) : pLen Tryz.prog 26 (.sl t 2 m) = some (iv m.length) := by kernel_rfl
theorem len26n : pLen Tryz.prog 26 .nilsl = some (iv 0) := by kernel_rfl
theorem clipn : pSlice Tryz.prog 26 .nilsl none (some (iv 0)) (some (iv 0)) = some .nilsl := by kernel_rfl
theorem clip26 (m : List PV) : pSlice Tryz.prog 26 (.sl .sh 2 m) none (some (iv m.length)) (some (iv m.length)) = some (.sl .ex 2 m) := by
  have he : tElem Tryz.prog 26 = some 108 := by kernel_rfl
  have hs : tSize Tryz.prog 108 = some 2 := by kernel_rfl
  have h0 : (0 : Int) ≤ (m.length : Int) ∧ (m.length : Int) ≤ (m.length : Int) := by omega
  simp only [pSlice, he, hs, if_true, bounds, bMax, bHigh, bLow, Option.bind_some, asI_iv', h0, and_self, Int.toNat_natCast, Option.getD_some, Option.map_some, List.take_length, List.drop_zero]

theorem clip_nil (k : Nat) : pcall Tryz.prog ann noSums (k + 1) 63 [.nilsl] [] = some (.nilsl, []) := by
  refine go63 rfl ?_
  simp only [pcS_seq, pcS_region, dynR_no, unBox_false, unBox_true, doesBox, loud_make, inert_make, read_make, read_slice, loud_append, loud_copy, loud_clear, readCls_load, readCls_slice, loudCls_store, loudCls_alloc, loudCls_box, loudCls_call, atR_ptr, atS_ptr, Option.map_none, setS_frz, pcS_block, pcS_cond, pcS_loop, pcS_exit, pcS_ret, pcS_skip, popsL_nil, popsL_cons, pop_plain, pop_guard, wantS_eq, wantD_some, wantV_t, wantV_f, wantV_tup, guardP_true, guardP_false, bindS_normal, bindS_exit, bindS_ret, blockS_normal, blockS_exit, blockS_ret, bindP_some, doneR_some, condS_true, condS_false, pickI_some, pickI_none, pickR_some, pickR_none, pickL_some, endS_normal, endS_ret, setS_some, resV_none, resV_one, dstOk, doesTake, inert_move, inert_assign, inert_pick, inert_build, inert_buildSlice, inert_load, inert_nilCheck, inert_binOp, inert_unOp, inert_convert, inert_slice, inert_fieldAddr, inert_field, inert_indexAddr, inert_index, inert_extract, inert_builtin, inert_call, inert_alloc, inert_box, inert_store, pickB_bv, loadI_ep, loadI_ptr, nilI_ptr, nilI_ep, unI_not, extrI_tup, pureC_ok, callI_fn, read_load, read_alloc, read_box, read_store, read_call, loadR_ptr, boxR_cells, loud_load, loud_store, loud_alloc, loud_box, loud_call, loadL_ptr, boxL_cells, storeL_ptr, boxS_cells, boxN_eq, callL_fn, put, drop, takes, restrict, ev, lk, params, annF, bodyF, aggF, sizeF, elemF, fieldF, partF, List.zipIdx, List.zipIdx_cons, List.zipIdx_nil, List.map, List.map_cons, List.map_nil, Option.getD_some, Nat.reduceLT, Nat.reduceAdd, Nat.reduceEqDiff, Nat.reduceMul, Int.reduceEq, decide_true, decide_false, Bool.false_eq_true, Bool.and_true, Bool.false_and, Bool.and_false, Bool.true_and, Bool.and_self, if_true, if_false, reduceIte, List.contains_nil, List.contains_cons, beq_self_eq_true, Nat.reduceBEq, Bool.or_false, Bool.false_or, Bool.or_true, Bool.true_or, Bool.not_true, Bool.not_false, ofVal_iv, ofVal_bv, dn_iv, ow_iv, dn_bv, ow_bv, dn_fn, dn_ptr, dn_ep, dn_agg, dn_tup, dn_nilsl, dn_own, dn_sh, dn_ex, ow_ptr, ow_ep, ow_agg, ow_tup, ow_nilsl, ow_own, ow_sh, ow_ex, maxRef_iv, maxRef_bv, maxRef_agg, maxRef_tup, maxRefs_nil, maxRefs_cons, Nat.max_self, Nat.zero_le, List.cons_append, List.nil_append, List.append_nil, pBuiltin, tys1, Option.bind_some, Option.map_some, resultOf, List.getElem?_cons_zero, List.getElem?_cons_succ, cells_agg, cells_iv, solid_iv, solid_agg, List.length_cons, List.length_nil, Nat.zero_add, List.take_zero, List.take_nil, add_iv, sub_iv, mul_iv, lss_iv, leq_iv, gtr_iv, geq_iv, eql_iv, neq_iv, arr2, List.set_cons_zero, List.set_cons_succ, List.take_succ_cons, List.drop_succ_cons, List.drop_zero, List.take_length, or_true, true_or, and_true, true_and, and_self, Nat.reduceLeDiff, eq_self, Tryz.f63, len26n, clipn]
  rfl

theorem clip_ok (k : Nat) (m : List PV) : pcall Tryz.prog ann noSums (k + 1) 63 [.sl .sh 2 m] [] = some (.sl .ex 2 m, []) := by
  refine go63 rfl ?_
  simp only [pcS_seq, pcS_region, dynR_no, unBox_false, unBox_true, doesBox, loud_make, inert_make, read_make, read_slice, loud_append, loud_copy, loud_clear, readCls_load, readCls_slice, loudCls_store, loudCls_alloc, loudCls_box, loudCls_call, atR_ptr, atS_ptr, Option.map_none, setS_frz, pcS_block, pcS_cond, pcS_loop, pcS_exit, pcS_ret, pcS_skip, popsL_nil, popsL_cons, pop_plain, pop_guard, wantS_eq, wantD_some, wantV_t, wantV_f, wantV_tup, guardP_true, guardP_false, bindS_normal, bindS_exit, bindS_ret, blockS_normal, blockS_exit, blockS_ret, bindP_some, doneR_some, condS_true, condS_false, pickI_some, pickI_none, pickR_some, pickR_none, pickL_some, endS_normal, endS_ret, setS_some, resV_none, resV_one, dstOk, doesTake, inert_move, inert_assign, inert_pick, inert_build, inert_buildSlice, inert_load, inert_nilCheck, inert_binOp, inert_unOp, inert_convert, inert_slice, inert_fieldAddr, inert_field, inert_indexAddr, inert_index, inert_extract, inert_builtin, inert_call, inert_alloc, inert_box, inert_store, pickB_bv, loadI_ep, loadI_ptr, nilI_ptr, nilI_ep, unI_not, extrI_tup, pureC_ok, callI_fn, read_load, read_alloc, read_box, read_store, read_call, loadR_ptr, boxR_cells, loud_load, loud_store, loud_alloc, loud_box, loud_call, loadL_ptr, boxL_cells, storeL_ptr, boxS_cells, boxN_eq, callL_fn, put, drop, takes, restrict, ev, lk, params, annF, bodyF, aggF, sizeF, elemF, fieldF, partF, List.zipIdx, List.zipIdx_cons, List.zipIdx_nil, List.map, List.map_cons, List.map_nil, Option.getD_some, Nat.reduceLT, Nat.reduceAdd, Nat.reduceEqDiff, Nat.reduceMul, Int.reduceEq, decide_true, decide_false, Bool.false_eq_true, Bool.and_true, Bool.false_and, Bool.and_false, Bool.true_and, Bool.and_self, if_true, if_false, reduceIte, List.contains_nil, List.contains_cons, beq_self_eq_true, Nat.reduceBEq, Bool.or_false, Bool.false_or, Bool.or_true, Bool.true_or, Bool.not_true, Bool.not_false, ofVal_iv, ofVal_bv, dn_iv, ow_iv, dn_bv, ow_bv, dn_fn, dn_ptr, dn_ep, dn_agg, dn_tup, dn_nilsl, dn_own, dn_sh, dn_ex, ow_ptr, ow_ep, ow_agg, ow_tup, ow_nilsl, ow_own, ow_sh, ow_ex, maxRef_iv, maxRef_bv, maxRef_agg, maxRef_tup, maxRefs_nil, maxRefs_cons, Nat.max_self, Nat.zero_le, List.cons_append, List.nil_append, List.append_nil, pBuiltin, tys1, Option.bind_some, Option.map_some, resultOf, List.getElem?_cons_zero, List.getElem?_cons_succ, cells_agg, cells_iv, solid_iv, solid_agg, List.length_cons, List.length_nil, Nat.zero_add, List.take_zero, List.take_nil, add_iv, sub_iv, mul_iv, lss_iv, leq_iv, gtr_iv, geq_iv, eql_iv, neq_iv, arr2, List.set_cons_zero, List.set_cons_succ, List.take_succ_cons, List.drop_succ_cons, List.drop_zero, List.take_length, or_true, true_or, and_true, true_and, and_self, Nat.reduceLeDiff, eq_self, Tryz.f63, len26, clip26, dn_slsh, maxRef_sl]

/-! part 6: a write, whole. No condition. -/
theorem slice25 (l : List Nat) (a n : Nat) (h : a + n ≤ l.length) : pSlice Tryz.prog 25 (.sl .sh 1 (bs l)) (some (iv a)) (some (iv (a + n : Nat))) none = some (.sl .sh 1 (bs ((l.drop a).take n))) := by
  have he : tElem Tryz.prog 25 = some 5 := by kernel_rfl
  have hs : tSize Tryz.prog 5 = some 1 := by kernel_rfl
  have h0 : (0 : Int) ≤ ((a + n : Nat) : Int) ∧ ((a + n : Nat) : Int) ≤ (l.length : Int) := by omega
  have h1 : (0 : Int) ≤ (a : Int) ∧ (a : Int) ≤ ((a + n : Nat) : Int) := by omega
  simp only [pSlice, he, hs, if_true, bounds, bMax, bHigh, bLow, Option.bind_some, asI_iv', bs_len, Option.getD_none]
  rw [if_pos h0]
  simp only [Option.bind_some, Int.toNat_natCast]
  rw [if_pos h1]
  simp only [Option.bind_some, Int.toNat_natCast, Option.map_some, bs_take, bs_drop]
  rw [show (l.take (a + n)).drop a = (l.drop a).take n by rw [List.drop_take]; congr 1; omega]
  simp

theorem alloc28 (st : Store) : allocN Tryz.prog 28 st = some (.ptr st.length 0, st ++ [.cells [.nilsl, .nilsl]]) := by kernel_rfl

theorem part28 (x y : PV) : getPart Tryz.prog 28 [x, y] 0 = some (.agg [x, y]) := by kernel_rfl

theorem maxRef_nil : PV.nilsl.maxRef = 0 := by simp [PV.maxRef]

theorem solid_sl (t : Tag) (sz : Nat) (els : List PV) : (PV.sl t sz els).solid = true := rfl
theorem cells_sl (t : Tag) (sz : Nat) (els : List PV) : (PV.sl t sz els).cells = [.sl t sz els] := rfl
theorem solid_nil : PV.nilsl.solid = true := rfl
theorem cells_nil : PV.nilsl.cells = [.nilsl] := rfl
theorem build108 (n : Int) (els : List PV) : pBuild Tryz.prog 108 [(0, iv n), (1, .sl .sh 1 els)] = some (.agg [iv n, .sl .sh 1 els]) := by kernel_rfl
theorem bslice26 (n : Int) (els : List PV) : pBuildSlice Tryz.prog 26 1 [(0, .agg [iv n, .sl .sh 1 els])] = some (.sl .ex 2 [.agg [iv n, .sl .sh 1 els]]) := by kernel_rfl
theorem app26n (p : PV) : pAppend Tryz.prog 26 26 .nilsl (.sl .ex 2 [p]) = some (.sl .ow 2 [p]) := by kernel_rfl

theorem write1 (k : Nat) (B : List Nat) (a : Nat) (b : List Nat) (t : Tag) (ht : t ≠ .ow) (hb : 0 < b.length) (hB : B.length = 2048) (h : a + b.length ≤ 2048) :
    pcall Tryz.prog ann noSums (k + 2) 43 [memV B [], iv a, .sl t 1 (bs b)] [] = some (.tup [memV (over B a b) [(a, (B.drop a).take b.length)], iv 0], []) := by
  refine go43 rfl ?_
  have c1 := there_ok k B .nilsl a b.length hB h
  have c2 := clip_nil k
  have c3 := laid_ok k B b a t ht hB h
  have hd : (PV.sl t 1 (bs b)).dn = .sl t 1 (bs b) := by cases t <;> first | rfl | exact absurd rfl ht
  obtain ⟨y, ys, hy⟩ : ∃ y ys, (B.drop a).take b.length = y :: ys := by
    cases hq : (B.drop a).take b.length with
    | nil =>
      have := congrArg List.length hq
      rw [List.length_take, List.length_drop, hB, List.length_nil] at this
      omega
    | cons y ys => exact ⟨y, ys, rfl⟩
  have c4 : pcall Tryz.prog ann noSums (k + 1) 64 [.sl .sh 1 (bs ((B.drop a).take b.length))] [] = some (.sl .ow 1 (bs ((B.drop a).take b.length)), []) := by
    rw [hy]
    have hl : (y :: ys).length = b.length := by rw [← hy, List.length_take, List.length_drop, hB]; omega
    exact clone_ok k .sh (by simp) y ys (by rw [hl]; exact Nat.le_trans (Nat.le_add_left _ _) h)
  have w1 : W ((a : Int) + (b.length : Int)) = ((a + b.length : Nat) : Int) := by rw [← W_nat (n := a + b.length) (by omega)]; congr 1
  have hz : ¬ ((b.length : Nat) : Int) = 0 := by omega
  have hs := slice25 B a b.length (by rw [hB]; exact h)
  simp only [pcS_seq, pcS_region, dynR_no, unBox_false, unBox_true, doesBox, loud_make, inert_make, read_make, read_slice, loud_append, loud_copy, loud_clear, readCls_load, readCls_slice, loudCls_store, loudCls_alloc, loudCls_box, loudCls_call, atR_ptr, atS_ptr, Option.map_none, setS_frz, pcS_block, pcS_cond, pcS_loop, pcS_exit, pcS_ret, pcS_skip, popsL_nil, popsL_cons, pop_plain, pop_guard, wantS_eq, wantD_some, wantV_t, wantV_f, wantV_tup, guardP_true, guardP_false, bindS_normal, bindS_exit, bindS_ret, blockS_normal, blockS_exit, blockS_ret, bindP_some, doneR_some, condS_true, condS_false, pickI_some, pickI_none, pickR_some, pickR_none, pickL_some, endS_normal, endS_ret, setS_some, resV_none, resV_one, dstOk, doesTake, inert_move, inert_assign, inert_pick, inert_build, inert_buildSlice, inert_load, inert_nilCheck, inert_binOp, inert_unOp, inert_convert, inert_slice, inert_fieldAddr, inert_field, inert_indexAddr, inert_index, inert_extract, inert_builtin, inert_call, inert_alloc, inert_box, inert_store, pickB_bv, loadI_ep, loadI_ptr, nilI_ptr, nilI_ep, unI_not, extrI_tup, pureC_ok, callI_fn, read_load, read_alloc, read_box, read_store, read_call, loadR_ptr, boxR_cells, loud_load, loud_store, loud_alloc, loud_box, loud_call, loadL_ptr, boxL_cells, storeL_ptr, boxS_cells, boxN_eq, callL_fn, put, drop, takes, restrict, ev, lk, params, annF, bodyF, aggF, sizeF, elemF, fieldF, partF, List.zipIdx, List.zipIdx_cons, List.zipIdx_nil, List.map, List.map_cons, List.map_nil, Option.getD_some, Nat.reduceLT, Nat.reduceAdd, Nat.reduceEqDiff, Nat.reduceMul, Int.reduceEq, decide_true, decide_false, Bool.false_eq_true, Bool.and_true, Bool.false_and, Bool.and_false, Bool.true_and, Bool.and_self, if_true, if_false, reduceIte, List.contains_nil, List.contains_cons, beq_self_eq_true, Nat.reduceBEq, Bool.or_false, Bool.false_or, Bool.or_true, Bool.true_or, Bool.not_true, Bool.not_false, ofVal_iv, ofVal_bv, dn_iv, ow_iv, dn_bv, ow_bv, dn_fn, dn_ptr, dn_ep, dn_agg, dn_tup, dn_nilsl, dn_own, dn_sh, dn_ex, ow_ptr, ow_ep, ow_agg, ow_tup, ow_nilsl, ow_own, ow_sh, ow_ex, maxRef_iv, maxRef_bv, maxRef_agg, maxRef_tup, maxRefs_nil, maxRefs_cons, Nat.max_self, Nat.zero_le, List.cons_append, List.nil_append, List.append_nil, pBuiltin, tys1, Option.bind_some, Option.map_some, resultOf, List.getElem?_cons_zero, List.getElem?_cons_succ, cells_agg, cells_iv, solid_iv, solid_agg, List.length_cons, List.length_nil, Nat.zero_add, List.take_zero, List.take_nil, add_iv, sub_iv, mul_iv, lss_iv, leq_iv, gtr_iv, geq_iv, eql_iv, neq_iv, arr2, List.set_cons_zero, List.set_cons_succ, List.take_succ_cons, List.drop_succ_cons, List.drop_zero, List.take_length, or_true, true_or, and_true, true_and, and_self, Nat.reduceLeDiff, eq_self, Tryz.f43, dn_slsh, hd, len25, memV, olds, c1, c2, c3, w1, hz, alloc28, ofVal_nil, part28, maxRef_sl, maxRef_nil, hs, c4, build108, bslice26, app26n, solid_sl, cells_sl, solid_nil, cells_nil]
  rfl

theorem app26 (m : List PV) (p : PV) (h : m.length + 1 ≤ 2000) : pAppend Tryz.prog 26 26 (.sl .ex 2 m) (.sl .ex 2 [p]) = some (.sl .ow 2 (m ++ [p])) := by
  have he : tElem Tryz.prog 26 = some 108 := by kernel_rfl
  have hs : tSize Tryz.prog 108 = some 2 := by kernel_rfl
  have hz : zeroOk Tryz.prog 108 2 = true := by kernel_rfl
  have hi : ∃ i, Tryz.prog.info? 108 = some i ∧ i.bytes = 32 := by
    refine ⟨(Tryz.prog.info? 108).getD default, ?_, ?_⟩ <;> kernel_rfl
  obtain ⟨i, h1, h2⟩ := hi
  have hm : maxLen = 9223372036854775807 := rfl
  have hr : roomOk Tryz.prog 108 (m.length + 1) = true := by
    simp only [roomOk, h1, h2, hm, decide_eq_true_eq]
    omega
  simp only [pAppend, he, hs, newsOf, and_self, if_true, List.length_nil, Nat.zero_add, hr, hz, ne_eq, reduceCtorEq, not_false_eq_true]

theorem write2 (k : Nat) (p : Nat × List Nat) (O : List (Nat × List Nat)) (hO : O.length ≤ 1000) (B : List Nat) (a : Nat) (b : List Nat) (t : Tag) (ht : t ≠ .ow) (hb : 0 < b.length) (hB : B.length = 2048) (h : a + b.length ≤ 2048) :
    pcall Tryz.prog ann noSums (k + 2) 43 [memV B (p :: O), iv a, .sl t 1 (bs b)] [] = some (.tup [memV (over B a b) ((p :: O) ++ [(a, (B.drop a).take b.length)]), iv 0], []) := by
  refine go43 rfl ?_
  have c1 := there_ok k B (.sl .sh 2 ((p :: O).map pch)) a b.length hB h
  have c2 := clip_ok k ((p :: O).map pch)
  have hA := fun q => app26 ((p :: O).map pch) q (by simp; omega)
  have c3 := laid_ok k B b a t ht hB h
  have hd : (PV.sl t 1 (bs b)).dn = .sl t 1 (bs b) := by cases t <;> first | rfl | exact absurd rfl ht
  obtain ⟨y, ys, hy⟩ : ∃ y ys, (B.drop a).take b.length = y :: ys := by
    cases hq : (B.drop a).take b.length with
    | nil =>
      have := congrArg List.length hq
      rw [List.length_take, List.length_drop, hB, List.length_nil] at this
      omega
    | cons y ys => exact ⟨y, ys, rfl⟩
  have c4 : pcall Tryz.prog ann noSums (k + 1) 64 [.sl .sh 1 (bs ((B.drop a).take b.length))] [] = some (.sl .ow 1 (bs ((B.drop a).take b.length)), []) := by
    rw [hy]
    have hl : (y :: ys).length = b.length := by rw [← hy, List.length_take, List.length_drop, hB]; omega
    exact clone_ok k .sh (by simp) y ys (by rw [hl]; exact Nat.le_trans (Nat.le_add_left _ _) h)
  have w1 : W ((a : Int) + (b.length : Int)) = ((a + b.length : Nat) : Int) := by rw [← W_nat (n := a + b.length) (by omega)]; congr 1
  have hz : ¬ ((b.length : Nat) : Int) = 0 := by omega
  have hs := slice25 B a b.length (by rw [hB]; exact h)
  generalize hm : (p :: O).map pch = m at c1 c2 hA
  have hv : memV B (p :: O) = .agg [.sl .sh 1 (bs B), .sl .sh 2 m] := by rw [← hm]; rfl
  have hr : memV (over B a b) ((p :: O) ++ [(a, (B.drop a).take b.length)]) = .agg [.sl .sh 1 (bs (over B a b)), .sl .sh 2 (m ++ [pch (a, (B.drop a).take b.length)])] := by
    rw [← hm]
    show PV.agg [_, .sl .sh 2 ((p :: (O ++ _)).map pch)] = _
    simp
  rw [hv, hr]
  simp only [pcS_seq, pcS_region, dynR_no, unBox_false, unBox_true, doesBox, loud_make, inert_make, read_make, read_slice, loud_append, loud_copy, loud_clear, readCls_load, readCls_slice, loudCls_store, loudCls_alloc, loudCls_box, loudCls_call, atR_ptr, atS_ptr, Option.map_none, setS_frz, pcS_block, pcS_cond, pcS_loop, pcS_exit, pcS_ret, pcS_skip, popsL_nil, popsL_cons, pop_plain, pop_guard, wantS_eq, wantD_some, wantV_t, wantV_f, wantV_tup, guardP_true, guardP_false, bindS_normal, bindS_exit, bindS_ret, blockS_normal, blockS_exit, blockS_ret, bindP_some, doneR_some, condS_true, condS_false, pickI_some, pickI_none, pickR_some, pickR_none, pickL_some, endS_normal, endS_ret, setS_some, resV_none, resV_one, dstOk, doesTake, inert_move, inert_assign, inert_pick, inert_build, inert_buildSlice, inert_load, inert_nilCheck, inert_binOp, inert_unOp, inert_convert, inert_slice, inert_fieldAddr, inert_field, inert_indexAddr, inert_index, inert_extract, inert_builtin, inert_call, inert_alloc, inert_box, inert_store, pickB_bv, loadI_ep, loadI_ptr, nilI_ptr, nilI_ep, unI_not, extrI_tup, pureC_ok, callI_fn, read_load, read_alloc, read_box, read_store, read_call, loadR_ptr, boxR_cells, loud_load, loud_store, loud_alloc, loud_box, loud_call, loadL_ptr, boxL_cells, storeL_ptr, boxS_cells, boxN_eq, callL_fn, put, drop, takes, restrict, ev, lk, params, annF, bodyF, aggF, sizeF, elemF, fieldF, partF, List.zipIdx, List.zipIdx_cons, List.zipIdx_nil, List.map, List.map_cons, List.map_nil, Option.getD_some, Nat.reduceLT, Nat.reduceAdd, Nat.reduceEqDiff, Nat.reduceMul, Int.reduceEq, decide_true, decide_false, Bool.false_eq_true, Bool.and_true, Bool.false_and, Bool.and_false, Bool.true_and, Bool.and_self, if_true, if_false, reduceIte, List.contains_nil, List.contains_cons, beq_self_eq_true, Nat.reduceBEq, Bool.or_false, Bool.false_or, Bool.or_true, Bool.true_or, Bool.not_true, Bool.not_false, ofVal_iv, ofVal_bv, dn_iv, ow_iv, dn_bv, ow_bv, dn_fn, dn_ptr, dn_ep, dn_agg, dn_tup, dn_nilsl, dn_own, dn_sh, dn_ex, ow_ptr, ow_ep, ow_agg, ow_tup, ow_nilsl, ow_own, ow_sh, ow_ex, maxRef_iv, maxRef_bv, maxRef_agg, maxRef_tup, maxRefs_nil, maxRefs_cons, Nat.max_self, Nat.zero_le, List.cons_append, List.nil_append, List.append_nil, pBuiltin, tys1, Option.bind_some, Option.map_some, resultOf, List.getElem?_cons_zero, List.getElem?_cons_succ, cells_agg, cells_iv, solid_iv, solid_agg, List.length_cons, List.length_nil, Nat.zero_add, List.take_zero, List.take_nil, add_iv, sub_iv, mul_iv, lss_iv, leq_iv, gtr_iv, geq_iv, eql_iv, neq_iv, arr2, List.set_cons_zero, List.set_cons_succ, List.take_succ_cons, List.drop_succ_cons, List.drop_zero, List.take_length, or_true, true_or, and_true, true_and, and_self, Nat.reduceLeDiff, eq_self, Tryz.f43, dn_slsh, hd, len25, c1, c2, c3, w1, hz, alloc28, ofVal_nil, part28, maxRef_sl, maxRef_nil, hs, c4, build108, bslice26, hA, solid_sl, cells_sl, solid_nil, cells_nil]
  rfl

/-- A WRITE. -/
theorem write_ok (k : Nat) (B : List Nat) (O : List (Nat × List Nat)) (hO : O.length ≤ 1000) (a : Nat) (b : List Nat) (t : Tag) (ht : t ≠ .ow) (hb : 0 < b.length) (hB : B.length = 2048) (h : a + b.length ≤ 2048) :
    pcall Tryz.prog ann noSums (k + 2) 43 [memV B O, iv a, .sl t 1 (bs b)] [] = some (.tup [memV (over B a b) (O ++ [(a, (B.drop a).take b.length)]), iv 0], []) := by
  cases O with
  | nil => exact write1 k B a b t ht hb hB h
  | cons p O => exact write2 k p O (by simp at hO; omega) B a b t ht hb hB h

/-! part 7: bytes laid at a memory's end. No condition. -/
theorem maxRef_olds (O : List (Nat × List Nat)) : (olds O).maxRef = 0 := by cases O <;> simp [olds, PV.maxRef]
theorem dn_olds (O : List (Nat × List Nat)) : (olds O).dn = olds O := by cases O <;> rfl
theorem maxRef_memV (B : List Nat) (O : List (Nat × List Nat)) : (memV B O).maxRef = 0 := by
  simp [memV, PV.maxRef, PV.maxRefs, maxRef_olds]
theorem dn_memV (B : List Nat) (O : List (Nat × List Nat)) : (memV B O).dn = memV B O := rfl
theorem ow_memV (B : List Nat) (O : List (Nat × List Nat)) : (memV B O).isOw = false := rfl
theorem ow_olds (O : List (Nat × List Nat)) : (olds O).isOw = false := by cases O <;> rfl
theorem solid_memV (B : List Nat) (O : List (Nat × List Nat)) : (memV B O).solid = true := rfl
theorem cells_memV (B : List Nat) (O : List (Nat × List Nat)) : (memV B O).cells = [.sl .sh 1 (bs B), olds O] := rfl
theorem part28m (B : List Nat) (O : List (Nat × List Nat)) : getPart Tryz.prog 28 [.sl .sh 1 (bs B), olds O] 0 = some (memV B O) := part28 _ _

theorem write0 (k : Nat) (B : List Nat) (O : List (Nat × List Nat)) (a : Nat) (hB : B.length = 2048) (h : a ≤ 2048) (t : Tag) (ht : t ≠ .ow) :
    pcall Tryz.prog ann noSums (k + 2) 43 [memV B O, iv a, .sl t 1 (bs [])] [] = some (.tup [memV B O, iv 0], []) := by
  refine go43 rfl ?_
  have c1 : pcall Tryz.prog ann noSums (k + 1) 62 [memV B O, iv a, iv 0] [] = some (bv true, []) := there_ok k B (olds O) a 0 hB h
  have hd : (PV.sl t 1 (bs [])).dn = PV.sl t 1 (bs []) := by cases t <;> first | rfl | exact absurd rfl ht
  have hz : (((0 : Nat) : Int) = 0) := rfl
  simp only [pcS_seq, pcS_region, dynR_no, unBox_false, unBox_true, doesBox, loud_make, inert_make, read_make, read_slice, loud_append, loud_copy, loud_clear, readCls_load, readCls_slice, loudCls_store, loudCls_alloc, loudCls_box, loudCls_call, atR_ptr, atS_ptr, Option.map_none, setS_frz, pcS_block, pcS_cond, pcS_loop, pcS_exit, pcS_ret, pcS_skip, popsL_nil, popsL_cons, pop_plain, pop_guard, wantS_eq, wantD_some, wantV_t, wantV_f, wantV_tup, guardP_true, guardP_false, bindS_normal, bindS_exit, bindS_ret, blockS_normal, blockS_exit, blockS_ret, bindP_some, doneR_some, condS_true, condS_false, pickI_some, pickI_none, pickR_some, pickR_none, pickL_some, endS_normal, endS_ret, setS_some, resV_none, resV_one, dstOk, doesTake, inert_move, inert_assign, inert_pick, inert_build, inert_buildSlice, inert_load, inert_nilCheck, inert_binOp, inert_unOp, inert_convert, inert_slice, inert_fieldAddr, inert_field, inert_indexAddr, inert_index, inert_extract, inert_builtin, inert_call, inert_alloc, inert_box, inert_store, pickB_bv, loadI_ep, loadI_ptr, nilI_ptr, nilI_ep, unI_not, extrI_tup, pureC_ok, callI_fn, read_load, read_alloc, read_box, read_store, read_call, loadR_ptr, boxR_cells, loud_load, loud_store, loud_alloc, loud_box, loud_call, loadL_ptr, boxL_cells, storeL_ptr, boxS_cells, boxN_eq, callL_fn, put, drop, takes, restrict, ev, lk, params, annF, bodyF, aggF, sizeF, elemF, fieldF, partF, List.zipIdx, List.zipIdx_cons, List.zipIdx_nil, List.map, List.map_cons, List.map_nil, Option.getD_some, Nat.reduceLT, Nat.reduceAdd, Nat.reduceEqDiff, Nat.reduceMul, Int.reduceEq, decide_true, decide_false, Bool.false_eq_true, Bool.and_true, Bool.false_and, Bool.and_false, Bool.true_and, Bool.and_self, if_true, if_false, reduceIte, List.contains_nil, List.contains_cons, beq_self_eq_true, Nat.reduceBEq, Bool.or_false, Bool.false_or, Bool.or_true, Bool.true_or, Bool.not_true, Bool.not_false, ofVal_iv, ofVal_bv, dn_iv, ow_iv, dn_bv, ow_bv, dn_fn, dn_ptr, dn_ep, dn_agg, dn_tup, dn_nilsl, dn_own, dn_sh, dn_ex, ow_ptr, ow_ep, ow_agg, ow_tup, ow_nilsl, ow_own, ow_sh, ow_ex, maxRef_iv, maxRef_bv, maxRef_agg, maxRef_tup, maxRefs_nil, maxRefs_cons, Nat.max_self, Nat.zero_le, List.cons_append, List.nil_append, List.append_nil, pBuiltin, tys1, Option.bind_some, Option.map_some, resultOf, List.getElem?_cons_zero, List.getElem?_cons_succ, cells_agg, cells_iv, solid_iv, solid_agg, List.length_cons, List.length_nil, Nat.zero_add, List.take_zero, List.take_nil, add_iv, sub_iv, mul_iv, lss_iv, leq_iv, gtr_iv, geq_iv, eql_iv, neq_iv, arr2, List.set_cons_zero, List.set_cons_succ, List.take_succ_cons, List.drop_succ_cons, List.drop_zero, List.take_length, or_true, true_or, and_true, true_and, and_self, Nat.reduceLeDiff, eq_self, Tryz.f43, dn_slsh, dn_olds, len25, alloc28, ofVal_nil, part28m, maxRef_sl, maxRef_memV, dn_memV, solid_memV, cells_memV, ow_memV, ow_olds, hd, c1, hz]
  cases O <;> rfl

/-! part 8: bytes laid at a memory's end. No condition. -/
theorem left_ok (k : Nat) (B : List Nat) (O : List (Nat × List Nat)) (a : Nat) (hB : B.length = 2048) (h : a ≤ 2048) :
    pcall Tryz.prog ann noSums (k + 1) 42 [.agg [.sl .sh 1 (bs B), olds O, iv a]] [] = some (iv ((2048 - a : Nat) : Int), []) := by
  refine go42 rfl ?_
  have e1 : W ((2048 : Nat) - (a : Int)) = ((2048 - a : Nat) : Int) := by
    rw [← W_nat (n := 2048 - a) (by omega)]
    congr 1
    omega
  simp only [pcS_seq, pcS_region, dynR_no, unBox_false, unBox_true, doesBox, loud_make, inert_make, read_make, read_slice, loud_append, loud_copy, loud_clear, readCls_load, readCls_slice, loudCls_store, loudCls_alloc, loudCls_box, loudCls_call, atR_ptr, atS_ptr, Option.map_none, setS_frz, pcS_block, pcS_cond, pcS_loop, pcS_exit, pcS_ret, pcS_skip, popsL_nil, popsL_cons, pop_plain, pop_guard, wantS_eq, wantD_some, wantV_t, wantV_f, wantV_tup, guardP_true, guardP_false, bindS_normal, bindS_exit, bindS_ret, blockS_normal, blockS_exit, blockS_ret, bindP_some, doneR_some, condS_true, condS_false, pickI_some, pickI_none, pickR_some, pickR_none, pickL_some, endS_normal, endS_ret, setS_some, resV_none, resV_one, dstOk, doesTake, inert_move, inert_assign, inert_pick, inert_build, inert_buildSlice, inert_load, inert_nilCheck, inert_binOp, inert_unOp, inert_convert, inert_slice, inert_fieldAddr, inert_field, inert_indexAddr, inert_index, inert_extract, inert_builtin, inert_call, inert_alloc, inert_box, inert_store, pickB_bv, loadI_ep, loadI_ptr, nilI_ptr, nilI_ep, unI_not, extrI_tup, pureC_ok, callI_fn, read_load, read_alloc, read_box, read_store, read_call, loadR_ptr, boxR_cells, loud_load, loud_store, loud_alloc, loud_box, loud_call, loadL_ptr, boxL_cells, storeL_ptr, boxS_cells, boxN_eq, callL_fn, put, drop, takes, restrict, ev, lk, params, annF, bodyF, aggF, sizeF, elemF, fieldF, partF, List.zipIdx, List.zipIdx_cons, List.zipIdx_nil, List.map, List.map_cons, List.map_nil, Option.getD_some, Nat.reduceLT, Nat.reduceAdd, Nat.reduceEqDiff, Nat.reduceMul, Int.reduceEq, decide_true, decide_false, Bool.false_eq_true, Bool.and_true, Bool.false_and, Bool.and_false, Bool.true_and, Bool.and_self, if_true, if_false, reduceIte, List.contains_nil, List.contains_cons, beq_self_eq_true, Nat.reduceBEq, Bool.or_false, Bool.false_or, Bool.or_true, Bool.true_or, Bool.not_true, Bool.not_false, ofVal_iv, ofVal_bv, dn_iv, ow_iv, dn_bv, ow_bv, dn_fn, dn_ptr, dn_ep, dn_agg, dn_tup, dn_nilsl, dn_own, dn_sh, dn_ex, ow_ptr, ow_ep, ow_agg, ow_tup, ow_nilsl, ow_own, ow_sh, ow_ex, maxRef_iv, maxRef_bv, maxRef_agg, maxRef_tup, maxRefs_nil, maxRefs_cons, Nat.max_self, Nat.zero_le, List.cons_append, List.nil_append, List.append_nil, pBuiltin, tys1, Option.bind_some, Option.map_some, resultOf, List.getElem?_cons_zero, List.getElem?_cons_succ, cells_agg, cells_iv, solid_iv, solid_agg, List.length_cons, List.length_nil, Nat.zero_add, List.take_zero, List.take_nil, add_iv, sub_iv, mul_iv, lss_iv, leq_iv, gtr_iv, geq_iv, eql_iv, neq_iv, arr2, List.set_cons_zero, List.set_cons_succ, List.take_succ_cons, List.drop_succ_cons, List.drop_zero, List.take_length, or_true, true_or, and_true, true_and, and_self, Nat.reduceLeDiff, eq_self, Tryz.f42, dn_slsh, dn_olds, len25, hB, maxRef_sl, ow_olds, e1]

theorem inert_makeFunc (P : Program) (call : CallF) (ann : FuncId → Ann) (tk : Bool) (raw ρ : Operand → PV) (f : Fn) (first cap : Array Operand) :
    inertOp P call ann tk raw ρ (.makeFunc f first cap) = some (.fn f (first.toList.map ρ) (cap.toList.map ρ)) := rfl
theorem ow_fn (f : Fn) (a b : List PV) : (PV.fn f a b).isOw = false := rfl
theorem maxRef_fn (f : Fn) (a b : List PV) : (PV.fn f a b).maxRef = max (PV.maxRefs a) (PV.maxRefs b) := by simp [PV.maxRef]
theorem build94 (B : List Nat) (O : List (Nat × List Nat)) (a : Int) : pBuild Tryz.prog 94 [(0, memV B O), (1, iv a)] = some (.agg [.sl .sh 1 (bs B), olds O, iv a]) := by cases O <;> kernel_rfl

theorem lay_ok (k : Nat) (B : List Nat) (O : List (Nat × List Nat)) (hO : O.length ≤ 1000) (a : Nat) (b : List Nat) (t : Tag) (ht : t ≠ .ow) (hb : 0 < b.length) (hB : B.length = 2048) (h : a + b.length ≤ 2048) :
    pcall Tryz.prog ann noSums (k + 3) 21 [memV B O, iv a, .sl t 1 (bs b)] [] = some (.tup [memV (over B a b) (O ++ [(a, (B.drop a).take b.length)]), iv ((a + b.length : Nat) : Int), iv 0], []) := by
  refine go21 rfl ?_
  have c1 := left_ok (k + 1) B O a hB (by omega)
  have c2 := write_ok k B O hO a b t ht hb hB h
  have hd : (PV.sl t 1 (bs b)).dn = .sl t 1 (bs b) := by cases t <;> first | rfl | exact absurd rfl ht
  have w1 : W ((a : Int) + (b.length : Int)) = ((a + b.length : Nat) : Int) := by rw [← W_nat (n := a + b.length) (by omega)]; congr 1
  have hz : ¬ (((2048 - a : Nat) : Int) < (b.length : Int)) := by omega
  simp only [pcS_seq, pcS_region, dynR_no, unBox_false, unBox_true, doesBox, loud_make, inert_make, read_make, read_slice, loud_append, loud_copy, loud_clear, readCls_load, readCls_slice, loudCls_store, loudCls_alloc, loudCls_box, loudCls_call, atR_ptr, atS_ptr, Option.map_none, setS_frz, pcS_block, pcS_cond, pcS_loop, pcS_exit, pcS_ret, pcS_skip, popsL_nil, popsL_cons, pop_plain, pop_guard, wantS_eq, wantD_some, wantV_t, wantV_f, wantV_tup, guardP_true, guardP_false, bindS_normal, bindS_exit, bindS_ret, blockS_normal, blockS_exit, blockS_ret, bindP_some, doneR_some, condS_true, condS_false, pickI_some, pickI_none, pickR_some, pickR_none, pickL_some, endS_normal, endS_ret, setS_some, resV_none, resV_one, dstOk, doesTake, inert_move, inert_assign, inert_pick, inert_build, inert_buildSlice, inert_load, inert_nilCheck, inert_binOp, inert_unOp, inert_convert, inert_slice, inert_fieldAddr, inert_field, inert_indexAddr, inert_index, inert_extract, inert_builtin, inert_call, inert_alloc, inert_box, inert_store, pickB_bv, loadI_ep, loadI_ptr, nilI_ptr, nilI_ep, unI_not, extrI_tup, pureC_ok, callI_fn, read_load, read_alloc, read_box, read_store, read_call, loadR_ptr, boxR_cells, loud_load, loud_store, loud_alloc, loud_box, loud_call, loadL_ptr, boxL_cells, storeL_ptr, boxS_cells, boxN_eq, callL_fn, put, drop, takes, restrict, ev, lk, params, annF, bodyF, aggF, sizeF, elemF, fieldF, partF, List.zipIdx, List.zipIdx_cons, List.zipIdx_nil, List.map, List.map_cons, List.map_nil, Option.getD_some, Nat.reduceLT, Nat.reduceAdd, Nat.reduceEqDiff, Nat.reduceMul, Int.reduceEq, decide_true, decide_false, Bool.false_eq_true, Bool.and_true, Bool.false_and, Bool.and_false, Bool.true_and, Bool.and_self, if_true, if_false, reduceIte, List.contains_nil, List.contains_cons, beq_self_eq_true, Nat.reduceBEq, Bool.or_false, Bool.false_or, Bool.or_true, Bool.true_or, Bool.not_true, Bool.not_false, ofVal_iv, ofVal_bv, dn_iv, ow_iv, dn_bv, ow_bv, dn_fn, dn_ptr, dn_ep, dn_agg, dn_tup, dn_nilsl, dn_own, dn_sh, dn_ex, ow_ptr, ow_ep, ow_agg, ow_tup, ow_nilsl, ow_own, ow_sh, ow_ex, maxRef_iv, maxRef_bv, maxRef_agg, maxRef_tup, maxRefs_nil, maxRefs_cons, Nat.max_self, Nat.zero_le, List.cons_append, List.nil_append, List.append_nil, pBuiltin, tys1, Option.bind_some, Option.map_some, resultOf, List.getElem?_cons_zero, List.getElem?_cons_succ, cells_agg, cells_iv, solid_iv, solid_agg, List.length_cons, List.length_nil, Nat.zero_add, List.take_zero, List.take_nil, add_iv, sub_iv, mul_iv, lss_iv, leq_iv, gtr_iv, geq_iv, eql_iv, neq_iv, arr2, List.set_cons_zero, List.set_cons_succ, List.take_succ_cons, List.drop_succ_cons, List.drop_zero, List.take_length, or_true, true_or, and_true, true_and, and_self, Nat.reduceLeDiff, eq_self, Tryz.f21, dn_slsh, hd, dn_olds, len25, alloc28, ofVal_nil, part28m, maxRef_sl, maxRef_memV, dn_memV, solid_memV, cells_memV, ow_memV, ow_olds, build94, inert_makeFunc, ow_fn, maxRef_fn, maxRef_olds, c1, c2, w1, hz]
  generalize O ++ [(a, (B.drop a).take b.length)] = Q
  cases Q <;> rfl

theorem lay_nil (k : Nat) (B : List Nat) (O : List (Nat × List Nat)) (a : Nat) (t : Tag) (ht : t ≠ .ow) (hB : B.length = 2048) (h : a ≤ 2048) :
    pcall Tryz.prog ann noSums (k + 3) 21 [memV B O, iv a, .sl t 1 (bs [])] [] = some (.tup [memV B O, iv a, iv 0], []) := by
  refine go21 rfl ?_
  have c1 := left_ok (k + 1) B O a hB (by omega)
  have c2 := write0 k B O a hB (by omega) t ht
  have hd : (PV.sl t 1 (bs [])).dn = .sl t 1 (bs []) := by cases t <;> first | rfl | exact absurd rfl ht
  have w1 : W ((a : Int) + ((0 : Nat) : Int)) = ((a : Nat) : Int) := by rw [show (a : Int) + ((0 : Nat) : Int) = (a : Int) by omega]; exact W_nat (by omega)
  have hz : ¬ (((2048 - a : Nat) : Int) < ((0 : Nat) : Int)) := by omega
  simp only [pcS_seq, pcS_region, dynR_no, unBox_false, unBox_true, doesBox, loud_make, inert_make, read_make, read_slice, loud_append, loud_copy, loud_clear, readCls_load, readCls_slice, loudCls_store, loudCls_alloc, loudCls_box, loudCls_call, atR_ptr, atS_ptr, Option.map_none, setS_frz, pcS_block, pcS_cond, pcS_loop, pcS_exit, pcS_ret, pcS_skip, popsL_nil, popsL_cons, pop_plain, pop_guard, wantS_eq, wantD_some, wantV_t, wantV_f, wantV_tup, guardP_true, guardP_false, bindS_normal, bindS_exit, bindS_ret, blockS_normal, blockS_exit, blockS_ret, bindP_some, doneR_some, condS_true, condS_false, pickI_some, pickI_none, pickR_some, pickR_none, pickL_some, endS_normal, endS_ret, setS_some, resV_none, resV_one, dstOk, doesTake, inert_move, inert_assign, inert_pick, inert_build, inert_buildSlice, inert_load, inert_nilCheck, inert_binOp, inert_unOp, inert_convert, inert_slice, inert_fieldAddr, inert_field, inert_indexAddr, inert_index, inert_extract, inert_builtin, inert_call, inert_alloc, inert_box, inert_store, pickB_bv, loadI_ep, loadI_ptr, nilI_ptr, nilI_ep, unI_not, extrI_tup, pureC_ok, callI_fn, read_load, read_alloc, read_box, read_store, read_call, loadR_ptr, boxR_cells, loud_load, loud_store, loud_alloc, loud_box, loud_call, loadL_ptr, boxL_cells, storeL_ptr, boxS_cells, boxN_eq, callL_fn, put, drop, takes, restrict, ev, lk, params, annF, bodyF, aggF, sizeF, elemF, fieldF, partF, List.zipIdx, List.zipIdx_cons, List.zipIdx_nil, List.map, List.map_cons, List.map_nil, Option.getD_some, Nat.reduceLT, Nat.reduceAdd, Nat.reduceEqDiff, Nat.reduceMul, Int.reduceEq, decide_true, decide_false, Bool.false_eq_true, Bool.and_true, Bool.false_and, Bool.and_false, Bool.true_and, Bool.and_self, if_true, if_false, reduceIte, List.contains_nil, List.contains_cons, beq_self_eq_true, Nat.reduceBEq, Bool.or_false, Bool.false_or, Bool.or_true, Bool.true_or, Bool.not_true, Bool.not_false, ofVal_iv, ofVal_bv, dn_iv, ow_iv, dn_bv, ow_bv, dn_fn, dn_ptr, dn_ep, dn_agg, dn_tup, dn_nilsl, dn_own, dn_sh, dn_ex, ow_ptr, ow_ep, ow_agg, ow_tup, ow_nilsl, ow_own, ow_sh, ow_ex, maxRef_iv, maxRef_bv, maxRef_agg, maxRef_tup, maxRefs_nil, maxRefs_cons, Nat.max_self, Nat.zero_le, List.cons_append, List.nil_append, List.append_nil, pBuiltin, tys1, Option.bind_some, Option.map_some, resultOf, List.getElem?_cons_zero, List.getElem?_cons_succ, cells_agg, cells_iv, solid_iv, solid_agg, List.length_cons, List.length_nil, Nat.zero_add, List.take_zero, List.take_nil, add_iv, sub_iv, mul_iv, lss_iv, leq_iv, gtr_iv, geq_iv, eql_iv, neq_iv, arr2, List.set_cons_zero, List.set_cons_succ, List.take_succ_cons, List.drop_succ_cons, List.drop_zero, List.take_length, or_true, true_or, and_true, true_and, and_self, Nat.reduceLeDiff, eq_self, Tryz.f21, dn_slsh, hd, dn_olds, len25, alloc28, ofVal_nil, part28m, maxRef_sl, maxRef_memV, dn_memV, solid_memV, cells_memV, ow_memV, ow_olds, build94, inert_makeFunc, ow_fn, maxRef_fn, maxRef_olds, c1, c2, w1, hz]
  cases O <;> rfl

/-! part 9: a cell laid. No condition. -/
theorem put_at (k : Nat) (n : Int) : pcall Tryz.prog ann noSums (k + 300) 39 [iv n] [] = some (.sl .sh 1 (bs (cb n)), []) := pcall_mono (by omega) (put_ok n)

theorem rem8 (n : Int) (x y : Operand) : pBin Tryz.prog .rem 3 x y (iv n) (iv 8) = some (iv (Int.tmod n 8)) := by kernel_rfl
theorem lay_at (k : Nat) (B : List Nat) (O : List (Nat × List Nat)) (hO : O.length ≤ 1000) (a : Nat) (b : List Nat) (hb : 0 < b.length) (hB : B.length = 2048) (h : a + b.length ≤ 2048) :
    pcall Tryz.prog ann noSums (k + 300) 21 [memV B O, iv a, .sl .sh 1 (bs b)] [] = some (.tup [memV (over B a b) (O ++ [(a, (B.drop a).take b.length)]), iv ((a + b.length : Nat) : Int), iv 0], []) :=
  lay_ok (k + 297) B O hO a b .sh (by simp) hb hB h

theorem comma_ok (k : Nat) (B : List Nat) (O : List (Nat × List Nat)) (hO : O.length ≤ 1000) (q : Nat) (n : Int) (hB : B.length = 2048) (h : 8 * q + 8 ≤ 2048) :
    pcall Tryz.prog ann noSums (k + 301) 18 [memV B O, iv ((8 * q : Nat) : Int), iv n] [] =
      some (.tup [memV (over B (8 * q) (cb n)) (O ++ [(8 * q, (B.drop (8 * q)).take 8)]), iv ((8 * q + 8 : Nat) : Int), iv 0], []) := by
  refine go18 rfl ?_
  have c1 := put_at k n
  have c2 := lay_at k B O hO (8 * q) (cb n) (by rw [cb_len]; omega) hB (by rw [cb_len]; exact h)
  rw [cb_len] at c2
  have hr : ∀ x y, pBin Tryz.prog .rem 3 x y (iv ((8 * q : Nat) : Int)) (iv 8) = some (iv 0) := fun x y => by
    rw [rem8, show Int.tmod ((8 * q : Nat) : Int) 8 = 0 by
      rw [Int.tmod_eq_emod_of_nonneg (by omega)]
      omega]
  simp only [pcS_seq, pcS_region, dynR_no, unBox_false, unBox_true, doesBox, loud_make, inert_make, read_make, read_slice, loud_append, loud_copy, loud_clear, readCls_load, readCls_slice, loudCls_store, loudCls_alloc, loudCls_box, loudCls_call, atR_ptr, atS_ptr, Option.map_none, setS_frz, pcS_block, pcS_cond, pcS_loop, pcS_exit, pcS_ret, pcS_skip, popsL_nil, popsL_cons, pop_plain, pop_guard, wantS_eq, wantD_some, wantV_t, wantV_f, wantV_tup, guardP_true, guardP_false, bindS_normal, bindS_exit, bindS_ret, blockS_normal, blockS_exit, blockS_ret, bindP_some, doneR_some, condS_true, condS_false, pickI_some, pickI_none, pickR_some, pickR_none, pickL_some, endS_normal, endS_ret, setS_some, resV_none, resV_one, dstOk, doesTake, inert_move, inert_assign, inert_pick, inert_build, inert_buildSlice, inert_load, inert_nilCheck, inert_binOp, inert_unOp, inert_convert, inert_slice, inert_fieldAddr, inert_field, inert_indexAddr, inert_index, inert_extract, inert_builtin, inert_call, inert_alloc, inert_box, inert_store, pickB_bv, loadI_ep, loadI_ptr, nilI_ptr, nilI_ep, unI_not, extrI_tup, pureC_ok, callI_fn, read_load, read_alloc, read_box, read_store, read_call, loadR_ptr, boxR_cells, loud_load, loud_store, loud_alloc, loud_box, loud_call, loadL_ptr, boxL_cells, storeL_ptr, boxS_cells, boxN_eq, callL_fn, put, drop, takes, restrict, ev, lk, params, annF, bodyF, aggF, sizeF, elemF, fieldF, partF, List.zipIdx, List.zipIdx_cons, List.zipIdx_nil, List.map, List.map_cons, List.map_nil, Option.getD_some, Nat.reduceLT, Nat.reduceAdd, Nat.reduceEqDiff, Nat.reduceMul, Int.reduceEq, decide_true, decide_false, Bool.false_eq_true, Bool.and_true, Bool.false_and, Bool.and_false, Bool.true_and, Bool.and_self, if_true, if_false, reduceIte, List.contains_nil, List.contains_cons, beq_self_eq_true, Nat.reduceBEq, Bool.or_false, Bool.false_or, Bool.or_true, Bool.true_or, Bool.not_true, Bool.not_false, ofVal_iv, ofVal_bv, dn_iv, ow_iv, dn_bv, ow_bv, dn_fn, dn_ptr, dn_ep, dn_agg, dn_tup, dn_nilsl, dn_own, dn_sh, dn_ex, ow_ptr, ow_ep, ow_agg, ow_tup, ow_nilsl, ow_own, ow_sh, ow_ex, maxRef_iv, maxRef_bv, maxRef_agg, maxRef_tup, maxRefs_nil, maxRefs_cons, Nat.max_self, Nat.zero_le, List.cons_append, List.nil_append, List.append_nil, pBuiltin, tys1, Option.bind_some, Option.map_some, resultOf, List.getElem?_cons_zero, List.getElem?_cons_succ, cells_agg, cells_iv, solid_iv, solid_agg, List.length_cons, List.length_nil, Nat.zero_add, List.take_zero, List.take_nil, add_iv, sub_iv, mul_iv, lss_iv, leq_iv, gtr_iv, geq_iv, eql_iv, neq_iv, arr2, List.set_cons_zero, List.set_cons_succ, List.take_succ_cons, List.drop_succ_cons, List.drop_zero, List.take_length, or_true, true_or, and_true, true_and, and_self, Nat.reduceLeDiff, eq_self, Tryz.f18, dn_slsh, dn_olds, len25, alloc28, ofVal_nil, part28m, maxRef_sl, maxRef_memV, dn_memV, solid_memV, cells_memV, ow_memV, ow_olds, hr, c1, c2]
  generalize O ++ [(8 * q, (B.drop (8 * q)).take 8)] = Q
  cases Q <;> rfl

/-! part 10: a machine with a cell laid. No condition. -/
/-- A new machine, but for its memory, its end and its words: its cells. -/
def vmC (ws : List PV) (B : List Nat) (O : List (Nat × List Nat)) (h : Nat) : List PV := [iv 2048, iv 32, iv 32, iv 200, iv 500, .sl .sh 1 (bs B), olds O, iv h, .nilsl, .nilsl, .nilsl, .sl .sh 3 ws, iv 0, .nilsl, .nilsl, bv false, .nilsl, iv 0, iv 0, iv 0, iv 0, iv 0, .nilsl]
def vmV (ws : List PV) (B : List Nat) (O : List (Nat × List Nat)) (h : Nat) : PV := .agg (vmC ws B O h)

theorem dn_vmV (ws : List PV) (B : List Nat) (O : List (Nat × List Nat)) (h : Nat) : (vmV ws B O h).dn = vmV ws B O h := rfl
theorem ow_vmV (ws : List PV) (B : List Nat) (O : List (Nat × List Nat)) (h : Nat) : (vmV ws B O h).isOw = false := rfl
theorem maxRef_vmV (ws : List PV) (B : List Nat) (O : List (Nat × List Nat)) (h : Nat) : (vmV ws B O h).maxRef = 0 := by
  simp [vmV, vmC, PV.maxRef, PV.maxRefs, maxRef_olds, maxRef_iv, maxRef_bv]

theorem vm_part28 (ws : List PV) (B : List Nat) (O : List (Nat × List Nat)) (h : Nat) : getPart Tryz.prog 28 (vmC ws B O h) 5 = some (memV B O) := by cases O <;> kernel_rfl
theorem vm_dn (ws : List PV) (B : List Nat) (O : List (Nat × List Nat)) (h : Nat) : (vmC ws B O h).map PV.dn = vmC ws B O h := by cases O <;> rfl
theorem vm_cells (ws : List PV) (B : List Nat) (O : List (Nat × List Nat)) (h : Nat) : (vmV ws B O h).cells = vmC ws B O h := rfl
theorem vm_solid (ws : List PV) (B : List Nat) (O : List (Nat × List Nat)) (h : Nat) : (vmV ws B O h).solid = true := rfl
theorem vm_part37 (ws : List PV) (B : List Nat) (O : List (Nat × List Nat)) (h : Nat) : getPart Tryz.prog 37 (vmC ws B O h) 0 = some (vmV ws B O h) := by cases O <;> kernel_rfl
/-- The cells of a machine of noughts. -/
def z37 : List PV := [iv 0, iv 0, iv 0, iv 0, iv 0, .nilsl, .nilsl, iv 0, .nilsl, .nilsl, .nilsl, .nilsl, iv 0, .nilsl, .nilsl, bv false, .nilsl, iv 0, iv 0, iv 0, iv 0, iv 0, .nilsl]
theorem alloc37 (st : Store) : allocN Tryz.prog 37 st = some (.ptr st.length 0, st ++ [.cells z37]) := by kernel_rfl
theorem z37_len : z37.length = 23 := by kernel_rfl

theorem vm_len (ws : List PV) (B : List Nat) (O : List (Nat × List Nat)) (h : Nat) : (vmC ws B O h).length = 23 := rfl
theorem vm_here (ws : List PV) (B : List Nat) (O : List (Nat × List Nat)) (h : Nat) : (vmC ws B O h)[7]? = some (iv h) := rfl
theorem vm_setmem (ws : List PV) (B B' : List Nat) (O O' : List (Nat × List Nat)) (h : Nat) : (vmC ws B O h).take 5 ++ [.sl .sh 1 (bs B'), olds O'] ++ (vmC ws B O h).drop 7 = vmC ws B' O' h := rfl
theorem vm_sethere (ws : List PV) (B : List Nat) (O : List (Nat × List Nat)) (h h' : Nat) : (vmC ws B O h).take 7 ++ [iv h'] ++ (vmC ws B O h).drop 8 = vmC ws B O h' := rfl

theorem z37_drop : z37.drop 23 = [] := rfl
theorem cvlay_ok (k : Nat) (ws : List PV) (B : List Nat) (O : List (Nat × List Nat)) (hO : O.length ≤ 1000) (q : Nat) (n : Int) (hB : B.length = 2048) (h : 8 * q + 8 ≤ 2048) :
    pcall Tryz.prog ann noSums (k + 302) 6 [vmV ws B O (8 * q), iv n] [] =
      some (.tup [vmV ws (over B (8 * q) (cb n)) (O ++ [(8 * q, (B.drop (8 * q)).take 8)]) (8 * q + 8), iv 0], []) := by
  refine go6 rfl ?_
  have c1 := comma_ok k B O hO q n hB h
  simp only [pcS_seq, pcS_region, dynR_no, unBox_false, unBox_true, doesBox, loud_make, inert_make, read_make, read_slice, loud_append, loud_copy, loud_clear, readCls_load, readCls_slice, loudCls_store, loudCls_alloc, loudCls_box, loudCls_call, atR_ptr, atS_ptr, Option.map_none, setS_frz, pcS_block, pcS_cond, pcS_loop, pcS_exit, pcS_ret, pcS_skip, popsL_nil, popsL_cons, pop_plain, pop_guard, wantS_eq, wantD_some, wantV_t, wantV_f, wantV_tup, guardP_true, guardP_false, bindS_normal, bindS_exit, bindS_ret, blockS_normal, blockS_exit, blockS_ret, bindP_some, doneR_some, condS_true, condS_false, pickI_some, pickI_none, pickR_some, pickR_none, pickL_some, endS_normal, endS_ret, setS_some, resV_none, resV_one, dstOk, doesTake, inert_move, inert_assign, inert_pick, inert_build, inert_buildSlice, inert_load, inert_nilCheck, inert_binOp, inert_unOp, inert_convert, inert_slice, inert_fieldAddr, inert_field, inert_indexAddr, inert_index, inert_extract, inert_builtin, inert_call, inert_alloc, inert_box, inert_store, pickB_bv, loadI_ep, loadI_ptr, nilI_ptr, nilI_ep, unI_not, extrI_tup, pureC_ok, callI_fn, read_load, read_alloc, read_box, read_store, read_call, loadR_ptr, boxR_cells, loud_load, loud_store, loud_alloc, loud_box, loud_call, loadL_ptr, boxL_cells, storeL_ptr, boxS_cells, boxN_eq, callL_fn, put, drop, takes, restrict, ev, lk, params, annF, bodyF, aggF, sizeF, elemF, fieldF, partF, List.zipIdx, List.zipIdx_cons, List.zipIdx_nil, List.map, List.map_cons, List.map_nil, Option.getD_some, Nat.reduceLT, Nat.reduceAdd, Nat.reduceEqDiff, Nat.reduceMul, Int.reduceEq, decide_true, decide_false, Bool.false_eq_true, Bool.and_true, Bool.false_and, Bool.and_false, Bool.true_and, Bool.and_self, if_true, if_false, reduceIte, List.contains_nil, List.contains_cons, beq_self_eq_true, Nat.reduceBEq, Bool.or_false, Bool.false_or, Bool.or_true, Bool.true_or, Bool.not_true, Bool.not_false, ofVal_iv, ofVal_bv, dn_iv, ow_iv, dn_bv, ow_bv, dn_fn, dn_ptr, dn_ep, dn_agg, dn_tup, dn_nilsl, dn_own, dn_sh, dn_ex, ow_ptr, ow_ep, ow_agg, ow_tup, ow_nilsl, ow_own, ow_sh, ow_ex, maxRef_iv, maxRef_bv, maxRef_agg, maxRef_tup, maxRefs_nil, maxRefs_cons, Nat.max_self, Nat.zero_le, List.cons_append, List.nil_append, List.append_nil, pBuiltin, tys1, Option.bind_some, Option.map_some, resultOf, List.getElem?_cons_zero, List.getElem?_cons_succ, cells_agg, cells_iv, solid_iv, solid_agg, List.length_cons, List.length_nil, Nat.zero_add, List.take_zero, List.take_nil, add_iv, sub_iv, mul_iv, lss_iv, leq_iv, gtr_iv, geq_iv, eql_iv, neq_iv, arr2, List.set_cons_zero, List.set_cons_succ, List.take_succ_cons, List.drop_succ_cons, List.drop_zero, List.take_length, or_true, true_or, and_true, true_and, and_self, Nat.reduceLeDiff, eq_self, Tryz.f6, dn_slsh, dn_olds, alloc28, alloc37, ofVal_nil, part28m, maxRef_memV, dn_memV, solid_memV, cells_memV, ow_memV, ow_olds, dn_vmV, ow_vmV, maxRef_vmV, vm_part28, vm_dn, vm_cells, vm_solid, vm_here, vm_len, vm_setmem, vm_sethere, z37_len, z37_drop, vm_part37, c1]
  generalize O ++ [(8 * q, (B.drop (8 * q)).take 8)] = Q
  cases Q <;> rfl

end Go.Proofs.YtnjlkgmcoengnaaGreat.PE
