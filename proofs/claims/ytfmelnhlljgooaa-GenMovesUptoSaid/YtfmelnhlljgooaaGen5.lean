/-
  Whether a tree may be, by the document's may and May.
-/
import Derived.Test.YtfmelnhlljgooaaGen4
set_option linter.unusedSimpArgs false
set_option linter.unusedVariables false
namespace Go.Proofs.Ytfmelnhlljgooaa.PE
open Go

def bareB (A B : List T) : Bool := decide ((A.length : Int) = 0) && decide ((B.length : Int) = 0)

/-- What a part's own kind, number and parts say: yes, no, or: look at its parts, so many loops deep. -/
inductive Say where
  | yes (b : Bool)
  | look (lp : Nat)

def sayOf (k n : Int) (A B : List T) (lp : Nat) : Say :=
  if k = 1 then .yes (bareB A B)
  else if k = 2 then .yes (bareB A B)
  else if k = 9 then .yes (bareB A B && decide (n = 0) && decide ((0 : Int) < lp))
  else if k = 10 then .yes (bareB A B && decide (n = 0) && decide ((lp : Int) = 0))
  else if k = 11 then .yes (bareB A B && decide (n = 0))
  else if k = 3 then (if n = 1 then .look lp else if n = 0 then (if (0 : Int) < B.length then .yes false else .look lp) else .yes false)
  else if k = 4 then (if n = 0 then (if (0 : Int) < B.length then .yes false else .look lp) else .yes false)
  else if k = 5 then (if n = 0 then (if (0 : Int) < B.length then .yes false else .look lp) else .yes false)
  else if k = 6 then (if n = 0 then .look lp else .yes false)
  else if k = 7 then (if n = 0 ∨ n = 1 then (if (0 : Int) < B.length then .yes false else .look (lp + 1)) else .yes false)
  else if k = 8 then (if n = 0 ∨ n = 1 then (if (0 : Int) < B.length then .yes false else .look (lp + 1)) else .yes false)
  else .yes false

mutual
def T.may : T → Nat → Nat → Bool
  | .mk k n _ A _ B, o, lp =>
    match sayOf k n A B lp with
    | .yes b => b
    | .look lp => if (16 : Int) ≤ o then false else mays A (o + 1) lp && mays B (o + 1) lp
def mays : List T → Nat → Nat → Bool
  | [], _, _ => true
  | t :: r, o, lp => t.may o lp && mays r o lp
end

def loopsOf : Code → List Code
  | .seq a b => loopsOf a ++ loopsOf b
  | .cond _ a b => loopsOf a ++ loopsOf b
  | .block _ b => loopsOf b
  | .loop b => b :: loopsOf b
  | _ => []

def seqR : Code → Code
  | .seq _ b => b
  | c => c
def seqL : Code → Code
  | .seq a _ => a
  | c => c

/-- What stands behind a look at a row of parts. -/
def MayJ (blk : Nat) (b : Bool) (o lp : Nat) (st : Store) (r : PX × PS) : Prop :=
  (r.1 = .exit blk ∧ b = true ∧ ∃ env', r.2 = ⟨env', st⟩ ∧ lk env' 3 = .ptr 0 0 ∧ lk env' 1 = iv (o : Nat) ∧ lk env' 2 = iv (lp : Nat)) ∨
  (r.1 = .ret ∧ b = false ∧ ∃ env', r.2 = ⟨env', st⟩ ∧ lk env' 6 = bv false)

theorem may_loopA (k : Nat) (kd n : Int) (fa fb : E) (A B : List T) (o lp : Nat) (env : Env) (hk : A.length < k) (hb : A.length < 2 ^ 61) (ho : o < 2 ^ 61)
    (e3 : lk env 3 = .ptr 0 0) (e1 : lk env 1 = iv (o : Nat)) (e2 : lk env 2 = iv (lp : Nat)) (e8 : lk env 8 = iv 0)
    (hrec : ∀ (i : Nat) (t : T), A[i]? = some t → pcall Try.prog ann noSums k 18 [t.pv, iv ((o + 1 : Nat) : Int), iv (lp : Nat)] [] = some (bv (t.may (o + 1) lp), [])) :
    ∃ r, ploopC ⟨Try.prog, ann, pcall Try.prog ann noSums k, 18, 150, 0⟩ k ((loopsOf (Try.f18.body.getD .skip)).getD 0 .skip) k ⟨env, [.cells [iv kd, iv n, pvL fa A, pvL fb B]]⟩ = some r ∧
      MayJ 1 (mays A (o + 1) lp) o lp [.cells [iv kd, iv n, pvL fa A, pvL fb B]] r := by
  have hWo := W_succ (n := o) ho
  simp only [Try.f18, Option.getD_some, loopsOf, List.nil_append, List.cons_append, List.append_nil, List.getD_cons_zero, List.getD_cons_succ]
  refine ploopC_at (fun d s => ∃ env i, i + d = A.length ∧ s = ⟨env, [.cells [iv kd, iv n, pvL fa A, pvL fb B]]⟩ ∧ lk env 3 = .ptr 0 0 ∧ lk env 1 = iv (o : Nat) ∧ lk env 2 = iv (lp : Nat) ∧ lk env 8 = iv (i : Nat) ∧ mays (A.drop i) (o + 1) lp = mays A (o + 1) lp) ?_
    A.length _ _ ⟨env, 0, by omega, rfl, e3, e1, e2, e8, rfl⟩ hk
  clear e3 e1 e2 e8 env
  rintro d s ⟨env, i, hd, rfl, e3, e1, e2, e8, hm⟩
  cases d with
  | zero =>
    have hi : ¬ (i : Int) < A.length := by omega
    rw [List.drop_eq_nil_of_le (by omega)] at hm
    simp only [mays] at hm
    refine .inr ?_
    simp only [pcS_seq, pcS_region, pcS_block, pcS_cond, pcS_loop, pcS_exit, pcS_ret, pcS_skip, popsL_nil, popsL_cons, pop_plain, pop_guard, wantS_eq, wantD_some, wantV_t, wantV_f, wantV_tup, guardP_true, guardP_false, bindS_normal, bindS_exit, bindS_ret, blockS_normal, blockS_exit, blockS_ret, bindP_some, doneR_some, condS_true, condS_false, pickI_some, pickI_none, pickR_some, pickR_none, pickL_some, endS_normal, endS_ret, setS_some, resV_none, resV_one, dstOk, doesTake, inert_move, inert_assign, inert_pick, inert_build, inert_buildSlice, inert_load, inert_nilCheck, inert_binOp, inert_unOp, inert_convert, inert_slice, inert_fieldAddr, inert_field, inert_indexAddr, inert_index, inert_extract, inert_builtin, inert_call, inert_alloc, inert_box, inert_store, pickB_bv, loadI_ep, loadI_ptr, nilI_ptr, nilI_ep, unI_not, extrI_tup, pureC_ok, callI_fn, read_load, read_alloc, read_box, read_store, read_call, loadR_ptr, boxR_cells, loud_load, loud_store, loud_alloc, loud_box, loud_call, loadL_ptr, boxL_cells, storeL_ptr, boxS_cells, boxN_eq, callL_fn, put, drop, takes, restrict, ev, lk, params, annF, bodyF, aggF, sizeF, elemF, fieldF, partF, List.zipIdx, List.zipIdx_cons, List.zipIdx_nil, List.map, List.map_cons, List.map_nil, Option.getD_some, Nat.reduceLT, Nat.reduceAdd, Nat.reduceEqDiff, Nat.reduceMul, Int.reduceEq, decide_true, decide_false, Bool.false_eq_true, Bool.and_true, Bool.false_and, Bool.and_false, Bool.true_and, Bool.and_self, if_true, if_false, reduceIte, List.contains_nil, List.contains_cons, beq_self_eq_true, Nat.reduceBEq, Bool.or_false, Bool.false_or, Bool.or_true, Bool.true_or, Bool.not_true, Bool.not_false, ofVal_iv, ofVal_bv, dn_iv, ow_iv, dn_bv, ow_bv, dn_fn, dn_ptr, dn_ep, dn_agg, dn_tup, dn_nilsl, dn_own, dn_sh, dn_ex, ow_ptr, ow_ep, ow_agg, ow_tup, ow_nilsl, ow_own, ow_sh, ow_ex, maxRef_iv, maxRef_bv, maxRef_agg, maxRef_tup, maxRefs_nil, maxRefs_cons, Nat.max_self, Nat.zero_le, List.cons_append, List.nil_append, List.append_nil, pBuiltin, tys1, Option.bind_some, Option.map_some, resultOf, List.getElem?_cons_zero, List.getElem?_cons_succ, cells_agg, cells_iv, solid_iv, solid_agg, List.length_cons, List.length_nil, Nat.zero_add, List.take_zero, List.take_nil, add_iv, sub_iv, mul_iv, lss_iv, leq_iv, gtr_iv, geq_iv, eql_iv, neq_iv, arr2, List.set_cons_zero, List.set_cons_succ, List.take_succ_cons, List.drop_succ_cons, List.drop_zero, List.take_length, or_true, true_or, and_true, true_and, and_self, Nat.reduceLeDiff, eq_self, e3, e1, e2, e8, len_pvL, dn_pvL, hi]
    exact ⟨_, rfl, by simp, .inl ⟨rfl, hm.symm, _, rfl, rfl, rfl, rfl⟩⟩
  | succ d =>
    have hi : i < A.length := by omega
    have ht : A[i]? = some A[i] := List.getElem?_eq_getElem hi
    have hlt : (i : Int) < A.length := by omega
    have hW := W_succ (n := i) (by omega)
    rw [List.drop_eq_getElem_cons hi] at hm
    simp only [mays] at hm
    have hr := hrec i _ ht
    cases hmay : A[i].may (o + 1) lp with
    | true =>
      rw [hmay] at hm hr
      rw [Bool.true_and] at hm
      refine .inl ?_
      simp only [pcS_seq, pcS_region, pcS_block, pcS_cond, pcS_loop, pcS_exit, pcS_ret, pcS_skip, popsL_nil, popsL_cons, pop_plain, pop_guard, wantS_eq, wantD_some, wantV_t, wantV_f, wantV_tup, guardP_true, guardP_false, bindS_normal, bindS_exit, bindS_ret, blockS_normal, blockS_exit, blockS_ret, bindP_some, doneR_some, condS_true, condS_false, pickI_some, pickI_none, pickR_some, pickR_none, pickL_some, endS_normal, endS_ret, setS_some, resV_none, resV_one, dstOk, doesTake, inert_move, inert_assign, inert_pick, inert_build, inert_buildSlice, inert_load, inert_nilCheck, inert_binOp, inert_unOp, inert_convert, inert_slice, inert_fieldAddr, inert_field, inert_indexAddr, inert_index, inert_extract, inert_builtin, inert_call, inert_alloc, inert_box, inert_store, pickB_bv, loadI_ep, loadI_ptr, nilI_ptr, nilI_ep, unI_not, extrI_tup, pureC_ok, callI_fn, read_load, read_alloc, read_box, read_store, read_call, loadR_ptr, boxR_cells, loud_load, loud_store, loud_alloc, loud_box, loud_call, loadL_ptr, boxL_cells, storeL_ptr, boxS_cells, boxN_eq, callL_fn, put, drop, takes, restrict, ev, lk, params, annF, bodyF, aggF, sizeF, elemF, fieldF, partF, List.zipIdx, List.zipIdx_cons, List.zipIdx_nil, List.map, List.map_cons, List.map_nil, Option.getD_some, Nat.reduceLT, Nat.reduceAdd, Nat.reduceEqDiff, Nat.reduceMul, Int.reduceEq, decide_true, decide_false, Bool.false_eq_true, Bool.and_true, Bool.false_and, Bool.and_false, Bool.true_and, Bool.and_self, if_true, if_false, reduceIte, List.contains_nil, List.contains_cons, beq_self_eq_true, Nat.reduceBEq, Bool.or_false, Bool.false_or, Bool.or_true, Bool.true_or, Bool.not_true, Bool.not_false, ofVal_iv, ofVal_bv, dn_iv, ow_iv, dn_bv, ow_bv, dn_fn, dn_ptr, dn_ep, dn_agg, dn_tup, dn_nilsl, dn_own, dn_sh, dn_ex, ow_ptr, ow_ep, ow_agg, ow_tup, ow_nilsl, ow_own, ow_sh, ow_ex, maxRef_iv, maxRef_bv, maxRef_agg, maxRef_tup, maxRefs_nil, maxRefs_cons, Nat.max_self, Nat.zero_le, List.cons_append, List.nil_append, List.append_nil, pBuiltin, tys1, Option.bind_some, Option.map_some, resultOf, List.getElem?_cons_zero, List.getElem?_cons_succ, cells_agg, cells_iv, solid_iv, solid_agg, List.length_cons, List.length_nil, Nat.zero_add, List.take_zero, List.take_nil, add_iv, sub_iv, mul_iv, lss_iv, leq_iv, gtr_iv, geq_iv, eql_iv, neq_iv, arr2, List.set_cons_zero, List.set_cons_succ, List.take_succ_cons, List.drop_succ_cons, List.drop_zero, List.take_length, or_true, true_or, and_true, true_and, and_self, Nat.reduceLeDiff, eq_self, e3, e1, e2, e8, hlt, hWo, hW, len_pvL, idx_pvL fa ht, part_pv, pv_dn, pv_ow, pv_maxRef, hr, dn_pvL, ow_pvL]
      exact ⟨_, d, by omega, rfl, _, i + 1, by omega, rfl, rfl, rfl, rfl, rfl, hm⟩
    | false =>
      rw [hmay] at hm hr
      rw [Bool.false_and] at hm
      refine .inr ?_
      simp only [pcS_seq, pcS_region, pcS_block, pcS_cond, pcS_loop, pcS_exit, pcS_ret, pcS_skip, popsL_nil, popsL_cons, pop_plain, pop_guard, wantS_eq, wantD_some, wantV_t, wantV_f, wantV_tup, guardP_true, guardP_false, bindS_normal, bindS_exit, bindS_ret, blockS_normal, blockS_exit, blockS_ret, bindP_some, doneR_some, condS_true, condS_false, pickI_some, pickI_none, pickR_some, pickR_none, pickL_some, endS_normal, endS_ret, setS_some, resV_none, resV_one, dstOk, doesTake, inert_move, inert_assign, inert_pick, inert_build, inert_buildSlice, inert_load, inert_nilCheck, inert_binOp, inert_unOp, inert_convert, inert_slice, inert_fieldAddr, inert_field, inert_indexAddr, inert_index, inert_extract, inert_builtin, inert_call, inert_alloc, inert_box, inert_store, pickB_bv, loadI_ep, loadI_ptr, nilI_ptr, nilI_ep, unI_not, extrI_tup, pureC_ok, callI_fn, read_load, read_alloc, read_box, read_store, read_call, loadR_ptr, boxR_cells, loud_load, loud_store, loud_alloc, loud_box, loud_call, loadL_ptr, boxL_cells, storeL_ptr, boxS_cells, boxN_eq, callL_fn, put, drop, takes, restrict, ev, lk, params, annF, bodyF, aggF, sizeF, elemF, fieldF, partF, List.zipIdx, List.zipIdx_cons, List.zipIdx_nil, List.map, List.map_cons, List.map_nil, Option.getD_some, Nat.reduceLT, Nat.reduceAdd, Nat.reduceEqDiff, Nat.reduceMul, Int.reduceEq, decide_true, decide_false, Bool.false_eq_true, Bool.and_true, Bool.false_and, Bool.and_false, Bool.true_and, Bool.and_self, if_true, if_false, reduceIte, List.contains_nil, List.contains_cons, beq_self_eq_true, Nat.reduceBEq, Bool.or_false, Bool.false_or, Bool.or_true, Bool.true_or, Bool.not_true, Bool.not_false, ofVal_iv, ofVal_bv, dn_iv, ow_iv, dn_bv, ow_bv, dn_fn, dn_ptr, dn_ep, dn_agg, dn_tup, dn_nilsl, dn_own, dn_sh, dn_ex, ow_ptr, ow_ep, ow_agg, ow_tup, ow_nilsl, ow_own, ow_sh, ow_ex, maxRef_iv, maxRef_bv, maxRef_agg, maxRef_tup, maxRefs_nil, maxRefs_cons, Nat.max_self, Nat.zero_le, List.cons_append, List.nil_append, List.append_nil, pBuiltin, tys1, Option.bind_some, Option.map_some, resultOf, List.getElem?_cons_zero, List.getElem?_cons_succ, cells_agg, cells_iv, solid_iv, solid_agg, List.length_cons, List.length_nil, Nat.zero_add, List.take_zero, List.take_nil, add_iv, sub_iv, mul_iv, lss_iv, leq_iv, gtr_iv, geq_iv, eql_iv, neq_iv, arr2, List.set_cons_zero, List.set_cons_succ, List.take_succ_cons, List.drop_succ_cons, List.drop_zero, List.take_length, or_true, true_or, and_true, true_and, and_self, Nat.reduceLeDiff, eq_self, e3, e1, e2, e8, hlt, hWo, hW, len_pvL, idx_pvL fa ht, part_pv, pv_dn, pv_ow, pv_maxRef, hr, dn_pvL, ow_pvL]
      exact ⟨_, rfl, by simp, .inr ⟨rfl, hm.symm, _, rfl, rfl⟩⟩

theorem may_loopB (k : Nat) (kd n : Int) (fa fb : E) (A B : List T) (o lp : Nat) (env : Env) (hk : B.length < k) (hb : B.length < 2 ^ 61) (ho : o < 2 ^ 61)
    (e3 : lk env 3 = .ptr 0 0) (e1 : lk env 1 = iv (o : Nat)) (e2 : lk env 2 = iv (lp : Nat)) (e8 : lk env 10 = iv 0)
    (hrec : ∀ (i : Nat) (t : T), B[i]? = some t → pcall Try.prog ann noSums k 18 [t.pv, iv ((o + 1 : Nat) : Int), iv (lp : Nat)] [] = some (bv (t.may (o + 1) lp), [])) :
    ∃ r, ploopC ⟨Try.prog, ann, pcall Try.prog ann noSums k, 18, 150, 0⟩ k ((loopsOf (Try.f18.body.getD .skip)).getD 1 .skip) k ⟨env, [.cells [iv kd, iv n, pvL fa A, pvL fb B]]⟩ = some r ∧
      MayJ 3 (mays B (o + 1) lp) o lp [.cells [iv kd, iv n, pvL fa A, pvL fb B]] r := by
  have hWo := W_succ (n := o) ho
  simp only [Try.f18, Option.getD_some, loopsOf, List.nil_append, List.cons_append, List.append_nil, List.getD_cons_zero, List.getD_cons_succ]
  refine ploopC_at (fun d s => ∃ env i, i + d = B.length ∧ s = ⟨env, [.cells [iv kd, iv n, pvL fa A, pvL fb B]]⟩ ∧ lk env 3 = .ptr 0 0 ∧ lk env 1 = iv (o : Nat) ∧ lk env 2 = iv (lp : Nat) ∧ lk env 10 = iv (i : Nat) ∧ mays (B.drop i) (o + 1) lp = mays B (o + 1) lp) ?_
    B.length _ _ ⟨env, 0, by omega, rfl, e3, e1, e2, e8, rfl⟩ hk
  clear e3 e1 e2 e8 env
  rintro d s ⟨env, i, hd, rfl, e3, e1, e2, e8, hm⟩
  cases d with
  | zero =>
    have hi : ¬ (i : Int) < B.length := by omega
    rw [List.drop_eq_nil_of_le (by omega)] at hm
    simp only [mays] at hm
    refine .inr ?_
    simp only [pcS_seq, pcS_region, pcS_block, pcS_cond, pcS_loop, pcS_exit, pcS_ret, pcS_skip, popsL_nil, popsL_cons, pop_plain, pop_guard, wantS_eq, wantD_some, wantV_t, wantV_f, wantV_tup, guardP_true, guardP_false, bindS_normal, bindS_exit, bindS_ret, blockS_normal, blockS_exit, blockS_ret, bindP_some, doneR_some, condS_true, condS_false, pickI_some, pickI_none, pickR_some, pickR_none, pickL_some, endS_normal, endS_ret, setS_some, resV_none, resV_one, dstOk, doesTake, inert_move, inert_assign, inert_pick, inert_build, inert_buildSlice, inert_load, inert_nilCheck, inert_binOp, inert_unOp, inert_convert, inert_slice, inert_fieldAddr, inert_field, inert_indexAddr, inert_index, inert_extract, inert_builtin, inert_call, inert_alloc, inert_box, inert_store, pickB_bv, loadI_ep, loadI_ptr, nilI_ptr, nilI_ep, unI_not, extrI_tup, pureC_ok, callI_fn, read_load, read_alloc, read_box, read_store, read_call, loadR_ptr, boxR_cells, loud_load, loud_store, loud_alloc, loud_box, loud_call, loadL_ptr, boxL_cells, storeL_ptr, boxS_cells, boxN_eq, callL_fn, put, drop, takes, restrict, ev, lk, params, annF, bodyF, aggF, sizeF, elemF, fieldF, partF, List.zipIdx, List.zipIdx_cons, List.zipIdx_nil, List.map, List.map_cons, List.map_nil, Option.getD_some, Nat.reduceLT, Nat.reduceAdd, Nat.reduceEqDiff, Nat.reduceMul, Int.reduceEq, decide_true, decide_false, Bool.false_eq_true, Bool.and_true, Bool.false_and, Bool.and_false, Bool.true_and, Bool.and_self, if_true, if_false, reduceIte, List.contains_nil, List.contains_cons, beq_self_eq_true, Nat.reduceBEq, Bool.or_false, Bool.false_or, Bool.or_true, Bool.true_or, Bool.not_true, Bool.not_false, ofVal_iv, ofVal_bv, dn_iv, ow_iv, dn_bv, ow_bv, dn_fn, dn_ptr, dn_ep, dn_agg, dn_tup, dn_nilsl, dn_own, dn_sh, dn_ex, ow_ptr, ow_ep, ow_agg, ow_tup, ow_nilsl, ow_own, ow_sh, ow_ex, maxRef_iv, maxRef_bv, maxRef_agg, maxRef_tup, maxRefs_nil, maxRefs_cons, Nat.max_self, Nat.zero_le, List.cons_append, List.nil_append, List.append_nil, pBuiltin, tys1, Option.bind_some, Option.map_some, resultOf, List.getElem?_cons_zero, List.getElem?_cons_succ, cells_agg, cells_iv, solid_iv, solid_agg, List.length_cons, List.length_nil, Nat.zero_add, List.take_zero, List.take_nil, add_iv, sub_iv, mul_iv, lss_iv, leq_iv, gtr_iv, geq_iv, eql_iv, neq_iv, arr2, List.set_cons_zero, List.set_cons_succ, List.take_succ_cons, List.drop_succ_cons, List.drop_zero, List.take_length, or_true, true_or, and_true, true_and, and_self, Nat.reduceLeDiff, eq_self, e3, e1, e2, e8, len_pvL, dn_pvL, hi]
    exact ⟨_, rfl, by simp, .inl ⟨rfl, hm.symm, _, rfl, rfl, rfl, rfl⟩⟩
  | succ d =>
    have hi : i < B.length := by omega
    have ht : B[i]? = some B[i] := List.getElem?_eq_getElem hi
    have hlt : (i : Int) < B.length := by omega
    have hW := W_succ (n := i) (by omega)
    rw [List.drop_eq_getElem_cons hi] at hm
    simp only [mays] at hm
    have hr := hrec i _ ht
    cases hmay : B[i].may (o + 1) lp with
    | true =>
      rw [hmay] at hm hr
      rw [Bool.true_and] at hm
      refine .inl ?_
      simp only [pcS_seq, pcS_region, pcS_block, pcS_cond, pcS_loop, pcS_exit, pcS_ret, pcS_skip, popsL_nil, popsL_cons, pop_plain, pop_guard, wantS_eq, wantD_some, wantV_t, wantV_f, wantV_tup, guardP_true, guardP_false, bindS_normal, bindS_exit, bindS_ret, blockS_normal, blockS_exit, blockS_ret, bindP_some, doneR_some, condS_true, condS_false, pickI_some, pickI_none, pickR_some, pickR_none, pickL_some, endS_normal, endS_ret, setS_some, resV_none, resV_one, dstOk, doesTake, inert_move, inert_assign, inert_pick, inert_build, inert_buildSlice, inert_load, inert_nilCheck, inert_binOp, inert_unOp, inert_convert, inert_slice, inert_fieldAddr, inert_field, inert_indexAddr, inert_index, inert_extract, inert_builtin, inert_call, inert_alloc, inert_box, inert_store, pickB_bv, loadI_ep, loadI_ptr, nilI_ptr, nilI_ep, unI_not, extrI_tup, pureC_ok, callI_fn, read_load, read_alloc, read_box, read_store, read_call, loadR_ptr, boxR_cells, loud_load, loud_store, loud_alloc, loud_box, loud_call, loadL_ptr, boxL_cells, storeL_ptr, boxS_cells, boxN_eq, callL_fn, put, drop, takes, restrict, ev, lk, params, annF, bodyF, aggF, sizeF, elemF, fieldF, partF, List.zipIdx, List.zipIdx_cons, List.zipIdx_nil, List.map, List.map_cons, List.map_nil, Option.getD_some, Nat.reduceLT, Nat.reduceAdd, Nat.reduceEqDiff, Nat.reduceMul, Int.reduceEq, decide_true, decide_false, Bool.false_eq_true, Bool.and_true, Bool.false_and, Bool.and_false, Bool.true_and, Bool.and_self, if_true, if_false, reduceIte, List.contains_nil, List.contains_cons, beq_self_eq_true, Nat.reduceBEq, Bool.or_false, Bool.false_or, Bool.or_true, Bool.true_or, Bool.not_true, Bool.not_false, ofVal_iv, ofVal_bv, dn_iv, ow_iv, dn_bv, ow_bv, dn_fn, dn_ptr, dn_ep, dn_agg, dn_tup, dn_nilsl, dn_own, dn_sh, dn_ex, ow_ptr, ow_ep, ow_agg, ow_tup, ow_nilsl, ow_own, ow_sh, ow_ex, maxRef_iv, maxRef_bv, maxRef_agg, maxRef_tup, maxRefs_nil, maxRefs_cons, Nat.max_self, Nat.zero_le, List.cons_append, List.nil_append, List.append_nil, pBuiltin, tys1, Option.bind_some, Option.map_some, resultOf, List.getElem?_cons_zero, List.getElem?_cons_succ, cells_agg, cells_iv, solid_iv, solid_agg, List.length_cons, List.length_nil, Nat.zero_add, List.take_zero, List.take_nil, add_iv, sub_iv, mul_iv, lss_iv, leq_iv, gtr_iv, geq_iv, eql_iv, neq_iv, arr2, List.set_cons_zero, List.set_cons_succ, List.take_succ_cons, List.drop_succ_cons, List.drop_zero, List.take_length, or_true, true_or, and_true, true_and, and_self, Nat.reduceLeDiff, eq_self, e3, e1, e2, e8, hlt, hWo, hW, len_pvL, idx_pvL fb ht, part_pv, pv_dn, pv_ow, pv_maxRef, hr, dn_pvL, ow_pvL]
      exact ⟨_, d, by omega, rfl, _, i + 1, by omega, rfl, rfl, rfl, rfl, rfl, hm⟩
    | false =>
      rw [hmay] at hm hr
      rw [Bool.false_and] at hm
      refine .inr ?_
      simp only [pcS_seq, pcS_region, pcS_block, pcS_cond, pcS_loop, pcS_exit, pcS_ret, pcS_skip, popsL_nil, popsL_cons, pop_plain, pop_guard, wantS_eq, wantD_some, wantV_t, wantV_f, wantV_tup, guardP_true, guardP_false, bindS_normal, bindS_exit, bindS_ret, blockS_normal, blockS_exit, blockS_ret, bindP_some, doneR_some, condS_true, condS_false, pickI_some, pickI_none, pickR_some, pickR_none, pickL_some, endS_normal, endS_ret, setS_some, resV_none, resV_one, dstOk, doesTake, inert_move, inert_assign, inert_pick, inert_build, inert_buildSlice, inert_load, inert_nilCheck, inert_binOp, inert_unOp, inert_convert, inert_slice, inert_fieldAddr, inert_field, inert_indexAddr, inert_index, inert_extract, inert_builtin, inert_call, inert_alloc, inert_box, inert_store, pickB_bv, loadI_ep, loadI_ptr, nilI_ptr, nilI_ep, unI_not, extrI_tup, pureC_ok, callI_fn, read_load, read_alloc, read_box, read_store, read_call, loadR_ptr, boxR_cells, loud_load, loud_store, loud_alloc, loud_box, loud_call, loadL_ptr, boxL_cells, storeL_ptr, boxS_cells, boxN_eq, callL_fn, put, drop, takes, restrict, ev, lk, params, annF, bodyF, aggF, sizeF, elemF, fieldF, partF, List.zipIdx, List.zipIdx_cons, List.zipIdx_nil, List.map, List.map_cons, List.map_nil, Option.getD_some, Nat.reduceLT, Nat.reduceAdd, Nat.reduceEqDiff, Nat.reduceMul, Int.reduceEq, decide_true, decide_false, Bool.false_eq_true, Bool.and_true, Bool.false_and, Bool.and_false, Bool.true_and, Bool.and_self, if_true, if_false, reduceIte, List.contains_nil, List.contains_cons, beq_self_eq_true, Nat.reduceBEq, Bool.or_false, Bool.false_or, Bool.or_true, Bool.true_or, Bool.not_true, Bool.not_false, ofVal_iv, ofVal_bv, dn_iv, ow_iv, dn_bv, ow_bv, dn_fn, dn_ptr, dn_ep, dn_agg, dn_tup, dn_nilsl, dn_own, dn_sh, dn_ex, ow_ptr, ow_ep, ow_agg, ow_tup, ow_nilsl, ow_own, ow_sh, ow_ex, maxRef_iv, maxRef_bv, maxRef_agg, maxRef_tup, maxRefs_nil, maxRefs_cons, Nat.max_self, Nat.zero_le, List.cons_append, List.nil_append, List.append_nil, pBuiltin, tys1, Option.bind_some, Option.map_some, resultOf, List.getElem?_cons_zero, List.getElem?_cons_succ, cells_agg, cells_iv, solid_iv, solid_agg, List.length_cons, List.length_nil, Nat.zero_add, List.take_zero, List.take_nil, add_iv, sub_iv, mul_iv, lss_iv, leq_iv, gtr_iv, geq_iv, eql_iv, neq_iv, arr2, List.set_cons_zero, List.set_cons_succ, List.take_succ_cons, List.drop_succ_cons, List.drop_zero, List.take_length, or_true, true_or, and_true, true_and, and_self, Nat.reduceLeDiff, eq_self, e3, e1, e2, e8, hlt, hWo, hW, len_pvL, idx_pvL fb ht, part_pv, pv_dn, pv_ow, pv_maxRef, hr, dn_pvL, ow_pvL]
      exact ⟨_, rfl, by simp, .inr ⟨rfl, hm.symm, _, rfl, rfl⟩⟩

end Go.Proofs.Ytfmelnhlljgooaa.PE
