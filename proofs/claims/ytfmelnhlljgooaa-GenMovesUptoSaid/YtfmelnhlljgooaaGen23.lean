/-
  The law GenParts: the code of two rows, one behind the other, plainly; the walk.
-/
import Derived.Test.YtfmelnhlljgooaaGen20
set_option linter.unusedSimpArgs false
set_option linter.unusedVariables false
namespace Go.Proofs.Ytfmelnhlljgooaa.PE
open Go

def C.sh (s : Nat) : C → C
  | .p j => .p (j + s)
  | c => c

theorem ev_sh (at0 self : Int) (s : Nat) (c : C) : (c.sh s).ev at0 self = c.ev (at0 + 8 * (s : Int)) self := by
  cases c with
  | p j => simp only [C.sh, C.ev]; exact W_congr (by push_cast; omega)
  | _ => rfl

theorem ccs_sh' (s : Nat) (l : List T) (h : ∀ t, t ∈ l → ∀ q f, t.cc (q + s) (C.sh s f) = (t.cc q f).map (C.sh s)) : ∀ q f, ccs l (q + s) (C.sh s f) = (ccs l q f).map (C.sh s) := by
  induction l with
  | nil => intro q f; simp [ccs]
  | cons t r ih =>
    intro q f
    simp only [ccs, List.map_append, h t (by simp)]
    rw [← ih (fun x hx => h x (by simp [hx])), show q + s + t.sz = q + t.sz + s by omega]

theorem cc_sh (s : Nat) : ∀ t : T, ∀ q f, t.cc (q + s) (C.sh s f) = (t.cc q f).map (C.sh s) := by
  refine T.ind ?_
  intro k n fa A fb B hA hB q f
  have lA := ccs_sh' s A hA
  have lB := ccs_sh' s B hB
  have e1 : ∀ a : Nat, q + s + a = q + a + s := fun a => by omega
  have e2 : ∀ a b : Nat, q + a + s + b = q + a + b + s := fun a b => by omega
  have lAp : ∀ q j, ccs A (q + s) (C.p (j + s)) = (ccs A q (C.p j)).map (C.sh s) := fun q j => lA q (C.p j)
  have shk : ∀ v, C.sh s (C.k v) = C.k v := fun _ => rfl
  have shp : ∀ j, C.sh s (C.p j) = C.p (j + s) := fun _ => rfl
  have shs : C.sh s C.self = C.self := rfl
  simp only [T.cc]
  by_cases h1 : k = 1
  · simp only [if_pos h1, List.map_cons, List.map_nil, shk, shp, shs]
  simp only [if_neg h1]
  by_cases h2 : k = 2
  · simp only [if_pos h2, List.map_cons, List.map_nil, shk, shp, shs]
  simp only [if_neg h2]
  by_cases h11 : k = 11
  · simp only [if_pos h11, List.map_cons, List.map_nil, shk, shp, shs]
  simp only [if_neg h11]
  by_cases h10 : k = 10
  · simp only [if_pos h10, List.map_cons, List.map_nil, shk, shp, shs]
  simp only [if_neg h10]
  by_cases h9 : k = 9
  · simp only [if_pos h9, List.map_cons, List.map_nil, shk, shp, shs]
  simp only [if_neg h9]
  by_cases h3 : k = 3
  · by_cases hn : n = 0
    · simp only [if_pos h3, if_pos hn, e1, e2, lA, lB, lAp, List.map_append, List.map_cons, List.map_nil, shk, shp, shs]
    · simp only [if_pos h3, if_neg hn, e1, e2, lA, lB, lAp, List.map_append, List.map_cons, List.map_nil, shk, shp, shs]
  simp only [if_neg h3]
  by_cases h7 : k = 7 ∨ k = 8
  · by_cases hn : n = 1
    · simp only [if_pos h7, if_pos hn, e1, e2, lA, lB, lAp, List.map_append, List.map_cons, List.map_nil, shk, shp, shs]
    · simp only [if_pos h7, if_neg hn, e1, e2, lA, lB, lAp, List.map_append, List.map_cons, List.map_nil, shk, shp, shs]
  simp only [if_neg h7]
  by_cases h4 : k = 4
  · simp only [if_pos h4, e1, e2, lA, lB, lAp, List.map_append, List.map_cons, List.map_nil, shk, shp, shs]
  simp only [if_neg h4]
  by_cases h6 : k = 6
  · simp only [if_pos h6, e1, e2, lA, lB, lAp, List.map_append, List.map_cons, List.map_nil, shk, shp, shs]
  simp only [if_neg h6, e1, e2, lA, lB, lAp, List.map_append, List.map_cons, List.map_nil, shk, shp, shs]

theorem ccs_sh (s : Nat) (l : List T) (q : Nat) (f : C) : ccs l (q + s) (C.sh s f) = (ccs l q f).map (C.sh s) := ccs_sh' s l (fun t _ => cc_sh s t) q f

theorem ccs_append (A B : List T) (f : C) : ∀ q, ccs (A ++ B) q f = ccs A q f ++ ccs B (q + szn A) f := by
  induction A with
  | nil => intro q; simp [ccs, szn]
  | cons t r ih => intro q; simp only [List.cons_append, ccs, szn, ih, List.append_assoc, Nat.add_assoc]

theorem szn_append (A B : List T) : szn (A ++ B) = szn A + szn B := by
  induction A with
  | nil => simp [szn]
  | cons t r ih => simp only [List.cons_append, szn, ih, Nat.add_assoc]
theorem wts_append (A B : List T) : wts (A ++ B) + 2 = wts A + wts B := by
  induction A with
  | nil => simp [wts, Nat.add_comm]
  | cons t r ih => simp only [List.cons_append, wts]; omega
theorem goods_append {A B : List T} {lp : Bool} (hA : goods A lp) (hB : goods B lp) : goods (A ++ B) lp := by
  induction A with
  | nil => exact hB
  | cons t r ih => simp only [goods] at hA; simp only [List.cons_append, goods]; exact ⟨hA.1, ih hA.2⟩

/-- The code of two rows. -/
theorem code_append (at0 self : Int) {A B : List T} {lp : Bool} (hA : goods A lp) : code at0 self (A ++ B) = (code at0 self A).take (szn A) ++ code (W (at0 + W (8 * (szn A : Int)))) self B := by
  have hB : (ccs B (0 + szn A) (.k 0)).map (C.ev at0 self) = (ccs B 0 (.k 0)).map (C.ev (W (at0 + W (8 * (szn A : Int)))) self) := by
    have : C.k 0 = C.sh (szn A) (C.k 0) := rfl
    rw [this, ccs_sh, List.map_map]
    refine List.map_congr_left fun c _ => ?_
    simp only [Function.comp, ev_sh]
    cases c with
    | p j =>
      simp only [C.ev, W_add, W_add']
      first | done | exact W_congr (by omega)
    | _ => rfl
  unfold code
  rw [ccs_append, List.map_append, hB, List.append_assoc]
  congr 1
  rw [List.take_append_of_le_length (by simp [ccs_len hA])]
  rw [List.take_of_length_le (by simp [ccs_len hA])]

theorem dn_s (v : Value) : (PV.s v).dn = .s v := rfl
theorem ow_s (v : Value) : (PV.s v).isOw = false := rfl
theorem conv16 (n : Int) : pConvert Try.prog 30 3 (.s (.int .u16 n)) = some (iv (W n)) := by kernel_rfl
theorem mk0 : pBuildSlice Try.prog 27 0 [] = some (.sl .ex 1 []) := by kernel_rfl
theorem mkT0 : pBuildSlice Try.prog 22 0 [] = some (.sl .ex 4 []) := by kernel_rfl

theorem room22 {n : Nat} (h : n < 2 ^ 40) : roomOk Try.prog 39 n = true := by
  have h0 : (Try.prog.info? 39).map (·.bytes) = some 64 := by kernel_rfl
  obtain ⟨i, h1, h2⟩ := Option.map_eq_some_iff.1 h0
  unfold roomOk
  rw [h1]
  simp only [h2, maxLen, decide_eq_true_eq]
  omega
theorem zero22 : zeroOk Try.prog 39 4 = true := by kernel_rfl

theorem news22 (f : E) (l : List T) : newsOf Try.prog 22 22 39 4 (pvL f l) = some (l.map T.pv) := by
  cases l with
  | nil => cases f <;> simp [pvL, noneV, newsOf]
  | cons t r => rw [pvL_cons]; simp [newsOf]

def bothV (l : List T) : PV := if l = [] then .sl .ex 4 [] else .sl .ow 4 (l.map T.pv)
theorem bothV_dn (l : List T) : (bothV l).dn = pvL .exa l := by
  cases l with
  | nil => simp [bothV, pvL, noneV, PV.dn]
  | cons t r => rw [pvL_cons]; simp [bothV, PV.dn]
theorem app22 (l m : List T) (f : E) (hb : l.length + m.length < 2 ^ 40) : pAppend Try.prog 22 22 (bothV l) (pvL f m) = some (bothV (l ++ m)) := by
  unfold pAppend
  simp only [elemF, sizeF, news22]
  cases m with
  | nil =>
    cases l with
    | nil => simp [bothV]
    | cons t r => simp [bothV]
  | cons y s =>
    have hr := room22 (n := l.length + (s.length + 1)) (by simpa using hb)
    cases l with
    | nil => simp at hr; simp [bothV, hr, zero22]
    | cons t r => simp at hr; simp [bothV, hr, zero22]
theorem bothV_nil : PV.sl .ex 4 [] = bothV [] := by simp [bothV]

theorem slice_to (c : List Int) (n : Nat) (h : n ≤ c.length) : pSlice Try.prog 27 (.sl .sh 1 (c.map iv)) none (some (iv n)) none = some (.sl .sh 1 ((c.take n).map iv)) := by
  unfold pSlice
  simp only [elemF, sizeF, if_true, bounds, bMax, bHigh, bLow, asI_iv, Option.bind_some, List.length_map, Option.getD_none]
  have h1 : (0 : Int) ≤ n ∧ (n : Int) ≤ c.length := by omega
  simp [h1, List.map_take]

set_option maxHeartbeats 8000000 in
theorem parts_ok (fa fb : E) (A B : List T) (n self : Int) (hn : 0 ≤ n ∧ n < 65536) (hb : wts A + wts B < 2 ^ 39) :
    pcall Try.prog ann noSums (wts A + wts B + 401) 5 [.agg [pvL fa A, pvL fb B, .s (.int .u16 n), iv self]] [] = some (bv true, []) := by
  have zA := szn_wts A
  have zB := szn_wts B
  have lA := wts_len A
  have lB := wts_len B
  have h1 := shown_ok (wts A + wts B + 400) (by omega)
  have h2 := few_tree fa A (by omega) (wts A + wts B + 400) (by omega)
  have h3 := few_tree fb B (by omega) (wts A + wts B + 400) (by omega)
  have h4 := mayAll_tree fa A (by omega) (wts A + wts B + 400) (by omega)
  have h5 := mayAll_tree fb B (by omega) (wts A + wts B + 400) (by omega)
  refine go5 rfl ?_
  cases hfA : few A with
  | false =>
    rw [hfA] at h2
    simp only [pcS_seq, pcS_region, pcS_block, pcS_cond, pcS_loop, pcS_exit, pcS_ret, pcS_skip, popsL_nil, popsL_cons, pop_plain, pop_guard, wantS_eq, wantD_some, wantV_t, wantV_f, wantV_tup, guardP_true, guardP_false, bindS_normal, bindS_exit, bindS_ret, blockS_normal, blockS_exit, blockS_ret, bindP_some, doneR_some, condS_true, condS_false, pickI_some, pickI_none, pickR_some, pickR_none, pickL_some, endS_normal, endS_ret, setS_some, resV_none, resV_one, dstOk, doesTake, inert_move, inert_assign, inert_pick, inert_build, inert_buildSlice, inert_load, inert_nilCheck, inert_binOp, inert_unOp, inert_convert, inert_slice, inert_fieldAddr, inert_field, inert_indexAddr, inert_index, inert_extract, inert_builtin, inert_call, inert_alloc, inert_box, inert_store, pickB_bv, loadI_ep, loadI_ptr, nilI_ptr, nilI_ep, unI_not, extrI_tup, pureC_ok, callI_fn, read_load, read_alloc, read_box, read_store, read_call, loadR_ptr, boxR_cells, loud_load, loud_store, loud_alloc, loud_box, loud_call, loadL_ptr, boxL_cells, storeL_ptr, boxS_cells, boxN_eq, callL_fn, put, drop, takes, restrict, ev, lk, params, annF, bodyF, aggF, sizeF, elemF, fieldF, partF, List.zipIdx, List.zipIdx_cons, List.zipIdx_nil, List.map, List.map_cons, List.map_nil, Option.getD_some, Nat.reduceLT, Nat.reduceAdd, Nat.reduceEqDiff, Nat.reduceMul, Int.reduceEq, decide_true, decide_false, Bool.false_eq_true, Bool.and_true, Bool.false_and, Bool.and_false, Bool.true_and, Bool.and_self, if_true, if_false, reduceIte, List.contains_nil, List.contains_cons, beq_self_eq_true, Nat.reduceBEq, Bool.or_false, Bool.false_or, Bool.or_true, Bool.true_or, Bool.not_true, Bool.not_false, ofVal_iv, ofVal_bv, dn_iv, ow_iv, dn_bv, ow_bv, dn_fn, dn_ptr, dn_ep, dn_agg, dn_tup, dn_nilsl, dn_own, dn_sh, dn_ex, ow_ptr, ow_ep, ow_agg, ow_tup, ow_nilsl, ow_own, ow_sh, ow_ex, maxRef_iv, maxRef_bv, maxRef_agg, maxRef_tup, maxRefs_nil, maxRefs_cons, Nat.max_self, Nat.zero_le, List.cons_append, List.nil_append, List.append_nil, pBuiltin, tys1, Option.bind_some, Option.map_some, resultOf, List.getElem?_cons_zero, List.getElem?_cons_succ, cells_agg, cells_iv, solid_iv, solid_agg, List.length_cons, List.length_nil, Nat.zero_add, List.take_zero, List.take_nil, add_iv, sub_iv, mul_iv, lss_iv, leq_iv, gtr_iv, geq_iv, eql_iv, neq_iv, arr2, List.set_cons_zero, List.set_cons_succ, List.take_succ_cons, List.drop_succ_cons, List.drop_zero, List.take_length, or_true, true_or, and_true, true_and, and_self, Nat.reduceLeDiff, eq_self, Try.f5, h1, h2, dn_pvL, ow_pvL, maxRef_pvL, dn_s, ow_s]
  | true =>
  rw [hfA] at h2
  cases hfB : few B with
  | false =>
    rw [hfB] at h3
    simp only [pcS_seq, pcS_region, pcS_block, pcS_cond, pcS_loop, pcS_exit, pcS_ret, pcS_skip, popsL_nil, popsL_cons, pop_plain, pop_guard, wantS_eq, wantD_some, wantV_t, wantV_f, wantV_tup, guardP_true, guardP_false, bindS_normal, bindS_exit, bindS_ret, blockS_normal, blockS_exit, blockS_ret, bindP_some, doneR_some, condS_true, condS_false, pickI_some, pickI_none, pickR_some, pickR_none, pickL_some, endS_normal, endS_ret, setS_some, resV_none, resV_one, dstOk, doesTake, inert_move, inert_assign, inert_pick, inert_build, inert_buildSlice, inert_load, inert_nilCheck, inert_binOp, inert_unOp, inert_convert, inert_slice, inert_fieldAddr, inert_field, inert_indexAddr, inert_index, inert_extract, inert_builtin, inert_call, inert_alloc, inert_box, inert_store, pickB_bv, loadI_ep, loadI_ptr, nilI_ptr, nilI_ep, unI_not, extrI_tup, pureC_ok, callI_fn, read_load, read_alloc, read_box, read_store, read_call, loadR_ptr, boxR_cells, loud_load, loud_store, loud_alloc, loud_box, loud_call, loadL_ptr, boxL_cells, storeL_ptr, boxS_cells, boxN_eq, callL_fn, put, drop, takes, restrict, ev, lk, params, annF, bodyF, aggF, sizeF, elemF, fieldF, partF, List.zipIdx, List.zipIdx_cons, List.zipIdx_nil, List.map, List.map_cons, List.map_nil, Option.getD_some, Nat.reduceLT, Nat.reduceAdd, Nat.reduceEqDiff, Nat.reduceMul, Int.reduceEq, decide_true, decide_false, Bool.false_eq_true, Bool.and_true, Bool.false_and, Bool.and_false, Bool.true_and, Bool.and_self, if_true, if_false, reduceIte, List.contains_nil, List.contains_cons, beq_self_eq_true, Nat.reduceBEq, Bool.or_false, Bool.false_or, Bool.or_true, Bool.true_or, Bool.not_true, Bool.not_false, ofVal_iv, ofVal_bv, dn_iv, ow_iv, dn_bv, ow_bv, dn_fn, dn_ptr, dn_ep, dn_agg, dn_tup, dn_nilsl, dn_own, dn_sh, dn_ex, ow_ptr, ow_ep, ow_agg, ow_tup, ow_nilsl, ow_own, ow_sh, ow_ex, maxRef_iv, maxRef_bv, maxRef_agg, maxRef_tup, maxRefs_nil, maxRefs_cons, Nat.max_self, Nat.zero_le, List.cons_append, List.nil_append, List.append_nil, pBuiltin, tys1, Option.bind_some, Option.map_some, resultOf, List.getElem?_cons_zero, List.getElem?_cons_succ, cells_agg, cells_iv, solid_iv, solid_agg, List.length_cons, List.length_nil, Nat.zero_add, List.take_zero, List.take_nil, add_iv, sub_iv, mul_iv, lss_iv, leq_iv, gtr_iv, geq_iv, eql_iv, neq_iv, arr2, List.set_cons_zero, List.set_cons_succ, List.take_succ_cons, List.drop_succ_cons, List.drop_zero, List.take_length, or_true, true_or, and_true, true_and, and_self, Nat.reduceLeDiff, eq_self, Try.f5, h1, h2, h3, dn_pvL, ow_pvL, maxRef_pvL, dn_s, ow_s]
  | true =>
  rw [hfB] at h3
  cases hmA : mays A 0 0 with
  | false =>
    rw [hmA] at h4
    simp only [pcS_seq, pcS_region, pcS_block, pcS_cond, pcS_loop, pcS_exit, pcS_ret, pcS_skip, popsL_nil, popsL_cons, pop_plain, pop_guard, wantS_eq, wantD_some, wantV_t, wantV_f, wantV_tup, guardP_true, guardP_false, bindS_normal, bindS_exit, bindS_ret, blockS_normal, blockS_exit, blockS_ret, bindP_some, doneR_some, condS_true, condS_false, pickI_some, pickI_none, pickR_some, pickR_none, pickL_some, endS_normal, endS_ret, setS_some, resV_none, resV_one, dstOk, doesTake, inert_move, inert_assign, inert_pick, inert_build, inert_buildSlice, inert_load, inert_nilCheck, inert_binOp, inert_unOp, inert_convert, inert_slice, inert_fieldAddr, inert_field, inert_indexAddr, inert_index, inert_extract, inert_builtin, inert_call, inert_alloc, inert_box, inert_store, pickB_bv, loadI_ep, loadI_ptr, nilI_ptr, nilI_ep, unI_not, extrI_tup, pureC_ok, callI_fn, read_load, read_alloc, read_box, read_store, read_call, loadR_ptr, boxR_cells, loud_load, loud_store, loud_alloc, loud_box, loud_call, loadL_ptr, boxL_cells, storeL_ptr, boxS_cells, boxN_eq, callL_fn, put, drop, takes, restrict, ev, lk, params, annF, bodyF, aggF, sizeF, elemF, fieldF, partF, List.zipIdx, List.zipIdx_cons, List.zipIdx_nil, List.map, List.map_cons, List.map_nil, Option.getD_some, Nat.reduceLT, Nat.reduceAdd, Nat.reduceEqDiff, Nat.reduceMul, Int.reduceEq, decide_true, decide_false, Bool.false_eq_true, Bool.and_true, Bool.false_and, Bool.and_false, Bool.true_and, Bool.and_self, if_true, if_false, reduceIte, List.contains_nil, List.contains_cons, beq_self_eq_true, Nat.reduceBEq, Bool.or_false, Bool.false_or, Bool.or_true, Bool.true_or, Bool.not_true, Bool.not_false, ofVal_iv, ofVal_bv, dn_iv, ow_iv, dn_bv, ow_bv, dn_fn, dn_ptr, dn_ep, dn_agg, dn_tup, dn_nilsl, dn_own, dn_sh, dn_ex, ow_ptr, ow_ep, ow_agg, ow_tup, ow_nilsl, ow_own, ow_sh, ow_ex, maxRef_iv, maxRef_bv, maxRef_agg, maxRef_tup, maxRefs_nil, maxRefs_cons, Nat.max_self, Nat.zero_le, List.cons_append, List.nil_append, List.append_nil, pBuiltin, tys1, Option.bind_some, Option.map_some, resultOf, List.getElem?_cons_zero, List.getElem?_cons_succ, cells_agg, cells_iv, solid_iv, solid_agg, List.length_cons, List.length_nil, Nat.zero_add, List.take_zero, List.take_nil, add_iv, sub_iv, mul_iv, lss_iv, leq_iv, gtr_iv, geq_iv, eql_iv, neq_iv, arr2, List.set_cons_zero, List.set_cons_succ, List.take_succ_cons, List.drop_succ_cons, List.drop_zero, List.take_length, or_true, true_or, and_true, true_and, and_self, Nat.reduceLeDiff, eq_self, Try.f5, h1, h2, h3, h4, dn_pvL, ow_pvL, maxRef_pvL, dn_s, ow_s]
  | true =>
  rw [hmA] at h4
  cases hmB : mays B 0 0 with
  | false =>
    rw [hmB] at h5
    simp only [pcS_seq, pcS_region, pcS_block, pcS_cond, pcS_loop, pcS_exit, pcS_ret, pcS_skip, popsL_nil, popsL_cons, pop_plain, pop_guard, wantS_eq, wantD_some, wantV_t, wantV_f, wantV_tup, guardP_true, guardP_false, bindS_normal, bindS_exit, bindS_ret, blockS_normal, blockS_exit, blockS_ret, bindP_some, doneR_some, condS_true, condS_false, pickI_some, pickI_none, pickR_some, pickR_none, pickL_some, endS_normal, endS_ret, setS_some, resV_none, resV_one, dstOk, doesTake, inert_move, inert_assign, inert_pick, inert_build, inert_buildSlice, inert_load, inert_nilCheck, inert_binOp, inert_unOp, inert_convert, inert_slice, inert_fieldAddr, inert_field, inert_indexAddr, inert_index, inert_extract, inert_builtin, inert_call, inert_alloc, inert_box, inert_store, pickB_bv, loadI_ep, loadI_ptr, nilI_ptr, nilI_ep, unI_not, extrI_tup, pureC_ok, callI_fn, read_load, read_alloc, read_box, read_store, read_call, loadR_ptr, boxR_cells, loud_load, loud_store, loud_alloc, loud_box, loud_call, loadL_ptr, boxL_cells, storeL_ptr, boxS_cells, boxN_eq, callL_fn, put, drop, takes, restrict, ev, lk, params, annF, bodyF, aggF, sizeF, elemF, fieldF, partF, List.zipIdx, List.zipIdx_cons, List.zipIdx_nil, List.map, List.map_cons, List.map_nil, Option.getD_some, Nat.reduceLT, Nat.reduceAdd, Nat.reduceEqDiff, Nat.reduceMul, Int.reduceEq, decide_true, decide_false, Bool.false_eq_true, Bool.and_true, Bool.false_and, Bool.and_false, Bool.true_and, Bool.and_self, if_true, if_false, reduceIte, List.contains_nil, List.contains_cons, beq_self_eq_true, Nat.reduceBEq, Bool.or_false, Bool.false_or, Bool.or_true, Bool.true_or, Bool.not_true, Bool.not_false, ofVal_iv, ofVal_bv, dn_iv, ow_iv, dn_bv, ow_bv, dn_fn, dn_ptr, dn_ep, dn_agg, dn_tup, dn_nilsl, dn_own, dn_sh, dn_ex, ow_ptr, ow_ep, ow_agg, ow_tup, ow_nilsl, ow_own, ow_sh, ow_ex, maxRef_iv, maxRef_bv, maxRef_agg, maxRef_tup, maxRefs_nil, maxRefs_cons, Nat.max_self, Nat.zero_le, List.cons_append, List.nil_append, List.append_nil, pBuiltin, tys1, Option.bind_some, Option.map_some, resultOf, List.getElem?_cons_zero, List.getElem?_cons_succ, cells_agg, cells_iv, solid_iv, solid_agg, List.length_cons, List.length_nil, Nat.zero_add, List.take_zero, List.take_nil, add_iv, sub_iv, mul_iv, lss_iv, leq_iv, gtr_iv, geq_iv, eql_iv, neq_iv, arr2, List.set_cons_zero, List.set_cons_succ, List.take_succ_cons, List.drop_succ_cons, List.drop_zero, List.take_length, or_true, true_or, and_true, true_and, and_self, Nat.reduceLeDiff, eq_self, Try.f5, h1, h2, h3, h4, h5, dn_pvL, ow_pvL, maxRef_pvL, dn_s, ow_s]
  | true =>
  rw [hmB] at h5
  have gA := mays_good hmA
  have gB := mays_good hmB
  have gAB := goods_append gA gB
  have wAB := wts_append A B
  have zAB := szn_append A B
  have a1 : pAppend Try.prog 22 22 (.sl .ex 4 []) (pvL fa A) = some (bothV A) := by
    have := app22 [] A fa (by simp; omega)
    rwa [← bothV_nil] at this
  have a2 := app22 A B fb (by omega)
  have c1 := code_tree fa A _ (W (8 * W n)) self gA (by omega) (by omega) (wts A + wts B + 400) (by omega)
  have c2 := fun at0 => code_tree fb B _ at0 self gB (by omega) (by omega) (wts A + wts B + 400) (by omega)
  have c3 := code_tree .exa (A ++ B) _ (W (8 * W n)) self gAB (by omega) (by omega) (wts A + wts B + 400) (by omega)
  have s1 := size_tree fa A (by omega) (wts A + wts B + 400) (by omega)
  have s2 := size_tree fb B (by omega) (wts A + wts B + 400) (by omega)
  have s3 := size_tree .exa (A ++ B) (by omega) (wts A + wts B + 400) (by omega)
  rw [szs_eq gA, W_small (by omega) (by omega)] at s1
  rw [szs_eq gB, W_small (by omega) (by omega)] at s2
  rw [szs_eq gAB, zAB, W_small (by omega) (by omega)] at s3
  have e1 := code_len gA (W (8 * W n)) self
  have e2 := fun at0 => code_len gB at0 self
  have e3 := code_append (W (8 * W n)) self (B := B) gA
  have e3l := code_len gAB (W (8 * W n)) self
  generalize hX : code (W (8 * W n)) self A = X at c1 e1 e3
  generalize hZ : code (W (8 * W n)) self (A ++ B) = Z at c3 e3 e3l
  have hXl : (X.length : Int) = (szn A : Int) + 1 := by omega
  have hXm : W ((X.length : Int) - 1) = (szn A : Int) := by rw [W_small (by omega) (by omega)]; omega
  have hXlt : ¬ (X.length : Int) < 1 := by omega
  have hY := c2 (W (W (8 * W n) + W (8 * (szn A : Int))))
  generalize hYc : code (W (W (8 * W n) + W (8 * (szn A : Int)))) self B = Y at hY e3
  have e2' : Y.length = szn B + 1 := by rw [← hYc]; exact e2 _
  have hXo : outV X = .sl .ow 1 (X.map iv) := outV_ne (by intro h; rw [h] at e1; simp at e1)
  have hYo : outV Y = .sl .ow 1 (Y.map iv) := outV_ne (by intro h; rw [h] at e2'; simp at e2')
  have hZo : outV Z = .sl .ow 1 (Z.map iv) := outV_ne (by intro h; rw [h] at e3l; simp at e3l)
  rw [hXo] at c1
  rw [hYo] at hY
  rw [hZo] at c3
  have hsl := slice_to X (szn A) (by omega)
  have hss := same_code Z (wts A + wts B + 400) (by omega) (by omega)
  rw [hZo, dn_own] at hss
  have hsum : W ((szn A : Int) + (szn B : Int)) = ((szn A + szn B : Nat) : Int) := by rw [W_small (by omega) (by omega)]; push_cast; rfl
  have slmax : ∀ t n (l : List PV), (PV.sl t n l).maxRef = 0 := fun _ _ _ => by simp [PV.maxRef]
  have hYn : Y ≠ [] := by intro h; rw [h] at e2'; simp at e2'
  have bdn := bothV_dn (A ++ B)
  have happ : (X.take (szn A) = [] ∧ pAppend Try.prog 27 27 (.sl .ex 1 []) (.sl .sh 1 ((X.take (szn A)).map iv)) = some (.sl .ex 1 [])) ∨
      (pAppend Try.prog 27 27 (.sl .ex 1 []) (.sl .sh 1 ((X.take (szn A)).map iv)) = some (.sl .ow 1 ((X.take (szn A)).map iv))) := by
    rcases List.eq_nil_or_concat (X.take (szn A)) with h | ⟨i, x, h⟩
    · refine .inl ⟨h, ?_⟩
      rw [h]
      simp [pAppend, elemF, sizeF, newsOf]
    · refine .inr ?_
      have := app_ex [] (X.take (szn A)) .sh (by rw [h]; simp) (by simp; omega)
      simpa using this
  rcases happ with ⟨hn0, happ⟩ | happ
  · have happ2 : pAppend Try.prog 27 27 (.sl .ex 1 []) (.sl .sh 1 (Y.map iv)) = some (.sl .ow 1 (Z.map iv)) := by
      have := app_ex [] Y .sh hYn (by simp; omega)
      rw [e3, hn0]
      simpa using this
    cases b1 : (bothV A).isOw <;> cases b2 : (bothV (A ++ B)).isOw
    all_goals simp only [pcS_seq, pcS_region, pcS_block, pcS_cond, pcS_loop, pcS_exit, pcS_ret, pcS_skip, popsL_nil, popsL_cons, pop_plain, pop_guard, wantS_eq, wantD_some, wantV_t, wantV_f, wantV_tup, guardP_true, guardP_false, bindS_normal, bindS_exit, bindS_ret, blockS_normal, blockS_exit, blockS_ret, bindP_some, doneR_some, condS_true, condS_false, pickI_some, pickI_none, pickR_some, pickR_none, pickL_some, endS_normal, endS_ret, setS_some, resV_none, resV_one, dstOk, doesTake, inert_move, inert_assign, inert_pick, inert_build, inert_buildSlice, inert_load, inert_nilCheck, inert_binOp, inert_unOp, inert_convert, inert_slice, inert_fieldAddr, inert_field, inert_indexAddr, inert_index, inert_extract, inert_builtin, inert_call, inert_alloc, inert_box, inert_store, pickB_bv, loadI_ep, loadI_ptr, nilI_ptr, nilI_ep, unI_not, extrI_tup, pureC_ok, callI_fn, read_load, read_alloc, read_box, read_store, read_call, loadR_ptr, boxR_cells, loud_load, loud_store, loud_alloc, loud_box, loud_call, loadL_ptr, boxL_cells, storeL_ptr, boxS_cells, boxN_eq, callL_fn, put, drop, takes, restrict, ev, lk, params, annF, bodyF, aggF, sizeF, elemF, fieldF, partF, List.zipIdx, List.zipIdx_cons, List.zipIdx_nil, List.map, List.map_cons, List.map_nil, Option.getD_some, Nat.reduceLT, Nat.reduceAdd, Nat.reduceEqDiff, Nat.reduceMul, Int.reduceEq, decide_true, decide_false, Bool.false_eq_true, Bool.and_true, Bool.false_and, Bool.and_false, Bool.true_and, Bool.and_self, if_true, if_false, reduceIte, List.contains_nil, List.contains_cons, beq_self_eq_true, Nat.reduceBEq, Bool.or_false, Bool.false_or, Bool.or_true, Bool.true_or, Bool.not_true, Bool.not_false, ofVal_iv, ofVal_bv, dn_iv, ow_iv, dn_bv, ow_bv, dn_fn, dn_ptr, dn_ep, dn_agg, dn_tup, dn_nilsl, dn_own, dn_sh, dn_ex, ow_ptr, ow_ep, ow_agg, ow_tup, ow_nilsl, ow_own, ow_sh, ow_ex, maxRef_iv, maxRef_bv, maxRef_agg, maxRef_tup, maxRefs_nil, maxRefs_cons, Nat.max_self, Nat.zero_le, List.cons_append, List.nil_append, List.append_nil, pBuiltin, tys1, Option.bind_some, Option.map_some, resultOf, List.getElem?_cons_zero, List.getElem?_cons_succ, cells_agg, cells_iv, solid_iv, solid_agg, List.length_cons, List.length_nil, Nat.zero_add, List.take_zero, List.take_nil, add_iv, sub_iv, mul_iv, lss_iv, leq_iv, gtr_iv, geq_iv, eql_iv, neq_iv, arr2, List.set_cons_zero, List.set_cons_succ, List.take_succ_cons, List.drop_succ_cons, List.drop_zero, List.take_length, or_true, true_or, and_true, true_and, and_self, Nat.reduceLeDiff, eq_self, Try.f5, h1, h2, h3, h4, h5, dn_pvL, ow_pvL, maxRef_pvL, dn_s, ow_s, conv16, mk0, mkT0, a1, a2, b1, b2, bdn, c1, hY, c3, s1, s2, s3, len_sl, hXm, hXlt, hsl, happ, happ2, hss, hsum, slmax, Option.map_none]
  · have happ2 : pAppend Try.prog 27 27 (.sl .ow 1 ((X.take (szn A)).map iv)) (.sl .sh 1 (Y.map iv)) = some (.sl .ow 1 (Z.map iv)) := by
      have := app_ow (X.take (szn A)) Y .sh hYn (by simp; omega)
      rw [e3]
      exact this
    cases b1 : (bothV A).isOw <;> cases b2 : (bothV (A ++ B)).isOw
    all_goals simp only [pcS_seq, pcS_region, pcS_block, pcS_cond, pcS_loop, pcS_exit, pcS_ret, pcS_skip, popsL_nil, popsL_cons, pop_plain, pop_guard, wantS_eq, wantD_some, wantV_t, wantV_f, wantV_tup, guardP_true, guardP_false, bindS_normal, bindS_exit, bindS_ret, blockS_normal, blockS_exit, blockS_ret, bindP_some, doneR_some, condS_true, condS_false, pickI_some, pickI_none, pickR_some, pickR_none, pickL_some, endS_normal, endS_ret, setS_some, resV_none, resV_one, dstOk, doesTake, inert_move, inert_assign, inert_pick, inert_build, inert_buildSlice, inert_load, inert_nilCheck, inert_binOp, inert_unOp, inert_convert, inert_slice, inert_fieldAddr, inert_field, inert_indexAddr, inert_index, inert_extract, inert_builtin, inert_call, inert_alloc, inert_box, inert_store, pickB_bv, loadI_ep, loadI_ptr, nilI_ptr, nilI_ep, unI_not, extrI_tup, pureC_ok, callI_fn, read_load, read_alloc, read_box, read_store, read_call, loadR_ptr, boxR_cells, loud_load, loud_store, loud_alloc, loud_box, loud_call, loadL_ptr, boxL_cells, storeL_ptr, boxS_cells, boxN_eq, callL_fn, put, drop, takes, restrict, ev, lk, params, annF, bodyF, aggF, sizeF, elemF, fieldF, partF, List.zipIdx, List.zipIdx_cons, List.zipIdx_nil, List.map, List.map_cons, List.map_nil, Option.getD_some, Nat.reduceLT, Nat.reduceAdd, Nat.reduceEqDiff, Nat.reduceMul, Int.reduceEq, decide_true, decide_false, Bool.false_eq_true, Bool.and_true, Bool.false_and, Bool.and_false, Bool.true_and, Bool.and_self, if_true, if_false, reduceIte, List.contains_nil, List.contains_cons, beq_self_eq_true, Nat.reduceBEq, Bool.or_false, Bool.false_or, Bool.or_true, Bool.true_or, Bool.not_true, Bool.not_false, ofVal_iv, ofVal_bv, dn_iv, ow_iv, dn_bv, ow_bv, dn_fn, dn_ptr, dn_ep, dn_agg, dn_tup, dn_nilsl, dn_own, dn_sh, dn_ex, ow_ptr, ow_ep, ow_agg, ow_tup, ow_nilsl, ow_own, ow_sh, ow_ex, maxRef_iv, maxRef_bv, maxRef_agg, maxRef_tup, maxRefs_nil, maxRefs_cons, Nat.max_self, Nat.zero_le, List.cons_append, List.nil_append, List.append_nil, pBuiltin, tys1, Option.bind_some, Option.map_some, resultOf, List.getElem?_cons_zero, List.getElem?_cons_succ, cells_agg, cells_iv, solid_iv, solid_agg, List.length_cons, List.length_nil, Nat.zero_add, List.take_zero, List.take_nil, add_iv, sub_iv, mul_iv, lss_iv, leq_iv, gtr_iv, geq_iv, eql_iv, neq_iv, arr2, List.set_cons_zero, List.set_cons_succ, List.take_succ_cons, List.drop_succ_cons, List.drop_zero, List.take_length, or_true, true_or, and_true, true_and, and_self, Nat.reduceLeDiff, eq_self, Try.f5, h1, h2, h3, h4, h5, dn_pvL, ow_pvL, maxRef_pvL, dn_s, ow_s, conv16, mk0, mkT0, a1, a2, b1, b2, bdn, c1, hY, c3, s1, s2, s3, len_sl, hXm, hXlt, hsl, happ, happ2, hss, hsum, slmax, Option.map_none]

end Go.Proofs.Ytfmelnhlljgooaa.PE
