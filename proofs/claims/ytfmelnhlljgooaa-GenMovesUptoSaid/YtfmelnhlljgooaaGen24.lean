/-
  The law GenMoves: the code elsewhere, plainly; has a tree a number, or a word, far off: the walk of plain.
-/
import Derived.Test.YtfmelnhlljgooaaGen23
set_option linter.unusedSimpArgs false
set_option linter.unusedVariables false
namespace Go.Proofs.Ytfmelnhlljgooaa.PE
open Go

mutual
def T.far : T → Bool
  | .mk k n _ A _ B => (decide (k ≤ 2) && decide (1000000 ≤ n)) || (fars A || fars B)
def fars : List T → Bool
  | [] => false
  | t :: r => t.far || fars r
end

def T.k : T → Int | .mk k _ _ _ _ _ => k
def T.n : T → Int | .mk _ n _ _ _ _ => n
theorem far_eq (t : T) : t.far = ((decide (t.k ≤ 2) && decide (1000000 ≤ t.n)) || (fars t.A || fars t.B)) := by cases t; rfl
theorem cell0 (t : T) : t.pv.cells[0]? = some (iv t.k) := by cases t; rfl
theorem cell1 (t : T) : t.pv.cells[1]? = some (iv t.n) := by cases t; rfl

theorem good_bare {t : T} {lp : Bool} (h : t.good lp) (hk : t.k ≤ 2) : t.A = [] ∧ t.B = [] := by
  cases t with
  | mk k n fa A fb B =>
    simp only [T.good] at h
    simp only [T.k] at hk
    simp only [T.A, T.B]
    rcases h with ⟨_, rfl, rfl⟩ | ⟨rfl, _⟩ | ⟨rfl | rfl, _⟩ | ⟨rfl, _⟩ | ⟨rfl, _⟩ | ⟨rfl | rfl, _⟩ | ⟨rfl, _⟩ | ⟨rfl | rfl, _⟩
    · exact ⟨rfl, rfl⟩
    all_goals omega

/-! The cells of a code that is not far. -/
def cOK (n : Nat) : C → Prop
  | .k v => v < 1000000
  | .p j => j ≤ n
  | .self => True

theorem ccs_ok' (n : Nat) (l : List T) (h : ∀ t, t ∈ l → ∀ lp, t.good lp → t.far = false → ∀ q f, cOK n f → q + t.sz ≤ n → ∀ c, c ∈ t.cc q f → cOK n c) :
    ∀ lp, goods l lp → fars l = false → ∀ q f, cOK n f → q + szn l ≤ n → ∀ c, c ∈ ccs l q f → cOK n c := by
  induction l with
  | nil => intro lp _ _ q f _ _ c hc; simp [ccs] at hc
  | cons t r ih =>
    intro lp hg hf q f hfo hq c hc
    simp only [goods] at hg
    simp only [fars, Bool.or_eq_false_iff] at hf
    simp only [szn] at hq
    simp only [ccs, List.mem_append] at hc
    rcases hc with hc | hc
    · exact h t (by simp) lp hg.1 hf.1 q f hfo (by omega) c hc
    · exact ih (fun x hx => h x (by simp [hx])) lp hg.2 hf.2 _ f hfo (by omega) c hc

theorem cc_ok (n : Nat) : ∀ t : T, ∀ lp, t.good lp → t.far = false → ∀ q f, cOK n f → q + t.sz ≤ n → ∀ c, c ∈ t.cc q f → cOK n c := by
  refine T.ind ?_
  intro k m fa A fb B hA hB lp hg hf q f hfo hq c hc
  have lA := ccs_ok' n A hA
  have lB := ccs_ok' n B hB
  simp only [T.far, Bool.or_eq_false_iff] at hf
  obtain ⟨hown, hfA, hfB⟩ := hf
  simp only [T.good] at hg
  rcases hg with ⟨rfl | rfl, _, _⟩ | ⟨rfl, _, _, _, _⟩ | ⟨rfl | rfl, _, _, _⟩ | ⟨rfl, rfl, gA, gB⟩ | ⟨rfl, rfl, _, gA⟩ | ⟨rfl | rfl, _, _, gA⟩ | ⟨rfl, _, gA, gB⟩ | ⟨rfl | rfl, rfl | rfl, _, gA⟩
  · simp [T.cc] at hc
    simp at hown
    rcases hc with rfl | rfl
    · simp [cOK]
    · simpa [cOK] using hown
  · simp [T.cc] at hc
    simp at hown
    subst hc
    simpa [cOK] using hown
  · simp [T.cc] at hc
    rcases hc with rfl | rfl | rfl
    · simp [cOK]
    · simp [cOK]
    · exact hfo
  · simp [T.cc] at hc
    subst hc
    simp [cOK]
  · simp [T.cc] at hc
    subst hc
    simp [cOK]
  · simp [T.sz] at hq
    simp [T.cc] at hc
    rcases hc with rfl | rfl | hc | rfl | rfl | hc
    · simp [cOK]
    · simp [cOK]; omega
    · exact lA _ gA hfA _ _ hfo (by omega) c hc
    · simp [cOK]
    · simp [cOK]; omega
    · exact lB _ gB hfB _ _ hfo (by omega) c hc
  · simp [T.sz] at hq
    simp [T.cc] at hc
    rcases hc with rfl | rfl | hc
    · simp [cOK]
    · simp [cOK]; omega
    · exact lA _ gA hfA _ _ hfo (by omega) c hc
  · simp [T.sz] at hq
    simp [T.cc] at hc
    rcases hc with hc | rfl | rfl
    · exact lA _ gA hfA _ _ hfo (by omega) c hc
    · simp [cOK]
    · simp [cOK]; omega
  · simp [T.sz] at hq
    simp [T.cc] at hc
    rcases hc with hc | rfl | rfl
    · exact lA _ gA hfA _ _ hfo (by omega) c hc
    · simp [cOK]
    · simp [cOK]; omega
  · simp [T.sz] at hq
    simp [T.cc] at hc
    rcases hc with hc | rfl | rfl | hc | rfl | rfl
    · exact lA _ gA hfA _ _ hfo (by omega) c hc
    · simp [cOK]
    · simp [cOK]; omega
    · exact lB _ gB hfB _ _ hfo (by omega) c hc
    · simp [cOK]
    · simp [cOK]; omega
  all_goals
    simp [T.sz] at hq
    simp [T.cc] at hc
  · rcases hc with rfl | hc | rfl | rfl
    · simp [cOK]
    · exact lA _ gA hfA _ _ (by simp [cOK]; omega) (by omega) c hc
    · simp [cOK]
    · simp [cOK]; omega
  · rcases hc with rfl | rfl | hc | rfl | rfl
    · simp [cOK]
    · simp [cOK]; omega
    · exact lA _ gA hfA _ _ (by simp [cOK]; omega) (by omega) c hc
    · simp [cOK]
    · simp [cOK]; omega
  · rcases hc with rfl | hc | rfl | rfl
    · simp [cOK]
    · exact lA _ gA hfA _ _ (by simp [cOK]; omega) (by omega) c hc
    · simp [cOK]
    · simp [cOK]; omega
  · rcases hc with rfl | rfl | hc | rfl | rfl
    · simp [cOK]
    · simp [cOK]; omega
    · exact lA _ gA hfA _ _ (by simp [cOK]; omega) (by omega) c hc
    · simp [cOK]
    · simp [cOK]; omega

theorem ccs_ok {n : Nat} {l : List T} {lp : Bool} (hg : goods l lp) (hf : fars l = false) (f : C) (hfo : cOK n f) (q : Nat) (hq : q + szn l ≤ n) : ∀ c, c ∈ ccs l q f → cOK n c :=
  ccs_ok' n l (fun t _ => cc_ok n t) lp hg hf q f hfo hq

theorem code_last {l : List T} {lp : Bool} (hg : goods l lp) (at0 self : Int) : (code at0 self l)[szn l]? = some 32 := by
  unfold code
  rw [List.getElem?_append_right (by simp [ccs_len hg])]
  simp [ccs_len hg]

/-- Each cell is a place, and moved along, or none, and the same. -/
theorem moves_cell {l : List T} {lp : Bool} (hg : goods l lp) (hf : fars l = false) {p p2 : Nat} (hp : p < 2 ^ 20) (hp2 : p2 < 2 ^ 20) (hs : szn l < 2 ^ 40) {i : Nat} {x : Int}
    (hx : (code (1000000 + 8 * (p : Int)) 1 l)[i]? = some x) :
    ∃ y, (code (1000000 + 8 * (p2 : Int)) 1 l)[i]? = some y ∧
      ((1000000 + 8 * (p : Int) ≤ x ∧ x ≤ 1000000 + 8 * (p : Int) + 8 * ((szn l : Int) + 1) ∧ x % 8 = 0 ∧ y = x + (1000000 + 8 * (p2 : Int)) - (1000000 + 8 * (p : Int))) ∨ (x < 1000000 + 8 * (p : Int) ∧ y = x)) := by
  have hl := ccs_len hg 0 (.k 0)
  by_cases hi : i < szn l
  · unfold code at hx ⊢
    rw [List.getElem?_append_left (by simp [hl]; omega), List.getElem?_map] at hx ⊢
    rw [List.getElem?_eq_getElem (by omega)] at hx ⊢
    simp only [Option.map_some, Option.some.injEq] at hx
    have hok := ccs_ok (n := szn l) hg hf (.k 0) (by simp [cOK]) 0 (by omega) _ (List.getElem_mem (h := (by omega : i < (ccs l 0 (.k 0)).length)))
    refine ⟨_, rfl, ?_⟩
    generalize (ccs l 0 (.k 0))[i] = c at hx hok
    cases c with
    | k v =>
      simp only [C.ev, cOK] at hx hok ⊢
      exact .inr ⟨by omega, hx⟩
    | p j =>
      simp only [C.ev, cOK] at hx hok ⊢
      rw [W_small (by omega) (by omega)] at hx ⊢
      exact .inl ⟨by omega, by omega, by omega, by omega⟩
    | self =>
      simp only [C.ev] at hx ⊢
      exact .inr ⟨by omega, hx⟩
  · have hlen := (List.getElem?_eq_some_iff.1 hx).1
    rw [code_len hg] at hlen
    have : i = szn l := by omega
    subst this
    rw [code_last hg] at hx
    simp only [Option.some.injEq] at hx
    subst hx
    exact ⟨32, code_last hg _ _, .inr ⟨by omega, rfl⟩⟩

/-! The walk of plain. -/
def ex0 : PBox := .cells [.sl .ex 1 []]
theorem ex0_eq : ex0 = .cells [.sl .ex 1 []] := rfl
theorem cells_sl (t : Tag) (n : Nat) (l : List PV) : (PV.sl t n l).cells = [.sl t n l] := rfl
theorem solid_sl (t : Tag) (n : Nat) (l : List PV) : (PV.sl t n l).solid = true := rfl
theorem maxRef_sl (t : Tag) (n : Nat) (l : List PV) : (PV.sl t n l).maxRef = 0 := by simp [PV.maxRef]
theorem len_ex0 : pLen Try.prog 27 (.sl .ex 1 []) = some (iv 0) := len_sl .ex []
theorem len_one (t : Tag) (x : Int) : pLen Try.prog 27 (.sl t 1 [iv x]) = some (iv 1) := len_sl t [x]
theorem app_one (n : Int) : pAppend Try.prog 27 27 (.sl .ex 1 []) (.sl .ex 1 [iv n]) = some (.sl .ow 1 [iv n]) := app_ex [] [n] .ex (by simp) (by simp)

def PlainJ (b : Bool) (r : PX × PS) : Prop :=
  (r.1 = .exit 0 ∧ b = false ∧ ∃ env, r.2 = ⟨env, [ex0]⟩ ∧ lk env 1 = .ptr 0 0) ∨ (r.1 = .ret ∧ b = true ∧ ∃ env st, r.2 = ⟨env, st⟩ ∧ lk env 4 = bv true)

theorem plain_nil (k : Nat) (f : E) (x : Int) : pcall Try.prog ann noSums (k + 2) 14 [pvL f [], .ptr 0 0] [.cells [.sl .ow 1 [iv x]]] = some (bv true, [.cells [.sl .ow 1 [iv x]]]) := by
  refine go14 rfl ?_
  simp only [pcS_seq, pcS_region, pcS_block, pcS_cond, pcS_loop, pcS_exit, pcS_ret, pcS_skip, popsL_nil, popsL_cons, pop_plain, pop_guard, wantS_eq, wantD_some, wantV_t, wantV_f, wantV_tup, guardP_true, guardP_false, bindS_normal, bindS_exit, bindS_ret, blockS_normal, blockS_exit, blockS_ret, bindP_some, doneR_some, condS_true, condS_false, pickI_some, pickI_none, pickR_some, pickR_none, pickL_some, endS_normal, endS_ret, setS_some, resV_none, resV_one, dstOk, doesTake, inert_move, inert_assign, inert_pick, inert_build, inert_buildSlice, inert_load, inert_nilCheck, inert_binOp, inert_unOp, inert_convert, inert_slice, inert_fieldAddr, inert_field, inert_indexAddr, inert_index, inert_extract, inert_builtin, inert_call, inert_alloc, inert_box, inert_store, pickB_bv, loadI_ep, loadI_ptr, nilI_ptr, nilI_ep, unI_not, extrI_tup, pureC_ok, callI_fn, read_load, read_alloc, read_box, read_store, read_call, loadR_ptr, boxR_cells, loud_load, loud_store, loud_alloc, loud_box, loud_call, loadL_ptr, boxL_cells, storeL_ptr, boxS_cells, boxN_eq, callL_fn, put, drop, takes, restrict, ev, lk, params, annF, bodyF, aggF, sizeF, elemF, fieldF, partF, List.zipIdx, List.zipIdx_cons, List.zipIdx_nil, List.map, List.map_cons, List.map_nil, Option.getD_some, Nat.reduceLT, Nat.reduceAdd, Nat.reduceEqDiff, Nat.reduceMul, Int.reduceEq, decide_true, decide_false, Bool.false_eq_true, Bool.and_true, Bool.false_and, Bool.and_false, Bool.true_and, Bool.and_self, if_true, if_false, reduceIte, List.contains_nil, List.contains_cons, beq_self_eq_true, Nat.reduceBEq, Bool.or_false, Bool.false_or, Bool.or_true, Bool.true_or, Bool.not_true, Bool.not_false, ofVal_iv, ofVal_bv, dn_iv, ow_iv, dn_bv, ow_bv, dn_fn, dn_ptr, dn_ep, dn_agg, dn_tup, dn_nilsl, dn_own, dn_sh, dn_ex, ow_ptr, ow_ep, ow_agg, ow_tup, ow_nilsl, ow_own, ow_sh, ow_ex, maxRef_iv, maxRef_bv, maxRef_agg, maxRef_tup, maxRefs_nil, maxRefs_cons, Nat.max_self, Nat.zero_le, List.cons_append, List.nil_append, List.append_nil, pBuiltin, tys1, Option.bind_some, Option.map_some, resultOf, List.getElem?_cons_zero, List.getElem?_cons_succ, cells_agg, cells_iv, solid_iv, solid_agg, List.length_cons, List.length_nil, Nat.zero_add, List.take_zero, List.take_nil, add_iv, sub_iv, mul_iv, lss_iv, leq_iv, gtr_iv, geq_iv, eql_iv, neq_iv, arr2, List.set_cons_zero, List.set_cons_succ, List.take_succ_cons, List.drop_succ_cons, List.drop_zero, List.take_length, or_true, true_or, and_true, true_and, and_self, Nat.reduceLeDiff, eq_self, Try.f14, dn_pvL, ow_pvL]
  generalize hL : ploopC _ _ _ _ _ = L
  obtain ⟨r, rfl, hJ⟩ : ∃ r, L = some r ∧ ∃ env, r = (.exit 0, ⟨env, [.cells [.sl .ow 1 [iv x]]]⟩) ∧ lk env 1 = .ptr 0 0 := by
    rw [← hL]
    refine ploopC_rel (fun i s => ∃ env, s = ⟨env, [.cells [.sl .ow 1 [iv x]]]⟩ ∧ lk env 0 = pvL f [] ∧ lk env 1 = .ptr 0 0 ∧ lk env 5 = iv 0) _ 0 ⟨_, rfl, rfl, rfl, rfl⟩ (fun i s hi => by omega) ?_ (by omega)
    rintro s ⟨env, rfl, e0, e1, e5⟩
    have h0 : pLen Try.prog 22 (pvL f []) = some (iv 0) := len_pvL f []
    simp only [pcS_seq, pcS_region, pcS_block, pcS_cond, pcS_loop, pcS_exit, pcS_ret, pcS_skip, popsL_nil, popsL_cons, pop_plain, pop_guard, wantS_eq, wantD_some, wantV_t, wantV_f, wantV_tup, guardP_true, guardP_false, bindS_normal, bindS_exit, bindS_ret, blockS_normal, blockS_exit, blockS_ret, bindP_some, doneR_some, condS_true, condS_false, pickI_some, pickI_none, pickR_some, pickR_none, pickL_some, endS_normal, endS_ret, setS_some, resV_none, resV_one, dstOk, doesTake, inert_move, inert_assign, inert_pick, inert_build, inert_buildSlice, inert_load, inert_nilCheck, inert_binOp, inert_unOp, inert_convert, inert_slice, inert_fieldAddr, inert_field, inert_indexAddr, inert_index, inert_extract, inert_builtin, inert_call, inert_alloc, inert_box, inert_store, pickB_bv, loadI_ep, loadI_ptr, nilI_ptr, nilI_ep, unI_not, extrI_tup, pureC_ok, callI_fn, read_load, read_alloc, read_box, read_store, read_call, loadR_ptr, boxR_cells, loud_load, loud_store, loud_alloc, loud_box, loud_call, loadL_ptr, boxL_cells, storeL_ptr, boxS_cells, boxN_eq, callL_fn, put, drop, takes, restrict, ev, lk, params, annF, bodyF, aggF, sizeF, elemF, fieldF, partF, List.zipIdx, List.zipIdx_cons, List.zipIdx_nil, List.map, List.map_cons, List.map_nil, Option.getD_some, Nat.reduceLT, Nat.reduceAdd, Nat.reduceEqDiff, Nat.reduceMul, Int.reduceEq, decide_true, decide_false, Bool.false_eq_true, Bool.and_true, Bool.false_and, Bool.and_false, Bool.true_and, Bool.and_self, if_true, if_false, reduceIte, List.contains_nil, List.contains_cons, beq_self_eq_true, Nat.reduceBEq, Bool.or_false, Bool.false_or, Bool.or_true, Bool.true_or, Bool.not_true, Bool.not_false, ofVal_iv, ofVal_bv, dn_iv, ow_iv, dn_bv, ow_bv, dn_fn, dn_ptr, dn_ep, dn_agg, dn_tup, dn_nilsl, dn_own, dn_sh, dn_ex, ow_ptr, ow_ep, ow_agg, ow_tup, ow_nilsl, ow_own, ow_sh, ow_ex, maxRef_iv, maxRef_bv, maxRef_agg, maxRef_tup, maxRefs_nil, maxRefs_cons, Nat.max_self, Nat.zero_le, List.cons_append, List.nil_append, List.append_nil, pBuiltin, tys1, Option.bind_some, Option.map_some, resultOf, List.getElem?_cons_zero, List.getElem?_cons_succ, cells_agg, cells_iv, solid_iv, solid_agg, List.length_cons, List.length_nil, Nat.zero_add, List.take_zero, List.take_nil, add_iv, sub_iv, mul_iv, lss_iv, leq_iv, gtr_iv, geq_iv, eql_iv, neq_iv, arr2, List.set_cons_zero, List.set_cons_succ, List.take_succ_cons, List.drop_succ_cons, List.drop_zero, List.take_length, or_true, true_or, and_true, true_and, and_self, Nat.reduceLeDiff, eq_self, e0, e1, e5, h0, dn_pvL, Int.lt_irrefl]
    exact ⟨_, rfl, by simp, _, rfl, rfl⟩
  obtain ⟨env, rfl, e1⟩ := hJ
  have h1 : (0 : Int) < 1 := by decide
  simp only [pcS_seq, pcS_region, pcS_block, pcS_cond, pcS_loop, pcS_exit, pcS_ret, pcS_skip, popsL_nil, popsL_cons, pop_plain, pop_guard, wantS_eq, wantD_some, wantV_t, wantV_f, wantV_tup, guardP_true, guardP_false, bindS_normal, bindS_exit, bindS_ret, blockS_normal, blockS_exit, blockS_ret, bindP_some, doneR_some, condS_true, condS_false, pickI_some, pickI_none, pickR_some, pickR_none, pickL_some, endS_normal, endS_ret, setS_some, resV_none, resV_one, dstOk, doesTake, inert_move, inert_assign, inert_pick, inert_build, inert_buildSlice, inert_load, inert_nilCheck, inert_binOp, inert_unOp, inert_convert, inert_slice, inert_fieldAddr, inert_field, inert_indexAddr, inert_index, inert_extract, inert_builtin, inert_call, inert_alloc, inert_box, inert_store, pickB_bv, loadI_ep, loadI_ptr, nilI_ptr, nilI_ep, unI_not, extrI_tup, pureC_ok, callI_fn, read_load, read_alloc, read_box, read_store, read_call, loadR_ptr, boxR_cells, loud_load, loud_store, loud_alloc, loud_box, loud_call, loadL_ptr, boxL_cells, storeL_ptr, boxS_cells, boxN_eq, callL_fn, put, drop, takes, restrict, ev, lk, params, annF, bodyF, aggF, sizeF, elemF, fieldF, partF, List.zipIdx, List.zipIdx_cons, List.zipIdx_nil, List.map, List.map_cons, List.map_nil, Option.getD_some, Nat.reduceLT, Nat.reduceAdd, Nat.reduceEqDiff, Nat.reduceMul, Int.reduceEq, decide_true, decide_false, Bool.false_eq_true, Bool.and_true, Bool.false_and, Bool.and_false, Bool.true_and, Bool.and_self, if_true, if_false, reduceIte, List.contains_nil, List.contains_cons, beq_self_eq_true, Nat.reduceBEq, Bool.or_false, Bool.false_or, Bool.or_true, Bool.true_or, Bool.not_true, Bool.not_false, ofVal_iv, ofVal_bv, dn_iv, ow_iv, dn_bv, ow_bv, dn_fn, dn_ptr, dn_ep, dn_agg, dn_tup, dn_nilsl, dn_own, dn_sh, dn_ex, ow_ptr, ow_ep, ow_agg, ow_tup, ow_nilsl, ow_own, ow_sh, ow_ex, maxRef_iv, maxRef_bv, maxRef_agg, maxRef_tup, maxRefs_nil, maxRefs_cons, Nat.max_self, Nat.zero_le, List.cons_append, List.nil_append, List.append_nil, pBuiltin, tys1, Option.bind_some, Option.map_some, resultOf, List.getElem?_cons_zero, List.getElem?_cons_succ, cells_agg, cells_iv, solid_iv, solid_agg, List.length_cons, List.length_nil, Nat.zero_add, List.take_zero, List.take_nil, add_iv, sub_iv, mul_iv, lss_iv, leq_iv, gtr_iv, geq_iv, eql_iv, neq_iv, arr2, List.set_cons_zero, List.set_cons_succ, List.take_succ_cons, List.drop_succ_cons, List.drop_zero, List.take_length, or_true, true_or, and_true, true_and, and_self, Nat.reduceLeDiff, eq_self, e1, len_one, h1]

theorem plain_step (k : Nat) (f : E) (l : List T) (lp : Bool) (hk : l.length < k) (hb : l.length < 2 ^ 61) (hg : goods l lp)
    (hA : ∀ (i : Nat) (t : T), l[i]? = some t → ∃ st, pcall Try.prog ann noSums k 14 [pvL t.fa t.A, .ptr 0 0] [ex0] = some (bv (fars t.A), st) ∧ (fars t.A = false → st = [ex0]))
    (hB : ∀ (i : Nat) (t : T), l[i]? = some t → ∃ st, pcall Try.prog ann noSums k 14 [pvL t.fb t.B, .ptr 0 0] [ex0] = some (bv (fars t.B), st) ∧ (fars t.B = false → st = [ex0]))
    (hN : ∀ f x, pcall Try.prog ann noSums k 14 [pvL f [], .ptr 0 0] [.cells [.sl .ow 1 [iv x]]] = some (bv true, [.cells [.sl .ow 1 [iv x]]])) :
    ∃ st, pcall Try.prog ann noSums (k + 1) 14 [pvL f l, .ptr 0 0] [ex0] = some (bv (fars l), st) ∧ (fars l = false → st = [ex0]) := by
  suffices h : ∃ st, endS Try.prog [.tmp 4] [ex0] (pcodeS ⟨Try.prog, ann, pcall Try.prog ann noSums k, 14, Try.f14.ntmps, 1⟩ k (Try.f14.body.getD .skip) ⟨params [pvL f l, .ptr 0 0], [ex0]⟩) = some (bv (fars l), st) ∧ (fars l = false → st = [ex0]) by
    obtain ⟨st, h1, h2⟩ := h
    exact ⟨st, go14 rfl h1, h2⟩
  simp only [pcS_seq, pcS_region, pcS_block, pcS_cond, pcS_loop, pcS_exit, pcS_ret, pcS_skip, popsL_nil, popsL_cons, pop_plain, pop_guard, wantS_eq, wantD_some, wantV_t, wantV_f, wantV_tup, guardP_true, guardP_false, bindS_normal, bindS_exit, bindS_ret, blockS_normal, blockS_exit, blockS_ret, bindP_some, doneR_some, condS_true, condS_false, pickI_some, pickI_none, pickR_some, pickR_none, pickL_some, endS_normal, endS_ret, setS_some, resV_none, resV_one, dstOk, doesTake, inert_move, inert_assign, inert_pick, inert_build, inert_buildSlice, inert_load, inert_nilCheck, inert_binOp, inert_unOp, inert_convert, inert_slice, inert_fieldAddr, inert_field, inert_indexAddr, inert_index, inert_extract, inert_builtin, inert_call, inert_alloc, inert_box, inert_store, pickB_bv, loadI_ep, loadI_ptr, nilI_ptr, nilI_ep, unI_not, extrI_tup, pureC_ok, callI_fn, read_load, read_alloc, read_box, read_store, read_call, loadR_ptr, boxR_cells, loud_load, loud_store, loud_alloc, loud_box, loud_call, loadL_ptr, boxL_cells, storeL_ptr, boxS_cells, boxN_eq, callL_fn, put, drop, takes, restrict, ev, lk, params, annF, bodyF, aggF, sizeF, elemF, fieldF, partF, List.zipIdx, List.zipIdx_cons, List.zipIdx_nil, List.map, List.map_cons, List.map_nil, Option.getD_some, Nat.reduceLT, Nat.reduceAdd, Nat.reduceEqDiff, Nat.reduceMul, Int.reduceEq, decide_true, decide_false, Bool.false_eq_true, Bool.and_true, Bool.false_and, Bool.and_false, Bool.true_and, Bool.and_self, if_true, if_false, reduceIte, List.contains_nil, List.contains_cons, beq_self_eq_true, Nat.reduceBEq, Bool.or_false, Bool.false_or, Bool.or_true, Bool.true_or, Bool.not_true, Bool.not_false, ofVal_iv, ofVal_bv, dn_iv, ow_iv, dn_bv, ow_bv, dn_fn, dn_ptr, dn_ep, dn_agg, dn_tup, dn_nilsl, dn_own, dn_sh, dn_ex, ow_ptr, ow_ep, ow_agg, ow_tup, ow_nilsl, ow_own, ow_sh, ow_ex, maxRef_iv, maxRef_bv, maxRef_agg, maxRef_tup, maxRefs_nil, maxRefs_cons, Nat.max_self, Nat.zero_le, List.cons_append, List.nil_append, List.append_nil, pBuiltin, tys1, Option.bind_some, Option.map_some, resultOf, List.getElem?_cons_zero, List.getElem?_cons_succ, cells_agg, cells_iv, solid_iv, solid_agg, List.length_cons, List.length_nil, Nat.zero_add, List.take_zero, List.take_nil, add_iv, sub_iv, mul_iv, lss_iv, leq_iv, gtr_iv, geq_iv, eql_iv, neq_iv, arr2, List.set_cons_zero, List.set_cons_succ, List.take_succ_cons, List.drop_succ_cons, List.drop_zero, List.take_length, or_true, true_or, and_true, true_and, and_self, Nat.reduceLeDiff, eq_self, Try.f14, dn_pvL, ow_pvL]
  generalize hL : ploopC _ _ _ _ _ = L
  obtain ⟨r, rfl, hJ⟩ : ∃ r, L = some r ∧ PlainJ (fars l) r := by
    rw [← hL]
    refine ploopC_at (fun d s => ∃ env i, i + d = l.length ∧ s = ⟨env, [ex0]⟩ ∧ lk env 0 = pvL f l ∧ lk env 1 = .ptr 0 0 ∧ lk env 5 = iv (i : Nat) ∧ fars (l.drop i) = fars l) ?_
      l.length _ _ ⟨_, 0, by omega, rfl, rfl, rfl, rfl, rfl⟩ hk
    rintro d s ⟨env, i, hd, rfl, e0, e1, e5, hm⟩
    cases d with
    | zero =>
      have hi : ¬ (i : Int) < l.length := by omega
      rw [List.drop_eq_nil_of_le (by omega)] at hm
      simp only [fars] at hm
      refine .inr ?_
      simp only [pcS_seq, pcS_region, pcS_block, pcS_cond, pcS_loop, pcS_exit, pcS_ret, pcS_skip, popsL_nil, popsL_cons, pop_plain, pop_guard, wantS_eq, wantD_some, wantV_t, wantV_f, wantV_tup, guardP_true, guardP_false, bindS_normal, bindS_exit, bindS_ret, blockS_normal, blockS_exit, blockS_ret, bindP_some, doneR_some, condS_true, condS_false, pickI_some, pickI_none, pickR_some, pickR_none, pickL_some, endS_normal, endS_ret, setS_some, resV_none, resV_one, dstOk, doesTake, inert_move, inert_assign, inert_pick, inert_build, inert_buildSlice, inert_load, inert_nilCheck, inert_binOp, inert_unOp, inert_convert, inert_slice, inert_fieldAddr, inert_field, inert_indexAddr, inert_index, inert_extract, inert_builtin, inert_call, inert_alloc, inert_box, inert_store, pickB_bv, loadI_ep, loadI_ptr, nilI_ptr, nilI_ep, unI_not, extrI_tup, pureC_ok, callI_fn, read_load, read_alloc, read_box, read_store, read_call, loadR_ptr, boxR_cells, loud_load, loud_store, loud_alloc, loud_box, loud_call, loadL_ptr, boxL_cells, storeL_ptr, boxS_cells, boxN_eq, callL_fn, put, drop, takes, restrict, ev, lk, params, annF, bodyF, aggF, sizeF, elemF, fieldF, partF, List.zipIdx, List.zipIdx_cons, List.zipIdx_nil, List.map, List.map_cons, List.map_nil, Option.getD_some, Nat.reduceLT, Nat.reduceAdd, Nat.reduceEqDiff, Nat.reduceMul, Int.reduceEq, decide_true, decide_false, Bool.false_eq_true, Bool.and_true, Bool.false_and, Bool.and_false, Bool.true_and, Bool.and_self, if_true, if_false, reduceIte, List.contains_nil, List.contains_cons, beq_self_eq_true, Nat.reduceBEq, Bool.or_false, Bool.false_or, Bool.or_true, Bool.true_or, Bool.not_true, Bool.not_false, ofVal_iv, ofVal_bv, dn_iv, ow_iv, dn_bv, ow_bv, dn_fn, dn_ptr, dn_ep, dn_agg, dn_tup, dn_nilsl, dn_own, dn_sh, dn_ex, ow_ptr, ow_ep, ow_agg, ow_tup, ow_nilsl, ow_own, ow_sh, ow_ex, maxRef_iv, maxRef_bv, maxRef_agg, maxRef_tup, maxRefs_nil, maxRefs_cons, Nat.max_self, Nat.zero_le, List.cons_append, List.nil_append, List.append_nil, pBuiltin, tys1, Option.bind_some, Option.map_some, resultOf, List.getElem?_cons_zero, List.getElem?_cons_succ, cells_agg, cells_iv, solid_iv, solid_agg, List.length_cons, List.length_nil, Nat.zero_add, List.take_zero, List.take_nil, add_iv, sub_iv, mul_iv, lss_iv, leq_iv, gtr_iv, geq_iv, eql_iv, neq_iv, arr2, List.set_cons_zero, List.set_cons_succ, List.take_succ_cons, List.drop_succ_cons, List.drop_zero, List.take_length, or_true, true_or, and_true, true_and, and_self, Nat.reduceLeDiff, eq_self, e0, e1, e5, len_pvL, dn_pvL, hi]
      exact ⟨_, rfl, by simp, .inl ⟨rfl, hm.symm, _, rfl, rfl⟩⟩
    | succ d =>
      have hi : i < l.length := by omega
      have ht : l[i]? = some l[i] := List.getElem?_eq_getElem hi
      have hlt : (i : Int) < l.length := by omega
      have hW := W_succ (n := i) (by omega)
      rw [List.drop_eq_getElem_cons hi] at hm
      simp only [fars, far_eq] at hm
      have hgt := goods_mem hg (List.getElem_mem hi)
      obtain ⟨sA, hA1, hA2⟩ := hA i _ ht
      obtain ⟨sB, hB1, hB2⟩ := hB i _ ht
      by_cases h2 : l[i].k ≤ 2
      · obtain ⟨nA, nB⟩ := good_bare hgt h2
        by_cases hf : 1000000 ≤ l[i].n
        · have hft : fars l = true := by rw [← hm]; simp [h2, hf]
          refine .inr ?_
          have hN1 := hN l[i].fa l[i].n
          rw [hft]
          simp only [pcS_seq, pcS_region, pcS_block, pcS_cond, pcS_loop, pcS_exit, pcS_ret, pcS_skip, popsL_nil, popsL_cons, pop_plain, pop_guard, wantS_eq, wantD_some, wantV_t, wantV_f, wantV_tup, guardP_true, guardP_false, bindS_normal, bindS_exit, bindS_ret, blockS_normal, blockS_exit, blockS_ret, bindP_some, doneR_some, condS_true, condS_false, pickI_some, pickI_none, pickR_some, pickR_none, pickL_some, endS_normal, endS_ret, setS_some, resV_none, resV_one, dstOk, doesTake, inert_move, inert_assign, inert_pick, inert_build, inert_buildSlice, inert_load, inert_nilCheck, inert_binOp, inert_unOp, inert_convert, inert_slice, inert_fieldAddr, inert_field, inert_indexAddr, inert_index, inert_extract, inert_builtin, inert_call, inert_alloc, inert_box, inert_store, pickB_bv, loadI_ep, loadI_ptr, nilI_ptr, nilI_ep, unI_not, extrI_tup, pureC_ok, callI_fn, read_load, read_alloc, read_box, read_store, read_call, loadR_ptr, boxR_cells, loud_load, loud_store, loud_alloc, loud_box, loud_call, loadL_ptr, boxL_cells, storeL_ptr, boxS_cells, boxN_eq, callL_fn, put, drop, takes, restrict, ev, lk, params, annF, bodyF, aggF, sizeF, elemF, fieldF, partF, List.zipIdx, List.zipIdx_cons, List.zipIdx_nil, List.map, List.map_cons, List.map_nil, Option.getD_some, Nat.reduceLT, Nat.reduceAdd, Nat.reduceEqDiff, Nat.reduceMul, Int.reduceEq, decide_true, decide_false, Bool.false_eq_true, Bool.and_true, Bool.false_and, Bool.and_false, Bool.true_and, Bool.and_self, if_true, if_false, reduceIte, List.contains_nil, List.contains_cons, beq_self_eq_true, Nat.reduceBEq, Bool.or_false, Bool.false_or, Bool.or_true, Bool.true_or, Bool.not_true, Bool.not_false, ofVal_iv, ofVal_bv, dn_iv, ow_iv, dn_bv, ow_bv, dn_fn, dn_ptr, dn_ep, dn_agg, dn_tup, dn_nilsl, dn_own, dn_sh, dn_ex, ow_ptr, ow_ep, ow_agg, ow_tup, ow_nilsl, ow_own, ow_sh, ow_ex, maxRef_iv, maxRef_bv, maxRef_agg, maxRef_tup, maxRefs_nil, maxRefs_cons, Nat.max_self, Nat.zero_le, List.cons_append, List.nil_append, List.append_nil, pBuiltin, tys1, Option.bind_some, Option.map_some, resultOf, List.getElem?_cons_zero, List.getElem?_cons_succ, cells_agg, cells_iv, solid_iv, solid_agg, List.length_cons, List.length_nil, Nat.zero_add, List.take_zero, List.take_nil, add_iv, sub_iv, mul_iv, lss_iv, leq_iv, gtr_iv, geq_iv, eql_iv, neq_iv, arr2, List.set_cons_zero, List.set_cons_succ, List.take_succ_cons, List.drop_succ_cons, List.drop_zero, List.take_length, or_true, true_or, and_true, true_and, and_self, Nat.reduceLeDiff, eq_self, e0, e1, e5, hlt, len_pvL, idx_pvL f ht, cell0, cell1, cell2, cell3, pv_dn, pv_ow, pv_maxRef, dn_pvL, ow_pvL, h2, hf, nA, nB, hN1, ex0_eq, mk1, app_one, cells_sl, solid_sl, maxRef_sl]
          exact ⟨_, rfl, by simp, .inr ⟨rfl, rfl, _, _, rfl, rfl⟩⟩
        · have hfl : fars (l.drop (i + 1)) = fars l := by rw [← hm]; simp [h2, hf, nA, nB, fars]
          rw [nA] at hA1 hA2
          rw [nB] at hB1 hB2
          simp only [fars] at hA1 hA2 hB1 hB2
          rw [hA2 trivial] at hA1
          rw [hB2 trivial] at hB1
          refine .inl ?_
          simp only [pcS_seq, pcS_region, pcS_block, pcS_cond, pcS_loop, pcS_exit, pcS_ret, pcS_skip, popsL_nil, popsL_cons, pop_plain, pop_guard, wantS_eq, wantD_some, wantV_t, wantV_f, wantV_tup, guardP_true, guardP_false, bindS_normal, bindS_exit, bindS_ret, blockS_normal, blockS_exit, blockS_ret, bindP_some, doneR_some, condS_true, condS_false, pickI_some, pickI_none, pickR_some, pickR_none, pickL_some, endS_normal, endS_ret, setS_some, resV_none, resV_one, dstOk, doesTake, inert_move, inert_assign, inert_pick, inert_build, inert_buildSlice, inert_load, inert_nilCheck, inert_binOp, inert_unOp, inert_convert, inert_slice, inert_fieldAddr, inert_field, inert_indexAddr, inert_index, inert_extract, inert_builtin, inert_call, inert_alloc, inert_box, inert_store, pickB_bv, loadI_ep, loadI_ptr, nilI_ptr, nilI_ep, unI_not, extrI_tup, pureC_ok, callI_fn, read_load, read_alloc, read_box, read_store, read_call, loadR_ptr, boxR_cells, loud_load, loud_store, loud_alloc, loud_box, loud_call, loadL_ptr, boxL_cells, storeL_ptr, boxS_cells, boxN_eq, callL_fn, put, drop, takes, restrict, ev, lk, params, annF, bodyF, aggF, sizeF, elemF, fieldF, partF, List.zipIdx, List.zipIdx_cons, List.zipIdx_nil, List.map, List.map_cons, List.map_nil, Option.getD_some, Nat.reduceLT, Nat.reduceAdd, Nat.reduceEqDiff, Nat.reduceMul, Int.reduceEq, decide_true, decide_false, Bool.false_eq_true, Bool.and_true, Bool.false_and, Bool.and_false, Bool.true_and, Bool.and_self, if_true, if_false, reduceIte, List.contains_nil, List.contains_cons, beq_self_eq_true, Nat.reduceBEq, Bool.or_false, Bool.false_or, Bool.or_true, Bool.true_or, Bool.not_true, Bool.not_false, ofVal_iv, ofVal_bv, dn_iv, ow_iv, dn_bv, ow_bv, dn_fn, dn_ptr, dn_ep, dn_agg, dn_tup, dn_nilsl, dn_own, dn_sh, dn_ex, ow_ptr, ow_ep, ow_agg, ow_tup, ow_nilsl, ow_own, ow_sh, ow_ex, maxRef_iv, maxRef_bv, maxRef_agg, maxRef_tup, maxRefs_nil, maxRefs_cons, Nat.max_self, Nat.zero_le, List.cons_append, List.nil_append, List.append_nil, pBuiltin, tys1, Option.bind_some, Option.map_some, resultOf, List.getElem?_cons_zero, List.getElem?_cons_succ, cells_agg, cells_iv, solid_iv, solid_agg, List.length_cons, List.length_nil, Nat.zero_add, List.take_zero, List.take_nil, add_iv, sub_iv, mul_iv, lss_iv, leq_iv, gtr_iv, geq_iv, eql_iv, neq_iv, arr2, List.set_cons_zero, List.set_cons_succ, List.take_succ_cons, List.drop_succ_cons, List.drop_zero, List.take_length, or_true, true_or, and_true, true_and, and_self, Nat.reduceLeDiff, eq_self, e0, e1, e5, hlt, hW, len_pvL, idx_pvL f ht, cell0, cell1, cell2, cell3, pv_dn, pv_ow, pv_maxRef, dn_pvL, ow_pvL, h2, hf, nA, nB, hA1, hB1]
          exact ⟨_, d, by omega, rfl, _, i + 1, by omega, rfl, rfl, rfl, rfl, hfl⟩
      · cases hfA : fars l[i].A with
        | true =>
          have hft : fars l = true := by rw [← hm]; simp [hfA]
          rw [hfA] at hA1
          refine .inr ?_
          rw [hft]
          simp only [pcS_seq, pcS_region, pcS_block, pcS_cond, pcS_loop, pcS_exit, pcS_ret, pcS_skip, popsL_nil, popsL_cons, pop_plain, pop_guard, wantS_eq, wantD_some, wantV_t, wantV_f, wantV_tup, guardP_true, guardP_false, bindS_normal, bindS_exit, bindS_ret, blockS_normal, blockS_exit, blockS_ret, bindP_some, doneR_some, condS_true, condS_false, pickI_some, pickI_none, pickR_some, pickR_none, pickL_some, endS_normal, endS_ret, setS_some, resV_none, resV_one, dstOk, doesTake, inert_move, inert_assign, inert_pick, inert_build, inert_buildSlice, inert_load, inert_nilCheck, inert_binOp, inert_unOp, inert_convert, inert_slice, inert_fieldAddr, inert_field, inert_indexAddr, inert_index, inert_extract, inert_builtin, inert_call, inert_alloc, inert_box, inert_store, pickB_bv, loadI_ep, loadI_ptr, nilI_ptr, nilI_ep, unI_not, extrI_tup, pureC_ok, callI_fn, read_load, read_alloc, read_box, read_store, read_call, loadR_ptr, boxR_cells, loud_load, loud_store, loud_alloc, loud_box, loud_call, loadL_ptr, boxL_cells, storeL_ptr, boxS_cells, boxN_eq, callL_fn, put, drop, takes, restrict, ev, lk, params, annF, bodyF, aggF, sizeF, elemF, fieldF, partF, List.zipIdx, List.zipIdx_cons, List.zipIdx_nil, List.map, List.map_cons, List.map_nil, Option.getD_some, Nat.reduceLT, Nat.reduceAdd, Nat.reduceEqDiff, Nat.reduceMul, Int.reduceEq, decide_true, decide_false, Bool.false_eq_true, Bool.and_true, Bool.false_and, Bool.and_false, Bool.true_and, Bool.and_self, if_true, if_false, reduceIte, List.contains_nil, List.contains_cons, beq_self_eq_true, Nat.reduceBEq, Bool.or_false, Bool.false_or, Bool.or_true, Bool.true_or, Bool.not_true, Bool.not_false, ofVal_iv, ofVal_bv, dn_iv, ow_iv, dn_bv, ow_bv, dn_fn, dn_ptr, dn_ep, dn_agg, dn_tup, dn_nilsl, dn_own, dn_sh, dn_ex, ow_ptr, ow_ep, ow_agg, ow_tup, ow_nilsl, ow_own, ow_sh, ow_ex, maxRef_iv, maxRef_bv, maxRef_agg, maxRef_tup, maxRefs_nil, maxRefs_cons, Nat.max_self, Nat.zero_le, List.cons_append, List.nil_append, List.append_nil, pBuiltin, tys1, Option.bind_some, Option.map_some, resultOf, List.getElem?_cons_zero, List.getElem?_cons_succ, cells_agg, cells_iv, solid_iv, solid_agg, List.length_cons, List.length_nil, Nat.zero_add, List.take_zero, List.take_nil, add_iv, sub_iv, mul_iv, lss_iv, leq_iv, gtr_iv, geq_iv, eql_iv, neq_iv, arr2, List.set_cons_zero, List.set_cons_succ, List.take_succ_cons, List.drop_succ_cons, List.drop_zero, List.take_length, or_true, true_or, and_true, true_and, and_self, Nat.reduceLeDiff, eq_self, e0, e1, e5, hlt, len_pvL, idx_pvL f ht, cell0, cell1, cell2, cell3, pv_dn, pv_ow, pv_maxRef, dn_pvL, ow_pvL, h2, hA1]
          exact ⟨_, rfl, by simp, .inr ⟨rfl, rfl, _, _, rfl, rfl⟩⟩
        | false =>
          rw [hfA] at hA1
          rw [hA2 hfA] at hA1
          cases hfB : fars l[i].B with
          | true =>
            have hft : fars l = true := by rw [← hm]; simp [hfB]
            rw [hfB] at hB1
            refine .inr ?_
            rw [hft]
            simp only [pcS_seq, pcS_region, pcS_block, pcS_cond, pcS_loop, pcS_exit, pcS_ret, pcS_skip, popsL_nil, popsL_cons, pop_plain, pop_guard, wantS_eq, wantD_some, wantV_t, wantV_f, wantV_tup, guardP_true, guardP_false, bindS_normal, bindS_exit, bindS_ret, blockS_normal, blockS_exit, blockS_ret, bindP_some, doneR_some, condS_true, condS_false, pickI_some, pickI_none, pickR_some, pickR_none, pickL_some, endS_normal, endS_ret, setS_some, resV_none, resV_one, dstOk, doesTake, inert_move, inert_assign, inert_pick, inert_build, inert_buildSlice, inert_load, inert_nilCheck, inert_binOp, inert_unOp, inert_convert, inert_slice, inert_fieldAddr, inert_field, inert_indexAddr, inert_index, inert_extract, inert_builtin, inert_call, inert_alloc, inert_box, inert_store, pickB_bv, loadI_ep, loadI_ptr, nilI_ptr, nilI_ep, unI_not, extrI_tup, pureC_ok, callI_fn, read_load, read_alloc, read_box, read_store, read_call, loadR_ptr, boxR_cells, loud_load, loud_store, loud_alloc, loud_box, loud_call, loadL_ptr, boxL_cells, storeL_ptr, boxS_cells, boxN_eq, callL_fn, put, drop, takes, restrict, ev, lk, params, annF, bodyF, aggF, sizeF, elemF, fieldF, partF, List.zipIdx, List.zipIdx_cons, List.zipIdx_nil, List.map, List.map_cons, List.map_nil, Option.getD_some, Nat.reduceLT, Nat.reduceAdd, Nat.reduceEqDiff, Nat.reduceMul, Int.reduceEq, decide_true, decide_false, Bool.false_eq_true, Bool.and_true, Bool.false_and, Bool.and_false, Bool.true_and, Bool.and_self, if_true, if_false, reduceIte, List.contains_nil, List.contains_cons, beq_self_eq_true, Nat.reduceBEq, Bool.or_false, Bool.false_or, Bool.or_true, Bool.true_or, Bool.not_true, Bool.not_false, ofVal_iv, ofVal_bv, dn_iv, ow_iv, dn_bv, ow_bv, dn_fn, dn_ptr, dn_ep, dn_agg, dn_tup, dn_nilsl, dn_own, dn_sh, dn_ex, ow_ptr, ow_ep, ow_agg, ow_tup, ow_nilsl, ow_own, ow_sh, ow_ex, maxRef_iv, maxRef_bv, maxRef_agg, maxRef_tup, maxRefs_nil, maxRefs_cons, Nat.max_self, Nat.zero_le, List.cons_append, List.nil_append, List.append_nil, pBuiltin, tys1, Option.bind_some, Option.map_some, resultOf, List.getElem?_cons_zero, List.getElem?_cons_succ, cells_agg, cells_iv, solid_iv, solid_agg, List.length_cons, List.length_nil, Nat.zero_add, List.take_zero, List.take_nil, add_iv, sub_iv, mul_iv, lss_iv, leq_iv, gtr_iv, geq_iv, eql_iv, neq_iv, arr2, List.set_cons_zero, List.set_cons_succ, List.take_succ_cons, List.drop_succ_cons, List.drop_zero, List.take_length, or_true, true_or, and_true, true_and, and_self, Nat.reduceLeDiff, eq_self, e0, e1, e5, hlt, len_pvL, idx_pvL f ht, cell0, cell1, cell2, cell3, pv_dn, pv_ow, pv_maxRef, dn_pvL, ow_pvL, h2, hA1, hB1]
            exact ⟨_, rfl, by simp, .inr ⟨rfl, rfl, _, _, rfl, rfl⟩⟩
          | false =>
            rw [hfB] at hB1
            rw [hB2 hfB] at hB1
            have hfl : fars (l.drop (i + 1)) = fars l := by rw [← hm]; simp [h2, hfA, hfB]
            refine .inl ?_
            simp only [pcS_seq, pcS_region, pcS_block, pcS_cond, pcS_loop, pcS_exit, pcS_ret, pcS_skip, popsL_nil, popsL_cons, pop_plain, pop_guard, wantS_eq, wantD_some, wantV_t, wantV_f, wantV_tup, guardP_true, guardP_false, bindS_normal, bindS_exit, bindS_ret, blockS_normal, blockS_exit, blockS_ret, bindP_some, doneR_some, condS_true, condS_false, pickI_some, pickI_none, pickR_some, pickR_none, pickL_some, endS_normal, endS_ret, setS_some, resV_none, resV_one, dstOk, doesTake, inert_move, inert_assign, inert_pick, inert_build, inert_buildSlice, inert_load, inert_nilCheck, inert_binOp, inert_unOp, inert_convert, inert_slice, inert_fieldAddr, inert_field, inert_indexAddr, inert_index, inert_extract, inert_builtin, inert_call, inert_alloc, inert_box, inert_store, pickB_bv, loadI_ep, loadI_ptr, nilI_ptr, nilI_ep, unI_not, extrI_tup, pureC_ok, callI_fn, read_load, read_alloc, read_box, read_store, read_call, loadR_ptr, boxR_cells, loud_load, loud_store, loud_alloc, loud_box, loud_call, loadL_ptr, boxL_cells, storeL_ptr, boxS_cells, boxN_eq, callL_fn, put, drop, takes, restrict, ev, lk, params, annF, bodyF, aggF, sizeF, elemF, fieldF, partF, List.zipIdx, List.zipIdx_cons, List.zipIdx_nil, List.map, List.map_cons, List.map_nil, Option.getD_some, Nat.reduceLT, Nat.reduceAdd, Nat.reduceEqDiff, Nat.reduceMul, Int.reduceEq, decide_true, decide_false, Bool.false_eq_true, Bool.and_true, Bool.false_and, Bool.and_false, Bool.true_and, Bool.and_self, if_true, if_false, reduceIte, List.contains_nil, List.contains_cons, beq_self_eq_true, Nat.reduceBEq, Bool.or_false, Bool.false_or, Bool.or_true, Bool.true_or, Bool.not_true, Bool.not_false, ofVal_iv, ofVal_bv, dn_iv, ow_iv, dn_bv, ow_bv, dn_fn, dn_ptr, dn_ep, dn_agg, dn_tup, dn_nilsl, dn_own, dn_sh, dn_ex, ow_ptr, ow_ep, ow_agg, ow_tup, ow_nilsl, ow_own, ow_sh, ow_ex, maxRef_iv, maxRef_bv, maxRef_agg, maxRef_tup, maxRefs_nil, maxRefs_cons, Nat.max_self, Nat.zero_le, List.cons_append, List.nil_append, List.append_nil, pBuiltin, tys1, Option.bind_some, Option.map_some, resultOf, List.getElem?_cons_zero, List.getElem?_cons_succ, cells_agg, cells_iv, solid_iv, solid_agg, List.length_cons, List.length_nil, Nat.zero_add, List.take_zero, List.take_nil, add_iv, sub_iv, mul_iv, lss_iv, leq_iv, gtr_iv, geq_iv, eql_iv, neq_iv, arr2, List.set_cons_zero, List.set_cons_succ, List.take_succ_cons, List.drop_succ_cons, List.drop_zero, List.take_length, or_true, true_or, and_true, true_and, and_self, Nat.reduceLeDiff, eq_self, e0, e1, e5, hlt, hW, len_pvL, idx_pvL f ht, cell0, cell1, cell2, cell3, pv_dn, pv_ow, pv_maxRef, dn_pvL, ow_pvL, h2, hA1, hB1]
            exact ⟨_, d, by omega, rfl, _, i + 1, by omega, rfl, rfl, rfl, rfl, hfl⟩
  clear hL
  obtain ⟨x, s⟩ := r
  rcases hJ with ⟨hx, hb, env1, hs, f1⟩ | ⟨hx, hb, env1, st1, hs, f4⟩
  · simp only at hx hs
    subst hx hs
    rw [hb]
    simp only [pcS_seq, pcS_region, pcS_block, pcS_cond, pcS_loop, pcS_exit, pcS_ret, pcS_skip, popsL_nil, popsL_cons, pop_plain, pop_guard, wantS_eq, wantD_some, wantV_t, wantV_f, wantV_tup, guardP_true, guardP_false, bindS_normal, bindS_exit, bindS_ret, blockS_normal, blockS_exit, blockS_ret, bindP_some, doneR_some, condS_true, condS_false, pickI_some, pickI_none, pickR_some, pickR_none, pickL_some, endS_normal, endS_ret, setS_some, resV_none, resV_one, dstOk, doesTake, inert_move, inert_assign, inert_pick, inert_build, inert_buildSlice, inert_load, inert_nilCheck, inert_binOp, inert_unOp, inert_convert, inert_slice, inert_fieldAddr, inert_field, inert_indexAddr, inert_index, inert_extract, inert_builtin, inert_call, inert_alloc, inert_box, inert_store, pickB_bv, loadI_ep, loadI_ptr, nilI_ptr, nilI_ep, unI_not, extrI_tup, pureC_ok, callI_fn, read_load, read_alloc, read_box, read_store, read_call, loadR_ptr, boxR_cells, loud_load, loud_store, loud_alloc, loud_box, loud_call, loadL_ptr, boxL_cells, storeL_ptr, boxS_cells, boxN_eq, callL_fn, put, drop, takes, restrict, ev, lk, params, annF, bodyF, aggF, sizeF, elemF, fieldF, partF, List.zipIdx, List.zipIdx_cons, List.zipIdx_nil, List.map, List.map_cons, List.map_nil, Option.getD_some, Nat.reduceLT, Nat.reduceAdd, Nat.reduceEqDiff, Nat.reduceMul, Int.reduceEq, decide_true, decide_false, Bool.false_eq_true, Bool.and_true, Bool.false_and, Bool.and_false, Bool.true_and, Bool.and_self, if_true, if_false, reduceIte, List.contains_nil, List.contains_cons, beq_self_eq_true, Nat.reduceBEq, Bool.or_false, Bool.false_or, Bool.or_true, Bool.true_or, Bool.not_true, Bool.not_false, ofVal_iv, ofVal_bv, dn_iv, ow_iv, dn_bv, ow_bv, dn_fn, dn_ptr, dn_ep, dn_agg, dn_tup, dn_nilsl, dn_own, dn_sh, dn_ex, ow_ptr, ow_ep, ow_agg, ow_tup, ow_nilsl, ow_own, ow_sh, ow_ex, maxRef_iv, maxRef_bv, maxRef_agg, maxRef_tup, maxRefs_nil, maxRefs_cons, Nat.max_self, Nat.zero_le, List.cons_append, List.nil_append, List.append_nil, pBuiltin, tys1, Option.bind_some, Option.map_some, resultOf, List.getElem?_cons_zero, List.getElem?_cons_succ, cells_agg, cells_iv, solid_iv, solid_agg, List.length_cons, List.length_nil, Nat.zero_add, List.take_zero, List.take_nil, add_iv, sub_iv, mul_iv, lss_iv, leq_iv, gtr_iv, geq_iv, eql_iv, neq_iv, arr2, List.set_cons_zero, List.set_cons_succ, List.take_succ_cons, List.drop_succ_cons, List.drop_zero, List.take_length, or_true, true_or, and_true, true_and, and_self, Nat.reduceLeDiff, eq_self, f1, ex0_eq, len_ex0, Int.lt_irrefl]
    exact ⟨_, rfl, fun _ => rfl⟩
  · simp only at hx hs
    subst hx hs
    rw [hb]
    simp only [pcS_seq, pcS_region, pcS_block, pcS_cond, pcS_loop, pcS_exit, pcS_ret, pcS_skip, popsL_nil, popsL_cons, pop_plain, pop_guard, wantS_eq, wantD_some, wantV_t, wantV_f, wantV_tup, guardP_true, guardP_false, bindS_normal, bindS_exit, bindS_ret, blockS_normal, blockS_exit, blockS_ret, bindP_some, doneR_some, condS_true, condS_false, pickI_some, pickI_none, pickR_some, pickR_none, pickL_some, endS_normal, endS_ret, setS_some, resV_none, resV_one, dstOk, doesTake, inert_move, inert_assign, inert_pick, inert_build, inert_buildSlice, inert_load, inert_nilCheck, inert_binOp, inert_unOp, inert_convert, inert_slice, inert_fieldAddr, inert_field, inert_indexAddr, inert_index, inert_extract, inert_builtin, inert_call, inert_alloc, inert_box, inert_store, pickB_bv, loadI_ep, loadI_ptr, nilI_ptr, nilI_ep, unI_not, extrI_tup, pureC_ok, callI_fn, read_load, read_alloc, read_box, read_store, read_call, loadR_ptr, boxR_cells, loud_load, loud_store, loud_alloc, loud_box, loud_call, loadL_ptr, boxL_cells, storeL_ptr, boxS_cells, boxN_eq, callL_fn, put, drop, takes, restrict, ev, lk, params, annF, bodyF, aggF, sizeF, elemF, fieldF, partF, List.zipIdx, List.zipIdx_cons, List.zipIdx_nil, List.map, List.map_cons, List.map_nil, Option.getD_some, Nat.reduceLT, Nat.reduceAdd, Nat.reduceEqDiff, Nat.reduceMul, Int.reduceEq, decide_true, decide_false, Bool.false_eq_true, Bool.and_true, Bool.false_and, Bool.and_false, Bool.true_and, Bool.and_self, if_true, if_false, reduceIte, List.contains_nil, List.contains_cons, beq_self_eq_true, Nat.reduceBEq, Bool.or_false, Bool.false_or, Bool.or_true, Bool.true_or, Bool.not_true, Bool.not_false, ofVal_iv, ofVal_bv, dn_iv, ow_iv, dn_bv, ow_bv, dn_fn, dn_ptr, dn_ep, dn_agg, dn_tup, dn_nilsl, dn_own, dn_sh, dn_ex, ow_ptr, ow_ep, ow_agg, ow_tup, ow_nilsl, ow_own, ow_sh, ow_ex, maxRef_iv, maxRef_bv, maxRef_agg, maxRef_tup, maxRefs_nil, maxRefs_cons, Nat.max_self, Nat.zero_le, List.cons_append, List.nil_append, List.append_nil, pBuiltin, tys1, Option.bind_some, Option.map_some, resultOf, List.getElem?_cons_zero, List.getElem?_cons_succ, cells_agg, cells_iv, solid_iv, solid_agg, List.length_cons, List.length_nil, Nat.zero_add, List.take_zero, List.take_nil, add_iv, sub_iv, mul_iv, lss_iv, leq_iv, gtr_iv, geq_iv, eql_iv, neq_iv, arr2, List.set_cons_zero, List.set_cons_succ, List.take_succ_cons, List.drop_succ_cons, List.drop_zero, List.take_length, or_true, true_or, and_true, true_and, and_self, Nat.reduceLeDiff, eq_self, f4]
    exact ⟨_, rfl, fun h => by cases h⟩

theorem plain_list (l : List T) (h : ∀ t, t ∈ l → ∀ lp, t.good lp → t.wt < 2 ^ 61 → ∀ k, t.wt ≤ k →
      (∃ st, pcall Try.prog ann noSums k 14 [pvL t.fa t.A, .ptr 0 0] [ex0] = some (bv (fars t.A), st) ∧ (fars t.A = false → st = [ex0])) ∧
      (∃ st, pcall Try.prog ann noSums k 14 [pvL t.fb t.B, .ptr 0 0] [ex0] = some (bv (fars t.B), st) ∧ (fars t.B = false → st = [ex0]))) (lp : Bool) (hg : goods l lp) (hb : wts l < 2 ^ 61) (f : E) :
    ∀ k, wts l + 2 ≤ k → ∃ st, pcall Try.prog ann noSums k 14 [pvL f l, .ptr 0 0] [ex0] = some (bv (fars l), st) ∧ (fars l = false → st = [ex0]) := by
  intro k hk
  have hl := wts_len l
  obtain ⟨k, rfl⟩ : ∃ j, k = j + 3 := ⟨k - 3, by omega⟩
  refine plain_step (k + 2) f l lp (by omega) (by omega) hg (fun i t ht => ?_) (fun i t ht => ?_) (fun f x => plain_nil k f x)
  · have hm := List.mem_of_getElem? ht
    have := wts_mem hm
    exact (h t hm lp (goods_mem hg hm) (by omega) (k + 2) (by omega)).1
  · have hm := List.mem_of_getElem? ht
    have := wts_mem hm
    exact (h t hm lp (goods_mem hg hm) (by omega) (k + 2) (by omega)).2

theorem plain_parts : ∀ t : T, ∀ lp, t.good lp → t.wt < 2 ^ 61 → ∀ k, t.wt ≤ k →
      (∃ st, pcall Try.prog ann noSums k 14 [pvL t.fa t.A, .ptr 0 0] [ex0] = some (bv (fars t.A), st) ∧ (fars t.A = false → st = [ex0])) ∧
      (∃ st, pcall Try.prog ann noSums k 14 [pvL t.fb t.B, .ptr 0 0] [ex0] = some (bv (fars t.B), st) ∧ (fars t.B = false → st = [ex0])) := by
  refine T.ind ?_
  intro kd n fa A fb B hA hB lp hg hb k hk
  obtain ⟨la, gA⟩ := good_A hg
  obtain ⟨lb, gB⟩ := good_B hg
  rw [wt_mk] at hb hk
  have wA := wts_len A
  have wB := wts_len B
  exact ⟨plain_list A hA la gA (by omega) fa k (by omega), plain_list B hB lb gB (by omega) fb k (by omega)⟩

theorem plain_tree (f : E) (l : List T) (lp : Bool) (hg : goods l lp) (hb : wts l < 2 ^ 61) (k : Nat) (hk : wts l + 2 ≤ k) :
    ∃ st, pcall Try.prog ann noSums k 14 [pvL f l, .ptr 0 0] [ex0] = some (bv (fars l), st) ∧ (fars l = false → st = [ex0]) :=
  plain_list l (fun t _ => plain_parts t) lp hg hb f k hk

end Go.Proofs.Ytfmelnhlljgooaa.PE
