/-
  PE, part 13: a region, in the text's order and in every order that it may be done in. Holds for every Program; no condition.
-/
import Derived.Test.YtnjlkgmcoengnaaGreatPf12
set_option linter.unusedSimpArgs false
set_option linter.unusedVariables false
namespace Go.Proofs.YtnjlkgmcoengnaaGreat.PE
open Go

/-- One operation's row of those that come before it. -/
def beforeOf (md : Region.Mode) (acc : Array Nat) (o : Oper) : Nat :=
  o.after.foldl (fun s e => if Region.binds md e then s ||| 2 ^ e.on ||| acc.getD e.on 0 else s) 0

theorem beforeOf_spec (md : Region.Mode) (acc : Array Nat) (i : Nat) : ∀ (l : List Edge) (s : Nat), (l.foldl (fun s e => if Region.binds md e then s ||| 2 ^ e.on ||| acc.getD e.on 0 else s) s).testBit i = true →
    s.testBit i = true ∨ ∃ e, e ∈ l ∧ Region.binds md e = true ∧ (e.on = i ∨ (acc.getD e.on 0).testBit i = true)
  | [], s, h => .inl h
  | e :: l, s, h => by
    rw [List.foldl_cons] at h
    rcases beforeOf_spec md acc i l _ h with h1 | ⟨e', he', h1⟩
    · split at h1
      · rename_i hb
        rw [Nat.testBit_or, Nat.testBit_or, Bool.or_eq_true, Bool.or_eq_true] at h1
        rcases h1 with (h1 | h1) | h1
        · exact .inl h1
        · rw [Nat.testBit_two_pow] at h1
          exact .inr ⟨e, by simp, hb, .inl (by simpa using h1)⟩
        · exact .inr ⟨e, by simp, hb, .inr h1⟩
      · exact .inl h1
    · exact .inr ⟨e', by simp [he'], h1⟩

theorem before_go (md : Region.Mode) (i : Nat) : ∀ (l : List Oper) (acc : Array Nat),
    let F := l.foldl (fun acc o => acc.push (beforeOf md acc o)) acc
    (∀ m, m < acc.size → F.getD m 0 = acc.getD m 0) ∧
    ∀ k o, l[k]? = some o → (F.getD (acc.size + k) 0).testBit i = true → ∃ e, e ∈ o.after ∧ Region.binds md e = true ∧ (e.on = i ∨ (F.getD e.on 0).testBit i = true)
  | [], acc => ⟨fun _ _ => rfl, fun k o h => by simp at h⟩
  | o :: l, acc => by
    obtain ⟨h1, h2⟩ := before_go md i l (acc.push (beforeOf md acc o))
    have hold : ∀ m, m < acc.size → ((acc.push (beforeOf md acc o)).getD m 0) = acc.getD m 0 := by
      intro m hm
      simp only [Array.getD_eq_getD_getElem?, Array.getElem?_push]
      rw [if_neg (by omega)]
    refine ⟨fun m hm => ?_, fun k o' hk ht => ?_⟩
    · rw [List.foldl_cons, h1 m (by simp; omega), hold m hm]
    · rw [List.foldl_cons] at ht ⊢
      cases k with
      | zero =>
        simp only [List.getElem?_cons_zero, Option.some.injEq] at hk
        subst hk
        rw [Nat.add_zero, h1 acc.size (by simp)] at ht
        have hv : (acc.push (beforeOf md acc o)).getD acc.size 0 = beforeOf md acc o := by simp [Array.getD_eq_getD_getElem?]
        rw [hv] at ht
        unfold beforeOf at ht
        rw [← Array.foldl_toList] at ht
        rcases beforeOf_spec md acc i _ _ ht with hz | ⟨e, he, hb, hx⟩
        · simp at hz
        · refine ⟨e, Array.mem_toList_iff.1 he, hb, ?_⟩
          rcases hx with hx | hx
          · exact .inl hx
          · refine .inr ?_
            rcases Nat.lt_or_ge e.on acc.size with hm | hm
            · rw [h1 _ (by simp; omega), hold _ hm]; exact hx
            · rw [Array.getD_eq_getD_getElem?, Array.getElem?_eq_none hm] at hx; simp at hx
      | succ k =>
        refine h2 k o' (by simpa using hk) ?_
        have : (acc.push (beforeOf md acc o)).size + k = acc.size + (k + 1) := by simp; omega
        rw [this]
        exact ht

def Bef (md : Region.Mode) (ops : Array Oper) (i j : Nat) : Prop := ((beforeM md ops).getD j 0).testBit i = true

theorem Bef.spec {md : Region.Mode} {ops : Array Oper} {i j : Nat} (h : Bef md ops i j) {o : Oper} (ho : ops[j]? = some o) :
    ∃ e, e ∈ o.after ∧ Region.binds md e = true ∧ (e.on = i ∨ Bef md ops i e.on) := by
  have hb : beforeM md ops = ops.toList.foldl (fun acc o => acc.push (beforeOf md acc o)) #[] := by
    unfold beforeM
    rw [← Array.foldl_toList]
    rfl
  have := (before_go md i ops.toList #[]).2 j o (by rw [Array.getElem?_toList]; exact ho)
  unfold Bef at h ⊢
  rw [hb] at h ⊢
  simp only [Array.size_empty, Nat.zero_add] at this
  exact this h

def popsF (C : Ctx) (ops : Array Oper) : List Nat → FE → Store → Option (List (Nat × Cls) × FE × Store)
  | [], e, st => some ([], e, st)
  | i :: r, e, st =>
    match ops[i]? with
    | none => none
    | some o =>
      match popF C ops o e st with
      | none => none
      | some (c, e1, st1) =>
        match popsF C ops r e1 st1 with
        | none => none
        | some (cs, e2, st2) => some ((i, c) :: cs, e2, st2)

theorem popsF_eq (C : Ctx) (ops : Array Oper) : ∀ (l : List Nat) (s : PS) (cs : List (Nat × Cls)) (s' : PS), pops C ops l s = some (cs, s') → popsF C ops l (lk s.env) s.st = some (cs, lk s'.env, s'.st)
  | [], s, cs, s', h => by
    simp only [pops, Option.some.injEq, Prod.mk.injEq] at h
    obtain ⟨rfl, rfl⟩ := h
    rfl
  | i :: r, s, cs, s', h => by
    simp only [pops] at h
    simp only [popsF]
    split at h
    · cases h
    · rename_i o ho
      rw [ho]
      have he := popF_eq C ops o s
      split at h
      · cases h
      · rename_i c s1 hp
        rw [hp] at he
        dsimp only
        rw [← he]
        dsimp only [Option.map_some]
        split at h
        · cases h
        · rename_i cs2 s2 hps
          simp only [Option.some.injEq, Prod.mk.injEq] at h
          obtain ⟨rfl, rfl⟩ := h
          rw [popsF_eq C ops r s1 cs2 s2 hps]

theorem popsF_append {C : Ctx} {ops : Array Oper} : ∀ (l l' : List Nat) {e e2 : FE} {st st2 : Store} {cs : List (Nat × Cls)}, popsF C ops (l ++ l') e st = some (cs, e2, st2) →
    ∃ cs1 cs2 e1 st1, popsF C ops l e st = some (cs1, e1, st1) ∧ popsF C ops l' e1 st1 = some (cs2, e2, st2) ∧ cs = cs1 ++ cs2
  | [], l', e, e2, st, st2, cs, h => ⟨[], cs, e, st, rfl, h, rfl⟩
  | i :: r, l', e, e2, st, st2, cs, h => by
    simp only [List.cons_append, popsF] at h
    split at h
    · cases h
    · rename_i o ho
      split at h
      · cases h
      · rename_i c e1 st1 hp
        split at h
        · cases h
        · rename_i cs3 e3 st3 hps
          simp only [Option.some.injEq, Prod.mk.injEq] at h
          obtain ⟨rfl, rfl, rfl⟩ := h
          obtain ⟨cs1, cs2, e4, st4, h1, h2, rfl⟩ := popsF_append r l' hps
          exact ⟨(i, c) :: cs1, cs2, e4, st4, by simp only [popsF, ho, hp, h1], h2, rfl⟩

theorem popsF_join {C : Ctx} {ops : Array Oper} : ∀ (l l' : List Nat) {e e1 e2 : FE} {st st1 st2 : Store} {cs1 cs2 : List (Nat × Cls)}, popsF C ops l e st = some (cs1, e1, st1) →
    popsF C ops l' e1 st1 = some (cs2, e2, st2) → popsF C ops (l ++ l') e st = some (cs1 ++ cs2, e2, st2)
  | [], l', e, e1, e2, st, st1, st2, cs1, cs2, h, h' => by
    simp only [popsF, Option.some.injEq, Prod.mk.injEq] at h
    obtain ⟨rfl, rfl, rfl⟩ := h
    exact h'
  | i :: r, l', e, e1, e2, st, st1, st2, cs1, cs2, h, h' => by
    simp only [popsF] at h
    split at h
    · cases h
    · rename_i o ho
      split at h
      · cases h
      · rename_i c e3 st3 hp
        split at h
        · cases h
        · rename_i cs3 e4 st4 hps
          simp only [Option.some.injEq, Prod.mk.injEq] at h
          obtain ⟨rfl, rfl, rfl⟩ := h
          simp only [List.cons_append, popsF, ho, hp, popsF_join r l' hps h']

theorem popsF_fst {C : Ctx} {ops : Array Oper} : ∀ (l : List Nat) {e e1 : FE} {st st1 : Store} {cs : List (Nat × Cls)}, popsF C ops l e st = some (cs, e1, st1) → cs.map Prod.fst = l
  | [], e, e1, st, st1, cs, h => by
    simp only [popsF, Option.some.injEq, Prod.mk.injEq] at h
    obtain ⟨rfl, rfl, rfl⟩ := h
    rfl
  | i :: r, e, e1, st, st1, cs, h => by
    simp only [popsF] at h
    split at h
    · cases h
    · split at h
      · cases h
      · split at h
        · cases h
        · rename_i hps
          simp only [Option.some.injEq, Prod.mk.injEq] at h
          obtain ⟨rfl, rfl, rfl⟩ := h
          simp [popsF_fst r hps]

theorem free_spec {take : List Nat} {ops : Array Oper} {i j : Nat × Cls} (h : free take ops i j = true) {x y : Oper} (hx : ops[i.1]? = some x) (hy : ops[j.1]? = some y) :
    Apart take ops x y ∧ lets i.2 j.2 = true := by
  unfold free at h
  rw [hx, hy] at h
  simp only [Bool.and_eq_true] at h
  exact ⟨apart_spec h.2 h.1.2, h.1.1⟩

/-- One that is apart from all ahead of it may be done first. -/
theorem bubble {C : Ctx} {ops : Array Oper} {i : Nat} {y : Oper} {cy : Cls} (hi : ops[i]? = some y) : ∀ (l : List Nat) {e e1 e2 : FE} {st st1 st2 : Store} {cs : List (Nat × Cls)},
    popsF C ops l e st = some (cs, e1, st1) → popF C ops y e1 st1 = some (cy, e2, st2) → (∀ p, p ∈ cs → free (C.ann C.fn).take ops p (i, cy) = true) →
    ∃ e' st', popF C ops y e st = some (cy, e', st') ∧ popsF C ops l e' st' = some (cs, e2, st2)
  | [], e, e1, e2, st, st1, st2, cs, h, hy, hf => by
    simp only [popsF, Option.some.injEq, Prod.mk.injEq] at h
    obtain ⟨rfl, rfl, rfl⟩ := h
    exact ⟨e2, st2, hy, rfl⟩
  | j :: r, e, e1, e2, st, st1, st2, cs, h, hy, hf => by
    simp only [popsF] at h
    split at h
    · cases h
    · rename_i x hx
      split at h
      · cases h
      · rename_i c e3 st3 hp
        split at h
        · cases h
        · rename_i cs3 e4 st4 hps
          simp only [Option.some.injEq, Prod.mk.injEq] at h
          obtain ⟨rfl, rfl, rfl⟩ := h
          obtain ⟨e', st', h1, h2⟩ := bubble hi r hps hy fun p hp => hf p (by simp [hp])
          obtain ⟨ha, hc⟩ := free_spec (hf (j, c) (by simp)) hx hi
          obtain ⟨e5, st5, h3, h4⟩ := swap ha hc hp h1
          exact ⟨e5, st5, h3, by simp only [popsF, hx, h4, h2]⟩

/-- Where not all is done, one is ready. -/
theorem topo_ready {md : Region.Mode} {ops : Array Oper} {listed : Array Bool} (hsz : listed.size = ops.size) : ∀ (T done : List Nat), topoOk md ops done T = true → (∀ d, d ∈ done → listed.getD d false = true) →
    (∃ k, k ∈ T ∧ listed.getD k true = false) → ∃ i, i ∈ Region.ready md ops listed
  | [], _, _, _, h => by obtain ⟨k, hk, _⟩ := h; cases hk
  | i :: r, done, h, hd, hk => by
    simp only [topoOk, Bool.and_eq_true] at h
    obtain ⟨h1, h2⟩ := h
    cases ho : ops[i]? with
    | none => rw [ho] at h1; cases h1
    | some o =>
      rw [ho] at h1
      have hi := (Array.getElem?_eq_some_iff.1 ho).1
      cases hl : listed.getD i true with
      | false =>
        refine ⟨i, mem_ready.2 ⟨hl, o, ho, fun e he hb => ?_⟩⟩
        have := Array.all_eq_true_iff_forall_mem.1 h1 e he
        simp only [hb, Bool.not_true, Bool.false_or] at this
        exact hd e.on (by simpa using this)
      | true =>
        refine topo_ready hsz r (i :: done) h2 (fun d hdm => ?_) ?_
        · rcases List.mem_cons.1 hdm with rfl | hdm
          · have : d < listed.size := by omega
            simpa [Array.getD_eq_getD_getElem?, Array.getElem?_eq_getElem this] using hl
          · exact hd d hdm
        · obtain ⟨k, hk, hkl⟩ := hk
          rcases List.mem_cons.1 hk with rfl | hk
          · rw [hl] at hkl; cases hkl
          · exact ⟨k, hk, hkl⟩

theorem any_sound {C : Ctx} (hcall : CallSound C.P C.call) {E : Entry} (hE : C.base = E.st.length) {ops : Array Oper} {md : Region.Mode} {T : List Nat} (htopo : topoOk md ops [] T = true) (hall : ∀ k, k < ops.size → k ∈ T) {Q : Exit → Act → World → Prop} {D : List Deferred} {eN : FE} {stN : Store}
    (hq : ∀ a' g' w' env, a'.defers = D → lk env = eN → St E C.ntmps g' w' env a'.tmps stN → Q .normal a' w') :
    ∀ (fuel : Nat) (listed : Array Bool) (L : List Nat) (s : PS) (cs : List (Nat × Cls)) (a : Act) (g : Gh) (w : World),
      listed.size = ops.size → L.length ≤ fuel → L.Pairwise (· < ·) → (∀ k, k ∈ L ↔ k < ops.size ∧ listed.getD k true = false) →
      (∀ i j, Bef md ops i j → listed.getD j false = true → listed.getD i false = true) →
      popsF C ops L (lk s.env) s.st = some (cs, eN, stN) →
      (∀ p q, p ∈ cs → q ∈ cs → p.1 < q.1 → Bef md ops p.1 q.1 ∨ free (C.ann C.fn).take ops p q = true) →
      St E C.ntmps g w s.env a.tmps s.st → a.defers = D → wpAny C.P md ops Q fuel listed a w := by
  have hget : ∀ (listed : Array Bool) (k : Nat), k < listed.size → listed.getD k true = listed.getD k false := by
    intro listed k hk
    simp [Array.getD_eq_getD_getElem?, Array.getElem?_eq_getElem hk]
  have hstop : ∀ (listed : Array Bool) (L : List Nat) (s : PS) (cs : List (Nat × Cls)) (a : Act) (g : Gh) (w : World),
      listed.size = ops.size → L.Pairwise (· < ·) → (∀ k, k ∈ L ↔ k < ops.size ∧ listed.getD k true = false) →
      popsF C ops L (lk s.env) s.st = some (cs, eN, stN) → St E C.ntmps g w s.env a.tmps s.st → a.defers = D → Region.ready md ops listed = [] → Q .normal a w := by
    intro listed L s cs a g w hsz hsort hL hp hst hD hr
    cases L with
    | nil =>
      simp only [popsF, Option.some.injEq, Prod.mk.injEq] at hp
      obtain ⟨_, h1, h2⟩ := hp
      rw [h2] at hst
      exact hq a g w s.env hD h1 hst
    | cons i r =>
      exfalso
      obtain ⟨hlt, hun⟩ := (hL i).1 (by simp)
      obtain ⟨k, hk⟩ := topo_ready hsz T [] htopo (by simp) ⟨i, hall i hlt, hun⟩
      rw [hr] at hk
      cases hk
  intro fuel
  induction fuel with
  | zero =>
    intro listed L s cs a g w hsz hfuel hsort hL hcl hp hfree hst hD
    have hnil : L = [] := List.eq_nil_of_length_eq_zero (by omega)
    have hr : Region.ready md ops listed = [] := by
      cases hr : Region.ready md ops listed with
      | nil => rfl
      | cons i r =>
        have := mem_ready.1 (hr ▸ List.mem_cons_self : i ∈ Region.ready md ops listed)
        obtain ⟨h0, o, ho, _⟩ := this
        have := (hL i).2 ⟨(Array.getElem?_eq_some_iff.1 ho).1, h0⟩
        rw [hnil] at this
        cases this
    exact ⟨hr, hstop listed L s cs a g w hsz hsort hL hp hst hD hr⟩
  | succ fuel ih =>
    intro listed L s cs a g w hsz hfuel hsort hL hcl hp hfree hst hD
    refine ⟨fun hr => hstop listed L s cs a g w hsz hsort hL hp hst hD hr, fun i hi => ?_⟩
    obtain ⟨h0, o, ho, hedge⟩ := mem_ready.1 hi
    have hlt := (Array.getElem?_eq_some_iff.1 ho).1
    have hmem := (hL i).2 ⟨hlt, h0⟩
    obtain ⟨l1, l2, rfl⟩ := List.append_of_mem hmem
    obtain ⟨cs1, cs2, e1, st1, hp1, hp2, rfl⟩ := popsF_append l1 (i :: l2) hp
    have hp2' := hp2
    simp only [popsF, ho] at hp2
    split at hp2
    · cases hp2
    · rename_i c e2 st2 hpi
      split at hp2
      · cases hp2
      · rename_i cs3 e3 st3 hp3
        simp only [Option.some.injEq, Prod.mk.injEq] at hp2
        obtain ⟨rfl, rfl, rfl⟩ := hp2
        have hfst := popsF_fst l1 hp1
        have hsort' := List.pairwise_append.1 hsort
        have hnot : ∀ j, Bef md ops j i → listed.getD j false = true := by
          intro j hj
          obtain ⟨e, he, hb, hx⟩ := hj.spec ho
          rcases hx with hx | hx
          · rw [← hx]; exact hedge e he hb
          · exact hcl j e.on hx (hedge e he hb)
        have hl1 : ∀ j, j ∈ l1 → listed.getD j true = false := fun j hj => ((hL j).1 (by simp [hj])).2
        obtain ⟨e', st', hq1, hq2⟩ := bubble ho l1 hp1 hpi fun p hpm => by
          have hpl : p.1 ∈ l1 := by rw [← hfst]; exact List.mem_map_of_mem hpm
          rcases hfree p (i, c) (by simp [hpm]) (by simp) (hsort'.2.2 p.1 hpl i (by simp)) with hb | hb
          · have h1 := hnot p.1 hb
            have h2 := hl1 p.1 hpl
            have h3 := ((hL p.1).1 (by simp [hpl])).1
            rw [hget listed p.1 (by omega)] at h2
            rw [h1] at h2
            cases h2
          · exact hb
        have hjoin := popsF_join l1 l2 hq2 hp3
        -- the rest, by the induction
        have hsorted : (l1 ++ l2).Pairwise (· < ·) := by
          refine List.pairwise_append.2 ⟨hsort'.1, (List.pairwise_cons.1 hsort'.2.1).2, fun x hx y hy => hsort'.2.2 x hx y (by simp [hy])⟩
        have hL' : ∀ k, k ∈ l1 ++ l2 ↔ k < ops.size ∧ (listed.setIfInBounds i true).getD k true = false := by
          intro k
          by_cases hk : k = i
          · subst hk
            refine ⟨fun hx => ?_, fun hx => ?_⟩
            · rcases List.mem_append.1 hx with hx | hx
              · have := hsort'.2.2 k hx k (by simp); omega
              · have := (List.pairwise_cons.1 hsort'.2.1).1 k hx; omega
            · have := hx.2
              have hki : k < listed.size := by omega
              simp [hki] at this
          · rw [getD_set_ne true (Ne.symm hk), ← hL k]
            simp [hk]
        have hcl' : ∀ m j, Bef md ops m j → (listed.setIfInBounds i true).getD j false = true → (listed.setIfInBounds i true).getD m false = true := by
          intro m j hb hj
          by_cases hji : j = i
          · subst hji; exact getD_set_true (hnot m hb)
          · rw [getD_set_ne false (Ne.symm hji)] at hj
            exact getD_set_true (hcl m j hb hj)
        have hfree' : ∀ p q, p ∈ cs1 ++ cs3 → q ∈ cs1 ++ cs3 → p.1 < q.1 → Bef md ops p.1 q.1 ∨ free (C.ann C.fn).take ops p q = true := by
          intro p q hp hq hpq
          refine hfree p q ?_ ?_ hpq
          · rcases List.mem_append.1 hp with hp | hp <;> simp [hp]
          · rcases List.mem_append.1 hq with hq | hq <;> simp [hq]
        -- the operation itself
        have heq := popF_eq C ops o s
        rw [hq1] at heq
        obtain ⟨⟨c', s1⟩, hpop, hs1⟩ := Option.map_eq_some_iff.1 heq
        simp only [Prod.mk.injEq] at hs1
        obtain ⟨rfl, rfl, rfl⟩ := hs1
        have hrest : ∀ a1 w1 g1, a1.defers = D → St E C.ntmps g1 w1 s1.env a1.tmps s1.st → wpAny C.P md ops Q fuel (listed.setIfInBounds i true) a1 w1 := by
          intro a1 w1 g1 hd hst1
          refine ih (listed.setIfInBounds i true) (l1 ++ l2) s1 (cs1 ++ cs3) a1 g1 w1 (by simp [hsz]) ?_ hsorted hL' hcl' hjoin hfree' hst1 hd
          simp at hfuel ⊢
          omega
        unfold wpOp
        rw [ho]
        dsimp only
        rcases pop_sound hcall hE hst hpop Q with ⟨hw, h1⟩ | ⟨hw, h1⟩
        · rw [hw]
          exact hrest _ w g ((put_defers _ _ _).trans hD) h1
        · rw [hw]
          refine .inl (Oper.wp_mono (fun a1 w1 ⟨hd, g1, hst1⟩ => hrest a1 w1 g1 (hd.trans hD) hst1) h1)

end Go.Proofs.YtnjlkgmcoengnaaGreat.PE
