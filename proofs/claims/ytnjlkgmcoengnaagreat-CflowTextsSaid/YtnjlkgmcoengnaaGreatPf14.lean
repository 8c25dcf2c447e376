/-
  PE, part 14: a function's code at work, its results, a call as a whole. Holds for every Program; no condition.
-/
import Derived.Test.YtnjlkgmcoengnaaGreatPf13
import Derived.Laws.Sem
import Derived.Tactics
set_option linter.unusedSimpArgs false
set_option linter.unusedVariables false
namespace Go.Proofs.YtnjlkgmcoengnaaGreat.PE
open Go

theorem St.drawn {E : Entry} {n : Nat} {g : Gh} {w : World} {env : Env} {tmps : Array Value} {st : Store} (h : St E n g w env tmps st) (k : Nat) :
    St E n g { w with drawn := k } env tmps st :=
  h.step (T := fun _ => False) ⟨⟨[], by simp, by simp⟩, fun _ _ h => h, fun _ _ h => .inl h, fun _ _ _ => rfl, Nat.le_refl _, fun _ _ _ => rfl, rfl, rfl, rfl, .of_heap rfl⟩ rfl
    (fun _ h => h.elim) (fun _ _ _ _ h => h) (fun _ _ _ h => h) h.s.pex

theorem binds_any {ops : Array Oper} (h : Region.departs ops = false) {o : Oper} (ho : o ∈ ops) {e : Edge} (he : e ∈ o.after) : Region.binds .any e = true := by
  unfold Region.departs at h
  rw [Array.any_eq_false'] at h
  have h1 := h o ho
  rw [Bool.not_eq_true, Array.any_eq_false'] at h1
  simpa using h1 e he

/-- A REGION. -/
theorem pregion_sound {C : Ctx} (hcall : CallSound C.P C.call) {E : Entry} (hE : C.base = E.st.length) {id : Nat} {ops : Array Oper} {draw : Bool} {s s' : PS} {a : Act} {g : Gh} {w : World} {Q : Exit → Act → World → Prop}
    (hp : pregion C ops draw s = some s') (h : St E C.ntmps g w s.env a.tmps s.st) (hq : ∀ a' g' w', a'.defers = a.defers → St E C.ntmps g' w' s'.env a'.tmps s'.st → Q .normal a' w') :
    (Code.region id ops draw).wp C.P Q a w := by
  unfold pregion at hp
  split at hp
  · cases hp
  · rename_i cs s1 hps
    split at hp
    · cases hp
    · rename_i hd
      simp only [Option.some.injEq] at hp
      subst hp
      cases draw with
      | false =>
        exact wp_region (pops_sound hcall hE Q _ s s1 cs a g w hps h fun a' g' w' hd hst => hq a' g' w' hd (hst.restrict _))
      | true =>
        simp only [Bool.true_and, Bool.not_eq_true', Bool.not_eq_false] at hd
        have one : ∀ (md : Region.Mode) (T : List Nat) (t k : Nat), modeOk md T (C.ann C.fn).take ops cs = true → wpOps C.P ops Q (Region.linearise md ops t) a { w with drawn := k } := by
          intro md T t k hm
          unfold modeOk at hm
          simp only [Bool.and_eq_true] at hm
          obtain ⟨⟨htopo, hall⟩, hord⟩ := hm
          refine wpAny_sound ops.size t _ a _ ?_
          refine any_sound hcall hE htopo (fun k hk => by simpa using List.all_eq_true.1 hall k (List.mem_range.2 hk)) (D := a.defers) (eN := lk s1.env) (stN := s1.st) (fun a' g' w' env hd he hst => ?_) ops.size _ (List.range ops.size) s cs a g _ (by simp) (by simp) List.pairwise_lt_range
            (fun k => ?_) (fun i j _ hj => ?_) (popsF_eq C ops _ s cs s1 hps) (fun p q hp hq hpq => ?_) (h.drawn _) rfl
          · refine hq a' g' w' hd ((hst.restrict (C.ann C.fn).keep).congr fun t => ?_)
            rw [lk_restrict, lk_restrict, he]
          · rw [List.mem_range]
            refine ⟨fun hk => ⟨hk, ?_⟩, fun hk => hk.1⟩
            simp [hk]
          · exfalso
            rcases Nat.lt_or_ge j ops.size with hlt | hlt
            · simp [hlt] at hj
            · rw [Array.getD_eq_getD_getElem?, Array.getElem?_eq_none (by simpa using hlt)] at hj; cases hj
          · unfold orderOk at hord
            have := List.all_eq_true.1 (List.all_eq_true.1 hord p hp) q hq
            simp only [Bool.or_eq_true, decide_eq_true_eq] at this
            rcases this with (hx | hx) | hx
            · omega
            · exact .inl hx
            · exact .inr hx
        refine wp_region_draw fun t => ?_
        unfold drawOk at hd
        unfold Region.schedule
        by_cases hmix : (C.P.follows .mixedOrders || !Region.departs ops) = true
        · rw [if_pos hmix] at hd ⊢
          exact one _ _ _ _ hd
        · rw [if_neg hmix] at hd ⊢
          rw [Bool.and_eq_true] at hd
          split
          · exact one _ _ _ _ hd.1
          · exact one _ _ _ _ hd.2

def exitOf : PX → Exit
  | .normal => .normal
  | .exit id => .exit id
  | .ret => .ret

/-- A loop, by the number of its rounds. -/
theorem wp_loop_fuel {P : Program} {Q : Exit → Act → World → Prop} {c : Code} (I : Nat → Act → World → Prop) (h0 : ∀ a w, ¬ I 0 a w)
    (round : ∀ n a w, I (n + 1) a w → c.wp P (Exit.then (I n) Q) a w) {n : Nat} {a : Act} {w : World} (h : I n a w) : (Code.loop c).wp P Q a w := by
  intro b k cs
  have key : ∀ n a w, I n a w → ∃ e a' w', Q e a' w' ∧ Arrives P (lone (b.at a (.code c :: .inLoop c :: k)) cs w) b k cs e a' w' := by
    intro n
    induction n with
    | zero => intro a w h; exact absurd h (h0 a w)
    | succ n ih =>
      intro a w hI
      obtain ⟨e, a1, w1, hq, harr⟩ := round n a w hI b (.inLoop c :: k) cs
      cases e with
      | normal =>
        obtain ⟨e2, a2, w2, hq2, harr2⟩ := ih a1 w1 hq
        exact ⟨e2, a2, w2, hq2, .of_steps (Steps.trans harr (.one step_inLoop)) harr2⟩
      | exit id => exact ⟨_, a1, w1, hq, .pass (x := .inLoop c) rfl (fun _ _ => .inl (by simp)) harr⟩
      | goto l => exact ⟨_, a1, w1, hq, .pass (x := .inLoop c) rfl (fun _ _ => .inl (by simp)) harr⟩
      | ret => exact ⟨_, a1, w1, hq, .pass (x := .inLoop c) rfl (fun _ _ => .inl (by simp)) harr⟩
      | panic ch => exact ⟨_, a1, w1, hq, .pass (x := .inLoop c) rfl (fun _ _ => .inl (by simp)) harr⟩
      | outgrown => exact ⟨_, a1, w1, hq, .pass (x := .inLoop c) rfl (fun _ _ => .inl (by simp)) harr⟩
  obtain ⟨e, a', w', hq, harr⟩ := key n a w h
  exact ⟨e, a', w', hq, .of_steps (.one step_loop) harr⟩

/-- What stands behind a piece of code. -/
def Post (E : Entry) (C : Ctx) (D : List Deferred) (x : PX) (s' : PS) : Exit → Act → World → Prop :=
  fun e a' w' => e = exitOf x ∧ a'.defers = D ∧ ∃ g', St E C.ntmps g' w' s'.env a'.tmps s'.st

/-- CODE. -/
theorem pcode_sound {C : Ctx} (hcall : CallSound C.P C.call) {E : Entry} (hE : C.base = E.st.length) (fuel : Nat) : ∀ (c : Code) (s s' : PS) (x : PX) (a : Act) (g : Gh) (w : World),
    pcode C fuel c s = some (x, s') → St E C.ntmps g w s.env a.tmps s.st → c.wp C.P (Post E C a.defers x s') a w := by
  intro c
  induction c with
  | skip =>
    intro s s' x a g w hp h
    simp only [pcode, Option.some.injEq, Prod.mk.injEq] at hp
    obtain ⟨rfl, rfl⟩ := hp
    exact wp_skip ⟨rfl, rfl, g, h⟩
  | region id ops draw =>
    intro s s' x a g w hp h
    simp only [pcode, Option.map_eq_some_iff, Prod.mk.injEq] at hp
    obtain ⟨s1, hp, rfl, rfl⟩ := hp
    exact pregion_sound hcall hE hp h fun a' g' w' hd hst => ⟨rfl, hd, g', hst⟩
  | seq c1 c2 ih1 ih2 =>
    intro s s' x a g w hp h
    simp only [pcode] at hp
    split at hp
    · rename_i s1 h1
      refine wp_seq (wp_mono (ih1 s s1 _ a g w h1 h) fun e a1 w1 ⟨he, hd, g1, hst⟩ => ?_)
      subst he
      show c2.wp C.P _ a1 w1
      rw [← hd]
      exact ih2 s1 s' x a1 g1 w1 hp hst
    · rename_i hno
      refine wp_seq (wp_mono (ih1 s s' x a g w hp h) fun e a1 w1 hpost => ?_)
      have he := hpost.1
      cases x with
      | normal => exact absurd hp (hno s')
      | exit id => subst he; exact hpost
      | ret => subst he; exact hpost
  | cond c x1 x2 ih1 ih2 =>
    intro s s' x a g w hp h
    simp only [pcode] at hp
    have hc := h.ev c
    split at hp
    · rename_i he
      rw [he] at hc
      have hv : a.eval c = .bool true := by
        have := hc.toR rfl
        generalize a.eval c = u at this
        cases this
        rfl
      exact wp_cond_true hv (ih1 s s' x a g w hp h)
    · rename_i he
      rw [he] at hc
      have hv : a.eval c = .bool false := by
        have := hc.toR rfl
        generalize a.eval c = u at this
        cases this
        rfl
      exact wp_cond_false hv (ih2 s s' x a g w hp h)
    · cases hp
  | block id c ih =>
    intro s s' x a g w hp h
    simp only [pcode] at hp
    refine wp_block ?_
    split at hp
    · rename_i j s1 h1
      refine wp_mono (ih s s1 _ a g w h1 h) fun e a1 w1 ⟨he, hd, g1, hst⟩ => ?_
      subst he
      show if j = id then _ else _
      split at hp
      · rename_i hj
        simp only [Option.some.injEq, Prod.mk.injEq] at hp
        obtain ⟨rfl, rfl⟩ := hp
        rw [if_pos hj]
        exact ⟨rfl, hd, g1, hst⟩
      · rename_i hj
        simp only [Option.some.injEq, Prod.mk.injEq] at hp
        obtain ⟨rfl, rfl⟩ := hp
        rw [if_neg hj]
        exact ⟨rfl, hd, g1, hst⟩
    · rename_i hno
      refine wp_mono (ih s s' x a g w hp h) fun e a1 w1 hpost => ?_
      have he := hpost.1
      cases x with
      | normal => subst he; exact hpost
      | exit j => exact absurd hp (hno j s')
      | ret => subst he; exact hpost
  | loop c ih =>
    intro s s' x a g w hp h
    simp only [pcode] at hp
    refine wp_loop_fuel (fun n a1 w1 => a1.defers = a.defers ∧ ∃ s1 g1, ploop (pcode C fuel c) n s1 = some (x, s') ∧ St E C.ntmps g1 w1 s1.env a1.tmps s1.st)
      (fun a1 w1 ⟨_, s1, g1, hl, _⟩ => by simp [ploop] at hl) (fun n a1 w1 ⟨hd, s1, g1, hl, hst⟩ => ?_) (n := fuel) ⟨rfl, s, g, hp, h⟩
    simp only [ploop] at hl
    split at hl
    · rename_i s2 h2
      refine wp_mono (ih s1 s2 _ a1 g1 w1 h2 hst) fun e a2 w2 ⟨he, hd2, g2, hst2⟩ => ?_
      subst he
      exact ⟨hd2.trans hd, s2, g2, hl, hst2⟩
    · rename_i hno
      refine wp_mono (ih s1 s' x a1 g1 w1 hl hst) fun e a2 w2 ⟨he, hd2, g2, hst2⟩ => ?_
      cases x with
      | normal => exact absurd hl (hno s')
      | exit j => subst he; exact ⟨rfl, hd2.trans hd, g2, hst2⟩
      | ret => subst he; exact ⟨rfl, hd2.trans hd, g2, hst2⟩
  | exit id =>
    intro s s' x a g w hp h
    simp only [pcode, Option.some.injEq, Prod.mk.injEq] at hp
    obtain ⟨rfl, rfl⟩ := hp
    exact wp_exit ⟨rfl, rfl, g, h⟩
  | ret =>
    intro s s' x a g w hp h
    simp only [pcode, Option.some.injEq, Prod.mk.injEq] at hp
    obtain ⟨rfl, rfl⟩ := hp
    exact wp_ret ⟨rfl, rfl, g, h⟩
  | rangeFunc f ps as bd _ _ => intro s s' x a g w hp h; simp [pcode] at hp
  | scope b _ => intro s s' x a g w hp h; simp [pcode] at hp
  | label l => intro s s' x a g w hp h; simp [pcode] at hp
  | goto l => intro s s' x a g w hp h; simp [pcode] at hp
  | refuse y => intro s s' x a g w hp h; simp [pcode] at hp

def resSem (tmps : Array Value) : ResultVar → Sem Value
  | .tmp t => pure (tmps.getD t undef)
  | .cell a t => do loadVar t (← asAddr (tmps.getD a undef))

theorem results_eq (fn : Func) (tmps : Array Value) : results fn tmps = (do
    let vs ← fn.results.mapM (resSem tmps)
    pure (if h : vs.size = 1 then vs[0] else .tuple vs)) := rfl

theorem resultOf_sound {E : Entry} {n : Nat} {g : Gh} {w : World} {s : PS} {tmps : Array Value} {P : Program} (h : St E n g w s.env tmps s.st) {r : ResultVar} {p : PV} (hr : resultOf P s r = some p) :
    ∃ v, (resSem tmps r).run P w = .ok v w ∧ RT g w p v ∧ ∀ blk, owns p v blk → ∃ t, slotOwns s.env tmps t blk := by
  cases r with
  | tmp t =>
    simp only [resultOf, Option.some.injEq] at hr
    subst hr
    exact ⟨_, by simp [resSem], h.regs t, fun blk hb => ⟨t, hb⟩⟩
  | cell a t =>
    simp only [resultOf] at hr
    have ha := h.regs a
    split at hr
    · rename_i b off he
      rw [he] at ha
      have ha := ha.toR rfl
      generalize hev : tmps.getD a undef = u at ha
      cases ha with
      | @ptr _ _ blk hb =>
        split at hr
        · rename_i cs hst
          obtain ⟨vs, e, hh, hsz, hcell⟩ := h.s.box b _ blk hst hb
          have hget : ∀ j, j < vs.size → vs[j]? = some (vs.getD j undef) := fun j hj => by
            simp [Array.getD_eq_getD_getElem?, Array.getElem?_eq_getElem hj]
          obtain ⟨v, h1, h2⟩ := run_loadVar (P := P) (w := w) (g := g) (blk := blk) (o := 0) (V := fun j => vs.getD j undef) hr
            (fun j hj => by
              have hj' : j < cs.length := by simpa using hj
              have hv := hget j (by omega)
              refine ⟨by rw [cell_at hh, Nat.zero_add]; exact hv, (hcell j cs[j] _ (List.getElem?_eq_getElem hj') hv).2⟩)
            (fun j c hc => by
              rw [List.getElem?_map, Option.map_eq_some_iff] at hc
              obtain ⟨c', hc', rfl⟩ := hc
              have hj := (List.getElem?_eq_some_iff.1 hc').1
              exact (hcell j c' _ hc' (hget j (by omega))).1.1)
          rw [Nat.zero_add] at h1
          refine ⟨v, ?_, .of h2, fun blk hb => (not_owns_of h2.not_ow hb).elim⟩
          simp [resSem, hev, asAddr, h1]
        · cases hr
    · cases hr

theorem run_mapM {α : Type} (f : α → Sem Value) (P : Program) (w : World) : ∀ (l : List α) (vs : List Value), l.length = vs.length →
    (∀ (i : Nat) (a : α) (v : Value), l[i]? = some a → vs[i]? = some v → (f a).run P w = .ok v w) → (l.mapM f).run P w = .ok vs w
  | [], [], _, _ => by simp
  | [], _ :: _, h, _ => by simp at h
  | _ :: _, [], h, _ => by simp at h
  | a :: l, v :: vs, h, hf => by
    have h1 := hf 0 a v rfl rfl
    have h2 := run_mapM f P w l vs (by simpa using h) fun i a' v' ha hv => hf (i + 1) a' v' (by simpa using ha) (by simpa using hv)
    simp [List.mapM_cons, h1, h2]

theorem mapM_some {α β : Type} (f : α → Option β) : ∀ (l : List α) (r : List β), l.mapM f = some r → l.length = r.length ∧ ∀ (i : Nat) (a : α) (b : β), l[i]? = some a → r[i]? = some b → f a = some b
  | [], r, h => by simp at h; subst h; exact ⟨rfl, by simp⟩
  | a :: l, r, h => by
    simp only [List.mapM_cons, Option.bind_eq_bind, Option.bind_eq_some_iff, Option.pure_def, Option.some.injEq] at h
    obtain ⟨b, hb, r', hr, rfl⟩ := h
    obtain ⟨h1, h2⟩ := mapM_some f l r' hr
    refine ⟨by simp [h1], fun i a' b' ha hb' => ?_⟩
    cases i with
    | zero => simp at ha hb'; subst ha; subst hb'; exact hb
    | succ i => exact h2 i a' b' (by simpa using ha) (by simpa using hb')

theorem choose_list {α : Type} (l : List α) (p : Nat → α → Value → Prop) (h : ∀ (i : Nat) (a : α), l[i]? = some a → ∃ v, p i a v) :
    ∃ vs : List Value, l.length = vs.length ∧ ∀ (i : Nat) (a : α) (v : Value), l[i]? = some a → vs[i]? = some v → p i a v := by
  induction l generalizing p with
  | nil => exact ⟨[], rfl, by simp⟩
  | cons a l ih =>
    obtain ⟨v, hv⟩ := h 0 a rfl
    obtain ⟨vs, h1, h2⟩ := ih (fun i => p (i + 1)) fun i a' ha => h (i + 1) a' (by simpa using ha)
    refine ⟨v :: vs, by simp [h1], fun i a' v' ha hv' => ?_⟩
    cases i with
    | zero => simp at ha hv'; subst ha; subst hv'; exact hv
    | succ i => exact h2 i a' v' (by simpa using ha) (by simpa using hv')

theorem resultsOf_sound {E : Entry} {n : Nat} {g : Gh} {w : World} {s : PS} {tmps : Array Value} {P : Program} {fn : Func} (h : St E n g w s.env tmps s.st) {r : PV} (hr : resultsOf P fn s = some r) :
    ∃ v, (results fn tmps).run P w = .ok v w ∧ RT g w r v ∧ ∀ blk, owns r v blk → ∃ t, slotOwns s.env tmps t blk := by
  have hrun : ∀ vs : List Value, (fn.results.toList.mapM (resSem tmps)).run P w = .ok vs w →
      (results fn tmps).run P w = .ok (if h : vs.toArray.size = 1 then vs.toArray[0] else .tuple vs.toArray) w := by
    intro vs hvs
    rw [results_eq, Array.mapM_eq_mapM_toList]
    simp [hvs]
  unfold resultsOf at hr
  split at hr
  · rename_i x hx
    obtain ⟨v, h1, h2, h3⟩ := resultOf_sound h hr
    refine ⟨v, ?_, h2, h3⟩
    have := hrun [v] (by rw [hx]; simp [h1])
    simpa using this
  · rename_i hne
    rw [Option.map_eq_some_iff] at hr
    obtain ⟨l, hl, rfl⟩ := hr
    obtain ⟨hlen, hget⟩ := mapM_some _ _ _ hl
    obtain ⟨vs, hvl, hvs⟩ := choose_list fn.results.toList (fun i a v => (resSem tmps a).run P w = .ok v w ∧ ∀ p, l[i]? = some p → RT g w p v) fun i a ha => by
      have hi : i < l.length := by rw [← hlen]; exact (List.getElem?_eq_some_iff.1 ha).1
      obtain ⟨v, h1, h2, _⟩ := resultOf_sound h (hget i a l[i] ha (List.getElem?_eq_getElem hi))
      refine ⟨v, h1, fun p hp => ?_⟩
      rw [List.getElem?_eq_getElem hi] at hp
      simp only [Option.some.injEq] at hp
      subst hp
      exact h2
    have hne1 : vs.length ≠ 1 := by
      intro h1
      rw [← hvl] at h1
      obtain ⟨y, hy⟩ := List.length_eq_one_iff.1 h1
      exact hne y hy
    have := hrun vs (run_mapM _ P w _ vs hvl fun i a v ha hv => (hvs i a v ha hv).1)
    rw [dif_neg (by simpa using hne1)] at this
    have hR : R g w (.tup (l.map PV.dn)) (.tuple vs.toArray) := by
      refine .tup (by simp [← hlen, hvl]) (noOw_of fun c hc => ?_) fun i c v hc hv => ?_
      · obtain ⟨c', _, rfl⟩ := List.mem_map.1 hc
        exact isOw_dn c'
      · rw [List.getElem?_map, Option.map_eq_some_iff] at hc
        obtain ⟨c', hc', rfl⟩ := hc
        have hi : i < fn.results.toList.length := by rw [hlen]; exact (List.getElem?_eq_some_iff.1 hc').1
        exact ((hvs i _ v (List.getElem?_eq_getElem hi) (by simpa using hv)).2 c' hc').1
    exact ⟨_, this, .of hR, fun blk hb => (not_owns_of hR.not_ow hb).elim⟩

end Go.Proofs.YtnjlkgmcoengnaaGreat.PE
