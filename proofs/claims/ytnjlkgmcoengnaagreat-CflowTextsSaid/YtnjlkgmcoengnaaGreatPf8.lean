/-
  PE, part 8: each operation that touches no store (but calls) at work in a frame. Holds for every Program; no condition.
-/
import Derived.Test.YtnjlkgmcoengnaaGreatPfD
import Derived.Laws.IdiomStrings
set_option linter.unusedSimpArgs false
set_option linter.unusedVariables false
namespace Go.Proofs.YtnjlkgmcoengnaaGreat.PE
open Go

section
variable {P : Program} {g : Gh} {w : World}

theorem bytesOf_get : ∀ (els : List PV) (l : List UInt8), bytesOf els = some l → els.length = l.length ∧
    ∀ (i : Nat) (b : UInt8), l[i]? = some b → ∃ n : Int, els[i]? = some (.s (.int .u8 n)) ∧ b = UInt8.ofNat n.toNat
  | [], l, h => by simp only [bytesOf, Option.some.injEq] at h; subst h; simp
  | .s (.int .u8 n) :: r, l, h => by
    simp only [bytesOf, Option.map_eq_some_iff] at h
    obtain ⟨l', hl', rfl⟩ := h
    obtain ⟨h1, h2⟩ := bytesOf_get r l' hl'
    refine ⟨by simp [h1], fun i b hb => ?_⟩
    cases i with
    | zero => simp at hb; exact ⟨n, rfl, hb.symm⟩
    | succ i => exact h2 i b (by simpa using hb)
  | .s (.int .i8 n) :: r, l, h => by simp [bytesOf] at h
  | .s (.int .i16 n) :: r, l, h => by simp [bytesOf] at h
  | .s (.int .i32 n) :: r, l, h => by simp [bytesOf] at h
  | .s (.int .i64 n) :: r, l, h => by simp [bytesOf] at h
  | .s (.int .u16 n) :: r, l, h => by simp [bytesOf] at h
  | .s (.int .u32 n) :: r, l, h => by simp [bytesOf] at h
  | .s (.int .u64 n) :: r, l, h => by simp [bytesOf] at h
  | .s (.bool _) :: r, l, h => by simp [bytesOf] at h
  | .s (.float _ _) :: r, l, h => by simp [bytesOf] at h
  | .s (.complex _ _ _) :: r, l, h => by simp [bytesOf] at h
  | .s (.string _) :: r, l, h => by simp [bytesOf] at h
  | .s (.pointer _) :: r, l, h => by simp [bytesOf] at h
  | .s (.slice _ _ _) :: r, l, h => by simp [bytesOf] at h
  | .s (.map _) :: r, l, h => by simp [bytesOf] at h
  | .s (.chan _) :: r, l, h => by simp [bytesOf] at h
  | .s (.func _ _ _) :: r, l, h => by simp [bytesOf] at h
  | .s .nilFunc :: r, l, h => by simp [bytesOf] at h
  | .s (.iface _ _) :: r, l, h => by simp [bytesOf] at h
  | .s .nilIface :: r, l, h => by simp [bytesOf] at h
  | .s (.agg _) :: r, l, h => by simp [bytesOf] at h
  | .s (.tuple _) :: r, l, h => by simp [bytesOf] at h
  | .junk :: r, l, h => by simp [bytesOf] at h
  | .agg _ :: r, l, h => by simp [bytesOf] at h
  | .tup _ :: r, l, h => by simp [bytesOf] at h
  | .nilsl :: r, l, h => by simp [bytesOf] at h
  | .sl _ _ _ :: r, l, h => by simp [bytesOf] at h
  | .ptr _ _ :: r, l, h => by simp [bytesOf] at h
  | .ep _ _ :: r, l, h => by simp [bytesOf] at h
  | .fn _ _ _ :: r, l, h => by simp [bytesOf] at h
  | .mp _ :: r, l, h => by simp [bytesOf] at h
  | .ifc _ _ :: r, l, h => by simp [bytesOf] at h

theorem convert_sound (hpx : ∀ b o, g.prot b o → b < w.heap.size) {src dst : TypeId} {x r : PV} {a : Value} (h : pConvert P src dst x = some r) (hx : R g w x a) :
    Made P g w (Sem.run P (convert src dst a)) r (fun _ => False) := by
  unfold pConvert at h
  split at h
  · rename_i k n
    rw [Option.map_eq_some_iff] at h
    obtain ⟨v, hv, rfl⟩ := h
    cases hx
    exact .of hpx (pureRun_run hv w) (.ofVal g w v) _
  · rename_i b
    split at h
    · rename_i hc
      simp only [Bool.and_eq_true] at hc
      simp only [Option.some.injEq] at h
      subst h
      cases hx
      exact .of hpx (by simp [convert, run_underlying (tString_und hc.1), run_underlying (tString_und hc.2)]) (.s _) _
    · split at h
      · rename_i e he
        split at h
        · rename_i hc
          simp only [Bool.and_eq_true, decide_eq_true_eq] at hc
          obtain ⟨⟨hu8, hs⟩, hlen⟩ := hc
          simp only [Option.some.injEq] at h
          subst h
          cases hx
          have hr := run_bytes_of_string (P := P) w src dst e b (tString_und hs) (tElem_und he) (tU8_und hu8)
          have hev : Evo g w (g.add w.heap.size b.size) (w.drew.alloc (.cells (bytesRow b (grownCap w b.size 0 e)) e ((bytesRow b (grownCap w b.size 0 e)).size, (bytesRow b (grownCap w b.size 0 e)).size + 1))) (fun _ => False) :=
            ((evo_drew g w).trans (evo_alloc (w := w.drew) hpx _ b.size)).mono (by simp)
          have hl : (b.data.toList.map fun x : UInt8 => PV.s (.int .u8 x.toNat)).length = b.size := by rw [List.length_map]; rfl
          have hfl : (b.data.toList.map fun x : UInt8 => PV.s (.int .u8 x.toNat)).flatMap PV.cells = b.data.toList.map fun x : UInt8 => PV.s (.int .u8 x.toNat) := by
            generalize b.data.toList = l
            induction l with
            | nil => rfl
            | cons x r ih => simp only [List.map_cons, List.flatMap_cons, ih]; rfl
          have hk := row_slice (g := g.add w.heap.size b.size) (w := w.drew.alloc (.cells (bytesRow b (grownCap w b.size 0 e)) e ((bytesRow b (grownCap w b.size 0 e)).size, (bytesRow b (grownCap w b.size 0 e)).size + 1)))
            (t := .sh) (sz := 1) (els := b.data.toList.map fun x : UInt8 => PV.s (.int .u8 x.toNat)) (vs := b.data.toList.map fun x : UInt8 => Value.int .u8 x.toNat) (blk := w.heap.size) (cap := grownCap w b.size 0 e)
            (fun el hel => by obtain ⟨x, _, rfl⟩ := List.mem_map.1 hel; exact ⟨rfl, rfl, rfl⟩)
            (by
              rw [hfl]
              refine ⟨by simp, fun i c v hc hv => ?_⟩
              simp only [List.getElem?_map, Option.map_eq_some_iff] at hc hv
              obtain ⟨x, hx, rfl⟩ := hc
              obtain ⟨y, hy, rfl⟩ := hv
              rw [hx] at hy
              simp only [Option.some.injEq] at hy
              subst hy
              exact ⟨.s _, rfl⟩)
            (alloc_new w.drew _)
            (fun i v hv => by
              have hlt := (List.getElem?_eq_some_iff.1 hv).1
              unfold bytesRow
              rw [Array.getElem?_append_left (by simpa using hlt)]
              simpa using hv)
            (fun o ho => .inr ⟨rfl, by rw [hl] at ho; omega⟩) (by simp) (by rw [hl]; exact grownCap_ge w b.size 0 e) (grownCap_le_maxLen w b.size 0 e hlen) (by simp)
          rw [hl] at hk
          exact ⟨_, _, _, hr, hev, rfl, .of hk, prot_add_alloc (w := w.drew) hpx _ _, fun _ ho => (not_owns_of rfl ho).elim⟩
        · cases h
      · cases h
  · split at h
    · rename_i hd
      split at h
      · rename_i e he
        split at h
        · rename_i hu8
          simp only [Option.some.injEq] at h
          subst h
          cases hx
          exact .of hpx (v := .string .empty) (by rw [run_convert_bytes_string w src dst e none 0 0 (tElem_und he) (tU8_und hu8) (tString_und hd)]; simp [Conv.bytesToString]) (.s _) _
        · cases h
      · cases h
    · cases h
  · rename_i tag sz els
    split at h
    · rename_i hc
      simp only [Bool.and_eq_true, decide_eq_true_eq] at hc
      obtain ⟨hd, rfl⟩ := hc
      split at h
      · rename_i e he
        split at h
        · rename_i hu8
          rw [Option.map_eq_some_iff] at h
          obtain ⟨l, hl, rfl⟩ := h
          obtain ⟨hwf, blk, off, cap, vs, rfl, hn, hm, hex, hrc, hcell⟩ := slice_cells hx
          obtain ⟨hlen, hget⟩ := bytesOf_get els l hl
          have hvl : vs.length = els.length := by rw [← hrc.1, flat_length _ fun el hel => (hwf el hel).1, Nat.mul_one]
          -- each cell is an int of the byte's
          have hnum : ∀ i, i < els.length → ∃ n : Int, vs[i]? = some (.int .u8 n) ∧ l[i]? = some (UInt8.ofNat n.toNat) := by
            intro i hi
            have hli : i < l.length := by omega
            obtain ⟨n, hn', hb⟩ := hget i l[i] (List.getElem?_eq_getElem hli)
            have hf := flat_get els (fun el hel => (hwf el hel).1) i 0 (by omega) hi
            rw [hn', Nat.mul_one, Nat.add_zero] at hf
            have hvi : i < vs.length := by omega
            have hR := (hrc.2 i (.s (.int .u8 n)) vs[i] (by rw [hf]; rfl) (List.getElem?_eq_getElem hvi)).1
            refine ⟨n, ?_, by rw [List.getElem?_eq_getElem hli, hb]⟩
            rw [List.getElem?_eq_getElem hvi]
            generalize vs[i] = u at hR
            cases hR
            rfl
          have hxs : ∃ xs : List Int, vs = xs.map (Value.int .u8) ∧ l = xs.map fun n => UInt8.ofNat n.toNat := by
            refine ⟨(List.range els.length).map fun i => match (vs[i]? : Option Value) with | some (.int _ n) => n | _ => 0, ?_, ?_⟩
            · apply List.ext_getElem?
              intro i
              by_cases hi : i < els.length
              · obtain ⟨n, h1, _⟩ := hnum i hi
                rw [List.getElem?_map, List.getElem?_map, List.getElem?_range hi]
                simp [h1]
              · rw [List.getElem?_eq_none (by omega), List.getElem?_eq_none (by simp; omega)]
            · apply List.ext_getElem?
              intro i
              by_cases hi : i < els.length
              · obtain ⟨n, h1, h2⟩ := hnum i hi
                rw [List.getElem?_map, List.getElem?_map, List.getElem?_range hi, h2]
                simp [h1]
              · rw [List.getElem?_eq_none (by omega), List.getElem?_eq_none (by simp; omega)]
          obtain ⟨xs, rfl, rfl⟩ := hxs
          have hload : (loadCells ⟨blk, off, none⟩ els.length).run P w = .ok (xs.map (Value.int .u8)).toArray w := by
            have := run_loadCells_list (P := P) w ⟨blk, off, none⟩ (xs.map (Value.int .u8)) fun j v hj => (hcell j v hj).1
            rwa [hvl] at this
          refine .of hpx (v := .string ⟨(xs.map fun n => UInt8.ofNat n.toNat).toArray⟩) ?_ (.s _) _
          rw [run_convert_bytes_string w src dst e _ _ _ (tElem_und he) (tU8_und hu8) (tString_und hd), run_bytesToString w _ els.length cap xs hload]
          congr 2
          have : ∀ (ns : List Int) (s : ByteArray), ns.foldl (fun r n => r.push (UInt8.ofNat n.toNat)) s = ⟨s.data ++ (ns.map fun n => UInt8.ofNat n.toNat).toArray⟩ := by
            intro ns
            induction ns with
            | nil => intro s; simp
            | cons n r ih => intro s; rw [List.foldl_cons, ih]; simp [ByteArray.push]
          rw [this]
          simp [ByteArray.empty, ByteArray.emptyWithCapacity]
          rfl
        · cases h
      · cases h
    · cases h
  · cases h

/-! ### At work in a frame -/
/-- A value laid into its slot, behind a step of the world. -/
theorem St.finish {E : Entry} {n : Nat} {g' : Gh} {w' : World} {env : Env} {a : Act} {st : Store} {T : Nat → Prop} (h : St E n g w env a.tmps st) {x : PV} {v : Value} {src dst : Option Nat}
    (hev : Evo g w g' w' T) (hr : g'.ρ = g.ρ) (hx : RT g' w' x v) (hp : ∀ b o, g'.prot b o → b < w'.heap.size) (hT : ∀ blk, T blk → ∃ k, src = some k ∧ slotOwns env a.tmps k blk)
    (ho : ∀ blk, owns x v blk → T blk ∨ w.heap.size ≤ blk) (hd : dstOk n dst = true) : St E n g' w' (PE.put (PE.drop env src) dst x) (a.put dst v).tmps st := by
  have h1 := h.drop src
  have hT1 : ∀ b, T b → b ∉ g.ρ ∧ (Wc E b ∨ E.w.heap.size ≤ b) := by
    intro b hb
    obtain ⟨k, _, hk⟩ := hT b hb
    exact ⟨((h.regs k).own_fresh hk).2, h.in1 k b hk⟩
  have hT2 : ∀ b o blk, OwnCell g w st b o blk → ¬ T blk := by
    intro b o blk hc hb
    obtain ⟨k, _, hk⟩ := hT blk hb
    exact h.own3 k b o blk hk hc
  have hT3 : ∀ t blk, slotOwns (PE.drop env src) a.tmps t blk → ¬ T blk := by
    intro t blk ht hb
    obtain ⟨k, hk, hs⟩ := hT blk hb
    subst hk
    obtain ⟨hne, ht'⟩ := drop_slot ht
    exact hne (h.own2 t k blk ht' hs)
  have h2 := h1.step hev hr hT1 hT2 hT3 hp
  cases dst with
  | none => exact h2
  | some d =>
    simp only [dstOk, decide_eq_true_eq] at hd
    have oc := (h.s.step hev hr (fun b hb => (hT1 b hb).1) hT2 hp).2
    have ho3 : ∀ blk, owns x v blk → Wc E blk ∨ E.w.heap.size ≤ blk := by
      intro blk hb
      rcases ho blk hb with hb | hb
      · exact (hT1 blk hb).2
      · exact .inr (Nat.le_trans h.evo.size hb)
    refine h2.put hd hx (fun t blk hb _ ht => ?_) (fun b o blk hb hc => ?_) ho3
    · rcases ho blk hb with hb | hb
      · exact hT3 t blk ht hb
      · exact absurd ((h1.regs t).own_fresh ht).1 (by omega)
    · rw [oc] at hc
      rcases ho blk hb with hb | hb
      · exact hT2 b o blk hc hb
      · exact absurd (hc.at h.s).1 (by omega)

theorem RO_of {ρ : Operand → PV} {η : Operand → Value} (h : ∀ x, R g w (ρ x) (η x)) (x : Option Operand) : RO g w (x.map ρ) (x.map η) := by
  cases x with
  | none => trivial
  | some x => exact h x

theorem toVals_run {ρ : Operand → PV} {η : Operand → Value} (h : ∀ x, R g w (ρ x) (η x)) (xs : List Operand) {l : List Value} (hl : toVals (xs.map ρ) = some l) : xs.map η = l := by
  refine toVals_eq (g := g) (w := w) (xs.map ρ) l (xs.map η) hl (by simp) fun i c v hc hv => ?_
  simp only [List.getElem?_map, Option.map_eq_some_iff] at hc hv
  obtain ⟨x, hx, rfl⟩ := hc
  obtain ⟨y, hy, rfl⟩ := hv
  rw [hx] at hy
  simp only [Option.some.injEq] at hy
  subst hy
  exact h x

theorem map_RL {ρ : Operand → PV} {η : Operand → Value} (h : ∀ x, R g w (ρ x) (η x)) (xs : Array Operand) : ∀ (i : Nat) (c : PV) (v : Value), (xs.toList.map ρ)[i]? = some c → (xs.map η)[i]? = some v → R g w c v := by
  intro i c v hc hv
  simp only [List.getElem?_map, Option.map_eq_some_iff, Array.getElem?_toList] at hc
  simp only [Array.getElem?_map, Option.map_eq_some_iff] at hv
  obtain ⟨x, hx, rfl⟩ := hc
  obtain ⟨y, hy, rfl⟩ := hv
  rw [hx] at hy
  simp only [Option.some.injEq] at hy
  subst hy
  exact h x

theorem map_noOw {ρ : Operand → PV} {η : Operand → Value} (h : ∀ x, R g w (ρ x) (η x)) (xs : Array Operand) : noOw (xs.toList.map ρ) = true := by
  refine noOw_of fun c hc => ?_
  obtain ⟨x, _, rfl⟩ := List.mem_map.1 hc
  exact (h x).not_ow

theorem parts_len (ρ : Operand → PV) (η : Operand → Value) (parts : Array (Nat × Operand)) :
    (parts.toList.map fun p => (p.1, ρ p.2)).length = (parts.map fun p => (p.1, η p.2)).toList.length := by simp

theorem parts_RL {ρ : Operand → PV} {η : Operand → Value} (h : ∀ x, R g w (ρ x) (η x)) (parts : Array (Nat × Operand)) (i : Nat) (p : Nat × PV) (q : Nat × Value)
    (hp : (parts.toList.map fun p => (p.1, ρ p.2))[i]? = some p) (hq : (parts.map fun p => (p.1, η p.2)).toList[i]? = some q) : p.1 = q.1 ∧ R g w p.2 q.2 := by
  simp only [Array.toList_map, List.getElem?_map, Option.map_eq_some_iff] at hp hq
  obtain ⟨y, hy, rfl⟩ := hp
  obtain ⟨z, hz, rfl⟩ := hq
  rw [hy] at hz
  simp only [Option.some.injEq] at hz
  subst hz
  exact ⟨rfl, h y.2⟩

/-- Is the operation a call of a function value? -/
def isCall : Op → Bool
  | .call { callee := .value _, .. } => true
  | _ => false

/-- Each operation that touches no store, but calls: it answers in the model what the evaluator says. -/
theorem inert_sound {call : CallF} {ann : FuncId → Ann} {take : List Nat} {E : Entry} {n : Nat} {env : Env} {a : Act} {st : Store} {o : Oper} {x : PV} (h : St E n g w env a.tmps st)
    (hc : isCall o.op = false) (hi : inertOp P call ann (doesTake take o) (ev env) (fun x => (ev env x).dn) o.op = some x) :
    ∃ v g' w' T, (execOp a.eval o).run P w = .ok (.value v) w' ∧ Evo g w g' w' T ∧ g'.ρ = g.ρ ∧ RT g' w' x v ∧ (∀ b o, g'.prot b o → b < w'.heap.size) ∧
      (∀ blk, owns x v blk → T blk ∨ w.heap.size ≤ blk) ∧ ∀ blk, T blk → ∃ k, takes take o = some k ∧ slotOwns env a.tmps k blk := by
  have hρ : ∀ x, R g w (ev env x).dn (a.eval x) := fun x => (h.ev x).1
  have hpx := h.s.pex
  have same : ∀ {v : Value}, (execOp a.eval o).run P w = .ok (.value v) w → R g w x v → _ := fun {v} hr hR =>
    (⟨v, g, w, fun _ => False, hr, .refl g w _, rfl, .of hR, hpx, fun _ ho => (not_owns_of hR.not_ow ho).elim, fun _ hx => hx.elim⟩ :
      ∃ v g' w' T, (execOp a.eval o).run P w = .ok (.value v) w' ∧ Evo g w g' w' T ∧ g'.ρ = g.ρ ∧ RT g' w' x v ∧ (∀ b o, g'.prot b o → b < w'.heap.size) ∧
      (∀ blk, owns x v blk → T blk ∨ w.heap.size ≤ blk) ∧ ∀ blk, T blk → ∃ k, takes take o = some k ∧ slotOwns env a.tmps k blk)
  have made : ∀ {s : Sem Value}, execOp a.eval o = (do pure (.value (← s)) : Sem Next) → Made P g w (Sem.run P s) x (fun _ => False) → _ := fun {s} hs hm =>
    (let ⟨v, g', w', h1, h2, h3, h4, h5, h6⟩ := hm.ex
     ⟨v, g', w', fun _ => False, by rw [hs]; simp [h1], h2, h3, h4, h5, h6, fun _ hx => hx.elim⟩ :
      ∃ v g' w' T, (execOp a.eval o).run P w = .ok (.value v) w' ∧ Evo g w g' w' T ∧ g'.ρ = g.ρ ∧ RT g' w' x v ∧ (∀ b o, g'.prot b o → b < w'.heap.size) ∧
      (∀ blk, owns x v blk → T blk ∨ w.heap.size ≤ blk) ∧ ∀ blk, T blk → ∃ k, takes take o = some k ∧ slotOwns env a.tmps k blk)
  have raw : ∀ (y : Operand), (execOp a.eval o).run P w = .ok (.value (a.eval y)) w → x = ev env y → (∀ k, y = .tmp k → takes take o = some k) → _ := fun y hr hx htk =>
    (⟨a.eval y, g, w, fun blk => owns x (a.eval y) blk, hr, .refl g w _, rfl, by rw [hx]; exact h.ev y, hpx, fun _ ho => .inl ho, fun blk hb => by
      subst hx
      cases y with
      | tmp k => exact ⟨k, htk k rfl, hb⟩
      | const v => exact (not_owns_of (R.ofVal g w v).not_ow hb).elim
      | global k => exact (not_owns_of rfl hb).elim
      | func f => exact (not_owns_of rfl hb).elim⟩ :
      ∃ v g' w' T, (execOp a.eval o).run P w = .ok (.value v) w' ∧ Evo g w g' w' T ∧ g'.ρ = g.ρ ∧ RT g' w' x v ∧ (∀ b o, g'.prot b o → b < w'.heap.size) ∧
      (∀ blk, owns x v blk → T blk ∨ w.heap.size ≤ blk) ∧ ∀ blk, T blk → ∃ k, takes take o = some k ∧ slotOwns env a.tmps k blk)
  obtain ⟨dst, op, ty, pos, after, guard⟩ := o
  cases op <;> try (simp only [inertOp] at hi; cases hi; done)
  case move y =>
    simp only [inertOp, Option.some.injEq] at hi
    split at hi
    · rename_i htk
      refine raw y rfl hi.symm fun k hk => ?_
      subst hk
      cases dst with
      | none => simp [doesTake] at htk
      | some d => simp only [doesTake] at htk; simp only [takes, htk, if_true]
    · subst hi
      exact same rfl (hρ y)
  case assign y =>
    simp only [inertOp, Option.some.injEq] at hi
    exact raw y rfl hi.symm fun k hk => by subst hk; rfl
  case pick c y z =>
    simp only [inertOp] at hi
    have hcc := hρ c
    split at hi
    · rename_i he
      rw [he] at hcc
      simp only [Option.some.injEq] at hi
      subst hi
      have hb : a.eval c = .bool true := by
        generalize hev : a.eval c = u at hcc
        cases hcc
        rfl
      exact same (by simp [execOp, hb, asBool]) (hρ y)
    · rename_i he
      rw [he] at hcc
      simp only [Option.some.injEq] at hi
      subst hi
      have hb : a.eval c = .bool false := by
        generalize hev : a.eval c = u at hcc
        cases hcc
        rfl
      exact same (by simp [execOp, hb, asBool]) (hρ z)
    · cases hi
  case build t parts =>
    simp only [inertOp] at hi
    obtain ⟨v, h1, h2⟩ := build_sound (vals := (parts.map fun p => (p.1, a.eval p.2)).toList) hi (parts_len (fun x => (ev env x).dn) a.eval parts) (parts_RL hρ parts)
    exact same (by
      have e : (parts.map fun p => (p.1, a.eval p.2)).toList.toArray = parts.map fun p => (p.1, a.eval p.2) := by apply Array.ext'; simp
      rw [e] at h1
      show Sem.run P (do pure (.value (← Instr.build t (parts.map fun p => (p.1, a.eval p.2)))) : Sem Next) w = _
      simp [h1]) h2
  case buildSlice t k parts =>
    simp only [inertOp] at hi
    refine made ?_ (buildSlice_sound hpx (vals := (parts.map fun p => (p.1, a.eval p.2)).toList) hi (parts_len (fun x => (ev env x).dn) a.eval parts) (parts_RL hρ parts))
    have e : (parts.map fun p => (p.1, a.eval p.2)).toList.toArray = parts.map fun p => (p.1, a.eval p.2) := by apply Array.ext'; simp
    rw [e]
    rfl
  case load t y =>
    simp only [inertOp] at hi
    have hy := hρ y
    split at hi
    · rename_i el off he
      rw [he] at hy
      generalize hev : a.eval y = u at hy
      cases hy with
      | @ep _ _ blk o' V hm hw hcc hr =>
        obtain ⟨v, h1, h2⟩ := run_loadVar (w := w) (o := o') hi (fun j hj => (hcc j hj).2) hr
        exact same (by simp [execOp, hev, Instr.loadAt, Instr.sureAddr, h1]) h2
    · cases hi
  case nilCheck y =>
    simp only [inertOp] at hi
    have hy := hρ y
    split at hi
    · rename_i b o' he
      rw [he] at hy
      simp only [Option.some.injEq] at hi
      subst hi
      generalize hev : a.eval y = u at hy
      have hy' := hy
      cases hy with
      | ptr hb => exact same (by simp [execOp, hev]) hy'
    · rename_i el o' he
      rw [he] at hy
      simp only [Option.some.injEq] at hi
      subst hi
      generalize hev : a.eval y = u at hy
      have hy' := hy
      cases hy with
      | ep V hm hw hcc hr => exact same (by simp [execOp, hev]) hy'
    · cases hi
  case binOp op t y z t' =>
    simp only [inertOp] at hi
    obtain ⟨v, h1, h2⟩ := bin_sound (w := w) hi (hρ y) (hρ z)
    refine same ?_ h2
    show Sem.run P (do pure (.value (← (do eqGuard op t y z (a.eval y) (a.eval z); binOp op t (a.eval y) (a.eval z)))) : Sem Next) w = _
    rw [Sem.run_bind, h1]
    rfl
  case unOp op t y =>
    simp only [inertOp] at hi
    obtain ⟨v, h1, h2⟩ := un_sound (w := w) hi (hρ y)
    exact same (by simp [execOp, h1]) h2
  case convert s d y =>
    simp only [inertOp] at hi
    exact made rfl (convert_sound hpx hi (hρ y))
  case makeInterface t y =>
    simp only [inertOp] at hi
    split at hi
    · cases hi
    · rename_i hif
      split at hi
      · rename_i hs
        obtain ⟨d, hd⟩ := Option.isSome_iff_exists.1 hs
        simp only [Option.some.injEq] at hi
        subst hi
        refine same (v := .iface t (a.eval y)) ?_ (.ifc (isOw_dn _) (hρ y))
        have : ∀ ms, d ≠ .interface ms := by
          intro ms hm
          subst hm
          simp [tIface, hd] at hif
        simp only [execOp, Instr.makeInterface, Sem.run_bind, run_underlying hd, Result.andThen_ok]
        cases d <;> first | exact absurd rfl (this _) | rfl
      · cases hi
  case makeFunc f first cap =>
    simp only [inertOp, Option.some.injEq] at hi
    subst hi
    refine same (v := .func f (first.map a.eval) (cap.map a.eval)) rfl (.fn (by simp) (by simp) (map_noOw hρ first) (map_noOw hρ cap) (map_RL hρ first) (map_RL hρ cap))
  case slice t y lo hi' mx =>
    simp only [inertOp] at hi
    obtain ⟨v, h1, h2⟩ := slice_sound hi (hρ y) (RO_of hρ lo) (RO_of hρ hi') (RO_of hρ mx)
    exact same (by simp [execOp, h1]) h2
  case fieldAddr t y f =>
    simp only [inertOp] at hi
    obtain ⟨v, h1, h2⟩ := fieldAddr_sound hi (hρ y)
    exact same (by simp [execOp, h1]) h2
  case field t y f =>
    simp only [inertOp] at hi
    have hy := hρ y
    split at hi
    · rename_i cs off ft he hf
      rw [he] at hy
      obtain ⟨vs, hv, hrc⟩ := RCs.of_agg hy
      obtain ⟨fs, fd, hu, hfd, rfl, rfl⟩ := tField_und hf
      obtain ⟨v, h1, h2⟩ := run_part (w := w) hi hrc
      exact same (by simp [execOp, hv, Instr.field, run_underlying hu, hfd, asAgg, h1]) h2
    · cases hi
  case indexAddr t y i =>
    simp only [inertOp] at hi
    obtain ⟨v, h1, h2⟩ := indexAddr_sound hi (hρ y) (hρ i)
    exact same (by simp [execOp, h1]) h2
  case index t y i =>
    simp only [inertOp] at hi
    obtain ⟨v, h1, h2⟩ := index_sound hi (hρ y) (hρ i)
    exact same (by simp [execOp, h1]) h2
  case extract y i =>
    simp only [inertOp] at hi
    have hy := hρ y
    split at hi
    · rename_i cs he
      rw [he] at hy
      generalize hev : a.eval y = u at hy
      cases hy with
      | @tup _ vs hl hw hh =>
        have hlt := (List.getElem?_eq_some_iff.1 hi).1
        have hlt' : i < vs.size := by rw [← hl]; exact hlt
        have hv : vs[i]? = some vs[i] := Array.getElem?_eq_getElem hlt'
        exact same (by simp [execOp, hev, Instr.extract, hlt']) (hh i x vs[i] hi hv)
    · cases hi
  case makeSlice t y z =>
    simp only [inertOp] at hi
    exact made rfl (makeF_sound hpx hi (hρ y) (hρ z))
  case call c =>
    obtain ⟨callee, args, tys⟩ := c
    cases callee with
    | value f => simp [isCall] at hc
    | invoke r m => simp [inertOp] at hi
    | builtin b =>
      simp only [inertOp] at hi
      have hargs : (args.map a.eval).toList = args.toList.map a.eval := by simp
      unfold pBuiltin at hi
      split at hi
      · rename_i y hy
        obtain ⟨t, ht, hi⟩ := Option.bind_eq_some_iff.1 hi
        obtain ⟨v, h1, h2⟩ := len_sound (ty := ty) (args := args.map a.eval) ht (by rw [← Array.getElem?_toList, hargs, hy]; rfl) hi (hρ y)
        exact same (by simp [execOp, resolve, invoke, builtin, h1]) h2
      · rename_i y z hy
        split at hi
        · rename_i t u htu
          have htys : tys = #[t, u] := by apply Array.ext'; simpa using htu
          have harr : args.map a.eval = #[a.eval y, a.eval z] := by apply Array.ext'; rw [hargs, hy]; rfl
          obtain ⟨v, g', w', h1, h2, h3, h4, h5, h6⟩ := (append_sound hpx (fun b hb => rho_lt h.s hb) (ty := ty) hi (h.ev y) (hρ z)).ex
          refine ⟨v, g', w', owns (ev env y) (a.eval y), ?_, h2, h3, h4, h5, h6, fun blk hb => ?_⟩
          · subst htys
            simp [execOp, resolve, invoke, builtin, harr, h1]
          · cases y with
            | tmp k =>
              refine ⟨k, ?_, hb⟩
              have : args[0]? = some (.tmp k) := by rw [← Array.getElem?_toList, hy]; rfl
              simp [takes, this]
            | const v => exact (not_owns_of (R.ofVal g w v).not_ow hb).elim
            | global k => exact (not_owns_of rfl hb).elim
            | func f => exact (not_owns_of rfl hb).elim
        · cases hi
      · obtain ⟨l, hl, hi⟩ := Option.bind_eq_some_iff.1 hi
        rw [Option.map_eq_some_iff] at hi
        obtain ⟨v, hv, rfl⟩ := hi
        have e := toVals_run hρ args.toList hl
        have e' : l.toArray = args.map a.eval := by apply Array.ext'; rw [← e]; simp
        rw [e'] at hv
        refine same (v := v) ?_ (.ofVal g w v)
        have h1 := pureRun_run hv w
        have e0 : Builtin.min_ tys 0 (args.map a.eval) = Builtin.min_ tys ty (args.map a.eval) := rfl
        rw [e0] at h1
        simp [execOp, resolve, invoke, builtin, h1]
      · obtain ⟨l, hl, hi⟩ := Option.bind_eq_some_iff.1 hi
        rw [Option.map_eq_some_iff] at hi
        obtain ⟨v, hv, rfl⟩ := hi
        have e := toVals_run hρ args.toList hl
        have e' : l.toArray = args.map a.eval := by apply Array.ext'; rw [← e]; simp
        rw [e'] at hv
        refine same (v := v) ?_ (.ofVal g w v)
        have h1 := pureRun_run hv w
        have e0 : Builtin.max_ tys 0 (args.map a.eval) = Builtin.max_ tys ty (args.map a.eval) := rfl
        rw [e0] at h1
        simp [execOp, resolve, invoke, builtin, h1]
      · cases hi

end
end Go.Proofs.YtnjlkgmcoengnaaGreat.PE
