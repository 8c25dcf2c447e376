/-
  PE, part 5: slice expressions, conversions, structs and slices that are built, appends: what they answer in the model, and what memory they make. Holds for every Program; no condition.
-/
import Derived.Test.YtnjlkgmcoengnaaGreatPf4
set_option linter.unusedSimpArgs false
set_option linter.unusedVariables false
namespace Go.Proofs.YtnjlkgmcoengnaaGreat.PE
open Go

section
variable {P : Program} {g : Gh} {w : World}

/-- An operand that may be left out. -/
def RO (g : Gh) (w : World) (x : Option PV) (v : Option Value) : Prop :=
  match x, v with
  | none, none => True
  | some x, some v => R g w x v
  | _, _ => False

theorem bound_sound {x : PV} {v : Value} {i : Int} {y : Nat} (hr : R g w x v) (hi : asI x = some i) (h0 : 0 ≤ i) (h1 : i ≤ (y : Int)) (c : BoundsCode) :
    (Instr.sliceBound v y c).run P w = .ok i.toNat w := by
  obtain ⟨k, rfl⟩ := asI_eq hi hr
  simp [Instr.sliceBound, asIntOf, h0, h1]

theorem bLow_sound {x : Option PV} {v : Option Value} {h l : Nat} (hx : RO g w x v) (hb : bLow h x = some l) (c : BoundsCode) (k : Nat) :
    (match (generalizing := false) v with
      | some v => do
        let l ← Instr.sliceBound v h c
        pure (l, h, k)
      | none => do
        let l ← pure 0
        pure (l, h, k) : Sem (Nat × Nat × Nat)).run P w = .ok (l, h, k) w ∧ l ≤ h := by
  cases x with
  | none =>
    cases v with
    | some v => exact hx.elim
    | none => simp only [bLow, Option.some.injEq] at hb; subst hb; exact ⟨rfl, Nat.zero_le _⟩
  | some x =>
    cases v with
    | none => exact hx.elim
    | some v =>
      simp only [bLow, Option.bind_eq_some_iff] at hb
      obtain ⟨i, hi, hb⟩ := hb
      split at hb
      · rename_i hc
        simp only [Option.some.injEq] at hb
        subst hb
        exact ⟨by simp [bound_sound (P := P) hx hi hc.1 hc.2 c], by omega⟩
      · cases hb

theorem bounds_sound {b : Bool} {n cap l h : Nat} {low high max : Option PV} {lowv highv maxv : Option Value} {m : Option Nat} (hn : n ≤ cap)
    (hb : bounds n low high max = some (l, h, m)) (h1 : RO g w low lowv) (h2 : RO g w high highv) (h3 : RO g w max maxv) :
    (Instr.sliceBounds b n cap lowv highv maxv).run P w = .ok (l, h, m.getD cap) w ∧ l ≤ h ∧ h ≤ n ∧ ∀ k, m = some k → h ≤ k ∧ k ≤ n := by
  simp only [bounds, Option.bind_eq_some_iff, Option.some.injEq, Prod.mk.injEq] at hb
  obtain ⟨m', hm', h', hh', l', hl', rfl, rfl, rfl⟩ := hb
  have hlow := fun k => (bLow_sound (P := P) h1 hl' (if maxv.isSome then .slice3C else .sliceB) k).1
  have hle := (bLow_sound (P := P) h1 hl' .sliceB 0).2
  cases max with
  | none =>
    cases maxv with
    | some v => exact h3.elim
    | none =>
      simp only [bMax, Option.some.injEq] at hm'
      subst hm'
      cases high with
      | none =>
        cases highv with
        | some v => exact h2.elim
        | none =>
          simp only [bHigh, Option.isNone_none, if_true, Option.some.injEq] at hh'
          subst hh'
          refine ⟨?_, hle, Nat.le_refl _, by simp⟩
          simp only [Instr.sliceBounds, Sem.run_bind, Sem.run_pure, Result.andThen_ok, Option.getD_none]
          exact hlow cap
      | some y =>
        cases highv with
        | none => exact h2.elim
        | some u =>
          simp only [bHigh, Option.bind_eq_some_iff, Option.getD_none] at hh'
          obtain ⟨j, hj, hh'⟩ := hh'
          split at hh'
          · rename_i hc
            simp only [Option.some.injEq] at hh'
            subst hh'
            refine ⟨?_, hle, by omega, by simp⟩
            simp only [Instr.sliceBounds, Sem.run_bind, Sem.run_pure, Result.andThen_ok, bound_sound (P := P) (y := cap) h2 hj hc.1 (by omega), Option.getD_none]
            exact hlow cap
          · cases hh'
  | some z =>
    cases maxv with
    | none => exact h3.elim
    | some q =>
      simp only [bMax, Option.bind_eq_some_iff] at hm'
      obtain ⟨e, he, hm'⟩ := hm'
      split at hm'
      · rename_i hce
        simp only [Option.some.injEq] at hm'
        subst hm'
        cases high with
        | none => simp [bHigh] at hh'
        | some y =>
          cases highv with
          | none => exact h2.elim
          | some u =>
            simp only [bHigh, Option.bind_eq_some_iff, Option.getD_some] at hh'
            obtain ⟨j, hj, hh'⟩ := hh'
            split at hh'
            · rename_i hc
              simp only [Option.some.injEq] at hh'
              subst hh'
              refine ⟨?_, hle, by omega, fun k hk => by simp only [Option.some.injEq] at hk; subst hk; omega⟩
              simp only [Instr.sliceBounds, Sem.run_bind, Result.andThen_ok, bound_sound (P := P) (y := cap) h3 he hce.1 (by omega),
                bound_sound (P := P) (y := e.toNat) h2 hj hc.1 hc.2, Option.getD_some]
              exact hlow e.toNat
            · cases hh'
      · cases hm'

theorem boundsC_sound {n c cap l h m : Nat} {low high max : Option PV} {lowv highv maxv : Option Value} (hn : n ≤ c) (hc : c ≤ cap)
    (hb : boundsC n c low high max = some (l, h, m)) (h1 : RO g w low lowv) (h2 : RO g w high highv) (h3 : RO g w max maxv) :
    ∃ M, (Instr.sliceBounds true n cap lowv highv maxv).run P w = .ok (l, h, M) w ∧ l ≤ h ∧ h ≤ m ∧ m ≤ c ∧ m ≤ M ∧ M ≤ cap := by
  simp only [boundsC, Option.bind_eq_some_iff, Option.some.injEq, Prod.mk.injEq] at hb
  obtain ⟨m', hm', h', hh', l', hl', rfl, rfl, rfl⟩ := hb
  have hlow := fun k => (bLow_sound (P := P) h1 hl' (if maxv.isSome then .slice3C else .sliceB) k).1
  have hle := (bLow_sound (P := P) h1 hl' .sliceB 0).2
  cases max with
  | none =>
    cases maxv with
    | some v => exact h3.elim
    | none =>
      simp only [Option.some.injEq] at hm'
      subst hm'
      cases high with
      | none =>
        cases highv with
        | some v => exact h2.elim
        | none =>
          simp only at hh'
          split at hh'
          · simp only [Option.some.injEq] at hh'
            subst hh'
            refine ⟨cap, ?_, hle, by omega, Nat.le_refl _, hc, Nat.le_refl _⟩
            simp only [Instr.sliceBounds, Sem.run_bind, Sem.run_pure, Result.andThen_ok]
            exact hlow cap
          · rename_i hx; exact absurd ⟨rfl, hn⟩ hx
      | some y =>
        cases highv with
        | none => exact h2.elim
        | some u =>
          simp only [Option.bind_eq_some_iff] at hh'
          obtain ⟨j, hj, hh'⟩ := hh'
          split at hh'
          · rename_i hcj
            simp only [Option.some.injEq] at hh'
            subst hh'
            refine ⟨cap, ?_, hle, by omega, Nat.le_refl _, hc, Nat.le_refl _⟩
            simp only [Instr.sliceBounds, Sem.run_bind, Sem.run_pure, Result.andThen_ok, bound_sound (P := P) (y := cap) h2 hj hcj.1 (by omega)]
            exact hlow cap
          · cases hh'
  | some z =>
    cases maxv with
    | none => exact h3.elim
    | some q =>
      simp only [Option.bind_eq_some_iff] at hm'
      obtain ⟨e, he, hm'⟩ := hm'
      split at hm'
      · rename_i hce
        simp only [Option.some.injEq] at hm'
        subst hm'
        cases high with
        | none => simp at hh'
        | some y =>
          cases highv with
          | none => exact h2.elim
          | some u =>
            simp only [Option.bind_eq_some_iff] at hh'
            obtain ⟨j, hj, hh'⟩ := hh'
            split at hh'
            · rename_i hcj
              simp only [Option.some.injEq] at hh'
              subst hh'
              refine ⟨e.toNat, ?_, hle, by omega, by omega, Nat.le_refl _, by omega⟩
              simp only [Instr.sliceBounds, Sem.run_bind, Result.andThen_ok, bound_sound (P := P) (y := cap) h3 he hce.1 (by omega),
                bound_sound (P := P) (y := e.toNat) h2 hj hcj.1 hcj.2]
              exact hlow e.toNat
            · cases hh'
      · cases hm'

/-- A piece of a row. -/
theorem sub_row {t t' : Tag} {sz : Nat} {els : List PV} {blk off cap : Nat} (h : R g w (.sl t sz els) (.slice (some ⟨blk, off, none⟩) els.length cap)) {l hi c : Nat} (h1 : l ≤ hi) (h2 : hi ≤ els.length)
    (hc : hi - l ≤ c) (hcm : c ≤ maxLen) (ht : t' ≠ .ow) (hex : t' = .ex → c = hi - l) (a : Addr) (ha : a.spot = none) (hadr : l < hi → a = ⟨blk, off + l * sz, none⟩) :
    R g w (.sl t' sz ((els.take hi).drop l)) (.slice (some a) (hi - l) c) := by
  have hlen : ((els.take hi).drop l).length = hi - l := by simp; omega
  cases h with
  | sl V _ hn hm _ hwf hcc hr =>
    obtain ⟨ab, ao, asp⟩ := a
    simp only at ha
    subst ha
    rw [← hlen]
    have get : ∀ i, ((els.take hi).drop l)[i]? = if l + i < hi then els[l + i]? else none := by
      intro i
      rw [List.getElem?_drop, List.getElem?_take]
    refine .sl (fun i j => V (l + i) j) ht (by rw [hlen]; exact hc) hcm (fun e => by rw [hlen]; exact hex e) (fun el hel => hwf el (List.mem_of_mem_take (List.mem_of_mem_drop hel))) ?_ ?_
    · intro i j hi' hj
      rw [hlen] at hi'
      have ea := hadr (by omega)
      simp only [Addr.mk.injEq] at ea
      obtain ⟨rfl, rfl, _⟩ := ea
      have := hcc (l + i) j (by omega) hj
      have e : off + (l + i) * sz + j = off + l * sz + i * sz + j := by rw [Nat.add_mul]; omega
      rw [e] at this
      exact this
    · intro i j el c hel hc'
      rw [get] at hel
      split at hel
      · exact hr (l + i) j el c hel hc'
      · cases hel

theorem slice_sound {t : TypeId} {x r : PV} {a : Value} {low high max : Option PV} {lowv highv maxv : Option Value} (h : pSlice P t x low high max = some r) (hx : R g w x a)
    (h1 : RO g w low lowv) (h2 : RO g w high highv) (h3 : RO g w max maxv) : ∃ v, (Instr.sliceAt t a lowv highv maxv).run P w = .ok v w ∧ R g w r v := by
  unfold pSlice at h
  split at h
  · rename_i bs
    split at h
    · rename_i hc
      simp only [Bool.and_eq_true, Option.isNone_iff_eq_none] at hc
      obtain ⟨ht, rfl⟩ := hc
      have hu := tString_und ht
      rw [Option.map_eq_some_iff] at h
      obtain ⟨⟨l, hi, m⟩, hb, rfl⟩ := h
      cases hx
      cases maxv with
      | some v => exact h3.elim
      | none =>
        obtain ⟨hrun, hle, hle', _⟩ := bounds_sound (P := P) (b := false) (Nat.le_refl bs.size) hb h1 h2 (maxv := none) trivial
        exact ⟨.string (bs.extract l hi), by simp [Instr.sliceAt, Instr.slice, run_underlying hu, hrun], .s _⟩
    · cases h
  · rename_i tag sz els
    split at h
    · rename_i e he
      have hu := tElem_und he
      split at h
      · rename_i hsz
        rw [Option.map_eq_some_iff] at h
        obtain ⟨⟨l, hi, m⟩, hb, rfl⟩ := h
        have hx' := hx
        cases hx' with
        | @sl _ _ _ blk off cap V ht hn hm hex hwf hcc hr =>
          obtain ⟨hrun, hle, hle', hmk⟩ := bounds_sound (P := P) (b := true) hn hb h1 h2 h3
          have hmcap : m.getD cap ≤ cap ∧ hi ≤ m.getD cap := by
            cases m with
            | none => simp; omega
            | some k => have := hmk k rfl; simp; omega
          refine ⟨.slice (some (if m.getD cap = l then ⟨blk, off, none⟩ else ⟨blk, off + l * sz, none⟩)) (hi - l) (m.getD cap - l), ?_, ?_⟩
          · simp only [Instr.sliceAt, Instr.slice, Sem.run_bind, run_underlying hu, Result.andThen_ok, hrun, run_sizeOf hsz, Sem.run_pure]
            split <;> simp [add_lit]
          · refine sub_row hx hle hle' (by omega) (by omega) ?_ ?_ _ (by split <;> rfl) ?_
            · cases m with
              | none => dsimp only; split <;> simp
              | some k => dsimp only; split <;> simp
            · intro hex'
              cases m with
              | none =>
                dsimp only at hex'
                split at hex'
                · rename_i hh; have := hex hh.1; simp; omega
                · cases hex'
              | some k =>
                dsimp only at hex'
                split at hex'
                · rename_i hh; simp; omega
                · cases hex'
            · intro hlt
              rw [if_neg (by omega)]
      · cases h
    · cases h
  · split at h
    · rename_i e he
      have hu := tElem_und he
      split at h
      · rename_i hsz
        obtain ⟨sz, hsz⟩ := Option.isSome_iff_exists.1 hsz
        rw [Option.map_eq_some_iff] at h
        obtain ⟨⟨l, hi, m⟩, hb, rfl⟩ := h
        cases hx
        obtain ⟨hrun, hle, hle', hmk⟩ := bounds_sound (P := P) (b := true) (Nat.le_refl 0) hb h1 h2 h3
        obtain rfl : hi = 0 := by omega
        obtain rfl : l = 0 := by omega
        have hm : m.getD 0 = 0 := by
          cases m with
          | none => rfl
          | some k => have := hmk k rfl; simp; omega
        exact ⟨.slice none 0 0, by simp [Instr.sliceAt, Instr.slice, run_underlying hu, hrun, run_sizeOf hsz, hm], .nilsl⟩
      · cases h
    · cases h
  · rename_i vb voff vn vc sz
    split at h
    · rename_i e he
      have hu := tElem_und he
      split at h
      · rename_i hsz
        rw [Option.map_eq_some_iff] at h
        obtain ⟨⟨l, hi, m⟩, hb, rfl⟩ := h
        cases hx with
        | @vs _ _ off' _ _ cap _ blk hb' ha hn hc hm hs =>
          obtain ⟨M, hrun, h5, h6, h7, h8, h9⟩ := boundsC_sound (P := P) hn hc hb h1 h2 h3
          obtain ⟨us, ue, hs1, hs2⟩ := hs
          refine ⟨.slice (some (if M = l then ⟨blk, off', none⟩ else ⟨blk, off' + l * sz, none⟩)) (hi - l) (M - l), ?_, ?_⟩
          · simp only [Instr.sliceAt, Instr.slice, Sem.run_bind, run_underlying hu, Result.andThen_ok, hrun, run_sizeOf hsz, Sem.run_pure]
            split <;> simp [add_lit]
          · dsimp only
            by_cases hM : M = l
            · rw [if_pos hM]
              refine R.vs (n := hi - l) (c := m - l) (cap := M - l) hb' (by omega) (by omega) (by omega) (by omega) ⟨us, ue, hs1, ?_⟩
              rw [show M - l = 0 by omega, Nat.zero_mul]
              omega
            · rw [if_neg hM]
              have h10 : 0 < m - l → off' + l * sz = voff + l * sz := fun h0 => by rw [ha (by omega)]
              refine R.vs (n := hi - l) (c := m - l) (cap := M - l) hb' h10 (by omega) (by omega) (by omega) ⟨us, ue, hs1, ?_⟩
              have h11 : (l + (M - l)) * sz ≤ cap * sz := Nat.mul_le_mul_right _ (by omega)
              rw [Nat.add_mul] at h11
              omega
      · cases h
    · cases h
  · cases h

/-! ### Memory made anew -/
theorem alloc_old (w : World) (o : Obj) (b : Nat) (h : b < w.heap.size) : (w.alloc o).heap[b]? = w.heap[b]? := by
  show (w.heap.push o)[b]? = _
  rw [Array.getElem?_push, if_neg (by omega)]

theorem alloc_new (w : World) (o : Obj) : (w.alloc o).heap[w.heap.size]? = some o := by
  show (w.heap.push o)[w.heap.size]? = _
  simp

theorem cell_same {w w' : World} {b : Nat} (h : w'.heap[b]? = w.heap[b]?) (o : Nat) : w'.cell? ⟨b, o, none⟩ = w.cell? ⟨b, o, none⟩ := by
  simp [World.cell?, h]

/-- Protection of the first 'n' cells of a block, too. -/
def Gh.add (g : Gh) (blk n : Nat) : Gh := ⟨g.ρ, fun b o => g.prot b o ∨ (b = blk ∧ o < n)⟩

/-- What a step leaves that makes a block of cells, 'n' of which nobody writes any more. -/
theorem evo_alloc {g : Gh} {w : World} (hp : ∀ b o, g.prot b o → b < w.heap.size) (o : Obj) (n : Nat) :
    Evo g w (g.add w.heap.size n) (w.alloc o) (fun _ => False) := by
  refine ⟨⟨[], by simp [Gh.add], by simp⟩, fun b o h => .inl h, ?_, ?_, by simp, ?_, rfl, rfl, rfl, .of_old fun b hb => alloc_old w o b hb⟩
  · rintro b o (h | ⟨rfl, _⟩)
    · exact .inl h
    · exact .inr (.inr (Nat.le_refl _))
  · intro b k hb
    exact cell_same (alloc_old w o b (hp b k hb)) k
  · intro b hb _
    exact alloc_old w o b hb

theorem evo_drew (g : Gh) (w : World) : Evo g w g w.drew (fun _ => False) :=
  ⟨⟨[], by simp, by simp⟩, fun _ _ h => h, fun _ _ h => .inl h, fun _ _ _ => rfl, Nat.le_refl _, fun _ _ _ => rfl, rfl, rfl, rfl, .of_heap rfl⟩

theorem prot_add_alloc {g : Gh} {w : World} (hp : ∀ b o, g.prot b o → b < w.heap.size) (o : Obj) (n : Nat) :
    ∀ b k, (g.add w.heap.size n).prot b k → b < (w.alloc o).heap.size := by
  rintro b k (h | ⟨rfl, _⟩)
  · have := hp b k h; simp; omega
  · simp

/-- What a value-making step gives. -/
structure Made (P : Program) (g : Gh) (w : World) (run : World → Result Value) (x : PV) (T : Nat → Prop) : Prop where
  ex : ∃ v g' w', run w = .ok v w' ∧ Evo g w g' w' T ∧ g'.ρ = g.ρ ∧ RT g' w' x v ∧ (∀ b o, g'.prot b o → b < w'.heap.size) ∧ (∀ blk, owns x v blk → T blk ∨ w.heap.size ≤ blk)

theorem Made.of {run : World → Result Value} {x : PV} {v : Value} (hp : ∀ b o, g.prot b o → b < w.heap.size) (h : run w = .ok v w) (hr : R g w x v) (T : Nat → Prop) : Made P g w run x T :=
  ⟨v, g, w, h, .refl g w T, rfl, .of hr, hp, fun _ ho => (not_owns_of hr.not_ow ho).elim⟩

/-- Elements, one for one, of a size: their cells lie in a row. -/
theorem flat_get {sz : Nat} : ∀ (els : List PV), (∀ el, el ∈ els → el.cells.length = sz) → ∀ (i j : Nat), j < sz → i < els.length →
    (els.flatMap PV.cells)[i * sz + j]? = (els[i]?).bind fun el => el.cells[j]?
  | [], _, i, j, _, hi => by simp at hi
  | el :: r, h, 0, j, hj, _ => by
    have := h el (by simp)
    simp only [List.flatMap_cons, Nat.zero_mul, Nat.zero_add, List.getElem?_cons_zero, Option.bind_some]
    rw [List.getElem?_append_left (by omega)]
  | el :: r, h, i + 1, j, hj, hi => by
    have h0 := h el (by simp)
    simp only [List.flatMap_cons, List.getElem?_cons_succ]
    rw [List.getElem?_append_right (by rw [h0, Nat.add_mul]; omega), h0, show (i + 1) * sz + j - sz = i * sz + j by rw [Nat.add_mul]; omega]
    exact flat_get r (fun el hel => h el (by simp [hel])) i j hj (by simpa using hi)

theorem flat_length {sz : Nat} : ∀ (els : List PV), (∀ el, el ∈ els → el.cells.length = sz) → (els.flatMap PV.cells).length = els.length * sz
  | [], _ => by simp
  | el :: r, h => by
    rw [List.flatMap_cons, List.length_append, h el (by simp), flat_length r fun el hel => h el (by simp [hel]), List.length_cons, Nat.add_mul, Nat.one_mul]
    omega

/-- A row of cells that is protected is a slice of the elements that it holds. -/
theorem row_slice {g : Gh} {w : World} {t : Tag} {sz : Nat} {els : List PV} {vs : List Value} {blk cap : Nat} {cur : Array Value} {e : TypeId} {fr : Nat × Nat}
    (hw : ∀ el, el ∈ els → el.cells.length = sz ∧ el.maxRef = 0 ∧ noOw el.cells = true) (hc : RCs g w (els.flatMap PV.cells) vs)
    (hb : w.heap[blk]? = some (.cells cur e fr)) (hpre : ∀ (i : Nat) (v : Value), vs[i]? = some v → cur[i]? = some v) (hp : ∀ o, o < els.length * sz → g.prot blk o)
    (ht : t ≠ .ow) (hn : els.length ≤ cap) (hm : cap ≤ maxLen) (hex : t = .ex → cap = els.length) : R g w (.sl t sz els) (.slice (some ⟨blk, 0, none⟩) els.length cap) := by
  have hlen := flat_length els fun el hel => (hw el hel).1
  have pos : ∀ i j, i < els.length → j < sz → i * sz + j < els.length * sz := by
    intro i j hi hj
    have : (i + 1) * sz ≤ els.length * sz := Nat.mul_le_mul_right _ hi
    rw [Nat.add_mul] at this
    omega
  refine .sl (fun i j => vs.getD (i * sz + j) undef) ht hn hm hex hw ?_ ?_
  · intro i j hi hj
    have hlt := pos i j hi hj
    have hv : vs[i * sz + j]? = some (vs.getD (i * sz + j) undef) := by
      have : i * sz + j < vs.length := by rw [← hc.1, hlen]; exact hlt
      simp [List.getD, List.getElem?_eq_getElem this]
    have hcc : (els.flatMap PV.cells)[i * sz + j]? = some ((els.flatMap PV.cells)[i * sz + j]'(by rw [hlen]; exact hlt)) := List.getElem?_eq_getElem _
    refine ⟨by rw [Nat.zero_add]; exact hp _ hlt, ?_, (hc.2 _ _ _ hcc hv).2⟩
    simp only [World.cell?, hb, Nat.zero_add, Option.isSome_none, Bool.false_eq_true, if_false]
    exact hpre _ _ hv
  · intro i j el c hel hcc
    have hi := (List.getElem?_eq_some_iff.1 hel).1
    have hj : j < sz := by rw [← (hw el (List.mem_of_getElem? hel)).1]; exact (List.getElem?_eq_some_iff.1 hcc).1
    have hlt := pos i j hi hj
    have hv : vs[i * sz + j]? = some (vs.getD (i * sz + j) undef) := by
      have : i * sz + j < vs.length := by rw [← hc.1, hlen]; exact hlt
      simp [List.getD, List.getElem?_eq_getElem this]
    refine (hc.2 (i * sz + j) c _ ?_ hv).1
    rw [flat_get els (fun el hel => (hw el hel).1) i j hj hi, hel]
    exact hcc

/-- The cells of a slice's elements, as they lie in memory. -/
theorem slice_cells {t : Tag} {sz : Nat} {els : List PV} {v : Value} (h : R g w (.sl t sz els) v) :
    (∀ el, el ∈ els → el.cells.length = sz ∧ el.maxRef = 0 ∧ noOw el.cells = true) ∧
    ∃ blk off cap vs, v = .slice (some ⟨blk, off, none⟩) els.length cap ∧ els.length ≤ cap ∧ cap ≤ maxLen ∧ (t = .ex → cap = els.length) ∧ RCs g w (els.flatMap PV.cells) vs ∧
      ∀ (j : Nat) (u : Value), vs[j]? = some u → w.cell? ((⟨blk, off, none⟩ : Addr).add j) = some u ∧ g.prot blk (off + j) := by
  cases h with
  | @sl _ _ _ blk off cap V ht hn hm hex hwf hc hr =>
    refine ⟨hwf, blk, off, cap, (List.range (els.length * sz)).map fun k => V (k / sz) (k % sz), rfl, hn, hm, hex, ?_, ?_⟩
    · have hlen := flat_length els fun el hel => (hwf el hel).1
      refine ⟨by simp [hlen], fun k c u hcc hu => ?_⟩
      have hk := (List.getElem?_eq_some_iff.1 hcc).1
      rw [hlen] at hk
      rw [List.getElem?_map, List.getElem?_range hk] at hu
      simp only [Option.map_some, Option.some.injEq] at hu
      subst hu
      have hsz : 0 < sz := by rcases Nat.eq_zero_or_pos sz with h0 | h0; (subst h0; simp at hk); exact h0
      have hi : k / sz < els.length := Nat.div_lt_of_lt_mul (by rw [Nat.mul_comm]; exact hk)
      have hj : k % sz < sz := Nat.mod_lt _ hsz
      have e : k / sz * sz + k % sz = k := by rw [Nat.mul_comm]; exact Nat.div_add_mod k sz
      rw [← e, flat_get els (fun el hel => (hwf el hel).1) _ _ hj hi, List.getElem?_eq_getElem hi] at hcc
      exact ⟨hr _ _ _ c (List.getElem?_eq_getElem hi) hcc, (hc _ _ hi hj).2.2⟩
    · intro k u hu
      rw [List.getElem?_map] at hu
      cases hr' : (List.range (els.length * sz))[k]? with
      | none => simp [hr'] at hu
      | some k' =>
        have hk := (List.getElem?_eq_some_iff.1 hr').1
        simp at hk
        rw [List.getElem?_range hk] at hr'
        simp only [Option.some.injEq] at hr'
        subst hr'
        rw [List.getElem?_range hk] at hu
        simp only [Option.map_some, Option.some.injEq] at hu
        subst hu
        have hsz : 0 < sz := by rcases Nat.eq_zero_or_pos sz with h0 | h0; (subst h0; simp at hk); exact h0
        have hi : k / sz < els.length := Nat.div_lt_of_lt_mul (by rw [Nat.mul_comm]; exact hk)
        have hj : k % sz < sz := Nat.mod_lt _ hsz
        have e : k / sz * sz + k % sz = k := by rw [Nat.mul_comm]; exact Nat.div_add_mod k sz
        have := hc _ _ hi hj
        rw [add_lit]
        rw [Nat.add_assoc, e] at this
        exact ⟨this.2.1, this.1⟩

end
end Go.Proofs.YtnjlkgmcoengnaaGreat.PE
