/- A region that draws its order, by facts: each operation is shown to leave, in whatever world that has grown, a value of which a fact holds that outlasts growth, from the facts of the operations that it waits for; then, in whatever order, all facts hold behind the region. No condition. -/
import Derived.Orders
import Derived.Below
namespace Go.Facts
open Go.RowKit
variable {P : Program} {ops : Array Oper} {Q : Exit → Act → World → Prop}

/-- the value that operation i has left -/
def slotOf (ops : Array Oper) (a : Act) (i : Nat) : Value :=
  match ops[i]? with
  | some o => match o.dst with
    | some d => (a.tmps[d]?).getD undef
    | none => undef
  | none => undef

/-- no two operations write one slot; each slot is one of the frame; each waits for earlier ones alone -/
def fine (ops : Array Oper) (size : Nat) : Bool :=
  ((List.range ops.size).all fun i => match ops[i]? with
    | some o => (match o.dst with
      | some d => decide (d < size) && ((List.range ops.size).all fun j => i == j || (match ops[j]? with | some u => u.dst != some d | none => true))
      | none => true) && o.after.all fun e => decide (e.on < i)
    | none => true)

/-- the frame but for the region's own slots -/
structure Base (ops : Array Oper) (a0 a : Act) : Prop where
  defers : a.defers = a0.defers
  size : a.tmps.size = a0.tmps.size
  old : ∀ t, (∀ (i : Nat) (o : Oper), ops[i]? = some o → o.dst ≠ some t) → (a.tmps[t]?).getD undef = (a0.tmps[t]?).getD undef

theorem Base.refl (a : Act) : Base ops a a := ⟨rfl, rfl, fun _ _ => rfl⟩

theorem Base.put {a0 a : Act} (h : Base ops a0 a) {i : Nat} {o : Oper} (ho : ops[i]? = some o) (v : Value) : Base ops a0 (a.put o.dst v) := by
  unfold Act.put
  cases hd : o.dst with
  | none => exact h
  | some d =>
    refine ⟨h.defers, by simpa using h.size, fun t ht => ?_⟩
    have hne : d ≠ t := fun e => ht i o ho (by rw [hd, e])
    rw [← h.old t ht]
    simp [hne]

theorem Base.at_ {a0 a : Act} (h : Base ops a0 a) {t : Tmp} (ht : (ops.all fun o => o.dst != some t) = true) : (a.tmps[t]?).getD undef = (a0.tmps[t]?).getD undef :=
  h.old t fun i o ho e => by
    have := Array.all_eq_true'.1 ht o (Array.mem_of_getElem? ho)
    simp [e] at this

/-- what is shown of operation i -/
def Step (P : Program) (ops : Array Oper) (Q : Exit → Act → World → Prop) (φ : Nat → Value → World → Prop) (a0 : Act) (w0 : World) (i : Nat) (o : Oper) : Prop :=
  ∀ a w, Below w0.heap.size w0 w → Base ops a0 a → (∀ e ∈ o.after, Region.binds .any e = true → φ e.on (slotOf ops a e.on) w) →
    (Region.wanted o (yielded ops a.tmps) = true → o.wp P a w (fun a' w' => Below w.heap.size w w' ∧ ∃ v, a' = a.put o.dst v ∧ (match o.dst with | some _ => φ i v w' | none => φ i undef w')) Q) ∧
    (Region.wanted o (yielded ops a.tmps) = false → φ i undef w)

theorem slot_put {size : Nat} (hf : fine ops size = true) {a : Act} (hs : a.tmps.size = size) {i : Nat} {o : Oper} (ho : ops[i]? = some o) (v : Value) :
    slotOf ops (a.put o.dst v) i = (match o.dst with | some _ => v | none => undef) ∧ ∀ j, j ≠ i → slotOf ops (a.put o.dst v) j = slotOf ops a j := by
  have hi : i < ops.size := (Array.getElem?_eq_some_iff.1 ho).1
  have h1 := List.all_eq_true.1 hf i (List.mem_range.2 hi)
  rw [ho] at h1
  cases hd : o.dst with
  | none =>
    refine ⟨by simp [slotOf, ho, hd], fun j _ => by simp [Act.put]⟩
  | some d =>
    simp only [hd, Bool.and_eq_true, decide_eq_true_eq] at h1
    obtain ⟨⟨hlt, hall⟩, _⟩ := h1
    refine ⟨by simp [slotOf, ho, hd, Act.put, hs, hlt], fun j hj => ?_⟩
    unfold slotOf
    cases hu : ops[j]? with
    | none => rfl
    | some u =>
      cases hud : u.dst with
      | none => simp [hud]
      | some t =>
        have hjlt : j < ops.size := (Array.getElem?_eq_some_iff.1 hu).1
        have h2 := List.all_eq_true.1 hall j (List.mem_range.2 hjlt)
        rw [hu] at h2
        have hij : (i == j) = false := beq_eq_false_iff_ne.2 (fun e => hj e.symm)
        simp only [hij, Bool.false_or, bne_iff_ne, ne_eq] at h2
        have hne : d ≠ t := fun e => h2 (by rw [hud, e])
        simp [hud, Act.put, hne]

theorem fine_after {size : Nat} (hf : fine ops size = true) {i : Nat} {o : Oper} (ho : ops[i]? = some o) : ∀ e ∈ o.after, e.on < i := by
  have hi : i < ops.size := (Array.getElem?_eq_some_iff.1 ho).1
  have h1 := List.all_eq_true.1 hf i (List.mem_range.2 hi)
  rw [ho] at h1
  simp only [Bool.and_eq_true] at h1
  intro e he
  have := Array.all_eq_true'.1 h1.2 e he
  simpa using this

/-- the first operation that has not come up is ready -/
theorem ready_of {size : Nat} (hf : fine ops size = true) {listed : Array Bool} (hl : listed.size = ops.size) (h : Region.ready .any ops listed = []) : ∀ i, i < ops.size → listed.getD i true = true := by
  intro i
  induction i using Nat.strongRecOn with
  | ind i ih =>
    intro hi
    by_cases hc : listed.getD i true = true
    · exact hc
    · exfalso
      have hmem : i ∈ Region.ready .any ops listed := by
        unfold Region.ready
        rw [List.mem_filter]
        refine ⟨List.mem_range.2 hi, ?_⟩
        have ho : ops[i]? = some ops[i] := Array.getElem?_eq_getElem hi
        rw [ho]
        simp only [Option.map_some, Option.getD_some, Bool.and_eq_true]
        refine ⟨by simpa using hc, ?_⟩
        rw [Array.all_eq_true']
        intro e he
        have hlt := fine_after hf ho e he
        have := ih e.on hlt (by omega)
        have hel : e.on < listed.size := by omega
        rw [Array.getD_eq_getD_getElem?, Array.getElem?_eq_getElem hel] at this ⊢
        simp only [Option.getD_some] at this ⊢
        rw [this]; simp
      rw [h] at hmem
      cases hmem

/-- what holds at each point of whatever order -/
structure Inv (ops : Array Oper) (φ : Nat → Value → World → Prop) (a0 : Act) (w0 : World) (listed : Array Bool) (a : Act) (w : World) : Prop where
  below : Below w0.heap.size w0 w
  base : Base ops a0 a
  size : listed.size = ops.size
  facts : ∀ i, i < ops.size → listed.getD i true = true → φ i (slotOf ops a i) w

theorem wpAny_facts {φ : Nat → Value → World → Prop} {a0 : Act} {w0 : World} (hf : fine ops a0.tmps.size = true)
    (hmono : ∀ i v w w', φ i v w → Below w.heap.size w w' → φ i v w')
    (hstep : ∀ (i : Nat) (o : Oper), ops[i]? = some o → Step P ops Q φ a0 w0 i o)
    (hend : ∀ a w, Below w0.heap.size w0 w → Base ops a0 a → (∀ i, i < ops.size → φ i (slotOf ops a i) w) → Q .normal a w) :
    ∀ (fuel : Nat) (listed : Array Bool) (a : Act) (w : World), Inv ops φ a0 w0 listed a w → ((List.range ops.size).filter fun i => !listed.getD i true).length ≤ fuel → wpAny P .any ops Q fuel listed a w := by
  have done : ∀ (listed : Array Bool) (a : Act) (w : World), Inv ops φ a0 w0 listed a w → Region.ready .any ops listed = [] → Q .normal a w := fun listed a w h hr =>
    hend a w h.below h.base fun i hi => h.facts i hi (ready_of hf h.size hr i hi)
  intro fuel
  induction fuel with
  | zero =>
    intro listed a w h hc
    have hnil : Region.ready .any ops listed = [] := by
      have h0 := List.eq_nil_of_length_eq_zero (Nat.le_zero.1 hc)
      unfold Region.ready
      rw [List.filter_eq_nil_iff] at h0 ⊢
      intro i hi h1
      refine h0 i hi ?_
      simp only [Bool.and_eq_true] at h1
      exact h1.1
    exact ⟨hnil, done listed a w h hnil⟩
  | succ fuel ih =>
    intro listed a w h hc
    refine ⟨done listed a w h, fun i hi => ?_⟩
    have hi0 := hi
    unfold Region.ready at hi
    rw [List.mem_filter] at hi
    obtain ⟨hir, hi2⟩ := hi
    have hilt : i < ops.size := List.mem_range.1 hir
    have ho : ops[i]? = some ops[i] := Array.getElem?_eq_getElem hilt
    rw [ho] at hi2
    simp only [Option.map_some, Option.getD_some, Bool.and_eq_true, Bool.not_eq_true'] at hi2
    obtain ⟨hun, hall⟩ := hi2
    generalize ops[i] = o at ho hall
    have hafter : ∀ e ∈ o.after, Region.binds .any e = true → φ e.on (slotOf ops a e.on) w := fun e he hb => by
      have h1 := Array.all_eq_true'.1 hall e he
      have h2 : listed.getD e.on false = true := by simpa [hb] using h1
      have hlt := fine_after hf ho e he
      refine h.facts e.on (by omega) ?_
      have hel : e.on < listed.size := by have := h.size; omega
      rw [Array.getD_eq_getD_getElem?, Array.getElem?_eq_getElem hel] at h2 ⊢
      exact h2
    have hcount : ((List.range ops.size).filter fun j => !(listed.setIfInBounds i true).getD j true).length ≤ fuel := by
      have hlt : ((List.range ops.size).filter fun j => !(listed.setIfInBounds i true).getD j true).length < ((List.range ops.size).filter fun j => !listed.getD j true).length := by
        have hsub : ((List.range ops.size).filter fun j => !(listed.setIfInBounds i true).getD j true) = (((List.range ops.size).filter fun j => !listed.getD j true).filter fun j => decide (j ≠ i)) := by
          rw [List.filter_filter]
          refine List.filter_congr fun j hj => ?_
          by_cases hji : j = i
          · subst hji
            have : j < listed.size := by have := h.size; omega
            simp [Array.getD_eq_getD_getElem?, this]
          · have hne : i ≠ j := fun e => hji e.symm
            simp [Array.getD_eq_getD_getElem?, hne, hji]
        rw [hsub]
        refine List.length_filter_lt_length_iff_exists.2 ⟨i, ?_, by simp⟩
        rw [List.mem_filter]
        exact ⟨hir, by simpa using hun⟩
      omega
    have hset : ∀ j, j ≠ i → (listed.setIfInBounds i true).getD j true = listed.getD j true := fun j hj => by
      have hne : i ≠ j := fun e => hj e.symm
      simp [hne]
    have next : ∀ (a' : Act) (w' : World), (Below w.heap.size w w' ∧ ∃ v, a' = a.put o.dst v ∧ (match o.dst with | some _ => φ i v w' | none => φ i undef w')) → wpAny P .any ops Q fuel (listed.setIfInBounds i true) a' w' := by
      rintro a' w' ⟨hb, v, rfl, hφ⟩
      refine ih _ _ _ ⟨h.below.trans (hb.mono h.below.size), h.base.put ho v, by simpa using h.size, fun j hj hlj => ?_⟩ hcount
      obtain ⟨hs1, hs2⟩ := slot_put hf h.base.size ho v
      by_cases hji : j = i
      · subst hji
        rw [hs1]
        cases hd : o.dst with
        | none => simpa [hd] using hφ
        | some d => simpa [hd] using hφ
      · rw [hs2 j hji]
        rw [hset j hji] at hlj
        exact hmono j _ w w' (h.facts j hj hlj) hb
    have hs := hstep i o ho a w h.below h.base hafter
    unfold wpOp
    rw [ho]
    simp only
    split
    · rename_i hw
      exact .inl (Oper.wp_mono next (hs.1 hw))
    · rename_i hw
      have hw' : Region.wanted o (yielded ops a.tmps) = false := by simpa using hw
      refine next _ _ ⟨Below.refl _ _, undef, rfl, ?_⟩
      cases o.dst <;> exact hs.2 hw'

/-- **a region that draws its order, by facts** -/
theorem wp_region_facts {id : Nat} {φ : Nat → Value → World → Prop} {a : Act} {w : World} (hm : P.follows .mixedOrders = true) (hf : fine ops a.tmps.size = true)
    (hmono : ∀ i v w w', φ i v w → Below w.heap.size w w' → φ i v w')
    (hstep : ∀ (i : Nat) (o : Oper), ops[i]? = some o → Step P ops Q φ a w i o)
    (hend : ∀ a' w', Below w.heap.size w w' → Base ops a a' → (∀ i, i < ops.size → φ i (slotOf ops a' i) w') → Q .normal a' w') :
    (Code.region id ops true).wp P Q a w := by
  refine wp_region_any hm (wpAny_facts (φ := φ) (a0 := a) (w0 := w) hf hmono hstep hend _ _ _ _ ⟨⟨rfl, rfl, rfl, Nat.le_refl _, fun _ _ => rfl⟩, Base.refl a, by simp, fun i hi hl => ?_⟩ ?_)
  · simp [Array.getD_eq_getD_getElem?, hi] at hl
  · exact Nat.le_trans (List.length_filter_le _ _) (by simp)

end Go.Facts
