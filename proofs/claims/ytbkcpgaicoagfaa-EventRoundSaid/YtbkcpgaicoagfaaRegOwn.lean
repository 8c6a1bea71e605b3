/- A region that draws its order and in which the call appends to rows of its own: as XRegion, but an operation may write the row that one other operation has left (it consumes that one's value). -/
import Derived.Test.YtbkcpgaicoagfaaRegion
import Derived.Below
set_option linter.unusedVariables false
set_option linter.unusedSimpArgs false
namespace Go.Proofs.Ytbkcpgaicoagfaa
open Go Go.RowKit

/-- Which row an operation may write: that of the value that it consumes (its slot: c). -/
def rowOf (a : Act) : Option Tmp → Option Nat
  | some d => (leftIn a (some d)).ownBlock
  | none => none

section
variable {P : Program} {ops : Array Oper} {Q : Exit → Act → World → Prop} {a0 : Act}
variable (A : Array (List Nat)) (F : Nat → Value → World → Prop) (own : Nat → Bool) (cons : Nat → Option Nat) (w0 : World)

/-- What a step must come to. -/
def StepQ2 (own : Bool) (a : Act) (i : Nat) (d c : Option Tmp) (u : World) : Exit → Act → World → Prop := fun e a' u' =>
  e = .normal ∧ a'.defers = a.defers ∧ u.grownBy u' (rowOf a c) ∧ F i (leftIn a' d) u' ∧
  (own = true → ∀ b, (leftIn a' d).ownBlock = some b → (rowOf a c = some b ∨ u.heap.size ≤ b) ∧ b < u'.heap.size)

/-- The slot of the value that operation j consumes. -/
def consSlot (ops : Array Oper) (cons : Nat → Option Nat) (j : Nat) : Option Tmp := (cons j).bind fun i => (ops[i]?).bind (·.dst)

def StepOk2 (P : Program) (ops : Array Oper) (a0 : Act) (i : Nat) : Prop :=
  ∀ o, ops[i]? = some o → ∀ f u, Below w0.heap.size w0 u → (∀ j ∈ A.getD i [], F j (f j) u) →
    (∀ b, rowOf (putAll a0 (pairsOf ops (A.getD i [])) f) (consSlot ops cons i) = some b → w0.heap.size ≤ b ∧ b < u.heap.size) →
    wpList P ops (StepQ2 F (own i) (putAll a0 (pairsOf ops (A.getD i [])) f) i o.dst (consSlot ops cons i) u) [o] (putAll a0 (pairsOf ops (A.getD i [])) f) u

/-- The closed check: each value is consumed at most once, by one that is told of it; whoever else is told of it comes up ahead of that one. -/
def consOk (ops : Array Oper) (A : Array (List Nat)) (own : Nat → Bool) (cons : Nat → Option Nat) : Bool :=
  (List.range ops.size).all fun j =>
    (match cons j with
     | some i => decide (i < ops.size) && own i && own j && (A.getD j []).contains i && ((ops[i]?).bind (·.dst)).isSome && decide (i ≠ j) && (List.range ops.size).all (fun k => k == j || cons k != some i)
     | none => true) &&
    ((A.getD j []).all fun i => (List.range ops.size).all fun k => cons k != some i || k == j || (A.getD k []).contains j)

structure RegInv2 (ops : Array Oper) (a0 : Act) (listed : Array Bool) (f : Nat → Value) (a : Act) (u : World) : Prop where
  size : listed.size = ops.size
  closed : ∀ i, listed.getD i false = true → ∀ j ∈ A.getD i [], listed.getD j false = true
  base : Below w0.heap.size w0 u
  facts : ∀ i, listed.getD i false = true → (∀ k, cons k = some i → listed.getD k false = false) → F i (f i) u
  disj : ∀ i j, i ≠ j → own i = true → own j = true → listed.getD i false = true → listed.getD j false = true → (∀ k, cons k = some i → listed.getD k false = false) → (∀ k, cons k = some j → listed.getD k false = false) →
    ∀ b, (f i).ownBlock = some b → (f j).ownBlock ≠ some b
  ownlt : ∀ i, own i = true → listed.getD i false = true → ∀ b, (f i).ownBlock = some b → w0.heap.size ≤ b ∧ b < u.heap.size
  defers : a.defers = a0.defers
  tsize : a.tmps.size = a0.tmps.size
  at_ : ∀ i d, listed.getD i false = true → (ops[i]?).bind (·.dst) = some d → a.tmps[d]? = some (f i)
  other : ∀ t, (∀ i, listed.getD i false = true → (ops[i]?).bind (·.dst) ≠ some t) → a.tmps[t]? = a0.tmps[t]?

variable {A F own cons w0}

theorem consOk_at (hok : consOk ops A own cons = true) {j : Nat} (hj : j < ops.size) :
    (∀ i, cons j = some i → i < ops.size ∧ own i = true ∧ own j = true ∧ i ∈ A.getD j [] ∧ (∃ d, (ops[i]?).bind (·.dst) = some d) ∧ i ≠ j ∧ ∀ k, k < ops.size → cons k = some i → k = j) ∧
    (∀ i ∈ A.getD j [], ∀ k, k < ops.size → cons k = some i → k = j ∨ j ∈ A.getD k []) := by
  unfold consOk at hok
  have h := (List.all_eq_true.1 hok) j (List.mem_range.2 hj)
  rw [Bool.and_eq_true] at h
  refine ⟨fun i hi => ?_, fun i hi k hk hki => ?_⟩
  · have h1 := h.1
    simp only [hi, Bool.and_eq_true, decide_eq_true_eq, List.contains_iff_mem, Option.isSome_iff_exists] at h1
    obtain ⟨⟨⟨⟨⟨⟨g1, g2⟩, g3⟩, g4⟩, g5⟩, g6⟩, g7⟩ := h1
    refine ⟨g1, g2, g3, g4, g5, g6, fun k hk hki => ?_⟩
    have := (List.all_eq_true.1 g7) k (List.mem_range.2 hk)
    simp only [Bool.or_eq_true, beq_iff_eq, bne_iff_ne] at this
    rcases this with h | h
    · exact h
    · exact absurd hki h
  · have := (List.all_eq_true.1 ((List.all_eq_true.1 h.2) i hi)) k (List.mem_range.2 hk)
    simp only [Bool.or_eq_true, beq_iff_eq, bne_iff_ne, List.contains_iff_mem] at this
    rcases this with (h | h) | h
    · exact absurd hki h
    · exact .inl h
    · exact .inr h

/-- One operation, whichever comes up. -/
theorem region_step2 (hok : regionOk ops a0.tmps.size A = true) (hco : consOk ops A own cons = true) (hcs : ∀ k i, cons k = some i → k < ops.size)
    (hF : ∀ i, i < ops.size → ∀ v u u' row, F i v u → u.grownBy u' row → (∀ b, row = some b → w0.heap.size ≤ b ∧ (own i = true → v.ownBlock ≠ some b)) → F i v u')
    {i : Nat} {o : Oper} (ho : ops[i]? = some o) (hstep : StepOk2 A F own cons w0 P ops a0 i) {listed : Array Bool} {f : Nat → Value} {a : Act} {u : World}
    (hI : RegInv2 A F own cons w0 ops a0 listed f a u) (hr : i ∈ Region.ready .any ops listed) {K : Act → World → Prop}
    (hK : ∀ f' a' u', RegInv2 A F own cons w0 ops a0 (listed.setIfInBounds i true) f' a' u' → K a' u') : wpOp P ops Q i K a u := by
  obtain ⟨hun, o', ho', hall⟩ := mem_ready.1 hr
  rw [ho] at ho'
  obtain rfl := Option.some.inj ho'
  obtain ⟨k1, k2, k3, k4, k5, _⟩ := ok_at hok ho
  have hi : i < ops.size := (Array.getElem?_eq_some_iff.1 ho).1
  have hunf : listed.getD i false = false := by
    have : i < listed.size := by rw [hI.size]; exact hi
    simp only [Array.getD_eq_getD_getElem?, Array.getElem?_eq_getElem this] at hun ⊢
    simpa using hun
  have hanc : ∀ j ∈ A.getD i [], listed.getD j false = true := fun j hj => by
    obtain ⟨e, he, hb, h⟩ := k1 j hj
    have hl := hall e he hb
    rcases h with rfl | h
    · exact hl
    · exact hI.closed _ hl j h
  -- the frame that the step is told agrees with this one where the operation looks
  have hagree : ∀ t ∈ o.looksAt ops, (putAll a0 (pairsOf ops (A.getD i [])) f).tmps[t]? = a.tmps[t]? := by
    intro t ht
    by_cases hw : ∃ j, (ops[j]?).bind (·.dst) = some t ∧ j ∈ A.getD i []
    · obtain ⟨j, hjt, hj⟩ := hw
      obtain ⟨oj, hoj⟩ : ∃ oj, ops[j]? = some oj := by
        cases h : ops[j]? with
        | none => simp [h] at hjt
        | some oj => exact ⟨oj, rfl⟩
      have hd : oj.dst = some t := by simpa [hoj] using hjt
      obtain ⟨hlt, huniq⟩ := (ok_at hok hoj).2.1 t hd
      rw [hI.at_ j t (hanc j hj) hjt]
      exact putAll_at _ _ f j t (pairsOf_mem.2 ⟨hj, hjt⟩) (fun p hp hpt => by
        obtain ⟨p1, p2⟩ := p
        simp only at hpt
        subst hpt
        have := pairsOf_mem.1 hp
        exact huniq p1 (dst_lt this.2) this.2) hlt
    · rw [putAll_other _ _ f t (fun p hp he => by
        obtain ⟨p1, p2⟩ := p
        simp only at he
        subst he
        have := pairsOf_mem.1 hp
        exact hw ⟨p1, this.2, this.1⟩)]
      refine (hI.other t fun j hj hjt => ?_).symm
      rcases k4 t ht j (dst_lt hjt) hjt with h | h
      · exact hw ⟨j, hjt, h⟩
      · have := hI.closed j hj i h
        rw [hunf] at this
        cases this
  have hdef : (putAll a0 (pairsOf ops (A.getD i [])) f).defers = a.defers := by rw [putAll_defers, hI.defers]
  obtain ⟨c1, c2⟩ := consOk_at hco hi
  have hfree : ∀ j ∈ A.getD i [], ∀ k, cons k = some j → listed.getD k false = false := fun j hj k hk => by
    cases hl : listed.getD k false with
    | false => rfl
    | true =>
      exfalso
      rcases c2 j hj k (hcs k j hk) hk with rfl | h
      · rw [hunf] at hl; cases hl
      · have := hI.closed k hl i h
        rw [hunf] at this; cases this
  -- the row that this operation may write
  have hrow : rowOf (putAll a0 (pairsOf ops (A.getD i [])) f) (consSlot ops cons i) = (cons i).bind fun j => (f j).ownBlock := by
    cases hc : cons i with
    | none => simp [consSlot, hc, rowOf]
    | some j =>
      obtain ⟨g1, g2, g3, g4, ⟨d, g5⟩, g6, g7⟩ := c1 j hc
      obtain ⟨oj, hoj⟩ : ∃ oj, ops[j]? = some oj := ⟨ops[j], Array.getElem?_eq_getElem g1⟩
      have hd : oj.dst = some d := by simpa [hoj] using g5
      obtain ⟨hlt, huniq⟩ := (ok_at hok hoj).2.1 d hd
      have hat := putAll_at (pairsOf ops (A.getD i [])) a0 f j d (pairsOf_mem.2 ⟨g4, g5⟩) (fun p hp hpt => by
        obtain ⟨p1, p2⟩ := p
        simp only at hpt
        subst hpt
        have := pairsOf_mem.1 hp
        exact huniq p1 (dst_lt this.2) this.2) hlt
      have e1 : consSlot ops cons i = some d := by simp [consSlot, hc, g5]
      have e2 : leftIn (putAll a0 (pairsOf ops (A.getD i [])) f) (some d) = f j := by
        show (putAll a0 (pairsOf ops (A.getD i [])) f).tmps.getD d undef = f j
        rw [Array.getD_eq_getD_getElem?, hat]
        rfl
      rw [e1, rowOf, e2]
      simp
  have hrlt : ∀ b, rowOf (putAll a0 (pairsOf ops (A.getD i [])) f) (consSlot ops cons i) = some b → w0.heap.size ≤ b ∧ b < u.heap.size := fun b hb => by
    rw [hrow] at hb
    cases hc : cons i with
    | none => simp [hc] at hb
    | some j =>
      simp [hc] at hb
      obtain ⟨g1, g2, g3, g4, _⟩ := c1 j hc
      exact hI.ownlt j g2 (hanc j g4) b hb
  have hst := hstep o ho f u hI.base (fun j hj => hI.facts j (hanc j hj) (hfree j hj)) hrlt
  have hasz : (putAll a0 (pairsOf ops (A.getD i [])) f).tmps.size = a0.tmps.size := putAll_size _ _ _
  generalize putAll a0 (pairsOf ops (A.getD i [])) f = as at *
  -- what stands behind it
  have next : ∀ v u', u.grownBy u' (rowOf as (consSlot ops cons i)) → F i v u' → (own i = true → ∀ b, v.ownBlock = some b → (rowOf as (consSlot ops cons i) = some b ∨ u.heap.size ≤ b) ∧ b < u'.heap.size) → K (a.put o.dst v) u' := by
    intro v u' hg hf hv
    have hother : ∀ j, j ≠ i → (listed.setIfInBounds i true).getD j false = true → listed.getD j false = true := fun j hji hj => by
      rwa [getD_set_ne false (Ne.symm hji)] at hj
    have hself : (listed.setIfInBounds i true).getD i false = true := by
      have : i < listed.size := by rw [hI.size]; exact hi
      simp [this]
    have hunc : ∀ j, (∀ k, cons k = some j → (listed.setIfInBounds i true).getD k false = false) → (∀ k, cons k = some j → listed.getD k false = false) ∧ cons i ≠ some j := fun j h => by
      have h1 : cons i ≠ some j := fun e => by have := h i e; rw [hself] at this; cases this
      refine ⟨fun k hk => ?_, h1⟩
      have hki : k ≠ i := fun e => h1 (e ▸ hk)
      have := h k hk
      rwa [getD_set_ne false (Ne.symm hki)] at this
    -- the row that is written is no other live value's
    have hapart : ∀ j, own j = true → listed.getD j false = true → (∀ k, cons k = some j → listed.getD k false = false) → cons i ≠ some j → ∀ b, rowOf as (consSlot ops cons i) = some b → (f j).ownBlock ≠ some b := fun j hoj hlj huj hij b hb hjb => by
      rw [hrow] at hb
      cases hc : cons i with
      | none => simp [hc] at hb
      | some m =>
        simp [hc] at hb
        obtain ⟨g1, g2, g3, g4, _⟩ := c1 m hc
        have hmj : j ≠ m := fun e => hij (e ▸ hc)
        exact hI.disj j m hmj hoj g2 hlj (hanc m g4) huj (hfree m g4) b hjb hb
    refine hK (fun j => if j = i then v else f j) _ _ ⟨by simpa using hI.size, ?_, ?_, ?_, ?_, ?_, ?_, ?_, ?_, ?_⟩
    · intro j hj k hk
      by_cases hji : j = i
      · subst hji
        exact getD_set_true (hanc k hk)
      · exact getD_set_true (hI.closed j (hother j hji hj) k hk)
    · exact hI.base.grown hg hI.base.size (fun b hb => (hrlt b hb).1)
    · intro j hj hju
      by_cases hji : j = i
      · subst hji; simpa using hf
      · obtain ⟨h1, h2⟩ := hunc j hju
        have hfj := hI.facts j (hother j hji hj) h1
        simp only [hji, if_false]
        exact hF j (by
          have hjl := hother j hji hj
          rcases Nat.lt_or_ge j listed.size with h | h
          · rw [← hI.size]; exact h
          · simp [Array.getElem?_eq_none h] at hjl) _ _ _ _ hfj hg (fun b hb => ⟨(hrlt b hb).1, fun hoj => hapart j hoj (hother j hji hj) h1 h2 b hb⟩)
    · intro j m hjm hoj hom hj hm hju hmu b
      obtain ⟨j1, j2⟩ := hunc j hju
      obtain ⟨m1, m2⟩ := hunc m hmu
      by_cases hji : j = i
      · subst hji
        have hmi : m ≠ j := Ne.symm hjm
        simp only [if_true, hmi, if_false]
        intro hb hmb
        have hlm := hother m hmi hm
        obtain ⟨hv1, _⟩ := hv hoj b hb
        rcases hv1 with h | h
        · exact hapart m hom hlm m1 m2 b h hmb
        · have := (hI.ownlt m hom hlm b hmb).2
          omega
      · by_cases hmi : m = i
        · subst hmi
          simp only [if_true, hji, if_false]
          intro hjb hb
          have hlj := hother j hji hj
          obtain ⟨hv1, _⟩ := hv hom b hb
          rcases hv1 with h | h
          · exact hapart j hoj hlj j1 j2 b h hjb
          · have := (hI.ownlt j hoj hlj b hjb).2
            omega
        · simp only [hji, hmi, if_false]
          exact hI.disj j m hjm hoj hom (hother j hji hj) (hother m hmi hm) j1 m1 b
    · intro j hoj hj b
      by_cases hji : j = i
      · subst hji
        simp only [if_true]
        intro hb
        obtain ⟨hv1, hv2⟩ := hv hoj b hb
        refine ⟨?_, hv2⟩
        rcases hv1 with h | h
        · exact (hrlt b h).1
        · have := hI.base.size; omega
      · simp only [hji, if_false]
        intro hb
        have := hI.ownlt j hoj (hother j hji hj) b hb
        have hs := hg.size
        omega
    · cases hd : o.dst <;> simpa [Act.put] using hI.defers
    · cases hd : o.dst <;> simpa [Act.put] using hI.tsize
    · intro j d hj hjd
      by_cases hji : j = i
      · subst hji
        have hd : o.dst = some d := by simpa [ho] using hjd
        have hlt := (k2 d hd).1
        rw [hd]
        simp [Act.put, Array.getElem?_setIfInBounds_self_of_lt (show d < a.tmps.size by rw [hI.tsize]; exact hlt)]
      · rw [getD_set_ne false (Ne.symm hji)] at hj
        rw [if_neg hji, ← hI.at_ j d hj hjd]
        cases hd : o.dst with
        | none => rfl
        | some d' =>
          have hne : d' ≠ d := fun e => by
            subst e
            exact hji ((k2 d' hd).2 j (dst_lt hjd) hjd)
          simp [Act.put, Array.getElem?_setIfInBounds_ne hne]
    · intro t ht
      have h1 := hI.other t (fun j hj => by
        by_cases hji : j = i
        · subst hji; rw [hunf] at hj; cases hj
        · exact ht j (by rw [getD_set_ne false (Ne.symm hji)]; exact hj))
      rw [← h1]
      cases hd : o.dst with
      | none => rfl
      | some d =>
        have hne : d ≠ t := fun e => by
          subst e
          refine ht i ?_ (by simp [ho, hd])
          have : i < listed.size := by rw [hI.size]; exact hi
          simp [this]
        simp [Act.put, Array.getElem?_setIfInBounds_ne hne]
  have has : ∀ d, o.dst = some d → d < as.tmps.size := fun d hd => by rw [hasz]; exact (k2 d hd).1
  have hnext : ∀ v u', wpList P ops (StepQ2 F (own i) as i o.dst (consSlot ops cons i) u) [] (as.put o.dst v) u' → K (a.put o.dst v) u' := fun v u' h => by
    obtain ⟨_, _, hg, hf, hv⟩ := h
    cases hd : o.dst with
    | none =>
      rw [hd] at hf hv next
      exact next undef u' hg hf hv
    | some d =>
      have hlt := has d hd
      rw [hd] at hf hv next
      have e : leftIn (as.put (some d) v) (some d) = v := by
        simp [leftIn, Act.put, Array.getElem?_setIfInBounds_self_of_lt hlt]
      rw [e] at hf hv
      exact next v u' hg hf hv
  have hno : ¬ LetsOut (StepQ2 F (own i) as i o.dst (consSlot ops cons i) u) := fun ⟨_, _, h⟩ => by cases h.1
  have hex : execOp a.eval o = execOp as.eval o := execOp_congr o (fun cs b => Region.noSelect_spec (by
      unfold regionOk at hok
      simp only [Bool.and_eq_true] at hok
      exact hok.1.2) i o cs b ho) fun x hx => by
    cases x with
    | tmp t =>
      have := hagree t (List.mem_append_left _ (List.mem_filterMap.2 ⟨.tmp t, by simpa using hx, rfl⟩))
      simp [Act.eval, Array.getD_eq_getD_getElem?, this]
    | _ => rfl
  have hwt : Region.wanted o (yielded ops a.tmps) = Region.wanted o (yielded ops as.tmps) := by
    unfold Region.wanted
    cases hg : o.guard with
    | none => rfl
    | some gw =>
      obtain ⟨g, want⟩ := gw
      have hy : yielded ops a.tmps g = yielded ops as.tmps g := by
        unfold yielded
        cases ht : (ops[g]?).bind (·.dst) with
        | none => rfl
        | some t => simp only [Option.bind_some, hagree t (by simp [Oper.looksAt, hg, ht])]
      simp only [hy]
  unfold wpOp
  simp only [ho]
  unfold wpList at hst
  rw [hwt]
  split
  · rename_i hw
    rw [if_pos hw] at hst
    rcases hst with hst | ⟨_, hl⟩
    · refine .inl ?_
      unfold Oper.wp at *
      rw [hex]
      generalize (execOp as.eval o).run P u = r at *
      cases r with
      | ok n u' =>
        cases n <;> simp only [Oper.upon] at hst ⊢
        case value v => exact hnext v u' hst
        case skip => exact hnext undef u' hst
        case defer d =>
          obtain ⟨_, hd, _⟩ := hst
          exfalso
          cases hdd : o.dst <;> simp [hdd, Act.put, hdef] at hd
        case enter g args =>
          refine Calls.mono hst fun e u'' he => ?_
          cases e with
          | returned v => exact hnext v u'' he
          | panicked c => cases he.1
          | outgrown => exact absurd he hno
        case row row args => exact Rows.mono hst fun v u'' he => hnext v u'' he
      | halt x u' =>
        cases x <;> simp only [Oper.upon] at hst ⊢
        case panic v => cases hst.1
    · exact absurd hl hno
  · rename_i hw
    rw [if_neg hw] at hst
    exact hnext undef u hst

theorem region_any2 (hok : regionOk ops a0.tmps.size A = true) (hco : consOk ops A own cons = true) (hcs : ∀ k i, cons k = some i → k < ops.size)
    (hF : ∀ i, i < ops.size → ∀ v u u' row, F i v u → u.grownBy u' row → (∀ b, row = some b → w0.heap.size ≤ b ∧ (own i = true → v.ownBlock ≠ some b)) → F i v u')
    (hstep : ∀ i, i < ops.size → StepOk2 A F own cons w0 P ops a0 i)
    (hend : ∀ f u, Below w0.heap.size w0 u → (∀ i, i < ops.size → (∀ k, cons k ≠ some i) → F i (f i) u) → Q .normal (putAll a0 (pairsOf ops (List.range ops.size)) f) u) :
    ∀ (fuel : Nat) (listed : Array Bool) (f : Nat → Value) (a : Act) (u : World), (unlisted ops.size listed).length ≤ fuel → RegInv2 A F own cons w0 ops a0 listed f a u → wpAny P .any ops Q fuel listed a u := by
  have fin : ∀ (listed : Array Bool) (f : Nat → Value) (a : Act) (u : World), Region.ready .any ops listed = [] → RegInv2 A F own cons w0 ops a0 listed f a u → Q .normal a u := by
    intro listed f a u hr hI
    have hall := all_listed hok hI.size hr
    have e : a = putAll a0 (pairsOf ops (List.range ops.size)) f := by
      have hd : a.defers = (putAll a0 (pairsOf ops (List.range ops.size)) f).defers := by rw [putAll_defers, hI.defers]
      have ht : a.tmps = (putAll a0 (pairsOf ops (List.range ops.size)) f).tmps := by
        apply Array.ext_getElem?
        intro t
        by_cases hw : ∃ j : Nat, (ops[j]?).bind (fun o : Oper => o.dst) = some t
        · obtain ⟨j, hj⟩ := hw
          have hjl := dst_lt hj
          rw [hI.at_ j t (hall j hjl) hj]
          obtain ⟨oj, hoj⟩ : ∃ oj, ops[j]? = some oj := ⟨ops[j], Array.getElem?_eq_getElem hjl⟩
          have hdj : oj.dst = some t := by simpa [hoj] using hj
          obtain ⟨hlt, huniq⟩ := (ok_at hok hoj).2.1 t hdj
          exact (putAll_at _ _ f j t (pairsOf_mem.2 ⟨List.mem_range.2 hjl, hj⟩) (fun p hp hpt => by
            obtain ⟨p1, p2⟩ := p
            simp only at hpt
            subst hpt
            have := pairsOf_mem.1 hp
            exact huniq p1 (dst_lt this.2) this.2) hlt).symm
        · rw [hI.other t (fun i _ h => hw ⟨i, h⟩)]
          exact (putAll_other _ _ f t (fun p hp he => by
            obtain ⟨p1, p2⟩ := p
            simp only at he
            subst he
            exact hw ⟨p1, (pairsOf_mem.1 hp).2⟩)).symm
      cases a
      simp only at hd ht
      rw [hd, ht]
    rw [e]
    exact hend f u hI.base (fun i hi hc => hI.facts i (hall i hi) (fun k hk => absurd hk (hc k)))
  intro fuel
  induction fuel with
  | zero =>
    intro listed f a u hle hI
    have hr : Region.ready .any ops listed = [] := by
      rw [List.eq_nil_iff_forall_not_mem]
      intro i hi
      obtain ⟨h0, o, ho, _⟩ := (mem_ready (md := .any)).1 hi
      have hil := (Array.getElem?_eq_some_iff.1 ho).1
      have : i ∈ unlisted ops.size listed := by
        have hl : i < listed.size := by rw [hI.size]; exact hil
        simp only [unlisted, List.mem_filter, List.mem_range]
        simp only [Array.getD_eq_getD_getElem?, Array.getElem?_eq_getElem hl] at h0 ⊢
        exact ⟨hil, by simpa using h0⟩
      have hz : unlisted ops.size listed = [] := List.eq_nil_of_length_eq_zero (by omega)
      rw [hz] at this
      cases this
    exact ⟨hr, fin listed f a u hr hI⟩
  | succ fuel ih =>
    intro listed f a u hle hI
    refine ⟨fun hr => fin listed f a u hr hI, fun i hi => ?_⟩
    obtain ⟨h0, o, ho, _⟩ := mem_ready.1 hi
    have hil := (Array.getElem?_eq_some_iff.1 ho).1
    have hunf : listed.getD i false = false := by
      have hl : i < listed.size := by rw [hI.size]; exact hil
      simp only [Array.getD_eq_getD_getElem?, Array.getElem?_eq_getElem hl] at h0 ⊢
      simpa using h0
    refine region_step2 hok hco hcs hF ho (hstep i hil) hI hi fun f' a' u' hI' => ih _ f' a' u' ?_ hI'
    have := unlisted_lt hil hI.size hunf
    omega


/-- The steps, one behind the other. -/
def StepsOk2 (F : Nat → Value → World → Prop) (own : Nat → Bool) (cons : Nat → Option Nat) (w0 : World) (P : Program) (ops : Array Oper) (a0 : Act) : List Oper → List (List (Nat × Tmp)) → List (Option Tmp) → Nat → Prop
  | [], _, _, _ => True
  | _ :: _, [], _, _ => False
  | _ :: _, _, [], _ => False
  | o :: r, ps :: rs, c :: cs, i => (∀ u, Below w0.heap.size w0 u → StepGoal F u (fun a => (∀ b, rowOf a c = some b → w0.heap.size ≤ b ∧ b < u.heap.size) → wpList P ops (StepQ2 F (own i) a i o.dst c u) [o] a u) ps a0) ∧ StepsOk2 F own cons w0 P ops a0 r rs cs (i + 1)

theorem stepsOk2_at : ∀ (l : List Oper) (D : List (List (Nat × Tmp))) (C : List (Option Tmp)) (k : Nat), (∀ j, l[j]? = ops[k + j]?) → (∀ i, k ≤ i → i < k + l.length → pairsOf ops (A.getD i []) = D.getD (i - k) []) → (∀ i, k ≤ i → i < k + l.length → consSlot ops cons i = C.getD (i - k) none) →
    StepsOk2 F own cons w0 P ops a0 l D C k → ∀ i, i < k + l.length → k ≤ i → StepOk2 A F own cons w0 P ops a0 i
  | [], _, _, k, _, _, _, _, i, h1, h2 => by simp at h1; omega
  | o :: r, [], _, k, _, _, _, h, _, _, _ => h.elim
  | o :: r, ps :: rs, [], k, _, _, _, h, _, _, _ => h.elim
  | o :: r, ps :: rs, c :: cs, k, hl, hD, hC, h, i, h1, h2 => by
    by_cases e : i = k
    · subst e
      intro o' ho' f u hb hf hr
      have h0 : ops[i]? = some o := by simpa using (hl 0).symm
      rw [h0] at ho'
      obtain rfl := Option.some.inj ho'
      have hp := hD i (Nat.le_refl _) (by simp)
      have hc := hC i (Nat.le_refl _) (by simp)
      rw [Nat.sub_self, List.getD_cons_zero] at hp hc
      rw [hp, hc] at hr ⊢
      exact StepGoal.go ps a0 f (h.1 u hb) (fun p hp' => by
        obtain ⟨p1, p2⟩ := p
        rw [← hp] at hp'
        exact hf p1 (pairsOf_mem.1 hp').1) hr
    · refine stepsOk2_at r rs cs (k + 1) (fun j => by have := hl (j + 1); simpa [Nat.add_assoc, Nat.add_comm 1 j] using this) (fun i hi1 hi2 => ?_) (fun i hi1 hi2 => ?_) h.2 i (by simp at h1; omega) (by omega)
      · have := hD i (by omega) (by simp; omega)
        rw [this, show i - k = (i - (k + 1)) + 1 by omega, List.getD_cons_succ]
      · have := hC i (by omega) (by simp; omega)
        rw [this, show i - k = (i - (k + 1)) + 1 by omega, List.getD_cons_succ]

/-- The last words: of a value that was consumed nothing is known. -/
def lastF (F : Nat → Value → World → Prop) (cs : List (Nat × Nat)) : Nat → Value → World → Prop := fun i v u => if cs.any (fun p => p.2 == i) then True else F i v u
def consOf (cs : List (Nat × Nat)) : Nat → Option Nat := fun j => (cs.find? (fun p => p.1 == j)).map (·.2)

set_option maxHeartbeats 400000 in
/-- A REGION THAT DRAWS ITS ORDER and appends to rows of the call's own. D: as in region_mono; O: the operations whose values are rows of the call's own; cs: who consumes whose value; C: for each operation the slot of what it consumes. -/
theorem region_own_any {l : List Oper} {w : World} (D : List (List (Nat × Tmp))) (E : List (Nat × Tmp)) (own : Nat → Bool) (cs : List (Nat × Nat)) (C : List (Option Tmp)) (F : Nat → Value → World → Prop)
    (hok : (regionOk l.toArray a0.tmps.size (D.map (·.map (·.1))).toArray && pairsOk l.toArray D && decide (pairsOf l.toArray (List.range l.length) = E)) = true)
    (hco : (consOk l.toArray (D.map (·.map (·.1))).toArray own (consOf cs) && cs.all (fun p => decide (p.1 < l.length)) && (List.range l.length).all (fun i => decide (consSlot l.toArray (consOf cs) i = C.getD i none)) && cs.all (fun p => consOf cs p.1 == some p.2)) = true)
    (hF : ∀ i, i < l.length → ∀ v u u' row, F i v u → u.grownBy u' row → (∀ b, row = some b → w0.heap.size ≤ b ∧ (own i = true → v.ownBlock ≠ some b)) → F i v u')
    (hB0 : Below w0.heap.size w0 w)
    (hsteps : StepsOk2 F own (consOf cs) w0 P l.toArray a0 l D C 0)
    (hend : ∀ u, Below w0.heap.size w0 u → StepGoal (lastF F cs) u (fun a => Q .normal a u) E a0) :
    wpAny P .any l.toArray Q l.toArray.size (Array.replicate l.toArray.size false) a0 { w with drawn := w.drawn + 1 } := by
  simp only [Bool.and_eq_true, decide_eq_true_eq] at hok hco
  obtain ⟨⟨hok, hp⟩, hE⟩ := hok
  obtain ⟨⟨⟨hco, hcs⟩, hC⟩, hcc⟩ := hco
  have hcs' : ∀ k i, consOf cs k = some i → k < l.toArray.size := fun k i h => by
    unfold consOf at h
    rw [Option.map_eq_some_iff] at h
    obtain ⟨p, hp, _⟩ := h
    have hm := List.mem_of_find?_eq_some hp
    have he := List.find?_some hp
    have := (List.all_eq_true.1 hcs) p hm
    simp only [beq_iff_eq] at he
    subst he
    simpa using this
  have hlast : ∀ i v u, ((∀ k, consOf cs k ≠ some i) → F i v u) → lastF F cs i v u := fun i v u h => by
    unfold lastF
    split
    · trivial
    · rename_i hn
      refine h fun k hk => hn ?_
      unfold consOf at hk
      rw [Option.map_eq_some_iff] at hk
      obtain ⟨p, hp, he⟩ := hk
      rw [List.any_eq_true]
      exact ⟨p, List.mem_of_find?_eq_some hp, by simpa using he⟩
  have hp2 : ∀ i, 0 ≤ i → i < 0 + l.length → pairsOf l.toArray ((D.map (·.map (·.1))).toArray.getD i []) = D.getD (i - 0) [] := fun i _ hi => by
    unfold pairsOk at hp
    have := (List.all_eq_true.1 hp) i (List.mem_range.2 (by simpa using hi))
    simpa using this
  have hC2 : ∀ i, 0 ≤ i → i < 0 + l.length → consSlot l.toArray (consOf cs) i = C.getD (i - 0) none := fun i _ hi => by
    have := (List.all_eq_true.1 hC) i (List.mem_range.2 (by simpa using hi))
    simpa using this
  have HSt : ∀ i, i < l.toArray.size → StepOk2 (D.map (·.map (·.1))).toArray F own (consOf cs) w0 P l.toArray a0 i := fun i hi =>
    stepsOk2_at l D C 0 (fun j => by simp) hp2 hC2 hsteps i (by simpa using hi) (Nat.zero_le _)
  have X1 := fun a b c d => region_any2 (P := P) (ops := l.toArray) (a0 := a0) (F := F) (Q := Q) (A := (D.map (·.map (·.1))).toArray) (own := own) (cons := consOf cs) (w0 := w0) a b c d HSt
  have X2 := X1 hok hco hcs'
  have hF2 : ∀ (i : Nat), i < l.toArray.size → ∀ (v : Value) (u u' : World) (row : Option Nat), F i v u → u.grownBy u' row → (∀ b, row = some b → w0.heap.size ≤ b ∧ (own i = true → v.ownBlock ≠ some b)) → F i v u' := fun i hi => hF i (by simpa using hi)
  have X3 := X2 hF2
  have X4 : ∀ f u, Below w0.heap.size w0 u → (∀ i, i < l.toArray.size → (∀ k, consOf cs k ≠ some i) → F i (f i) u) → Q .normal (putAll a0 (pairsOf l.toArray (List.range l.toArray.size)) f) u := fun f u hu hf => by
    have := StepGoal.go E a0 f (hend u hu) (fun p hp' => by
      obtain ⟨p1, p2⟩ := p
      rw [← hE] at hp'
      have h := pairsOf_mem.1 hp'
      have h2 : p1 < l.toArray.size := by simpa using List.mem_range.1 h.1
      exact hlast p1 (f p1) u (fun hc => hf p1 h2 hc))
    rw [← hE] at this
    simpa using this
  have X5 := X3 X4
  refine X5 _ _ (fun _ => undef) a0 _ ?_ ?_
  · have : (unlisted l.toArray.size (Array.replicate l.toArray.size false)).length ≤ (List.range l.toArray.size).length := List.length_filter_le _ _
    simpa using this
  · have hf : ∀ i, (Array.replicate l.toArray.size false).getD i false = true → False := fun i h => by
      rw [Array.getD_eq_getD_getElem?, Array.getElem?_replicate] at h
      split at h <;> simp at h
    exact { size := by simp, closed := fun i h => (hf i h).elim, base := hB0.drew, facts := fun i h => (hf i h).elim, disj := fun i j _ _ _ h => (hf i h).elim, ownlt := fun i _ h => (hf i h).elim, defers := rfl, tsize := rfl, at_ := fun i d h => (hf i h).elim, other := fun t h => rfl }
theorem region_own {id : Nat} {l : List Oper} {w : World} (D : List (List (Nat × Tmp))) (E : List (Nat × Tmp)) (own : Nat → Bool) (cs : List (Nat × Nat)) (C : List (Option Tmp)) (F : Nat → Value → World → Prop) (hm : P.follows .mixedOrders = true)
    (hok : (regionOk l.toArray a0.tmps.size (D.map (·.map (·.1))).toArray && pairsOk l.toArray D && decide (pairsOf l.toArray (List.range l.length) = E)) = true)
    (hco : (consOk l.toArray (D.map (·.map (·.1))).toArray own (consOf cs) && cs.all (fun p => decide (p.1 < l.length)) && (List.range l.length).all (fun i => decide (consSlot l.toArray (consOf cs) i = C.getD i none)) && cs.all (fun p => consOf cs p.1 == some p.2)) = true)
    (hF : ∀ i, i < l.length → ∀ v u u' row, F i v u → u.grownBy u' row → (∀ b, row = some b → w0.heap.size ≤ b ∧ (own i = true → v.ownBlock ≠ some b)) → F i v u')
    (hB0 : Below w0.heap.size w0 w)
    (hsteps : StepsOk2 F own (consOf cs) w0 P l.toArray a0 l D C 0)
    (hend : ∀ u, Below w0.heap.size w0 u → StepGoal (lastF F cs) u (fun a => Q .normal a u) E a0) :
    (Code.region id l.toArray true).wp P Q a0 w :=
  wp_region_any hm (region_own_any D E own cs C F hok hco hF hB0 hsteps hend)
end
end Go.Proofs.Ytbkcpgaicoagfaa
