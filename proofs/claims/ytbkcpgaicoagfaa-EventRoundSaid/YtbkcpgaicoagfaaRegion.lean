/- A region that draws its order, each of whose operations is looked at once: what it leaves in its slot (F), in whatever world that has grown (G) out of one that meets B; whatever the order, all of it holds at the end. -/
import Derived.Orders
import Derived.Tactics2
set_option linter.unusedVariables false
set_option linter.unusedSimpArgs false
namespace Go.Proofs.Ytbkcpgaicoagfaa
open Go

/-- The frame with the values of some operations in their slots: pairs of an operation's number and its slot. -/
def putAll (a : Act) : List (Nat × Tmp) → (Nat → Value) → Act
  | [], _ => a
  | p :: r, f => putAll (a.put (some p.2) (f p.1)) r f

theorem putAll_defers : ∀ (ps : List (Nat × Tmp)) (a : Act) (f : Nat → Value), (putAll a ps f).defers = a.defers
  | [], _, _ => rfl
  | p :: r, a, f => by rw [putAll, putAll_defers r]; rfl
theorem putAll_size : ∀ (ps : List (Nat × Tmp)) (a : Act) (f : Nat → Value), (putAll a ps f).tmps.size = a.tmps.size
  | [], _, _ => rfl
  | p :: r, a, f => by rw [putAll, putAll_size r]; simp [Act.put]
theorem putAll_other : ∀ (ps : List (Nat × Tmp)) (a : Act) (f : Nat → Value) (t : Tmp), (∀ p ∈ ps, p.2 ≠ t) → (putAll a ps f).tmps[t]? = a.tmps[t]?
  | [], _, _, _, _ => rfl
  | p :: r, a, f, t, h => by
    rw [putAll, putAll_other r _ f t (fun q hq => h q (List.mem_cons_of_mem _ hq))]
    have := h p (List.mem_cons_self ..)
    simp [Act.put, Array.getElem?_setIfInBounds_ne this]
theorem putAll_at : ∀ (ps : List (Nat × Tmp)) (a : Act) (f : Nat → Value) (j : Nat) (t : Tmp), (j, t) ∈ ps → (∀ p ∈ ps, p.2 = t → p.1 = j) → t < a.tmps.size → (putAll a ps f).tmps[t]? = some (f j)
  | [], _, _, _, _, h, _, _ => by cases h
  | p :: r, a, f, j, t, h, hu, hs => by
    rw [putAll]
    by_cases hr : ∃ q ∈ r, q.2 = t
    · obtain ⟨q, hq, hqt⟩ := hr
      have hqj := hu q (List.mem_cons_of_mem _ hq) hqt
      have : (j, t) ∈ r := by
        obtain ⟨q1, q2⟩ := q
        simp only at hqt hqj
        subst hqt; subst hqj
        exact hq
      exact putAll_at r _ f j t this (fun q hq => hu q (List.mem_cons_of_mem _ hq)) (by simpa [Act.put] using hs)
    · rw [putAll_other r _ f t (fun q hq he => hr ⟨q, hq, he⟩)]
      rcases List.mem_cons.1 h with h | h
      · subst h
        simp [Act.put, Array.getElem?_setIfInBounds_self_of_lt hs]
      · exact absurd ⟨_, h, rfl⟩ hr

/-- What operation i is told: the operations of A i have come up ahead of it. -/
def pairsOf (ops : Array Oper) (js : List Nat) : List (Nat × Tmp) := js.filterMap fun j => ((ops[j]?).bind (·.dst)).map fun d => (j, d)

/-- The closed check: A holds only what must come up ahead; every slot that an operation looks at is written by one of A, or by one that comes up behind it. -/
def regionOk (ops : Array Oper) (size : Nat) (A : Array (List Nat)) : Bool :=
  A.size == ops.size && Region.noSelect ops &&
  (List.range ops.size).all fun i =>
    match ops[i]? with
    | none => false
    | some o =>
      ((A.getD i []).all fun j => o.after.any fun e => Region.binds .any e && (e.on == j || (A.getD e.on []).contains j)) &&
      (match o.dst with
       | some d => decide (d < size) && (List.range ops.size).all fun j => j == i || ((ops[j]?).bind (·.dst)) != some d
       | none => true) &&
      (match o.guard with | some (g, _) => (A.getD i []).contains g | none => true) &&
      ((o.looksAt ops).all fun t => (List.range ops.size).all fun j => ((ops[j]?).bind (·.dst)) != some t || (A.getD i []).contains j || (A.getD j []).contains i) &&
      ((A.getD i []).all fun j => decide (j < ops.size)) &&
      (o.after.all fun e => !Region.binds .any e || decide (e.on < i))

section
variable {P : Program} {ops : Array Oper} {Q : Exit → Act → World → Prop} {a0 : Act}
variable (A : Array (List Nat)) (F : Nat → Value → World → Prop) (B : World → Prop) (G : World → World → Prop)

/-- The value that an operation has left. -/
def leftIn (a : Act) : Option Tmp → Value
  | some d => a.tmps.getD d undef
  | none => undef
/-- What a step must come to. -/
def StepQ (ds : List Deferred) (i : Nat) (d : Option Tmp) (u : World) : Exit → Act → World → Prop := fun e a' u' =>
  e = .normal ∧ a'.defers = ds ∧ G u u' ∧ F i (leftIn a' d) u'

def StepOk (P : Program) (ops : Array Oper) (a0 : Act) (i : Nat) : Prop :=
  ∀ o, ops[i]? = some o → ∀ f u, B u → (∀ j ∈ A.getD i [], F j (f j) u) → wpList P ops (StepQ F G a0.defers i o.dst u) [o] (putAll a0 (pairsOf ops (A.getD i [])) f) u

structure RegInv (ops : Array Oper) (a0 : Act) (listed : Array Bool) (f : Nat → Value) (a : Act) (u : World) : Prop where
  size : listed.size = ops.size
  closed : ∀ i, listed.getD i false = true → ∀ j ∈ A.getD i [], listed.getD j false = true
  base : B u
  facts : ∀ i, listed.getD i false = true → F i (f i) u
  defers : a.defers = a0.defers
  tsize : a.tmps.size = a0.tmps.size
  at_ : ∀ i d, listed.getD i false = true → (ops[i]?).bind (·.dst) = some d → a.tmps[d]? = some (f i)
  other : ∀ t, (∀ i, listed.getD i false = true → (ops[i]?).bind (·.dst) ≠ some t) → a.tmps[t]? = a0.tmps[t]?

theorem pairsOf_mem {js : List Nat} {j : Nat} {t : Tmp} : (j, t) ∈ pairsOf ops js ↔ j ∈ js ∧ (ops[j]?).bind (·.dst) = some t := by
  unfold pairsOf
  rw [List.mem_filterMap]
  constructor
  · rintro ⟨k, hk, h⟩
    rw [Option.map_eq_some_iff] at h
    obtain ⟨d, hd, he⟩ := h
    injection he with h1 h2
    subst h1; subst h2
    exact ⟨hk, hd⟩
  · rintro ⟨hj, hd⟩
    exact ⟨j, hj, by rw [hd]; rfl⟩

variable {A F B G}

theorem ok_at (hok : regionOk ops a0.tmps.size A = true) {i : Nat} {o : Oper} (ho : ops[i]? = some o) :
    (∀ j ∈ A.getD i [], ∃ e ∈ o.after, Region.binds .any e = true ∧ (e.on = j ∨ j ∈ A.getD e.on [])) ∧
    (∀ d, o.dst = some d → d < a0.tmps.size ∧ ∀ j, j < ops.size → (ops[j]?).bind (·.dst) = some d → j = i) ∧
    (∀ g b, o.guard = some (g, b) → g ∈ A.getD i []) ∧
    (∀ t ∈ o.looksAt ops, ∀ j, j < ops.size → (ops[j]?).bind (·.dst) = some t → j ∈ A.getD i [] ∨ i ∈ A.getD j []) ∧
    (∀ j ∈ A.getD i [], j < ops.size) ∧
    (∀ e ∈ o.after, Region.binds .any e = true → e.on < i) := by
  have hi : i < ops.size := (Array.getElem?_eq_some_iff.1 ho).1
  unfold regionOk at hok
  rw [Bool.and_eq_true, List.all_eq_true] at hok
  have h := hok.2 i (List.mem_range.2 hi)
  simp only [ho, Bool.and_eq_true] at h
  obtain ⟨⟨⟨⟨⟨h1, h2⟩, h3⟩, h4⟩, h5⟩, h6⟩ := h
  refine ⟨fun j hj => ?_, fun d hd => ?_, fun g b hg => ?_, fun t ht j hj hjt => ?_, fun j hj => ?_, fun e he hb => ?_⟩
  · have := (List.all_eq_true.1 h1) j hj
    rw [Array.any_eq_true'] at this
    obtain ⟨e, he, hb⟩ := this
    simp only [Bool.and_eq_true, Bool.or_eq_true, beq_iff_eq, List.contains_iff_mem] at hb
    exact ⟨e, he, hb.1, hb.2⟩
  · simp only [hd, Bool.and_eq_true, decide_eq_true_eq] at h2
    refine ⟨h2.1, fun j hj hjd => ?_⟩
    have := (List.all_eq_true.1 h2.2) j (List.mem_range.2 hj)
    simp only [Bool.or_eq_true, beq_iff_eq, bne_iff_ne] at this
    rcases this with h | h
    · exact h
    · exact absurd hjd h
  · simp only [hg, List.contains_iff_mem] at h3
    exact h3
  · have := (List.all_eq_true.1 ((List.all_eq_true.1 h4) t ht)) j (List.mem_range.2 hj)
    simp only [Bool.or_eq_true, bne_iff_ne, List.contains_iff_mem] at this
    rcases this with (h | h) | h
    · exact absurd hjt h
    · exact .inl h
    · exact .inr h
  · have := (List.all_eq_true.1 h5) j hj
    simpa using this
  · rw [Array.all_eq_true_iff_forall_mem] at h6
    have := h6 e he
    simpa [hb] using this

theorem dst_lt {j : Nat} {t : Tmp} (h : (ops[j]?).bind (·.dst) = some t) : j < ops.size := by
  cases hj : ops[j]? with
  | none => simp [hj] at h
  | some o => exact (Array.getElem?_eq_some_iff.1 hj).1

/-- One operation, whichever comes up. -/
theorem region_step (hok : regionOk ops a0.tmps.size A = true) (hF : ∀ i v u u', F i v u → G u u' → F i v u') (hB : ∀ u u', B u → G u u' → B u')
    {i : Nat} {o : Oper} (ho : ops[i]? = some o) (hstep : StepOk A F B G P ops a0 i) {listed : Array Bool} {f : Nat → Value} {a : Act} {u : World}
    (hI : RegInv A F B ops a0 listed f a u) (hr : i ∈ Region.ready .any ops listed) {K : Act → World → Prop}
    (hK : ∀ f' a' u', RegInv A F B ops a0 (listed.setIfInBounds i true) f' a' u' → K a' u') : wpOp P ops Q i K a u := by
  obtain ⟨hun, o', ho', hall⟩ := mem_ready.1 hr
  rw [ho] at ho'
  obtain rfl := Option.some.inj ho'
  obtain ⟨k1, k2, k3, k4, k5, _⟩ := ok_at hok ho
  have hi : i < ops.size := (Array.getElem?_eq_some_iff.1 ho).1
  have hunf : listed.getD i false = false := by
    have : i < listed.size := by rw [hI.size]; exact hi
    simp only [Array.getD_eq_getD_getElem?, Array.getElem?_eq_getElem this] at hun ⊢
    simpa using hun
  have hanc : ∀ j ∈ A.getD i [], listed.getD j false = true := fun j hj => by
    obtain ⟨e, he, hb, h⟩ := k1 j hj
    have hl := hall e he hb
    rcases h with rfl | h
    · exact hl
    · exact hI.closed _ hl j h
  -- the frame that the step is told agrees with this one where the operation looks
  have hagree : ∀ t ∈ o.looksAt ops, (putAll a0 (pairsOf ops (A.getD i [])) f).tmps[t]? = a.tmps[t]? := by
    intro t ht
    by_cases hw : ∃ j, (ops[j]?).bind (·.dst) = some t ∧ j ∈ A.getD i []
    · obtain ⟨j, hjt, hj⟩ := hw
      obtain ⟨oj, hoj⟩ : ∃ oj, ops[j]? = some oj := by
        cases h : ops[j]? with
        | none => simp [h] at hjt
        | some oj => exact ⟨oj, rfl⟩
      have hd : oj.dst = some t := by simpa [hoj] using hjt
      obtain ⟨hlt, huniq⟩ := (ok_at hok hoj).2.1 t hd
      rw [hI.at_ j t (hanc j hj) hjt]
      exact putAll_at _ _ f j t (pairsOf_mem.2 ⟨hj, hjt⟩) (fun p hp hpt => by
        obtain ⟨p1, p2⟩ := p
        simp only at hpt
        subst hpt
        have := pairsOf_mem.1 hp
        exact huniq p1 (dst_lt this.2) this.2) hlt
    · rw [putAll_other _ _ f t (fun p hp he => by
        obtain ⟨p1, p2⟩ := p
        simp only at he
        subst he
        have := pairsOf_mem.1 hp
        exact hw ⟨p1, this.2, this.1⟩)]
      refine (hI.other t fun j hj hjt => ?_).symm
      rcases k4 t ht j (dst_lt hjt) hjt with h | h
      · exact hw ⟨j, hjt, h⟩
      · have := hI.closed j hj i h
        rw [hunf] at this
        cases this
  have hdef : (putAll a0 (pairsOf ops (A.getD i [])) f).defers = a.defers := by rw [putAll_defers, hI.defers]
  have hst := hstep o ho f u hI.base (fun j hj => hI.facts j (hanc j hj))
  have hasz : (putAll a0 (pairsOf ops (A.getD i [])) f).tmps.size = a0.tmps.size := putAll_size _ _ _
  generalize putAll a0 (pairsOf ops (A.getD i [])) f = as at *
  -- what stands behind it
  have next : ∀ v u', G u u' → F i v u' → K (a.put o.dst v) u' := by
    intro v u' hg hf
    refine hK (fun j => if j = i then v else f j) _ _ ⟨by simpa using hI.size, ?_, hB _ _ hI.base hg, ?_, ?_, ?_, ?_, ?_⟩
    · intro j hj k hk
      by_cases hji : j = i
      · subst hji
        exact getD_set_true (hanc k hk)
      · rw [getD_set_ne false (Ne.symm hji)] at hj
        exact getD_set_true (hI.closed j hj k hk)
    · intro j hj
      by_cases hji : j = i
      · subst hji; simpa using hf
      · rw [getD_set_ne false (Ne.symm hji)] at hj
        simpa [hji] using hF _ _ _ _ (hI.facts j hj) hg
    · cases hd : o.dst <;> simpa [Act.put] using hI.defers
    · cases hd : o.dst <;> simpa [Act.put] using hI.tsize
    · intro j d hj hjd
      by_cases hji : j = i
      · subst hji
        have hd : o.dst = some d := by simpa [ho] using hjd
        have hlt := (k2 d hd).1
        rw [hd]
        simp [Act.put, Array.getElem?_setIfInBounds_self_of_lt (show d < a.tmps.size by rw [hI.tsize]; exact hlt)]
      · rw [getD_set_ne false (Ne.symm hji)] at hj
        rw [if_neg hji, ← hI.at_ j d hj hjd]
        cases hd : o.dst with
        | none => rfl
        | some d' =>
          have hne : d' ≠ d := fun e => by
            subst e
            exact hji ((k2 d' hd).2 j (dst_lt hjd) hjd)
          simp [Act.put, Array.getElem?_setIfInBounds_ne hne]
    · intro t ht
      have h1 := hI.other t (fun j hj => by
        by_cases hji : j = i
        · subst hji; rw [hunf] at hj; cases hj
        · exact ht j (by rw [getD_set_ne false (Ne.symm hji)]; exact hj))
      rw [← h1]
      cases hd : o.dst with
      | none => rfl
      | some d =>
        have hne : d ≠ t := fun e => by
          subst e
          refine ht i ?_ (by simp [ho, hd])
          have : i < listed.size := by rw [hI.size]; exact hi
          simp [this]
        simp [Act.put, Array.getElem?_setIfInBounds_ne hne]
  have has : ∀ d, o.dst = some d → d < as.tmps.size := fun d hd => by rw [hasz]; exact (k2 d hd).1
  have hnext : ∀ v u', wpList P ops (StepQ F G a0.defers i o.dst u) [] (as.put o.dst v) u' → K (a.put o.dst v) u' := fun v u' h => by
    obtain ⟨_, _, hg, hf⟩ := h
    cases hd : o.dst with
    | none =>
      rw [hd] at hf next
      exact next undef u' hg hf
    | some d =>
      have hlt := has d hd
      rw [hd] at hf next
      have e : leftIn (as.put (some d) v) (some d) = v := by
        simp [leftIn, Act.put, Array.getElem?_setIfInBounds_self_of_lt hlt]
      rw [e] at hf
      exact next v u' hg hf
  have hno : ¬ LetsOut (StepQ F G a0.defers i o.dst u) := fun ⟨_, _, h⟩ => by cases h.1
  have hex : execOp a.eval o = execOp as.eval o := execOp_congr o (fun cs b => Region.noSelect_spec (by
      unfold regionOk at hok
      simp only [Bool.and_eq_true] at hok
      exact hok.1.2) i o cs b ho) fun x hx => by
    cases x with
    | tmp t =>
      have := hagree t (List.mem_append_left _ (List.mem_filterMap.2 ⟨.tmp t, by simpa using hx, rfl⟩))
      simp [Act.eval, Array.getD_eq_getD_getElem?, this]
    | _ => rfl
  have hwt : Region.wanted o (yielded ops a.tmps) = Region.wanted o (yielded ops as.tmps) := by
    unfold Region.wanted
    cases hg : o.guard with
    | none => rfl
    | some gw =>
      obtain ⟨g, want⟩ := gw
      have hy : yielded ops a.tmps g = yielded ops as.tmps g := by
        unfold yielded
        cases ht : (ops[g]?).bind (·.dst) with
        | none => rfl
        | some t => simp only [Option.bind_some, hagree t (by simp [Oper.looksAt, hg, ht])]
      simp only [hy]
  unfold wpOp
  simp only [ho]
  unfold wpList at hst
  rw [hwt]
  split
  · rename_i hw
    rw [if_pos hw] at hst
    rcases hst with hst | ⟨_, hl⟩
    · refine .inl ?_
      unfold Oper.wp at *
      rw [hex]
      generalize (execOp as.eval o).run P u = r at *
      cases r with
      | ok n u' =>
        cases n <;> simp only [Oper.upon] at hst ⊢
        case value v => exact hnext v u' hst
        case skip => exact hnext undef u' hst
        case defer d =>
          obtain ⟨_, hd, _⟩ := hst
          exfalso
          rw [hI.defers] at hdef
          cases hdd : o.dst <;> simp [hdd, Act.put, hdef] at hd
        case enter g args =>
          refine Calls.mono hst fun e u'' he => ?_
          cases e with
          | returned v => exact hnext v u'' he
          | panicked c => cases he.1
          | outgrown => exact absurd he hno
        case row row args => exact Rows.mono hst fun v u'' he => hnext v u'' he
      | halt x u' =>
        cases x <;> simp only [Oper.upon] at hst ⊢
        case panic v => cases hst.1
    · exact absurd hl hno
  · rename_i hw
    rw [if_neg hw] at hst
    exact hnext undef u hst

def unlisted (n : Nat) (listed : Array Bool) : List Nat := (List.range n).filter fun i => !listed.getD i false

theorem unlisted_lt {n i : Nat} {listed : Array Bool} (hi : i < n) (hs : listed.size = n) (hu : listed.getD i false = false) : (unlisted n (listed.setIfInBounds i true)).length < (unlisted n listed).length := by
  have e : unlisted n (listed.setIfInBounds i true) = (unlisted n listed).filter fun j => decide (j ≠ i) := by
    unfold unlisted
    rw [List.filter_filter]
    refine List.filter_congr fun j hj => ?_
    by_cases h : j = i
    · subst h
      simp [hs, hi]
    · rw [getD_set_ne false (Ne.symm h)]
      simp [h]
  rw [e, List.length_filter_lt_length_iff_exists]
  exact ⟨i, List.mem_filter.2 ⟨List.mem_range.2 hi, by rw [hu]; rfl⟩, by simp⟩

theorem all_listed (hok : regionOk ops a0.tmps.size A = true) {listed : Array Bool} (hs : listed.size = ops.size) (hr : Region.ready .any ops listed = []) : ∀ i, i < ops.size → listed.getD i false = true := by
  intro i
  induction i using Nat.strongRecOn with
  | _ i ih =>
    intro hi
    cases h : listed.getD i false with
    | true => rfl
    | false =>
      exfalso
      obtain ⟨o, ho⟩ : ∃ o, ops[i]? = some o := ⟨ops[i], Array.getElem?_eq_getElem hi⟩
      have hm : i ∈ Region.ready .any ops listed := by
        rw [mem_ready]
        refine ⟨?_, o, ho, fun e he hb => ?_⟩
        · have hl : i < listed.size := by omega
          simp only [Array.getD_eq_getD_getElem?, Array.getElem?_eq_getElem hl] at h ⊢
          simpa using h
        · have hlt := (ok_at hok ho).2.2.2.2.2 e he hb
          exact ih e.on hlt (by omega)
      rw [hr] at hm
      cases hm

theorem region_any (hok : regionOk ops a0.tmps.size A = true) (hF : ∀ i v u u', F i v u → G u u' → F i v u') (hB : ∀ u u', B u → G u u' → B u')
    (hstep : ∀ i, i < ops.size → StepOk A F B G P ops a0 i)
    (hend : ∀ f u, B u → (∀ i, i < ops.size → F i (f i) u) → Q .normal (putAll a0 (pairsOf ops (List.range ops.size)) f) u) :
    ∀ (fuel : Nat) (listed : Array Bool) (f : Nat → Value) (a : Act) (u : World), (unlisted ops.size listed).length ≤ fuel → RegInv A F B ops a0 listed f a u → wpAny P .any ops Q fuel listed a u := by
  have fin : ∀ (listed : Array Bool) (f : Nat → Value) (a : Act) (u : World), Region.ready .any ops listed = [] → RegInv A F B ops a0 listed f a u → Q .normal a u := by
    intro listed f a u hr hI
    have hall := all_listed hok hI.size hr
    have e : a = putAll a0 (pairsOf ops (List.range ops.size)) f := by
      have hd : a.defers = (putAll a0 (pairsOf ops (List.range ops.size)) f).defers := by rw [putAll_defers, hI.defers]
      have ht : a.tmps = (putAll a0 (pairsOf ops (List.range ops.size)) f).tmps := by
        apply Array.ext_getElem?
        intro t
        by_cases hw : ∃ j : Nat, (ops[j]?).bind (fun o : Oper => o.dst) = some t
        · obtain ⟨j, hj⟩ := hw
          have hjl := dst_lt hj
          rw [hI.at_ j t (hall j hjl) hj]
          obtain ⟨oj, hoj⟩ : ∃ oj, ops[j]? = some oj := ⟨ops[j], Array.getElem?_eq_getElem hjl⟩
          have hdj : oj.dst = some t := by simpa [hoj] using hj
          obtain ⟨hlt, huniq⟩ := (ok_at hok hoj).2.1 t hdj
          exact (putAll_at _ _ f j t (pairsOf_mem.2 ⟨List.mem_range.2 hjl, hj⟩) (fun p hp hpt => by
            obtain ⟨p1, p2⟩ := p
            simp only at hpt
            subst hpt
            have := pairsOf_mem.1 hp
            exact huniq p1 (dst_lt this.2) this.2) hlt).symm
        · rw [hI.other t (fun i _ h => hw ⟨i, h⟩)]
          exact (putAll_other _ _ f t (fun p hp he => by
            obtain ⟨p1, p2⟩ := p
            simp only at he
            subst he
            exact hw ⟨p1, (pairsOf_mem.1 hp).2⟩)).symm
      cases a
      simp only at hd ht
      rw [hd, ht]
    rw [e]
    exact hend f u hI.base (fun i hi => hI.facts i (hall i hi))
  intro fuel
  induction fuel with
  | zero =>
    intro listed f a u hle hI
    have hr : Region.ready .any ops listed = [] := by
      rw [List.eq_nil_iff_forall_not_mem]
      intro i hi
      obtain ⟨h0, o, ho, _⟩ := (mem_ready (md := .any)).1 hi
      have hil := (Array.getElem?_eq_some_iff.1 ho).1
      have : i ∈ unlisted ops.size listed := by
        have hl : i < listed.size := by rw [hI.size]; exact hil
        simp only [unlisted, List.mem_filter, List.mem_range]
        simp only [Array.getD_eq_getD_getElem?, Array.getElem?_eq_getElem hl] at h0 ⊢
        exact ⟨hil, by simpa using h0⟩
      have hz : unlisted ops.size listed = [] := List.eq_nil_of_length_eq_zero (by omega)
      rw [hz] at this
      cases this
    exact ⟨hr, fin listed f a u hr hI⟩
  | succ fuel ih =>
    intro listed f a u hle hI
    refine ⟨fun hr => fin listed f a u hr hI, fun i hi => ?_⟩
    obtain ⟨h0, o, ho, _⟩ := mem_ready.1 hi
    have hil := (Array.getElem?_eq_some_iff.1 ho).1
    have hunf : listed.getD i false = false := by
      have hl : i < listed.size := by rw [hI.size]; exact hil
      simp only [Array.getD_eq_getD_getElem?, Array.getElem?_eq_getElem hl] at h0 ⊢
      simpa using h0
    refine region_step hok hF hB ho (hstep i hil) hI hi fun f' a' u' hI' => ih _ f' a' u' ?_ hI'
    have := unlisted_lt hil hI.size hunf
    omega

/-- A step's own goal: the operations ahead of it have left values of which so much is known. -/
def StepGoal (F : Nat → Value → World → Prop) (u : World) (k : Act → Prop) : List (Nat × Tmp) → Act → Prop
  | [], a => k a
  | p :: r, a => ∀ v, F p.1 v u → StepGoal F u k r (a.put (some p.2) v)

theorem StepGoal.nil {F : Nat → Value → World → Prop} {u : World} {k : Act → Prop} {a : Act} (h : k a) : StepGoal F u k [] a := h
theorem StepGoal.cons {F : Nat → Value → World → Prop} {u : World} {k : Act → Prop} {a : Act} {p : Nat × Tmp} {r : List (Nat × Tmp)} (h : ∀ v, F p.1 v u → StepGoal F u k r (a.put (some p.2) v)) : StepGoal F u k (p :: r) a := h
/-- The steps, one behind the other. -/
def StepsOk (F : Nat → Value → World → Prop) (B : World → Prop) (G : World → World → Prop) (P : Program) (ops : Array Oper) (a0 : Act) : List Oper → List (List (Nat × Tmp)) → Nat → Prop
  | [], _, _ => True
  | _ :: _, [], _ => False
  | o :: r, ps :: rs, i => (∀ u, B u → StepGoal F u (fun a => wpList P ops (StepQ F G a0.defers i o.dst u) [o] a u) ps a0) ∧ StepsOk F B G P ops a0 r rs (i + 1)

theorem StepGoal.go {F : Nat → Value → World → Prop} {u : World} {k : Act → Prop} : ∀ (ps : List (Nat × Tmp)) (a : Act) (f : Nat → Value), StepGoal F u k ps a → (∀ p ∈ ps, F p.1 (f p.1) u) → k (putAll a ps f)
  | [], _, _, h, _ => h
  | p :: r, a, f, h, hf => StepGoal.go r _ f (h (f p.1) (hf p (List.mem_cons_self ..))) (fun q hq => hf q (List.mem_cons_of_mem _ hq))

theorem stepsOk_at : ∀ (l : List Oper) (D : List (List (Nat × Tmp))) (k : Nat), (∀ j, l[j]? = ops[k + j]?) → (∀ i, k ≤ i → i < k + l.length → pairsOf ops (A.getD i []) = D.getD (i - k) []) → StepsOk F B G P ops a0 l D k → ∀ i, i < k + l.length → k ≤ i → StepOk A F B G P ops a0 i
  | [], _, k, _, _, _, i, h1, h2 => by simp at h1; omega
  | o :: r, [], k, _, _, h, _, _, _ => h.elim
  | o :: r, ps :: rs, k, hl, hD, h, i, h1, h2 => by
    by_cases e : i = k
    · subst e
      intro o' ho' f u hb hf
      have h0 : ops[i]? = some o := by simpa using (hl 0).symm
      rw [h0] at ho'
      obtain rfl := Option.some.inj ho'
      have hp := hD i (Nat.le_refl _) (by simp)
      rw [Nat.sub_self, List.getD_cons_zero] at hp
      rw [hp]
      exact StepGoal.go ps a0 f (h.1 u hb) (fun p hp' => by
        obtain ⟨p1, p2⟩ := p
        rw [← hp] at hp'
        exact hf p1 (pairsOf_mem.1 hp').1)
    · refine stepsOk_at r rs (k + 1) (fun j => by have := hl (j + 1); simpa [Nat.add_assoc, Nat.add_comm 1 j] using this) (fun i hi1 hi2 => ?_) h.2 i (by simp at h1; omega) (by omega)
      have := hD i (by omega) (by simp; omega)
      rw [this, show i - k = (i - (k + 1)) + 1 by omega, List.getD_cons_succ]

/-- The closed check over the pairs. -/
def pairsOk (ops : Array Oper) (D : List (List (Nat × Tmp))) : Bool :=
  (List.range ops.size).all fun i => decide (pairsOf ops ((D.map (·.map (·.1))).toArray.getD i []) = D.getD i [])

/-- A REGION THAT DRAWS ITS ORDER: each operation is looked at once. D: for each operation those that come up ahead of it and that it is told of, with their slots; the last list: all of them. -/
theorem region_mono_any {l : List Oper} {w : World} (D : List (List (Nat × Tmp))) (E : List (Nat × Tmp)) (F : Nat → Value → World → Prop) (B : World → Prop) (G : World → World → Prop)
    (hok : (regionOk l.toArray a0.tmps.size (D.map (·.map (·.1))).toArray && pairsOk l.toArray D && decide (pairsOf l.toArray (List.range l.length) = E)) = true)
    (hF : ∀ i v u u', F i v u → G u u' → F i v u') (hB : ∀ u u', B u → G u u' → B u') (hB0 : B w.drew)
    (hsteps : StepsOk F B G P l.toArray a0 l D 0)
    (hend : ∀ u, B u → StepGoal F u (fun a => Q .normal a u) E a0) :
    wpAny P .any l.toArray Q l.toArray.size (Array.replicate l.toArray.size false) a0 { w with drawn := w.drawn + 1 } := by
  simp only [Bool.and_eq_true, decide_eq_true_eq] at hok
  obtain ⟨⟨hok, hp⟩, hE⟩ := hok
  refine region_any (A := (D.map (·.map (·.1))).toArray) hok hF hB (fun i hi => stepsOk_at l D 0 (fun j => by simp) (fun i _ hi => ?_) hsteps i (by simpa using hi) (by omega)) (fun f u hu hf => ?_) _ _ (fun _ => undef) a0 _ ?_ ?_
  · unfold pairsOk at hp
    have := (List.all_eq_true.1 hp) i (List.mem_range.2 (by simpa using hi))
    simpa using this
  · have := StepGoal.go E a0 f (hend u hu) (fun p hp' => by
      obtain ⟨p1, p2⟩ := p
      rw [← hE] at hp'
      have h := pairsOf_mem.1 hp'
      exact hf p1 (List.mem_range.1 (by simpa using h.1)))
    rw [← hE] at this
    simpa using this
  · have : (unlisted l.toArray.size (Array.replicate l.toArray.size false)).length ≤ (List.range l.toArray.size).length := List.length_filter_le _ _
    simpa using this
  · have hf : ∀ i, (Array.replicate l.toArray.size false).getD i false = true → False := fun i h => by
      rw [Array.getD_eq_getD_getElem?, Array.getElem?_replicate] at h
      split at h <;> simp at h
    exact ⟨by simp, fun i h => (hf i h).elim, hB0, fun i h => (hf i h).elim, rfl, rfl, fun i d h => (hf i h).elim, fun t h => rfl⟩
theorem region_mono {id : Nat} {l : List Oper} {w : World} (D : List (List (Nat × Tmp))) (E : List (Nat × Tmp)) (F : Nat → Value → World → Prop) (B : World → Prop) (G : World → World → Prop) (hm : P.follows .mixedOrders = true)
    (hok : (regionOk l.toArray a0.tmps.size (D.map (·.map (·.1))).toArray && pairsOk l.toArray D && decide (pairsOf l.toArray (List.range l.length) = E)) = true)
    (hF : ∀ i v u u', F i v u → G u u' → F i v u') (hB : ∀ u u', B u → G u u' → B u') (hB0 : B w.drew)
    (hsteps : StepsOk F B G P l.toArray a0 l D 0)
    (hend : ∀ u, B u → StepGoal F u (fun a => Q .normal a u) E a0) :
    (Code.region id l.toArray true).wp P Q a0 w :=
  wp_region_any hm (region_mono_any D E F B G hok hF hB hB0 hsteps hend)
end
end Go.Proofs.Ytbkcpgaicoagfaa
