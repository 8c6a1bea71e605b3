/- A region that draws its order, some of whose operations change what others look at: each operation has a growth of its own (G i), and a fact that it needs (X i) which stands until it has run. -/
import Derived.Test.YtbkcpgaicoagfaaRegion
set_option linter.unusedVariables false
set_option linter.unusedSimpArgs false
namespace Go.Proofs.Ytbkcpgaicoagfaa
open Go

section
variable {P : Program} {ops : Array Oper} {Q : Exit → Act → World → Prop} {a0 : Act}
variable (A : Array (List Nat)) (F : Nat → Value → World → Prop) (B : World → Prop) (G : Nat → World → World → Prop) (X : Nat → World → Prop)

/-- What a step must come to. -/
def StepQx (ds : List Deferred) (i : Nat) (d : Option Tmp) (u : World) : Exit → Act → World → Prop := fun e a' u' =>
  e = .normal ∧ a'.defers = ds ∧ G i u u' ∧ F i (leftIn a' d) u'

def StepOkx (P : Program) (ops : Array Oper) (a0 : Act) (i : Nat) : Prop :=
  ∀ o, ops[i]? = some o → ∀ f u, B u → X i u → (∀ j ∈ A.getD i [], F j (f j) u) → wpList P ops (StepQx F G a0.defers i o.dst u) [o] (putAll a0 (pairsOf ops (A.getD i [])) f) u

structure RegInvx (ops : Array Oper) (a0 : Act) (listed : Array Bool) (f : Nat → Value) (a : Act) (u : World) : Prop where
  size : listed.size = ops.size
  closed : ∀ i, listed.getD i false = true → ∀ j ∈ A.getD i [], listed.getD j false = true
  base : B u
  facts : ∀ i, listed.getD i false = true → F i (f i) u
  defers : a.defers = a0.defers
  tsize : a.tmps.size = a0.tmps.size
  at_ : ∀ i d, listed.getD i false = true → (ops[i]?).bind (·.dst) = some d → a.tmps[d]? = some (f i)
  pre : ∀ i, i < ops.size → listed.getD i false = false → X i u
  other : ∀ t, (∀ i, listed.getD i false = true → (ops[i]?).bind (·.dst) ≠ some t) → a.tmps[t]? = a0.tmps[t]?

variable {A F B G X}
theorem region_stepx (hok : regionOk ops a0.tmps.size A = true) (hF : ∀ i j v u u', i < ops.size → j < ops.size → j ≠ i → j ∉ A.getD i [] → F i v u → G j u u' → F i v u') (hB : ∀ j u u', j < ops.size → B u → G j u u' → B u') (hX : ∀ i j u u', i < ops.size → j < ops.size → j ≠ i → X i u → G j u u' → X i u')
    {i : Nat} {o : Oper} (ho : ops[i]? = some o) (hstep : StepOkx A F B G X P ops a0 i) {listed : Array Bool} {f : Nat → Value} {a : Act} {u : World}
    (hI : RegInvx A F B X ops a0 listed f a u) (hr : i ∈ Region.ready .any ops listed) {K : Act → World → Prop}
    (hK : ∀ f' a' u', RegInvx A F B X ops a0 (listed.setIfInBounds i true) f' a' u' → K a' u') : wpOp P ops Q i K a u := by
  obtain ⟨hun, o', ho', hall⟩ := mem_ready.1 hr
  rw [ho] at ho'
  obtain rfl := Option.some.inj ho'
  obtain ⟨k1, k2, k3, k4, k5, _⟩ := ok_at hok ho
  have hi : i < ops.size := (Array.getElem?_eq_some_iff.1 ho).1
  have hunf : listed.getD i false = false := by
    have : i < listed.size := by rw [hI.size]; exact hi
    simp only [Array.getD_eq_getD_getElem?, Array.getElem?_eq_getElem this] at hun ⊢
    simpa using hun
  have hanc : ∀ j ∈ A.getD i [], listed.getD j false = true := fun j hj => by
    obtain ⟨e, he, hb, h⟩ := k1 j hj
    have hl := hall e he hb
    rcases h with rfl | h
    · exact hl
    · exact hI.closed _ hl j h
  -- the frame that the step is told agrees with this one where the operation looks
  have hagree : ∀ t ∈ o.looksAt ops, (putAll a0 (pairsOf ops (A.getD i [])) f).tmps[t]? = a.tmps[t]? := by
    intro t ht
    by_cases hw : ∃ j, (ops[j]?).bind (·.dst) = some t ∧ j ∈ A.getD i []
    · obtain ⟨j, hjt, hj⟩ := hw
      obtain ⟨oj, hoj⟩ : ∃ oj, ops[j]? = some oj := by
        cases h : ops[j]? with
        | none => simp [h] at hjt
        | some oj => exact ⟨oj, rfl⟩
      have hd : oj.dst = some t := by simpa [hoj] using hjt
      obtain ⟨hlt, huniq⟩ := (ok_at hok hoj).2.1 t hd
      rw [hI.at_ j t (hanc j hj) hjt]
      exact putAll_at _ _ f j t (pairsOf_mem.2 ⟨hj, hjt⟩) (fun p hp hpt => by
        obtain ⟨p1, p2⟩ := p
        simp only at hpt
        subst hpt
        have := pairsOf_mem.1 hp
        exact huniq p1 (dst_lt this.2) this.2) hlt
    · rw [putAll_other _ _ f t (fun p hp he => by
        obtain ⟨p1, p2⟩ := p
        simp only at he
        subst he
        have := pairsOf_mem.1 hp
        exact hw ⟨p1, this.2, this.1⟩)]
      refine (hI.other t fun j hj hjt => ?_).symm
      rcases k4 t ht j (dst_lt hjt) hjt with h | h
      · exact hw ⟨j, hjt, h⟩
      · have := hI.closed j hj i h
        rw [hunf] at this
        cases this
  have hdef : (putAll a0 (pairsOf ops (A.getD i [])) f).defers = a.defers := by rw [putAll_defers, hI.defers]
  have hst := hstep o ho f u hI.base (hI.pre i hi hunf) (fun j hj => hI.facts j (hanc j hj))
  have hasz : (putAll a0 (pairsOf ops (A.getD i [])) f).tmps.size = a0.tmps.size := putAll_size _ _ _
  generalize putAll a0 (pairsOf ops (A.getD i [])) f = as at *
  -- what stands behind it
  have next : ∀ v u', G i u u' → F i v u' → K (a.put o.dst v) u' := by
    intro v u' hg hf
    refine hK (fun j => if j = i then v else f j) _ _ ⟨by simpa using hI.size, ?_, hB _ _ _ hi hI.base hg, ?_, ?_, ?_, ?_, ?_, ?_⟩
    · intro j hj k hk
      by_cases hji : j = i
      · subst hji
        exact getD_set_true (hanc k hk)
      · rw [getD_set_ne false (Ne.symm hji)] at hj
        exact getD_set_true (hI.closed j hj k hk)
    · intro j hj
      by_cases hji : j = i
      · subst hji; simpa using hf
      · rw [getD_set_ne false (Ne.symm hji)] at hj
        have hjs : j < ops.size := by
          rcases Nat.lt_or_ge j ops.size with h | h
          · exact h
          · rw [Array.getD_eq_getD_getElem?, Array.getElem?_eq_none (by rw [hI.size]; exact h)] at hj; cases hj
        simpa [hji] using hF j i _ _ _ hjs hi (Ne.symm hji) (fun hmem => by have := hI.closed j hj i hmem; rw [hunf] at this; cases this) (hI.facts j hj) hg
    · cases hd : o.dst <;> simpa [Act.put] using hI.defers
    · cases hd : o.dst <;> simpa [Act.put] using hI.tsize
    · intro j d hj hjd
      by_cases hji : j = i
      · subst hji
        have hd : o.dst = some d := by simpa [ho] using hjd
        have hlt := (k2 d hd).1
        rw [hd]
        simp [Act.put, Array.getElem?_setIfInBounds_self_of_lt (show d < a.tmps.size by rw [hI.tsize]; exact hlt)]
      · rw [getD_set_ne false (Ne.symm hji)] at hj
        rw [if_neg hji, ← hI.at_ j d hj hjd]
        cases hd : o.dst with
        | none => rfl
        | some d' =>
          have hne : d' ≠ d := fun e => by
            subst e
            exact hji ((k2 d' hd).2 j (dst_lt hjd) hjd)
          simp [Act.put, Array.getElem?_setIfInBounds_ne hne]
    · intro j hj hlj
      have hji : j ≠ i := fun e => by
        subst e
        have : j < listed.size := by rw [hI.size]; exact hi
        simp [Array.getD_eq_getD_getElem?, Array.getElem?_setIfInBounds, this] at hlj
      exact hX j i _ _ hj hi (Ne.symm hji) (hI.pre j hj (by rw [getD_set_ne false (Ne.symm hji)] at hlj; exact hlj)) hg
    · intro t ht
      have h1 := hI.other t (fun j hj => by
        by_cases hji : j = i
        · subst hji; rw [hunf] at hj; cases hj
        · exact ht j (by rw [getD_set_ne false (Ne.symm hji)]; exact hj))
      rw [← h1]
      cases hd : o.dst with
      | none => rfl
      | some d =>
        have hne : d ≠ t := fun e => by
          subst e
          refine ht i ?_ (by simp [ho, hd])
          have : i < listed.size := by rw [hI.size]; exact hi
          simp [this]
        simp [Act.put, Array.getElem?_setIfInBounds_ne hne]
  have has : ∀ d, o.dst = some d → d < as.tmps.size := fun d hd => by rw [hasz]; exact (k2 d hd).1
  have hnext : ∀ v u', wpList P ops (StepQx F G a0.defers i o.dst u) [] (as.put o.dst v) u' → K (a.put o.dst v) u' := fun v u' h => by
    obtain ⟨_, _, hg, hf⟩ := h
    cases hd : o.dst with
    | none =>
      rw [hd] at hf next
      exact next undef u' hg hf
    | some d =>
      have hlt := has d hd
      rw [hd] at hf next
      have e : leftIn (as.put (some d) v) (some d) = v := by
        simp [leftIn, Act.put, Array.getElem?_setIfInBounds_self_of_lt hlt]
      rw [e] at hf
      exact next v u' hg hf
  have hno : ¬ LetsOut (StepQx F G a0.defers i o.dst u) := fun ⟨_, _, h⟩ => by cases h.1
  have hex : execOp a.eval o = execOp as.eval o := execOp_congr o (fun cs b => Region.noSelect_spec (by
      unfold regionOk at hok
      simp only [Bool.and_eq_true] at hok
      exact hok.1.2) i o cs b ho) fun x hx => by
    cases x with
    | tmp t =>
      have := hagree t (List.mem_append_left _ (List.mem_filterMap.2 ⟨.tmp t, by simpa using hx, rfl⟩))
      simp [Act.eval, Array.getD_eq_getD_getElem?, this]
    | _ => rfl
  have hwt : Region.wanted o (yielded ops a.tmps) = Region.wanted o (yielded ops as.tmps) := by
    unfold Region.wanted
    cases hg : o.guard with
    | none => rfl
    | some gw =>
      obtain ⟨g, want⟩ := gw
      have hy : yielded ops a.tmps g = yielded ops as.tmps g := by
        unfold yielded
        cases ht : (ops[g]?).bind (·.dst) with
        | none => rfl
        | some t => simp only [Option.bind_some, hagree t (by simp [Oper.looksAt, hg, ht])]
      simp only [hy]
  unfold wpOp
  simp only [ho]
  unfold wpList at hst
  rw [hwt]
  split
  · rename_i hw
    rw [if_pos hw] at hst
    rcases hst with hst | ⟨_, hl⟩
    · refine .inl ?_
      unfold Oper.wp at *
      rw [hex]
      generalize (execOp as.eval o).run P u = r at *
      cases r with
      | ok n u' =>
        cases n <;> simp only [Oper.upon] at hst ⊢
        case value v => exact hnext v u' hst
        case skip => exact hnext undef u' hst
        case defer d =>
          obtain ⟨_, hd, _⟩ := hst
          exfalso
          rw [hI.defers] at hdef
          cases hdd : o.dst <;> simp [hdd, Act.put, hdef] at hd
        case enter g args =>
          refine Calls.mono hst fun e u'' he => ?_
          cases e with
          | returned v => exact hnext v u'' he
          | panicked c => cases he.1
          | outgrown => exact absurd he hno
        case row row args => exact Rows.mono hst fun v u'' he => hnext v u'' he
      | halt x u' =>
        cases x <;> simp only [Oper.upon] at hst ⊢
        case panic v => cases hst.1
    · exact absurd hl hno
  · rename_i hw
    rw [if_neg hw] at hst
    exact hnext undef u hst

theorem region_anyx (hok : regionOk ops a0.tmps.size A = true) (hF : ∀ i j v u u', i < ops.size → j < ops.size → j ≠ i → j ∉ A.getD i [] → F i v u → G j u u' → F i v u') (hB : ∀ j u u', j < ops.size → B u → G j u u' → B u') (hX : ∀ i j u u', i < ops.size → j < ops.size → j ≠ i → X i u → G j u u' → X i u')
    (hstep : ∀ i, i < ops.size → StepOkx A F B G X P ops a0 i)
    (hend : ∀ f u, B u → (∀ i, i < ops.size → F i (f i) u) → Q .normal (putAll a0 (pairsOf ops (List.range ops.size)) f) u) :
    ∀ (fuel : Nat) (listed : Array Bool) (f : Nat → Value) (a : Act) (u : World), (unlisted ops.size listed).length ≤ fuel → RegInvx A F B X ops a0 listed f a u → wpAny P .any ops Q fuel listed a u := by
  have fin : ∀ (listed : Array Bool) (f : Nat → Value) (a : Act) (u : World), Region.ready .any ops listed = [] → RegInvx A F B X ops a0 listed f a u → Q .normal a u := by
    intro listed f a u hr hI
    have hall := all_listed hok hI.size hr
    have e : a = putAll a0 (pairsOf ops (List.range ops.size)) f := by
      have hd : a.defers = (putAll a0 (pairsOf ops (List.range ops.size)) f).defers := by rw [putAll_defers, hI.defers]
      have ht : a.tmps = (putAll a0 (pairsOf ops (List.range ops.size)) f).tmps := by
        apply Array.ext_getElem?
        intro t
        by_cases hw : ∃ j : Nat, (ops[j]?).bind (fun o : Oper => o.dst) = some t
        · obtain ⟨j, hj⟩ := hw
          have hjl := dst_lt hj
          rw [hI.at_ j t (hall j hjl) hj]
          obtain ⟨oj, hoj⟩ : ∃ oj, ops[j]? = some oj := ⟨ops[j], Array.getElem?_eq_getElem hjl⟩
          have hdj : oj.dst = some t := by simpa [hoj] using hj
          obtain ⟨hlt, huniq⟩ := (ok_at hok hoj).2.1 t hdj
          exact (putAll_at _ _ f j t (pairsOf_mem.2 ⟨List.mem_range.2 hjl, hj⟩) (fun p hp hpt => by
            obtain ⟨p1, p2⟩ := p
            simp only at hpt
            subst hpt
            have := pairsOf_mem.1 hp
            exact huniq p1 (dst_lt this.2) this.2) hlt).symm
        · rw [hI.other t (fun i _ h => hw ⟨i, h⟩)]
          exact (putAll_other _ _ f t (fun p hp he => by
            obtain ⟨p1, p2⟩ := p
            simp only at he
            subst he
            exact hw ⟨p1, (pairsOf_mem.1 hp).2⟩)).symm
      cases a
      simp only at hd ht
      rw [hd, ht]
    rw [e]
    exact hend f u hI.base (fun i hi => hI.facts i (hall i hi))
  intro fuel
  induction fuel with
  | zero =>
    intro listed f a u hle hI
    have hr : Region.ready .any ops listed = [] := by
      rw [List.eq_nil_iff_forall_not_mem]
      intro i hi
      obtain ⟨h0, o, ho, _⟩ := (mem_ready (md := .any)).1 hi
      have hil := (Array.getElem?_eq_some_iff.1 ho).1
      have : i ∈ unlisted ops.size listed := by
        have hl : i < listed.size := by rw [hI.size]; exact hil
        simp only [unlisted, List.mem_filter, List.mem_range]
        simp only [Array.getD_eq_getD_getElem?, Array.getElem?_eq_getElem hl] at h0 ⊢
        exact ⟨hil, by simpa using h0⟩
      have hz : unlisted ops.size listed = [] := List.eq_nil_of_length_eq_zero (by omega)
      rw [hz] at this
      cases this
    exact ⟨hr, fin listed f a u hr hI⟩
  | succ fuel ih =>
    intro listed f a u hle hI
    refine ⟨fun hr => fin listed f a u hr hI, fun i hi => ?_⟩
    obtain ⟨h0, o, ho, _⟩ := mem_ready.1 hi
    have hil := (Array.getElem?_eq_some_iff.1 ho).1
    have hunf : listed.getD i false = false := by
      have hl : i < listed.size := by rw [hI.size]; exact hil
      simp only [Array.getD_eq_getD_getElem?, Array.getElem?_eq_getElem hl] at h0 ⊢
      simpa using h0
    refine region_stepx hok hF hB hX ho (hstep i hil) hI hi fun f' a' u' hI' => ih _ f' a' u' ?_ hI'
    have := unlisted_lt hil hI.size hunf
    omega

/-- The steps, one behind the other. -/
def StepsOkx (F : Nat → Value → World → Prop) (B : World → Prop) (G : Nat → World → World → Prop) (X : Nat → World → Prop) (P : Program) (ops : Array Oper) (a0 : Act) : List Oper → List (List (Nat × Tmp)) → Nat → Prop
  | [], _, _ => True
  | _ :: _, [], _ => False
  | o :: r, ps :: rs, i => (∀ u, B u → X i u → StepGoal F u (fun a => wpList P ops (StepQx F G a0.defers i o.dst u) [o] a u) ps a0) ∧ StepsOkx F B G X P ops a0 r rs (i + 1)

theorem stepsOkx_at : ∀ (l : List Oper) (D : List (List (Nat × Tmp))) (k : Nat), (∀ j, l[j]? = ops[k + j]?) → (∀ i, k ≤ i → i < k + l.length → pairsOf ops (A.getD i []) = D.getD (i - k) []) → StepsOkx F B G X P ops a0 l D k → ∀ i, i < k + l.length → k ≤ i → StepOkx A F B G X P ops a0 i
  | [], _, k, _, _, _, i, h1, h2 => by simp at h1; omega
  | o :: r, [], k, _, _, h, _, _, _ => h.elim
  | o :: r, ps :: rs, k, hl, hD, h, i, h1, h2 => by
    by_cases e : i = k
    · subst e
      intro o' ho' f u hb hx hf
      have h0 : ops[i]? = some o := by simpa using (hl 0).symm
      rw [h0] at ho'
      obtain rfl := Option.some.inj ho'
      have hp := hD i (Nat.le_refl _) (by simp)
      rw [Nat.sub_self, List.getD_cons_zero] at hp
      rw [hp]
      exact StepGoal.go ps a0 f (h.1 u hb hx) (fun p hp' => by
        obtain ⟨p1, p2⟩ := p
        rw [← hp] at hp'
        exact hf p1 (pairsOf_mem.1 hp').1)
    · refine stepsOkx_at r rs (k + 1) (fun j => by have := hl (j + 1); simpa [Nat.add_assoc, Nat.add_comm 1 j] using this) (fun i hi1 hi2 => ?_) h.2 i (by simp at h1; omega) (by omega)
      have := hD i (by omega) (by simp; omega)
      rw [this, show i - k = (i - (k + 1)) + 1 by omega, List.getD_cons_succ]

/-- A REGION THAT DRAWS ITS ORDER: each operation is looked at once. D: for each operation those that come up ahead of it and that it is told of, with their slots; the last list: all of them. -/
theorem region_ix_any {l : List Oper} {w : World} (D : List (List (Nat × Tmp))) (E : List (Nat × Tmp)) (F : Nat → Value → World → Prop) (B : World → Prop) (G : Nat → World → World → Prop) (X : Nat → World → Prop)
    (hok : (regionOk l.toArray a0.tmps.size (D.map (·.map (·.1))).toArray && pairsOk l.toArray D && decide (pairsOf l.toArray (List.range l.length) = E)) = true)
    (hF : ∀ i j v u u', i < l.length → j < l.length → j ≠ i → j ∉ (D.map (·.map (·.1))).toArray.getD i [] → F i v u → G j u u' → F i v u') (hB : ∀ j u u', j < l.length → B u → G j u u' → B u') (hX : ∀ i j u u', i < l.length → j < l.length → j ≠ i → X i u → G j u u' → X i u') (hB0 : B w.drew) (hX0 : ∀ i, X i w.drew)
    (hsteps : StepsOkx F B G X P l.toArray a0 l D 0)
    (hend : ∀ u, B u → StepGoal F u (fun a => Q .normal a u) E a0) :
    wpAny P .any l.toArray Q l.toArray.size (Array.replicate l.toArray.size false) a0 { w with drawn := w.drawn + 1 } := by
  simp only [Bool.and_eq_true, decide_eq_true_eq] at hok
  obtain ⟨⟨hok, hp⟩, hE⟩ := hok
  refine region_anyx (A := (D.map (·.map (·.1))).toArray) hok (fun i j v u u' hi hj => hF i j v u u' (by simpa using hi) (by simpa using hj)) (fun j u u' hj => hB j u u' (by simpa using hj)) (fun i j u u' hi hj => hX i j u u' (by simpa using hi) (by simpa using hj)) (fun i hi => stepsOkx_at l D 0 (fun j => by simp) (fun i _ hi => ?_) hsteps i (by simpa using hi) (by omega)) (fun f u hu hf => ?_) _ _ (fun _ => undef) a0 _ ?_ ?_
  · unfold pairsOk at hp
    have := (List.all_eq_true.1 hp) i (List.mem_range.2 (by simpa using hi))
    simpa using this
  · have := StepGoal.go E a0 f (hend u hu) (fun p hp' => by
      obtain ⟨p1, p2⟩ := p
      rw [← hE] at hp'
      have h := pairsOf_mem.1 hp'
      exact hf p1 (List.mem_range.1 (by simpa using h.1)))
    rw [← hE] at this
    simpa using this
  · have : (unlisted l.toArray.size (Array.replicate l.toArray.size false)).length ≤ (List.range l.toArray.size).length := List.length_filter_le _ _
    simpa using this
  · have hf : ∀ i, (Array.replicate l.toArray.size false).getD i false = true → False := fun i h => by
      rw [Array.getD_eq_getD_getElem?, Array.getElem?_replicate] at h
      split at h <;> simp at h
    exact ⟨by simp, fun i h => (hf i h).elim, hB0, fun i h => (hf i h).elim, rfl, rfl, fun i d h => (hf i h).elim, fun i _ _ => hX0 i, fun t h => rfl⟩
theorem region_ix {id : Nat} {l : List Oper} {w : World} (D : List (List (Nat × Tmp))) (E : List (Nat × Tmp)) (F : Nat → Value → World → Prop) (B : World → Prop) (G : Nat → World → World → Prop) (X : Nat → World → Prop) (hm : P.follows .mixedOrders = true)
    (hok : (regionOk l.toArray a0.tmps.size (D.map (·.map (·.1))).toArray && pairsOk l.toArray D && decide (pairsOf l.toArray (List.range l.length) = E)) = true)
    (hF : ∀ i j v u u', i < l.length → j < l.length → j ≠ i → j ∉ (D.map (·.map (·.1))).toArray.getD i [] → F i v u → G j u u' → F i v u') (hB : ∀ j u u', j < l.length → B u → G j u u' → B u') (hX : ∀ i j u u', i < l.length → j < l.length → j ≠ i → X i u → G j u u' → X i u') (hB0 : B w.drew) (hX0 : ∀ i, X i w.drew)
    (hsteps : StepsOkx F B G X P l.toArray a0 l D 0)
    (hend : ∀ u, B u → StepGoal F u (fun a => Q .normal a u) E a0) :
    (Code.region id l.toArray true).wp P Q a0 w :=
  wp_region_any hm (region_ix_any D E F B G X hok hF hB hX hB0 hX0 hsteps hend)
end
end Go.Proofs.Ytbkcpgaicoagfaa
