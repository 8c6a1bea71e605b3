/- A drawn region whose last operations come behind all others, one behind the other: the first ones in whatever order, each looked at once; the last ones as in a plain list. -/
import Derived.Test.YtcllmhabhbnihaaReg2
set_option linter.unusedVariables false
set_option linter.unusedSimpArgs false
namespace Go.Proofs.Ytcllmhabhbnihaa
open Go Go.RowKit

def front (n m : Nat) : Array Bool := ((List.range n).map fun i => decide (i < m)).toArray
theorem front_size (n m : Nat) : (front n m).size = n := by simp [front]
theorem front_get {n m i : Nat} (h : i < n) : (front n m)[i]? = some (decide (i < m)) := by simp [front, h]
theorem front_set {n k : Nat} (h : k < n) : (front n k).setIfInBounds k true = front n (k + 1) := by
  apply Array.ext_getElem?
  intro i
  rw [Array.getElem?_setIfInBounds]
  by_cases hi : i < n
  · rw [front_get hi, front_get hi]
    by_cases e : k = i
    · subst e
      simp [front_size, h]
    · rw [if_neg e]
      congr 1
      rw [decide_eq_decide]
      omega
  · rw [Array.getElem?_eq_none (by rw [front_size]; omega), Array.getElem?_eq_none (by rw [front_size]; omega), if_neg (by omega)]

section
variable {P : Program} {ops : Array Oper} {Q : Exit → Act → World → Prop} {a0 : Act}
theorem region_tail (k0 : Nat) (h1 : ∀ j, k0 ≤ j → j < ops.size → Region.ready .any ops (front ops.size j) = [j]) (h2 : Region.ready .any ops (front ops.size ops.size) = []) :
    ∀ (fuel k : Nat) (a : Act) (w : World), k0 ≤ k → k ≤ ops.size → ops.size - k ≤ fuel → wpList P ops Q (ops.toList.drop k) a w → wpAny P .any ops Q fuel (front ops.size k) a w := by
  have hlast : ∀ (k : Nat) (a : Act) (w : World), k = ops.size → wpList P ops Q (ops.toList.drop k) a w → Q .normal a w := fun k a w e h => by
    subst e
    rw [List.drop_of_length_le (by simp)] at h
    exact h
  intro fuel
  induction fuel with
  | zero =>
    intro k a w hk hks he h
    have e : k = ops.size := by omega
    refine ⟨by rw [e]; exact h2, hlast k a w e h⟩
  | succ fuel ih =>
    intro k a w hk hks he h
    rcases Nat.lt_or_ge k ops.size with hlt | hge
    · refine ⟨fun hn => (by rw [h1 k hk hlt] at hn; cases hn), fun i hi => ?_⟩
      rw [h1 k hk hlt, List.mem_singleton] at hi
      subst hi
      have ho : ops[i]? = some ops[i] := Array.getElem?_eq_getElem hlt
      have hd : ops.toList.drop i = ops[i] :: ops.toList.drop (i + 1) := by
        rw [List.drop_eq_getElem_cons (by simpa using hlt)]
        simp
      rw [hd] at h
      unfold wpList at h
      unfold wpOp
      simp only [ho]
      rw [front_set hlt]
      split at h
      · rename_i hw
        rw [if_pos hw]
        rcases h with h | h
        · exact .inl (Oper.wp_mono (fun a w hh => ih (i + 1) a w (by omega) (by omega) (by omega) hh) h)
        · exact .inr h
      · rename_i hw
        rw [if_neg hw]
        exact ih (i + 1) _ w (by omega) (by omega) (by omega) h
    · have e : k = ops.size := by omega
      refine ⟨fun _ => hlast k a w e h, fun i hi => ?_⟩
      rw [e, h2] at hi
      cases hi

variable {A : Array (List Nat)} {F : Nat → Value → World → Prop} {B : World → Prop} {G : World → World → Prop}
theorem region_front (hok : regionOk ops a0.tmps.size A = true) (hF : ∀ i v u u', F i v u → G u u' → F i v u') (hB : ∀ u u', B u → G u u' → B u')
    (m : Nat) (hm : m ≤ ops.size) (hl : ∀ i, m ≤ i → i < ops.size → ∀ j, j < m → j ∈ A.getD i [])
    (hstep : ∀ i, i < m → StepOk A F B G P ops a0 i)
    (hcnt : (unlisted ops.size (front ops.size m)).length = ops.size - m)
    (hend : ∀ f u fuel, ops.size - m ≤ fuel → B u → (∀ i, i < m → F i (f i) u) → wpAny P .any ops Q fuel (front ops.size m) (putAll a0 (pairsOf ops (List.range m)) f) u) :
    ∀ (fuel : Nat) (listed : Array Bool) (f : Nat → Value) (a : Act) (u : World), (unlisted ops.size listed).length ≤ fuel → (∀ i, m ≤ i → listed.getD i false = false) → RegInv A F B ops a0 listed f a u → wpAny P .any ops Q fuel listed a u := by
  have fin : ∀ (listed : Array Bool) (f : Nat → Value) (a : Act) (u : World), (∀ i, i < m → listed.getD i false = true) → (∀ i, m ≤ i → listed.getD i false = false) → RegInv A F B ops a0 listed f a u → ∀ fuel, (unlisted ops.size listed).length ≤ fuel → wpAny P .any ops Q fuel listed a u := by
    intro listed f a u hall hnone hI fuel hfu
    have el : listed = front ops.size m := by
      apply Array.ext_getElem?
      intro i
      by_cases hi : i < ops.size
      · rw [front_get hi]
        have hl : i < listed.size := by rw [hI.size]; exact hi
        by_cases him : i < m
        · have := hall i him
          simp only [Array.getD_eq_getD_getElem?, Array.getElem?_eq_getElem hl] at this
          rw [Array.getElem?_eq_getElem hl, decide_eq_true him]
          simpa using this
        · have := hnone i (by omega)
          simp only [Array.getD_eq_getD_getElem?, Array.getElem?_eq_getElem hl] at this
          rw [Array.getElem?_eq_getElem hl, decide_eq_false him]
          simpa using this
      · rw [Array.getElem?_eq_none (by rw [hI.size]; omega), Array.getElem?_eq_none (by rw [front_size]; omega)]
    have e : a = putAll a0 (pairsOf ops (List.range m)) f := by
      have hd : a.defers = (putAll a0 (pairsOf ops (List.range m)) f).defers := by rw [putAll_defers, hI.defers]
      have ht : a.tmps = (putAll a0 (pairsOf ops (List.range m)) f).tmps := by
        apply Array.ext_getElem?
        intro t
        by_cases hw : ∃ j : Nat, j < m ∧ (ops[j]?).bind (fun o : Oper => o.dst) = some t
        · obtain ⟨j, hjm, hj⟩ := hw
          have hjl := dst_lt hj
          rw [hI.at_ j t (hall j hjm) hj]
          obtain ⟨oj, hoj⟩ : ∃ oj, ops[j]? = some oj := ⟨ops[j], Array.getElem?_eq_getElem hjl⟩
          have hdj : oj.dst = some t := by simpa [hoj] using hj
          obtain ⟨hlt, huniq⟩ := (ok_at hok hoj).2.1 t hdj
          exact (putAll_at _ _ f j t (pairsOf_mem.2 ⟨List.mem_range.2 hjm, hj⟩) (fun p hp hpt => by
            obtain ⟨p1, p2⟩ := p
            simp only at hpt
            subst hpt
            have := pairsOf_mem.1 hp
            exact huniq p1 (dst_lt this.2) this.2) hlt).symm
        · rw [hI.other t (fun i hi h => hw ⟨i, (by
            rcases Nat.lt_or_ge i m with h1 | h1
            · exact h1
            · rw [hnone i h1] at hi; cases hi), h⟩)]
          exact (putAll_other _ _ f t (fun p hp he => by
            obtain ⟨p1, p2⟩ := p
            simp only at he
            subst he
            have := pairsOf_mem.1 hp
            exact hw ⟨p1, List.mem_range.1 this.1, this.2⟩)).symm
      cases a
      simp only at hd ht
      rw [hd, ht]
    rw [el] at hfu ⊢
    rw [e]
    exact hend f u fuel (by omega) hI.base (fun i hi => hI.facts i (hall i hi))
  intro fuel
  induction fuel with
  | zero =>
    intro listed f a u hle hnone hI
    have hall : ∀ i, i < m → listed.getD i false = true := fun i hi => by
      cases h : listed.getD i false with
      | true => rfl
      | false =>
        have : i ∈ unlisted ops.size listed := by
          simp only [unlisted, List.mem_filter, List.mem_range, h]
          exact ⟨by omega, rfl⟩
        rw [List.eq_nil_of_length_eq_zero (show (unlisted ops.size listed).length = 0 by omega)] at this
        cases this
    exact fin listed f a u hall hnone hI 0 hle
  | succ fuel ih =>
    intro listed f a u hle hnone hI
    by_cases hall : ∀ i, i < m → listed.getD i false = true
    · exact fin listed f a u hall hnone hI _ hle
    · refine ⟨fun hr => (hall fun i hi => all_listed hok hI.size hr i (by omega)).elim, fun i hi => ?_⟩
      obtain ⟨h0, o, ho, hdeps⟩ := mem_ready.1 hi
      have hil := (Array.getElem?_eq_some_iff.1 ho).1
      have him : i < m := by
        rcases Nat.lt_or_ge i m with h1 | h1
        · exact h1
        · exfalso
          refine hall fun j hj => ?_
          obtain ⟨e, he, hbd, hej⟩ := (ok_at hok ho).1 j (hl i h1 hil j hj)
          have hle := hdeps e he hbd
          rcases hej with h | h
          · rw [← h]; exact hle
          · exact hI.closed _ hle _ h
      have hunf : listed.getD i false = false := by
        have hl : i < listed.size := by rw [hI.size]; exact hil
        simp only [Array.getD_eq_getD_getElem?, Array.getElem?_eq_getElem hl] at h0 ⊢
        simpa using h0
      have hcount : (unlisted ops.size (listed.setIfInBounds i true)).length ≤ fuel := by
        have := unlisted_lt hil hI.size hunf
        omega
      refine region_step hok hF hB ho (hstep i him) hI hi fun f' a' u' hI' => ih _ f' a' u' hcount (fun j hj => ?_) hI'
      have := hnone j hj
      rw [Array.getD_eq_getD_getElem?] at this ⊢
      rw [Array.getElem?_setIfInBounds, if_neg (by omega)]
      exact this

theorem stepsOk_at2 : ∀ (l : List Oper) (D : List (List (Nat × Tmp))) (k : Nat), (∀ j, j < l.length → l[j]? = ops[k + j]?) → (∀ i, k ≤ i → i < k + l.length → pairsOf ops (A.getD i []) = D.getD (i - k) []) → StepsOk F B G P ops a0 l D k → ∀ i, i < k + l.length → k ≤ i → StepOk A F B G P ops a0 i
  | [], _, k, _, _, _, i, h1, h2 => by simp at h1; omega
  | o :: r, [], k, _, _, h, _, _, _ => h.elim
  | o :: r, ps :: rs, k, hl, hD, h, i, h1, h2 => by
    by_cases e : i = k
    · subst e
      intro o' ho' f u hb hf
      have h0 : ops[i]? = some o := by simpa using (hl 0 (by simp)).symm
      rw [h0] at ho'
      obtain rfl := Option.some.inj ho'
      have hp := hD i (Nat.le_refl _) (by simp)
      rw [Nat.sub_self, List.getD_cons_zero] at hp
      rw [hp]
      exact StepGoal.go ps a0 f (h.1 u hb) (fun p hp' => by
        obtain ⟨p1, p2⟩ := p
        rw [← hp] at hp'
        exact hf p1 (pairsOf_mem.1 hp').1)
    · refine stepsOk_at2 r rs (k + 1) (fun j hj => by have := hl (j + 1) (by simp; omega); simpa [Nat.add_assoc, Nat.add_comm 1 j] using this) (fun i hi1 hi2 => ?_) h.2 i (by simp at h1; omega) (by omega)
      have := hD i (by omega) (by simp; omega)
      rw [this, show i - k = (i - (k + 1)) + 1 by omega, List.getD_cons_succ]

/-- The closed check on the last operations. -/
def splitOk (ops : Array Oper) (A : Array (List Nat)) (m : Nat) : Bool :=
  decide (m ≤ ops.size) && ((List.range ops.size).all fun i => decide (i < m) || (List.range m).all fun j => (A.getD i []).contains j) && decide ((unlisted ops.size (front ops.size m)).length = ops.size - m) &&
  ((List.range ops.size).all fun j => decide (j < m) || decide (Region.ready .any ops (front ops.size j) = [j])) && decide (Region.ready .any ops (front ops.size ops.size) = [])

theorem region_split_any {l : List Oper} {w : World} (m : Nat) (D : List (List (Nat × Tmp))) (E : List (Nat × Tmp)) (F : Nat → Value → World → Prop) (B : World → Prop) (G : World → World → Prop)
    (hok : (regionOk l.toArray a0.tmps.size (D.map (·.map (·.1))).toArray && pairsOk l.toArray D && decide (pairsOf l.toArray (List.range m) = E) && splitOk l.toArray (D.map (·.map (·.1))).toArray m) = true)
    (hF : ∀ i v u u', F i v u → G u u' → F i v u') (hB : ∀ u u', B u → G u u' → B u') (hB0 : B w.drew)
    (hsteps : StepsOk F B G P l.toArray a0 (l.take m) D 0)
    (hend : ∀ u, B u → StepGoal F u (fun a => wpList P l.toArray Q (l.drop m) a u) E a0) :
    wpAny P .any l.toArray Q l.toArray.size (Array.replicate l.toArray.size false) a0 { w with drawn := w.drawn + 1 } := by
  unfold splitOk at hok
  simp only [Bool.and_eq_true, decide_eq_true_eq, List.all_eq_true, Bool.or_eq_true, List.mem_range, List.contains_iff_mem] at hok
  obtain ⟨⟨⟨hok, hp⟩, hE⟩, ⟨⟨⟨hm, hl⟩, hcnt⟩, hr1⟩, hr2⟩ := hok
  have hp2 : ∀ i, i < l.length → pairsOf l.toArray ((D.map (·.map (·.1))).toArray.getD i []) = D.getD i [] := fun i hi => by
    unfold pairsOk at hp
    have := (List.all_eq_true.1 hp) i (List.mem_range.2 (by simpa using hi))
    simpa using this
  have hml : m ≤ l.length := by simpa using hm
  refine region_front (A := (D.map (·.map (·.1))).toArray) hok hF hB m hm (fun i h1 h2 j hj => ?_) (fun i hi => stepsOk_at2 (l.take m) D 0 (fun j hj => ?_) (fun i _ hi => ?_) hsteps i (by rw [List.length_take]; omega) (by omega)) hcnt (fun f u fuel hfu hu hf => ?_) _ _ (fun _ => undef) a0 _ ?_ (fun i _ => ?_) ?_
  · rcases hl i h2 with h | h
    · omega
    · exact h j hj
  · rw [List.length_take] at hj
    simp [List.getElem?_take, show j < m by omega]
  · rw [List.length_take] at hi
    exact hp2 i (by omega)
  · have h3 := StepGoal.go E a0 f (hend u hu) (fun p hp' => by
      obtain ⟨p1, p2⟩ := p
      rw [← hE] at hp'
      have h := pairsOf_mem.1 hp'
      exact hf p1 (List.mem_range.1 (by simpa using h.1)))
    rw [← hE] at h3
    refine region_tail m (fun j h1 h2 => ?_) hr2 fuel m _ u (Nat.le_refl _) hm hfu ?_
    · rcases hr1 j h2 with h | h
      · omega
      · exact h
    · simpa using h3
  · have : (unlisted l.toArray.size (Array.replicate l.toArray.size false)).length ≤ (List.range l.toArray.size).length := List.length_filter_le _ _
    simpa using this
  · rw [Array.getD_eq_getD_getElem?, Array.getElem?_replicate]
    split <;> rfl
  · have hf : ∀ i, (Array.replicate l.toArray.size false).getD i false = true → False := fun i h => by
      rw [Array.getD_eq_getD_getElem?, Array.getElem?_replicate] at h
      split at h <;> simp at h
    exact ⟨by simp, fun i h => (hf i h).elim, hB0, fun i h => (hf i h).elim, rfl, rfl, fun i d h => (hf i h).elim, fun t h => rfl⟩
end

theorem region_split {ops : List Oper} {Q : Exit → Act → World → Prop} {a0 : Act} {id : Nat} {w : World} (m : Nat) (D : List (List (Nat × Tmp))) (E : List (Nat × Tmp)) (F : Nat → Pd)
    (hok : (regionOk ops.toArray a0.tmps.size (D.map (·.map (·.1))).toArray && pairsOk ops.toArray D && decide (pairsOf ops.toArray (List.range m) = E) && splitOk ops.toArray (D.map (·.map (·.1))).toArray m) = true)
    (hsteps : StepsOk (fun i => (F i).p) (Grew w) Grew Try.prog ops.toArray a0 (ops.take m) D 0)
    (hend : ∀ u, Grew w u → StepGoal (fun i => (F i).p) u (fun a => wpList Try.prog ops.toArray Q (ops.drop m) a u) E a0) :
    (Code.region id ops.toArray true).wp Try.prog Q a0 w :=
  wp_region_any follows (region_split_any m D E (fun i => (F i).p) (Grew w) Grew hok (fun i v u u' h hg => (F i).mono v u u' h hg) (fun u u' h hg => h.tr hg) (Grew.rf w).dr hsteps hend)
end Go.Proofs.Ytcllmhabhbnihaa
