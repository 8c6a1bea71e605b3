/- A drawn region in which two operations change memory, each its own part. -/
import Derived.Test.YtbkcpgaicoagfaaRegIx
import Derived.Test.YtbkcpgaicoagfaaReg2
set_option linter.unusedVariables false
set_option linter.unusedSimpArgs false
namespace Go.Proofs.Ytbkcpgaicoagfaa
open Go.RowKit

/-- What an operation leaves; s1, s2: does it stand while the one, the other of the two that change memory runs? -/
structure Px (G1 G2 : World → World → Prop) where
  p : Value → World → Prop
  s1 : Bool
  s2 : Bool
  m0 : ∀ v u u', p v u → Grew u u' → p v u'
  m1 : s1 = true → ∀ v u u', p v u → G1 u u' → p v u'
  m2 : s2 = true → ∀ v u u', p v u → G2 u u' → p v u'
def Px.any {G1 G2 : World → World → Prop} : Px G1 G2 := ⟨fun _ _ => True, true, true, fun _ _ _ _ _ => trivial, fun _ _ _ _ _ _ => trivial, fun _ _ _ _ _ _ => trivial⟩
def Px.eqv {G1 G2 : World → World → Prop} (v0 : Value) : Px G1 G2 := ⟨fun v _ => v = v0, true, true, fun _ _ _ h _ => h, fun _ _ _ _ h _ => h, fun _ _ _ _ h _ => h⟩
structure TwoS (G1 G2 : World → World → Prop) (X1 X2 B : World → Prop) : Prop where
  b0 : ∀ u u', B u → Grew u u' → B u'
  b1 : ∀ u u', B u → G1 u u' → B u'
  b2 : ∀ u u', B u → G2 u u' → B u'
  x10 : ∀ u u', X1 u → Grew u u' → X1 u'
  x12 : ∀ u u', X1 u → G2 u u' → X1 u'
  x20 : ∀ u u', X2 u → Grew u u' → X2 u'
  x21 : ∀ u u', X2 u → G1 u u' → X2 u'
def Gx (k1 k2 : Nat) (G1 G2 : World → World → Prop) (i : Nat) : World → World → Prop := cond (Nat.beq i k1) G1 (cond (Nat.beq i k2) G2 Grew)
def Xx (k1 k2 : Nat) (X1 X2 : World → Prop) (i : Nat) : World → Prop := cond (Nat.beq i k1) X1 (cond (Nat.beq i k2) X2 fun _ => True)
theorem beq_nat (a b : Nat) : Nat.beq a b = decide (a = b) := by
  by_cases h : a = b
  · subst h; simp
  · rw [decide_eq_false h]
    cases hb : Nat.beq a b with
    | false => rfl
    | true => exact absurd (Nat.eq_of_beq_eq_true hb) h
theorem Gx_eq (k1 k2 : Nat) (G1 G2 : World → World → Prop) (i : Nat) : Gx k1 k2 G1 G2 i = if i = k1 then G1 else if i = k2 then G2 else Grew := by
  unfold Gx
  rw [beq_nat, beq_nat]
  by_cases h1 : i = k1 <;> by_cases h2 : i = k2 <;> simp [h1, h2]
theorem Xx_eq (k1 k2 : Nat) (X1 X2 : World → Prop) (i : Nat) : Xx k1 k2 X1 X2 i = if i = k1 then X1 else if i = k2 then X2 else fun _ => True := by
  unfold Xx
  rw [beq_nat, beq_nat]
  by_cases h1 : i = k1 <;> by_cases h2 : i = k2 <;> simp [h1, h2]

theorem region_two {ops : List Oper} {Q : Exit → Act → World → Prop} {a0 : Act} {id : Nat} {w : World} {G1 G2 : World → World → Prop} {X1 X2 B : World → Prop} (k1 k2 : Nat) (hS : TwoS G1 G2 X1 X2 B) (hB : B w) (h1 : X1 w) (h2 : X2 w)
    (D : List (List (Nat × Tmp))) (E : List (Nat × Tmp)) (F : Nat → Px G1 G2)
    (hcl : ((List.range ops.length).all fun i => ((F i).s1 || Nat.beq i k1 || ((D.getD i []).any fun x => Nat.beq x.1 k1)) && ((F i).s2 || Nat.beq i k2 || ((D.getD i []).any fun x => Nat.beq x.1 k2))) = true)
    (hok : (regionOk ops.toArray a0.tmps.size (D.map (·.map (·.1))).toArray && pairsOk ops.toArray D && decide (pairsOf ops.toArray (List.range ops.length) = E)) = true)
    (hsteps : StepsOkx (fun i => (F i).p) B (Gx k1 k2 G1 G2) (Xx k1 k2 X1 X2) Try.prog ops.toArray a0 ops D 0)
    (hend : ∀ u, B u → StepGoal (fun i => (F i).p) u (fun a => Q .normal a u) E a0) :
    (Code.region id ops.toArray true).wp Try.prog Q a0 w := by
  have hdr : Grew w w.drew := (Grew.rf w).dr
  have hA : ∀ i, ((D.map (·.map (·.1))).toArray.getD i [] : List Nat) = (D.getD i []).map (·.1) := fun i => by
    simp only [Array.getD_eq_getD_getElem?, List.getElem?_toArray, List.getElem?_map, List.getD_eq_getElem?_getD]
    cases D[i]? <;> rfl
  have hc : ∀ i, i < ops.length → ((F i).s1 = true ∨ i = k1 ∨ k1 ∈ (D.getD i []).map (·.1)) ∧ ((F i).s2 = true ∨ i = k2 ∨ k2 ∈ (D.getD i []).map (·.1)) := fun i hi => by
    have := (List.all_eq_true.1 hcl) i (List.mem_range.2 hi)
    simp only [Bool.and_eq_true, Bool.or_eq_true, List.any_eq_true, beq_nat, decide_eq_true_eq] at this
    obtain ⟨h1, h2⟩ := this
    refine ⟨?_, ?_⟩
    · rcases h1 with (h | h) | ⟨x, hx, h⟩
      · exact .inl h
      · exact .inr (.inl h)
      · exact .inr (.inr (List.mem_map.2 ⟨x, hx, h⟩))
    · rcases h2 with (h | h) | ⟨x, hx, h⟩
      · exact .inl h
      · exact .inr (.inl h)
      · exact .inr (.inr (List.mem_map.2 ⟨x, hx, h⟩))
  refine region_ix D E (fun i => (F i).p) B (Gx k1 k2 G1 G2) (Xx k1 k2 X1 X2) follows hok ?_ ?_ ?_ (hS.b0 _ _ hB hdr) ?_ hsteps hend
  · intro i j v u u' hi hj hne hna hf hg
    rw [hA] at hna
    obtain ⟨hc1, hc2⟩ := hc i hi
    rw [Gx_eq] at hg
    by_cases e1 : j = k1
    · rw [if_pos e1] at hg
      subst e1
      rcases hc1 with h | h | h
      · exact (F i).m1 h _ _ _ hf hg
      · exact absurd h.symm hne
      · exact absurd h hna
    · rw [if_neg e1] at hg
      by_cases e2 : j = k2
      · rw [if_pos e2] at hg
        subst e2
        rcases hc2 with h | h | h
        · exact (F i).m2 h _ _ _ hf hg
        · exact absurd h.symm hne
        · exact absurd h hna
      · rw [if_neg e2] at hg
        exact (F i).m0 _ _ _ hf hg
  · intro j u u' hj hb hg
    rw [Gx_eq] at hg
    split at hg
    · exact hS.b1 _ _ hb hg
    · split at hg
      · exact hS.b2 _ _ hb hg
      · exact hS.b0 _ _ hb hg
  · intro i j u u' hi hj hne hx hg
    rw [Xx_eq] at hx ⊢
    rw [Gx_eq] at hg
    by_cases e1 : i = k1
    · rw [if_pos e1] at hx ⊢
      rw [if_neg (by omega)] at hg
      split at hg
      · exact hS.x12 _ _ hx hg
      · exact hS.x10 _ _ hx hg
    · rw [if_neg e1] at hx ⊢
      by_cases e2 : i = k2
      · rw [if_pos e2] at hx ⊢
        split at hg
        · exact hS.x21 _ _ hx hg
        · rw [if_neg (by omega)] at hg
          exact hS.x20 _ _ hx hg
      · rw [if_neg e2]; trivial
  · intro i
    rw [Xx_eq]
    split
    · exact hS.x10 _ _ h1 hdr
    · split
      · exact hS.x20 _ _ h2 hdr
      · trivial
end Go.Proofs.Ytbkcpgaicoagfaa
/- A region that draws its order, some of whose operations change what others look at, and some of whose facts end with a later operation (kills). Printed by wip/mkRegKill.py. -/
set_option linter.unusedVariables false
set_option linter.unusedSimpArgs false
namespace Go.Proofs.Ytbkcpgaicoagfaa
open Go

section
variable {P : Program} {ops : Array Oper} {Q : Exit → Act → World → Prop} {a0 : Act}
variable (A : Array (List Nat)) (F : Nat → Value → World → Prop) (B : World → Prop) (G : Nat → World → World → Prop) (X : Nat → World → Prop) (kl : Nat → Nat → Bool)

/-- Operation j has run by the time that operation i has. -/
def UpA (A : Array (List Nat)) (i j : Nat) : Prop := ∀ listed : Array Bool, (∀ i, listed.getD i false = true → ∀ j ∈ A.getD i [], listed.getD j false = true) → listed.getD i false = true → listed.getD j false = true
/-- What a step must come to. -/
def StepQk (ds : List Deferred) (i : Nat) (d : Option Tmp) (u : World) : Exit → Act → World → Prop := fun e a' u' =>
  e = .normal ∧ a'.defers = ds ∧ G i u u' ∧ F i (leftIn a' d) u'

def StepOkk (P : Program) (ops : Array Oper) (a0 : Act) (i : Nat) : Prop :=
  ∀ o, ops[i]? = some o → ∀ f u, B u → X i u → (∀ j ∈ A.getD i [], F j (f j) u) → wpList P ops (StepQk F G a0.defers i o.dst u) [o] (putAll a0 (pairsOf ops (A.getD i [])) f) u

structure RegInvk (ops : Array Oper) (a0 : Act) (listed : Array Bool) (f : Nat → Value) (a : Act) (u : World) : Prop where
  size : listed.size = ops.size
  closed : ∀ i, listed.getD i false = true → ∀ j ∈ A.getD i [], listed.getD j false = true
  base : B u
  facts : ∀ i, listed.getD i false = true → (∀ k, kl k i = true → listed.getD k false = false) → F i (f i) u
  defers : a.defers = a0.defers
  tsize : a.tmps.size = a0.tmps.size
  at_ : ∀ i d, listed.getD i false = true → (ops[i]?).bind (·.dst) = some d → a.tmps[d]? = some (f i)
  pre : ∀ i, i < ops.size → listed.getD i false = false → X i u
  other : ∀ t, (∀ i, listed.getD i false = true → (ops[i]?).bind (·.dst) ≠ some t) → a.tmps[t]? = a0.tmps[t]?

variable {A F B G X kl}
theorem region_stepk (hok : regionOk ops a0.tmps.size A = true) (hkl : ∀ i j k, i < ops.size → j ∈ A.getD i [] → kl k j = true → k = i ∨ UpA A k i) (hF : ∀ i j v u u', i < ops.size → j < ops.size → j ≠ i → ¬ UpA A i j → kl j i = false → F i v u → G j u u' → F i v u') (hB : ∀ j u u', j < ops.size → B u → G j u u' → B u') (hX : ∀ i j u u', i < ops.size → j < ops.size → j ≠ i → ¬ UpA A j i → X i u → G j u u' → X i u')
    {i : Nat} {o : Oper} (ho : ops[i]? = some o) (hstep : StepOkk A F B G X P ops a0 i) {listed : Array Bool} {f : Nat → Value} {a : Act} {u : World}
    (hI : RegInvk A F B X kl ops a0 listed f a u) (hr : i ∈ Region.ready .any ops listed) {K : Act → World → Prop}
    (hK : ∀ f' a' u', RegInvk A F B X kl ops a0 (listed.setIfInBounds i true) f' a' u' → K a' u') : wpOp P ops Q i K a u := by
  obtain ⟨hun, o', ho', hall⟩ := mem_ready.1 hr
  rw [ho] at ho'
  obtain rfl := Option.some.inj ho'
  obtain ⟨k1, k2, k3, k4, k5, _⟩ := ok_at hok ho
  have hi : i < ops.size := (Array.getElem?_eq_some_iff.1 ho).1
  have hunf : listed.getD i false = false := by
    have : i < listed.size := by rw [hI.size]; exact hi
    simp only [Array.getD_eq_getD_getElem?, Array.getElem?_eq_getElem this] at hun ⊢
    simpa using hun
  have hanc : ∀ j ∈ A.getD i [], listed.getD j false = true := fun j hj => by
    obtain ⟨e, he, hb, h⟩ := k1 j hj
    have hl := hall e he hb
    rcases h with rfl | h
    · exact hl
    · exact hI.closed _ hl j h
  -- the frame that the step is told agrees with this one where the operation looks
  have hagree : ∀ t ∈ o.looksAt ops, (putAll a0 (pairsOf ops (A.getD i [])) f).tmps[t]? = a.tmps[t]? := by
    intro t ht
    by_cases hw : ∃ j, (ops[j]?).bind (·.dst) = some t ∧ j ∈ A.getD i []
    · obtain ⟨j, hjt, hj⟩ := hw
      obtain ⟨oj, hoj⟩ : ∃ oj, ops[j]? = some oj := by
        cases h : ops[j]? with
        | none => simp [h] at hjt
        | some oj => exact ⟨oj, rfl⟩
      have hd : oj.dst = some t := by simpa [hoj] using hjt
      obtain ⟨hlt, huniq⟩ := (ok_at hok hoj).2.1 t hd
      rw [hI.at_ j t (hanc j hj) hjt]
      exact putAll_at _ _ f j t (pairsOf_mem.2 ⟨hj, hjt⟩) (fun p hp hpt => by
        obtain ⟨p1, p2⟩ := p
        simp only at hpt
        subst hpt
        have := pairsOf_mem.1 hp
        exact huniq p1 (dst_lt this.2) this.2) hlt
    · rw [putAll_other _ _ f t (fun p hp he => by
        obtain ⟨p1, p2⟩ := p
        simp only at he
        subst he
        have := pairsOf_mem.1 hp
        exact hw ⟨p1, this.2, this.1⟩)]
      refine (hI.other t fun j hj hjt => ?_).symm
      rcases k4 t ht j (dst_lt hjt) hjt with h | h
      · exact hw ⟨j, hjt, h⟩
      · have := hI.closed j hj i h
        rw [hunf] at this
        cases this
  have hdef : (putAll a0 (pairsOf ops (A.getD i [])) f).defers = a.defers := by rw [putAll_defers, hI.defers]
  have hst := hstep o ho f u hI.base (hI.pre i hi hunf) (fun j hj => hI.facts j (hanc j hj) (fun k hk => by
    cases hlk : listed.getD k false with
    | false => rfl
    | true =>
      rcases hkl i j k hi hj hk with h | h
      · rw [h, hunf] at hlk; cases hlk
      · have := h listed hI.closed hlk; rw [hunf] at this; cases this))
  have hasz : (putAll a0 (pairsOf ops (A.getD i [])) f).tmps.size = a0.tmps.size := putAll_size _ _ _
  generalize putAll a0 (pairsOf ops (A.getD i [])) f = ax at *
  -- what stands behind it
  have next : ∀ v u', G i u u' → F i v u' → K (a.put o.dst v) u' := by
    intro v u' hg hf
    have hcl' : ∀ j, (listed.setIfInBounds i true).getD j false = true → ∀ k ∈ A.getD j [], (listed.setIfInBounds i true).getD k false = true := by
      intro j hj k hk
      by_cases hji : j = i
      · subst hji
        exact getD_set_true (hanc k hk)
      · rw [getD_set_ne false (Ne.symm hji)] at hj
        exact getD_set_true (hI.closed j hj k hk)
    refine hK (fun j => if j = i then v else f j) _ _ ⟨by simpa using hI.size, ?_, hB _ _ _ hi hI.base hg, ?_, ?_, ?_, ?_, ?_, ?_⟩
    · intro j hj k hk
      by_cases hji : j = i
      · subst hji
        exact getD_set_true (hanc k hk)
      · rw [getD_set_ne false (Ne.symm hji)] at hj
        exact getD_set_true (hI.closed j hj k hk)
    · intro j hj hnk
      by_cases hji : j = i
      · subst hji; simpa using hf
      · rw [getD_set_ne false (Ne.symm hji)] at hj
        have hjs : j < ops.size := by
          rcases Nat.lt_or_ge j ops.size with h | h
          · exact h
          · rw [Array.getD_eq_getD_getElem?, Array.getElem?_eq_none (by rw [hI.size]; exact h)] at hj; cases hj
        have hkf : kl i j = false := by
          cases hk : kl i j with
          | false => rfl
          | true =>
            have := hnk i hk
            have hl : i < listed.size := by rw [hI.size]; exact hi
            simp [Array.getD_eq_getD_getElem?, Array.getElem?_setIfInBounds, hl] at this
        have hnk' : ∀ k, kl k j = true → listed.getD k false = false := fun k hk => by
          have h1 := hnk k hk
          by_cases hki : k = i
          · subst hki; exact hunf
          · rw [getD_set_ne false (Ne.symm hki)] at h1; exact h1
        simpa [hji] using hF j i _ _ _ hjs hi (Ne.symm hji) (fun hmem => by have := hmem listed hI.closed hj; rw [hunf] at this; cases this) hkf (hI.facts j hj hnk') hg
    · cases hd : o.dst <;> simpa [Act.put] using hI.defers
    · cases hd : o.dst <;> simpa [Act.put] using hI.tsize
    · intro j d hj hjd
      by_cases hji : j = i
      · subst hji
        have hd : o.dst = some d := by simpa [ho] using hjd
        have hlt := (k2 d hd).1
        rw [hd]
        simp [Act.put, Array.getElem?_setIfInBounds_self_of_lt (show d < a.tmps.size by rw [hI.tsize]; exact hlt)]
      · rw [getD_set_ne false (Ne.symm hji)] at hj
        rw [if_neg hji, ← hI.at_ j d hj hjd]
        cases hd : o.dst with
        | none => rfl
        | some d' =>
          have hne : d' ≠ d := fun e => by
            subst e
            exact hji ((k2 d' hd).2 j (dst_lt hjd) hjd)
          simp [Act.put, Array.getElem?_setIfInBounds_ne hne]
    · intro j hj hlj
      have hji : j ≠ i := fun e => by
        subst e
        have : j < listed.size := by rw [hI.size]; exact hi
        simp [Array.getD_eq_getD_getElem?, Array.getElem?_setIfInBounds, this] at hlj
      exact hX j i _ _ hj hi (Ne.symm hji) (fun hmem => by
        have hii : (listed.setIfInBounds i true).getD i false = true := by
          have : i < listed.size := by rw [hI.size]; exact hi
          simp [this]
        have := hmem _ hcl' hii
        rw [hlj] at this; cases this) (hI.pre j hj (by rw [getD_set_ne false (Ne.symm hji)] at hlj; exact hlj)) hg
    · intro t ht
      have h1 := hI.other t (fun j hj => by
        by_cases hji : j = i
        · subst hji; rw [hunf] at hj; cases hj
        · exact ht j (by rw [getD_set_ne false (Ne.symm hji)]; exact hj))
      rw [← h1]
      cases hd : o.dst with
      | none => rfl
      | some d =>
        have hne : d ≠ t := fun e => by
          subst e
          refine ht i ?_ (by simp [ho, hd])
          have : i < listed.size := by rw [hI.size]; exact hi
          simp [this]
        simp [Act.put, Array.getElem?_setIfInBounds_ne hne]
  have has : ∀ d, o.dst = some d → d < ax.tmps.size := fun d hd => by rw [hasz]; exact (k2 d hd).1
  have hnext : ∀ v u', wpList P ops (StepQk F G a0.defers i o.dst u) [] (ax.put o.dst v) u' → K (a.put o.dst v) u' := fun v u' h => by
    obtain ⟨_, _, hg, hf⟩ := h
    cases hd : o.dst with
    | none =>
      rw [hd] at hf next
      exact next undef u' hg hf
    | some d =>
      have hlt := has d hd
      rw [hd] at hf next
      have e : leftIn (ax.put (some d) v) (some d) = v := by
        simp [leftIn, Act.put, Array.getElem?_setIfInBounds_self_of_lt hlt]
      rw [e] at hf
      exact next v u' hg hf
  have hno : ¬ LetsOut (StepQk F G a0.defers i o.dst u) := fun ⟨_, _, h⟩ => by cases h.1
  have hex : execOp a.eval o = execOp ax.eval o := execOp_congr o (fun cs b => Region.noSelect_spec (by
      unfold regionOk at hok
      simp only [Bool.and_eq_true] at hok
      exact hok.1.2) i o cs b ho) fun x hx => by
    cases x with
    | tmp t =>
      have := hagree t (List.mem_append_left _ (List.mem_filterMap.2 ⟨.tmp t, by simpa using hx, rfl⟩))
      simp [Act.eval, Array.getD_eq_getD_getElem?, this]
    | _ => rfl
  have hwt : Region.wanted o (yielded ops a.tmps) = Region.wanted o (yielded ops ax.tmps) := by
    unfold Region.wanted
    cases hg : o.guard with
    | none => rfl
    | some gw =>
      obtain ⟨g, want⟩ := gw
      have hy : yielded ops a.tmps g = yielded ops ax.tmps g := by
        unfold yielded
        cases ht : (ops[g]?).bind (·.dst) with
        | none => rfl
        | some t => simp only [Option.bind_some, hagree t (by simp [Oper.looksAt, hg, ht])]
      simp only [hy]
  unfold wpOp
  simp only [ho]
  unfold wpList at hst
  rw [hwt]
  split
  · rename_i hw
    rw [if_pos hw] at hst
    rcases hst with hst | ⟨_, hl⟩
    · refine .inl ?_
      unfold Oper.wp at *
      rw [hex]
      generalize (execOp ax.eval o).run P u = r at *
      cases r with
      | ok n u' =>
        cases n <;> simp only [Oper.upon] at hst ⊢
        case value v => exact hnext v u' hst
        case skip => exact hnext undef u' hst
        case defer d =>
          obtain ⟨_, hd, _⟩ := hst
          exfalso
          rw [hI.defers] at hdef
          cases hdd : o.dst <;> simp [hdd, Act.put, hdef] at hd
        case enter g args =>
          refine Calls.mono hst fun e u'' he => ?_
          cases e with
          | returned v => exact hnext v u'' he
          | panicked c => cases he.1
          | outgrown => exact absurd he hno
        case row row args => exact Rows.mono hst fun v u'' he => hnext v u'' he
      | halt x u' =>
        cases x <;> simp only [Oper.upon] at hst ⊢
        case panic v => cases hst.1
    · exact absurd hl hno
  · rename_i hw
    rw [if_neg hw] at hst
    exact hnext undef u hst

theorem region_anyk (hok : regionOk ops a0.tmps.size A = true) (hkl : ∀ i j k, i < ops.size → j ∈ A.getD i [] → kl k j = true → k = i ∨ UpA A k i) (hF : ∀ i j v u u', i < ops.size → j < ops.size → j ≠ i → ¬ UpA A i j → kl j i = false → F i v u → G j u u' → F i v u') (hB : ∀ j u u', j < ops.size → B u → G j u u' → B u') (hX : ∀ i j u u', i < ops.size → j < ops.size → j ≠ i → ¬ UpA A j i → X i u → G j u u' → X i u')
    (hstep : ∀ i, i < ops.size → StepOkk A F B G X P ops a0 i)
    (hend : ∀ f u, B u → (∀ i, i < ops.size → (∀ k, kl k i = false) → F i (f i) u) → Q .normal (putAll a0 (pairsOf ops (List.range ops.size)) f) u) :
    ∀ (fuel : Nat) (listed : Array Bool) (f : Nat → Value) (a : Act) (u : World), (unlisted ops.size listed).length ≤ fuel → RegInvk A F B X kl ops a0 listed f a u → wpAny P .any ops Q fuel listed a u := by
  have fin : ∀ (listed : Array Bool) (f : Nat → Value) (a : Act) (u : World), Region.ready .any ops listed = [] → RegInvk A F B X kl ops a0 listed f a u → Q .normal a u := by
    intro listed f a u hr hI
    have hall := all_listed hok hI.size hr
    have e : a = putAll a0 (pairsOf ops (List.range ops.size)) f := by
      have hd : a.defers = (putAll a0 (pairsOf ops (List.range ops.size)) f).defers := by rw [putAll_defers, hI.defers]
      have ht : a.tmps = (putAll a0 (pairsOf ops (List.range ops.size)) f).tmps := by
        apply Array.ext_getElem?
        intro t
        by_cases hw : ∃ j : Nat, (ops[j]?).bind (fun o : Oper => o.dst) = some t
        · obtain ⟨j, hj⟩ := hw
          have hjl := dst_lt hj
          rw [hI.at_ j t (hall j hjl) hj]
          obtain ⟨oj, hoj⟩ : ∃ oj, ops[j]? = some oj := ⟨ops[j], Array.getElem?_eq_getElem hjl⟩
          have hdj : oj.dst = some t := by simpa [hoj] using hj
          obtain ⟨hlt, huniq⟩ := (ok_at hok hoj).2.1 t hdj
          exact (putAll_at _ _ f j t (pairsOf_mem.2 ⟨List.mem_range.2 hjl, hj⟩) (fun p hp hpt => by
            obtain ⟨p1, p2⟩ := p
            simp only at hpt
            subst hpt
            have := pairsOf_mem.1 hp
            exact huniq p1 (dst_lt this.2) this.2) hlt).symm
        · rw [hI.other t (fun i _ h => hw ⟨i, h⟩)]
          exact (putAll_other _ _ f t (fun p hp he => by
            obtain ⟨p1, p2⟩ := p
            simp only at he
            subst he
            exact hw ⟨p1, (pairsOf_mem.1 hp).2⟩)).symm
      cases a
      simp only at hd ht
      rw [hd, ht]
    rw [e]
    exact hend f u hI.base (fun i hi hk => hI.facts i (hall i hi) (fun k h => by rw [hk k] at h; cases h))
  intro fuel
  induction fuel with
  | zero =>
    intro listed f a u hle hI
    have hr : Region.ready .any ops listed = [] := by
      rw [List.eq_nil_iff_forall_not_mem]
      intro i hi
      obtain ⟨h0, o, ho, _⟩ := (mem_ready (md := .any)).1 hi
      have hil := (Array.getElem?_eq_some_iff.1 ho).1
      have : i ∈ unlisted ops.size listed := by
        have hl : i < listed.size := by rw [hI.size]; exact hil
        simp only [unlisted, List.mem_filter, List.mem_range]
        simp only [Array.getD_eq_getD_getElem?, Array.getElem?_eq_getElem hl] at h0 ⊢
        exact ⟨hil, by simpa using h0⟩
      have hz : unlisted ops.size listed = [] := List.eq_nil_of_length_eq_zero (by omega)
      rw [hz] at this
      cases this
    exact ⟨hr, fin listed f a u hr hI⟩
  | succ fuel ih =>
    intro listed f a u hle hI
    refine ⟨fun hr => fin listed f a u hr hI, fun i hi => ?_⟩
    obtain ⟨h0, o, ho, _⟩ := mem_ready.1 hi
    have hil := (Array.getElem?_eq_some_iff.1 ho).1
    have hunf : listed.getD i false = false := by
      have hl : i < listed.size := by rw [hI.size]; exact hil
      simp only [Array.getD_eq_getD_getElem?, Array.getElem?_eq_getElem hl] at h0 ⊢
      simpa using h0
    refine region_stepk hok hkl hF hB hX ho (hstep i hil) hI hi fun f' a' u' hI' => ih _ f' a' u' ?_ hI'
    have := unlisted_lt hil hI.size hunf
    omega

/-- The steps, one behind the other. -/
def StepsOkk (F : Nat → Value → World → Prop) (B : World → Prop) (G : Nat → World → World → Prop) (X : Nat → World → Prop) (P : Program) (ops : Array Oper) (a0 : Act) : List Oper → List (List (Nat × Tmp)) → Nat → Prop
  | [], _, _ => True
  | _ :: _, [], _ => False
  | o :: r, ps :: rs, i => (∀ u, B u → X i u → StepGoal F u (fun a => wpList P ops (StepQk F G a0.defers i o.dst u) [o] a u) ps a0) ∧ StepsOkk F B G X P ops a0 r rs (i + 1)

theorem stepsOkk_at : ∀ (l : List Oper) (D : List (List (Nat × Tmp))) (k : Nat), (∀ j, l[j]? = ops[k + j]?) → (∀ i, k ≤ i → i < k + l.length → pairsOf ops (A.getD i []) = D.getD (i - k) []) → StepsOkk F B G X P ops a0 l D k → ∀ i, i < k + l.length → k ≤ i → StepOkk A F B G X P ops a0 i
  | [], _, k, _, _, _, i, h1, h2 => by simp at h1; omega
  | o :: r, [], k, _, _, h, _, _, _ => h.elim
  | o :: r, ps :: rs, k, hl, hD, h, i, h1, h2 => by
    by_cases e : i = k
    · subst e
      intro o' ho' f u hb hx hf
      have h0 : ops[i]? = some o := by simpa using (hl 0).symm
      rw [h0] at ho'
      obtain rfl := Option.some.inj ho'
      have hp := hD i (Nat.le_refl _) (by simp)
      rw [Nat.sub_self, List.getD_cons_zero] at hp
      rw [hp]
      exact StepGoal.go ps a0 f (h.1 u hb hx) (fun p hp' => by
        obtain ⟨p1, p2⟩ := p
        rw [← hp] at hp'
        exact hf p1 (pairsOf_mem.1 hp').1)
    · refine stepsOkk_at r rs (k + 1) (fun j => by have := hl (j + 1); simpa [Nat.add_assoc, Nat.add_comm 1 j] using this) (fun i hi1 hi2 => ?_) h.2 i (by simp at h1; omega) (by omega)
      have := hD i (by omega) (by simp; omega)
      rw [this, show i - k = (i - (k + 1)) + 1 by omega, List.getD_cons_succ]

/-- Is the fact of operation i over once operation k has run? -/
def killB (KP : List (Nat × Nat)) (k i : Nat) : Bool := KP.any fun p => Nat.beq p.1 k && Nat.beq p.2 i
/-- Has operation j run by the time that i has? (at most n steps back) -/
def reachB (D : List (List (Nat × Tmp))) : Nat → Nat → Nat → Bool
  | 0, _, _ => false
  | n + 1, i, j => (D.getD i []).any fun x => Nat.beq x.1 j || reachB D n x.1 j
/-- Whoever is told of a fact that ends has run by then. -/
def killOk (D : List (List (Nat × Tmp))) (KP : List (Nat × Nat)) : Bool :=
  (List.range D.length).all fun i => (D.getD i []).all fun x => KP.all fun p => !(Nat.beq p.2 x.1) || Nat.beq p.1 i || reachB D 5 p.1 i
def liveF (F : Nat → Value → World → Prop) (KP : List (Nat × Nat)) : Nat → Value → World → Prop := fun i v u => cond (KP.any fun p => Nat.beq p.2 i) True (F i v u)
theorem nbeq {a b : Nat} (h : Nat.beq a b = true) : a = b := Nat.eq_of_beq_eq_true h
theorem liveF_mk {F : Nat → Value → World → Prop} {KP : List (Nat × Nat)} {i : Nat} {v : Value} {u : World} (h : (∀ k, killB KP k i = false) → F i v u) : liveF F KP i v u := by
  unfold liveF
  cases hb : (KP.any fun p => Nat.beq p.2 i) with
  | true => trivial
  | false =>
    refine h fun k => ?_
    cases hk : killB KP k i with
    | false => rfl
    | true =>
      unfold killB at hk
      rw [List.any_eq_true] at hk
      obtain ⟨p, hp, hq⟩ := hk
      simp only [Bool.and_eq_true] at hq
      rw [List.any_eq_false] at hb
      exact absurd hq.2 (hb p hp)
theorem killA (D : List (List (Nat × Tmp))) (i : Nat) : ((D.map (·.map (·.1))).toArray.getD i [] : List Nat) = (D.getD i []).map (·.1) := by
  simp only [Array.getD_eq_getD_getElem?, List.getElem?_toArray, List.getElem?_map, List.getD_eq_getElem?_getD]
  cases D[i]? <;> rfl
theorem reachB_up {D : List (List (Nat × Tmp))} : ∀ (n : Nat) {i j : Nat}, reachB D n i j = true → UpA (D.map (·.map (·.1))).toArray i j
  | 0, i, j, h => by cases h
  | n + 1, i, j, h => by
    intro listed hcl hi
    rw [reachB, List.any_eq_true] at h
    obtain ⟨x, hx, h⟩ := h
    have hm : x.1 ∈ (D.map (·.map (·.1))).toArray.getD i [] := by rw [killA]; exact List.mem_map.2 ⟨x, hx, rfl⟩
    have hxl := hcl i hi _ hm
    rw [Bool.or_eq_true] at h
    rcases h with h | h
    · rw [nbeq h] at hxl; exact hxl
    · exact reachB_up n h listed hcl hxl
theorem killOk_at {D : List (List (Nat × Tmp))} {KP : List (Nat × Nat)} {n : Nat} (h : killOk D KP = true) : ∀ i j k, i < n → j ∈ (D.map (·.map (·.1))).toArray.getD i [] → killB KP k j = true → k = i ∨ UpA (D.map (·.map (·.1))).toArray k i := by
  intro i j k _ hj hk
  rw [killA] at hj
  obtain ⟨x, hx, rfl⟩ := List.mem_map.1 hj
  have hi : i < D.length := by
    rcases Nat.lt_or_ge i D.length with h | h
    · exact h
    · rw [List.getD_eq_getElem?_getD, List.getElem?_eq_none h] at hx; cases hx
  unfold killB at hk
  rw [List.any_eq_true] at hk
  obtain ⟨p, hp, hq⟩ := hk
  simp only [Bool.and_eq_true] at hq
  have h1 := List.all_eq_true.1 (List.all_eq_true.1 (List.all_eq_true.1 h i (List.mem_range.2 hi)) x hx) p hp
  obtain rfl := nbeq hq.1
  rw [hq.2] at h1
  simp only [Bool.not_true, Bool.false_or, Bool.or_eq_true] at h1
  rcases h1 with h1 | h1
  · exact .inl (nbeq h1)
  · exact .inr (reachB_up _ h1)

/-- A REGION THAT DRAWS ITS ORDER: each operation is looked at once. D: for each operation those that come up ahead of it and that it is told of, with their slots; the last list: all of them. -/
theorem region_kill_any {l : List Oper} {w : World} (D : List (List (Nat × Tmp))) (E : List (Nat × Tmp)) (F : Nat → Value → World → Prop) (B : World → Prop) (G : Nat → World → World → Prop) (X : Nat → World → Prop) (KP : List (Nat × Nat))
    (hok : (regionOk l.toArray a0.tmps.size (D.map (·.map (·.1))).toArray && pairsOk l.toArray D && decide (pairsOf l.toArray (List.range l.length) = E)) = true)
    (hk : killOk D KP = true) (hF : ∀ i j v u u', i < l.length → j < l.length → j ≠ i → ¬ UpA (D.map (·.map (·.1))).toArray i j → killB KP j i = false → F i v u → G j u u' → F i v u') (hB : ∀ j u u', j < l.length → B u → G j u u' → B u') (hX : ∀ i j u u', i < l.length → j < l.length → j ≠ i → ¬ UpA (D.map (·.map (·.1))).toArray j i → X i u → G j u u' → X i u') (hB0 : B w.drew) (hX0 : ∀ i, X i w.drew)
    (hsteps : StepsOkk F B G X P l.toArray a0 l D 0)
    (hend : ∀ u, B u → (∀ i, i < l.length → ∃ v, liveF F KP i v u) → StepGoal (liveF F KP) u (fun a => Q .normal a u) E a0) :
    wpAny P .any l.toArray Q l.toArray.size (Array.replicate l.toArray.size false) a0 { w with drawn := w.drawn + 1 } := by
  simp only [Bool.and_eq_true, decide_eq_true_eq] at hok
  obtain ⟨⟨hok, hp⟩, hE⟩ := hok
  refine region_anyk (A := (D.map (·.map (·.1))).toArray) (kl := killB KP) hok (killOk_at hk) (fun i j v u u' hi hj => hF i j v u u' (by simpa using hi) (by simpa using hj)) (fun j u u' hj => hB j u u' (by simpa using hj)) (fun i j u u' hi hj => hX i j u u' (by simpa using hi) (by simpa using hj)) (fun i hi => stepsOkk_at l D 0 (fun j => by simp) (fun i _ hi => ?_) hsteps i (by simpa using hi) (by omega)) (fun f u hu hf => ?_) _ _ (fun _ => undef) a0 _ ?_ ?_
  · unfold pairsOk at hp
    have := (List.all_eq_true.1 hp) i (List.mem_range.2 (by simpa using hi))
    simpa using this
  · have := StepGoal.go E a0 f (hend u hu (fun i hi => ⟨f i, liveF_mk (fun hk => hf i (by simpa using hi) hk)⟩)) (fun p hp' => by
      obtain ⟨p1, p2⟩ := p
      rw [← hE] at hp'
      have h := pairsOf_mem.1 hp'
      exact liveF_mk (fun hk => hf p1 (List.mem_range.1 (by simpa using h.1)) hk))
    rw [← hE] at this
    simpa using this
  · have : (unlisted l.toArray.size (Array.replicate l.toArray.size false)).length ≤ (List.range l.toArray.size).length := List.length_filter_le _ _
    simpa using this
  · have hf : ∀ i, (Array.replicate l.toArray.size false).getD i false = true → False := fun i h => by
      rw [Array.getD_eq_getD_getElem?, Array.getElem?_replicate] at h
      split at h <;> simp at h
    exact ⟨by simp, fun i h => (hf i h).elim, hB0, fun i h _ => (hf i h).elim, rfl, rfl, fun i d h => (hf i h).elim, fun i _ _ => hX0 i, fun t h => rfl⟩
theorem region_kill {id : Nat} {l : List Oper} {w : World} (D : List (List (Nat × Tmp))) (E : List (Nat × Tmp)) (F : Nat → Value → World → Prop) (B : World → Prop) (G : Nat → World → World → Prop) (X : Nat → World → Prop) (KP : List (Nat × Nat)) (hm : P.follows .mixedOrders = true)
    (hok : (regionOk l.toArray a0.tmps.size (D.map (·.map (·.1))).toArray && pairsOk l.toArray D && decide (pairsOf l.toArray (List.range l.length) = E)) = true)
    (hk : killOk D KP = true) (hF : ∀ i j v u u', i < l.length → j < l.length → j ≠ i → ¬ UpA (D.map (·.map (·.1))).toArray i j → killB KP j i = false → F i v u → G j u u' → F i v u') (hB : ∀ j u u', j < l.length → B u → G j u u' → B u') (hX : ∀ i j u u', i < l.length → j < l.length → j ≠ i → ¬ UpA (D.map (·.map (·.1))).toArray j i → X i u → G j u u' → X i u') (hB0 : B w.drew) (hX0 : ∀ i, X i w.drew)
    (hsteps : StepsOkk F B G X P l.toArray a0 l D 0)
    (hend : ∀ u, B u → (∀ i, i < l.length → ∃ v, liveF F KP i v u) → StepGoal (liveF F KP) u (fun a => Q .normal a u) E a0) :
    (Code.region id l.toArray true).wp P Q a0 w :=
  wp_region_any hm (region_kill_any D E F B G X KP hok hk hF hB hX hB0 hX0 hsteps hend)
end

/-- Two operations change memory; c12: the first's premise stands while the second runs, or the first comes ahead of it. -/
structure TwoK (c12 c21 : Bool) (G1 G2 : World → World → Prop) (X1 X2 B : World → Prop) : Prop where
  b0 : ∀ u u', B u → Grew u u' → B u'
  b1 : ∀ u u', B u → G1 u u' → B u'
  b2 : ∀ u u', B u → G2 u u' → B u'
  x10 : ∀ u u', X1 u → Grew u u' → X1 u'
  x12 : c12 = true → ∀ u u', X1 u → G2 u u' → X1 u'
  x20 : ∀ u u', X2 u → Grew u u' → X2 u'
  x21 : c21 = true → ∀ u u', X2 u → G1 u u' → X2 u'
theorem region_twok {ops : List Oper} {Q : Exit → Act → World → Prop} {a0 : Act} {id : Nat} {w : World} {G1 G2 : World → World → Prop} {X1 X2 B : World → Prop} {c12 c21 : Bool} (k1 k2 : Nat) (hS : TwoK c12 c21 G1 G2 X1 X2 B) (hB : B w) (h1 : X1 w) (h2 : X2 w) (KP : List (Nat × Nat))
    (D : List (List (Nat × Tmp))) (E : List (Nat × Tmp)) (F : Nat → Px G1 G2)
    (hcl : ((List.range ops.length).all fun i => ((F i).s1 || Nat.beq i k1 || reachB D 5 i k1 || (KP.any fun p => Nat.beq p.1 k1 && Nat.beq p.2 i)) && ((F i).s2 || Nat.beq i k2 || reachB D 5 i k2 || (KP.any fun p => Nat.beq p.1 k2 && Nat.beq p.2 i))) = true)
    (hkk : (killOk D KP && (c12 || reachB D 5 k2 k1) && (c21 || reachB D 5 k1 k2)) = true)
    (hok : (regionOk ops.toArray a0.tmps.size (D.map (·.map (·.1))).toArray && pairsOk ops.toArray D && decide (pairsOf ops.toArray (List.range ops.length) = E)) = true)
    (hsteps : StepsOkk (fun i => (F i).p) B (Gx k1 k2 G1 G2) (Xx k1 k2 X1 X2) Try.prog ops.toArray a0 ops D 0)
    (hend : ∀ u, B u → StepGoal (liveF (fun i => (F i).p) KP) u (fun a => Q .normal a u) E a0) :
    (Code.region id ops.toArray true).wp Try.prog Q a0 w := by
  have hdr : Grew w w.drew := (Grew.rf w).dr
  simp only [Bool.and_eq_true] at hkk
  obtain ⟨⟨hkl, hc1⟩, hc2⟩ := hkk
  have hc : ∀ i, i < ops.length → ((F i).s1 = true ∨ i = k1 ∨ UpA (D.map (·.map (·.1))).toArray i k1 ∨ killB KP k1 i = true) ∧ ((F i).s2 = true ∨ i = k2 ∨ UpA (D.map (·.map (·.1))).toArray i k2 ∨ killB KP k2 i = true) := fun i hi => by
    have := (List.all_eq_true.1 hcl) i (List.mem_range.2 hi)
    rw [Bool.and_eq_true, Bool.or_eq_true, Bool.or_eq_true, Bool.or_eq_true, Bool.or_eq_true, Bool.or_eq_true, Bool.or_eq_true] at this
    obtain ⟨h1, h2⟩ := this
    refine ⟨?_, ?_⟩
    · rcases h1 with ((h | h) | h) | h
      · exact .inl h
      · exact .inr (.inl (nbeq h))
      · exact .inr (.inr (.inl (reachB_up _ h)))
      · exact .inr (.inr (.inr h))
    · rcases h2 with ((h | h) | h) | h
      · exact .inl h
      · exact .inr (.inl (nbeq h))
      · exact .inr (.inr (.inl (reachB_up _ h)))
      · exact .inr (.inr (.inr h))
  have hcc : (c12 = true ∨ UpA (D.map (·.map (·.1))).toArray k2 k1) ∧ (c21 = true ∨ UpA (D.map (·.map (·.1))).toArray k1 k2) := by
    rw [Bool.or_eq_true] at hc1 hc2
    exact ⟨hc1.imp (fun h => h) (reachB_up _), hc2.imp (fun h => h) (reachB_up _)⟩
  refine region_kill D E (fun i => (F i).p) B (Gx k1 k2 G1 G2) (Xx k1 k2 X1 X2) KP follows hok hkl ?_ ?_ ?_ (hS.b0 _ _ hB hdr) ?_ hsteps (fun u hb _ => hend u hb)
  · intro i j v u u' hi hj hne hna hkf hf hg
    obtain ⟨hc1, hc2⟩ := hc i hi
    rw [Gx_eq] at hg
    by_cases e1 : j = k1
    · rw [if_pos e1] at hg
      subst e1
      rcases hc1 with h | h | h | h
      · exact (F i).m1 h _ _ _ hf hg
      · exact absurd h.symm hne
      · exact absurd h hna
      · rw [hkf] at h; cases h
    · rw [if_neg e1] at hg
      by_cases e2 : j = k2
      · rw [if_pos e2] at hg
        subst e2
        rcases hc2 with h | h | h | h
        · exact (F i).m2 h _ _ _ hf hg
        · exact absurd h.symm hne
        · exact absurd h hna
        · rw [hkf] at h; cases h
      · rw [if_neg e2] at hg
        exact (F i).m0 _ _ _ hf hg
  · intro j u u' hj hb hg
    rw [Gx_eq] at hg
    split at hg
    · exact hS.b1 _ _ hb hg
    · split at hg
      · exact hS.b2 _ _ hb hg
      · exact hS.b0 _ _ hb hg
  · intro i j u u' hi hj hne hna hx hg
    rw [Xx_eq] at hx ⊢
    rw [Gx_eq] at hg
    by_cases e1 : i = k1
    · rw [if_pos e1] at hx ⊢
      rw [if_neg (by omega)] at hg
      split at hg
      · rename_i e2
        rcases hcc.1 with h | h
        · exact hS.x12 h _ _ hx hg
        · rw [e2, e1] at hna; exact absurd h hna
      · exact hS.x10 _ _ hx hg
    · rw [if_neg e1] at hx ⊢
      by_cases e2 : i = k2
      · rw [if_pos e2] at hx ⊢
        split at hg
        · rename_i e1'
          rcases hcc.2 with h | h
          · exact hS.x21 h _ _ hx hg
          · rw [e1', e2] at hna; exact absurd h hna
        · rw [if_neg (by omega)] at hg
          exact hS.x20 _ _ hx hg
      · rw [if_neg e2]; trivial
  · intro i
    rw [Xx_eq]
    split
    · exact hS.x10 _ _ h1 hdr
    · split
      · exact hS.x20 _ _ h2 hdr
      · trivial
/-- As region_twok, where the second of the two comes behind all others: Z stands until it runs, and every operation is told of it; at the end the facts of the operations without a slot are told too. -/
structure TwoZ (G1 G2 : World → World → Prop) (X1 Z B : World → Prop) : Prop where
  b0 : ∀ u u', B u → Grew u u' → B u'
  b1 : ∀ u u', B u → G1 u u' → B u'
  b2 : ∀ u u', B u → G2 u u' → B u'
  x10 : ∀ u u', X1 u → Grew u u' → X1 u'
  z0 : ∀ u u', Z u → Grew u u' → Z u'
  z1 : ∀ u u', Z u → G1 u u' → Z u'
def Zx (k1 : Nat) (X1 Z : World → Prop) (i : Nat) : World → Prop := fun u => cond (Nat.beq i k1) (X1 u ∧ Z u) (Z u)
theorem region_twoz {ops : List Oper} {Q : Exit → Act → World → Prop} {a0 : Act} {id : Nat} {w : World} {G1 G2 : World → World → Prop} {X1 Z B : World → Prop} (k1 k2 : Nat) (hS : TwoZ G1 G2 X1 Z B) (hB : B w) (h1 : X1 w) (h2 : Z w) (KP : List (Nat × Nat))
    (D : List (List (Nat × Tmp))) (E : List (Nat × Tmp)) (F : Nat → Px G1 G2)
    (hcl : ((List.range ops.length).all fun i => ((F i).s1 || Nat.beq i k1 || reachB D 8 i k1 || (KP.any fun p => Nat.beq p.1 k1 && Nat.beq p.2 i)) && ((F i).s2 || Nat.beq i k2 || reachB D 8 i k2 || (KP.any fun p => Nat.beq p.1 k2 && Nat.beq p.2 i))) = true)
    (hkk : (killOk D KP && !(Nat.beq k1 k2) && (List.range ops.length).all fun i => Nat.beq i k2 || reachB D 12 k2 i) = true)
    (hok : (regionOk ops.toArray a0.tmps.size (D.map (·.map (·.1))).toArray && pairsOk ops.toArray D && decide (pairsOf ops.toArray (List.range ops.length) = E)) = true)
    (hsteps : StepsOkk (fun i => (F i).p) B (Gx k1 k2 G1 G2) (Zx k1 X1 Z) Try.prog ops.toArray a0 ops D 0)
    (hend : ∀ u, B u → (∀ i, i < ops.length → ∃ v, liveF (fun i => (F i).p) KP i v u) → StepGoal (liveF (fun i => (F i).p) KP) u (fun a => Q .normal a u) E a0) :
    (Code.region id ops.toArray true).wp Try.prog Q a0 w := by
  have hdr : Grew w w.drew := (Grew.rf w).dr
  simp only [Bool.and_eq_true, Bool.not_eq_true'] at hkk
  obtain ⟨⟨hkl, hne12⟩, hlast⟩ := hkk
  have hk12 : k1 ≠ k2 := fun e => by rw [e] at hne12; simp [beq_nat] at hne12
  have hc : ∀ i, i < ops.length → ((F i).s1 = true ∨ i = k1 ∨ UpA (D.map (·.map (·.1))).toArray i k1 ∨ killB KP k1 i = true) ∧ ((F i).s2 = true ∨ i = k2 ∨ UpA (D.map (·.map (·.1))).toArray i k2 ∨ killB KP k2 i = true) := fun i hi => by
    have := (List.all_eq_true.1 hcl) i (List.mem_range.2 hi)
    rw [Bool.and_eq_true, Bool.or_eq_true, Bool.or_eq_true, Bool.or_eq_true, Bool.or_eq_true, Bool.or_eq_true, Bool.or_eq_true] at this
    obtain ⟨h1, h2⟩ := this
    refine ⟨?_, ?_⟩
    · rcases h1 with ((h | h) | h) | h
      · exact .inl h
      · exact .inr (.inl (nbeq h))
      · exact .inr (.inr (.inl (reachB_up _ h)))
      · exact .inr (.inr (.inr h))
    · rcases h2 with ((h | h) | h) | h
      · exact .inl h
      · exact .inr (.inl (nbeq h))
      · exact .inr (.inr (.inl (reachB_up _ h)))
      · exact .inr (.inr (.inr h))
  have hup : ∀ i, i < ops.length → i ≠ k2 → UpA (D.map (·.map (·.1))).toArray k2 i := fun i hi hne => by
    have := (List.all_eq_true.1 hlast) i (List.mem_range.2 hi)
    rw [Bool.or_eq_true] at this
    rcases this with h | h
    · exact absurd (nbeq h) hne
    · exact reachB_up _ h
  refine region_kill D E (fun i => (F i).p) B (Gx k1 k2 G1 G2) (Zx k1 X1 Z) KP follows hok hkl ?_ ?_ ?_ (hS.b0 _ _ hB hdr) ?_ hsteps hend
  · intro i j v u u' hi hj hne hna hkf hf hg
    obtain ⟨hc1, hc2⟩ := hc i hi
    rw [Gx_eq] at hg
    by_cases e1 : j = k1
    · rw [if_pos e1] at hg
      subst e1
      rcases hc1 with h | h | h | h
      · exact (F i).m1 h _ _ _ hf hg
      · exact absurd h.symm hne
      · exact absurd h hna
      · rw [hkf] at h; cases h
    · rw [if_neg e1] at hg
      by_cases e2 : j = k2
      · rw [if_pos e2] at hg
        subst e2
        rcases hc2 with h | h | h | h
        · exact (F i).m2 h _ _ _ hf hg
        · exact absurd h.symm hne
        · exact absurd h hna
        · rw [hkf] at h; cases h
      · rw [if_neg e2] at hg
        exact (F i).m0 _ _ _ hf hg
  · intro j u u' hj hb hg
    rw [Gx_eq] at hg
    split at hg
    · exact hS.b1 _ _ hb hg
    · split at hg
      · exact hS.b2 _ _ hb hg
      · exact hS.b0 _ _ hb hg
  · intro i j u u' hi hj hij hna hx hg
    have hz : ∀ u u', Z u → (j = k2 → False) → Gx k1 k2 G1 G2 j u u' → Z u' := fun u u' hz hjk hg => by
      rw [Gx_eq] at hg
      by_cases e1 : j = k1
      · rw [if_pos e1] at hg
        exact hS.z1 _ _ hz hg
      · rw [if_neg e1, if_neg hjk] at hg
        exact hS.z0 _ _ hz hg
    have hjk : j = k2 → False := fun e => by
      subst e
      exact hna (hup i hi (Ne.symm hij))
    unfold Zx at hx ⊢
    by_cases e1 : i = k1
    · have hb1 : Nat.beq i k1 = true := by rw [beq_nat]; exact decide_eq_true e1
      rw [hb1] at hx ⊢
      refine ⟨?_, hz _ _ hx.2 hjk hg⟩
      rw [Gx_eq, if_neg (by omega), if_neg hjk] at hg
      exact hS.x10 _ _ hx.1 hg
    · have hb1 : Nat.beq i k1 = false := by rw [beq_nat]; exact decide_eq_false e1
      rw [hb1] at hx ⊢
      exact hz _ _ hx hjk hg
  · intro i
    unfold Zx
    cases Nat.beq i k1
    · exact hS.z0 _ _ h2 hdr
    · exact ⟨hS.x10 _ _ h1 hdr, hS.z0 _ _ h2 hdr⟩
end Go.Proofs.Ytbkcpgaicoagfaa
