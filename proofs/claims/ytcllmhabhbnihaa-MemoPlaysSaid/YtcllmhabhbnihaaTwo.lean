/- A drawn region in which two operations change memory, each its own part. -/
import Derived.Test.YtcllmhabhbnihaaRegIx
import Derived.Test.YtcllmhabhbnihaaReg2
set_option linter.unusedVariables false
set_option linter.unusedSimpArgs false
namespace Go.Proofs.Ytcllmhabhbnihaa
open Go.RowKit

/-- What an operation leaves; s1, s2: does it stand while the one, the other of the two that change memory runs? -/
structure Px (G1 G2 : World → World → Prop) where
  p : Value → World → Prop
  s1 : Bool
  s2 : Bool
  m0 : ∀ v u u', p v u → Grew u u' → p v u'
  m1 : s1 = true → ∀ v u u', p v u → G1 u u' → p v u'
  m2 : s2 = true → ∀ v u u', p v u → G2 u u' → p v u'
def Px.any {G1 G2 : World → World → Prop} : Px G1 G2 := ⟨fun _ _ => True, true, true, fun _ _ _ _ _ => trivial, fun _ _ _ _ _ _ => trivial, fun _ _ _ _ _ _ => trivial⟩
def Px.eqv {G1 G2 : World → World → Prop} (v0 : Value) : Px G1 G2 := ⟨fun v _ => v = v0, true, true, fun _ _ _ h _ => h, fun _ _ _ _ h _ => h, fun _ _ _ _ h _ => h⟩
structure TwoS (G1 G2 : World → World → Prop) (X1 X2 B : World → Prop) : Prop where
  b0 : ∀ u u', B u → Grew u u' → B u'
  b1 : ∀ u u', B u → G1 u u' → B u'
  b2 : ∀ u u', B u → G2 u u' → B u'
  x10 : ∀ u u', X1 u → Grew u u' → X1 u'
  x12 : ∀ u u', X1 u → G2 u u' → X1 u'
  x20 : ∀ u u', X2 u → Grew u u' → X2 u'
  x21 : ∀ u u', X2 u → G1 u u' → X2 u'
def Gx (k1 k2 : Nat) (G1 G2 : World → World → Prop) (i : Nat) : World → World → Prop := cond (Nat.beq i k1) G1 (cond (Nat.beq i k2) G2 Grew)
def Xx (k1 k2 : Nat) (X1 X2 : World → Prop) (i : Nat) : World → Prop := cond (Nat.beq i k1) X1 (cond (Nat.beq i k2) X2 fun _ => True)
theorem beq_nat (a b : Nat) : Nat.beq a b = decide (a = b) := by
  by_cases h : a = b
  · subst h; simp
  · rw [decide_eq_false h]
    cases hb : Nat.beq a b with
    | false => rfl
    | true => exact absurd (Nat.eq_of_beq_eq_true hb) h
theorem Gx_eq (k1 k2 : Nat) (G1 G2 : World → World → Prop) (i : Nat) : Gx k1 k2 G1 G2 i = if i = k1 then G1 else if i = k2 then G2 else Grew := by
  unfold Gx
  rw [beq_nat, beq_nat]
  by_cases h1 : i = k1 <;> by_cases h2 : i = k2 <;> simp [h1, h2]
theorem Xx_eq (k1 k2 : Nat) (X1 X2 : World → Prop) (i : Nat) : Xx k1 k2 X1 X2 i = if i = k1 then X1 else if i = k2 then X2 else fun _ => True := by
  unfold Xx
  rw [beq_nat, beq_nat]
  by_cases h1 : i = k1 <;> by_cases h2 : i = k2 <;> simp [h1, h2]

theorem region_two {ops : List Oper} {Q : Exit → Act → World → Prop} {a0 : Act} {id : Nat} {w : World} {G1 G2 : World → World → Prop} {X1 X2 B : World → Prop} (k1 k2 : Nat) (hS : TwoS G1 G2 X1 X2 B) (hB : B w) (h1 : X1 w) (h2 : X2 w)
    (D : List (List (Nat × Tmp))) (E : List (Nat × Tmp)) (F : Nat → Px G1 G2)
    (hcl : ((List.range ops.length).all fun i => ((F i).s1 || Nat.beq i k1 || ((D.getD i []).any fun x => Nat.beq x.1 k1)) && ((F i).s2 || Nat.beq i k2 || ((D.getD i []).any fun x => Nat.beq x.1 k2))) = true)
    (hok : (regionOk ops.toArray a0.tmps.size (D.map (·.map (·.1))).toArray && pairsOk ops.toArray D && decide (pairsOf ops.toArray (List.range ops.length) = E)) = true)
    (hsteps : StepsOkx (fun i => (F i).p) B (Gx k1 k2 G1 G2) (Xx k1 k2 X1 X2) Try.prog ops.toArray a0 ops D 0)
    (hend : ∀ u, B u → StepGoal (fun i => (F i).p) u (fun a => Q .normal a u) E a0) :
    (Code.region id ops.toArray true).wp Try.prog Q a0 w := by
  have hdr : Grew w w.drew := (Grew.rf w).dr
  have hA : ∀ i, ((D.map (·.map (·.1))).toArray.getD i [] : List Nat) = (D.getD i []).map (·.1) := fun i => by
    simp only [Array.getD_eq_getD_getElem?, List.getElem?_toArray, List.getElem?_map, List.getD_eq_getElem?_getD]
    cases D[i]? <;> rfl
  have hc : ∀ i, i < ops.length → ((F i).s1 = true ∨ i = k1 ∨ k1 ∈ (D.getD i []).map (·.1)) ∧ ((F i).s2 = true ∨ i = k2 ∨ k2 ∈ (D.getD i []).map (·.1)) := fun i hi => by
    have := (List.all_eq_true.1 hcl) i (List.mem_range.2 hi)
    simp only [Bool.and_eq_true, Bool.or_eq_true, List.any_eq_true, beq_nat, decide_eq_true_eq] at this
    obtain ⟨h1, h2⟩ := this
    refine ⟨?_, ?_⟩
    · rcases h1 with (h | h) | ⟨x, hx, h⟩
      · exact .inl h
      · exact .inr (.inl h)
      · exact .inr (.inr (List.mem_map.2 ⟨x, hx, h⟩))
    · rcases h2 with (h | h) | ⟨x, hx, h⟩
      · exact .inl h
      · exact .inr (.inl h)
      · exact .inr (.inr (List.mem_map.2 ⟨x, hx, h⟩))
  refine region_ix D E (fun i => (F i).p) B (Gx k1 k2 G1 G2) (Xx k1 k2 X1 X2) follows hok ?_ ?_ ?_ (hS.b0 _ _ hB hdr) ?_ hsteps hend
  · intro i j v u u' hi hj hne hna hf hg
    rw [hA] at hna
    obtain ⟨hc1, hc2⟩ := hc i hi
    rw [Gx_eq] at hg
    by_cases e1 : j = k1
    · rw [if_pos e1] at hg
      subst e1
      rcases hc1 with h | h | h
      · exact (F i).m1 h _ _ _ hf hg
      · exact absurd h.symm hne
      · exact absurd h hna
    · rw [if_neg e1] at hg
      by_cases e2 : j = k2
      · rw [if_pos e2] at hg
        subst e2
        rcases hc2 with h | h | h
        · exact (F i).m2 h _ _ _ hf hg
        · exact absurd h.symm hne
        · exact absurd h hna
      · rw [if_neg e2] at hg
        exact (F i).m0 _ _ _ hf hg
  · intro j u u' hj hb hg
    rw [Gx_eq] at hg
    split at hg
    · exact hS.b1 _ _ hb hg
    · split at hg
      · exact hS.b2 _ _ hb hg
      · exact hS.b0 _ _ hb hg
  · intro i j u u' hi hj hne hx hg
    rw [Xx_eq] at hx ⊢
    rw [Gx_eq] at hg
    by_cases e1 : i = k1
    · rw [if_pos e1] at hx ⊢
      rw [if_neg (by omega)] at hg
      split at hg
      · exact hS.x12 _ _ hx hg
      · exact hS.x10 _ _ hx hg
    · rw [if_neg e1] at hx ⊢
      by_cases e2 : i = k2
      · rw [if_pos e2] at hx ⊢
        split at hg
        · exact hS.x21 _ _ hx hg
        · rw [if_neg (by omega)] at hg
          exact hS.x20 _ _ hx hg
      · rw [if_neg e2]; trivial
  · intro i
    rw [Xx_eq]
    split
    · exact hS.x10 _ _ h1 hdr
    · split
      · exact hS.x20 _ _ h2 hdr
      · trivial
end Go.Proofs.Ytcllmhabhbnihaa
