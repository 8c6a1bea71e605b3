/- event.within, fetch.within; bare. -/
import Derived.Test.YtbkcpgaicoagfaaEg20
import Derived.Test.YtbkcpgaicoagfaaEg11
import Derived.Test.YtbkcpgaicoagfaaEg7
import Derived.Test.YtbkcpgaicoagfaaEg18
import Derived.Test.YtbkcpgaicoagfaaEg17
import Derived.DeepKeys5
set_option linter.unusedVariables false
set_option linter.unusedSimpArgs false
namespace Go.Proofs.Ytbkcpgaicoagfaa
open Go.RowKit

theorem ewithin_any (n l h : Int) (w : World) : Calls Try.prog 52 #[.int .i64 n, .int .i64 l, .int .i64 h] w fun e w' => e = .returned (.bool (decide (l ≤ n ∧ n ≤ h))) ∧ w = w' := by
  by_cases h1 : l ≤ n
  · by_cases h2 : n ≤ h
    · rw [decide_eq_true (p := l ≤ n ∧ n ≤ h) ⟨h1, h2⟩]
      go_enter Try.func52, Try.ntmps52
      go_wp2
      go_ret
      exact ⟨rfl, rfl⟩
    · rw [decide_eq_false (p := l ≤ n ∧ n ≤ h) (fun e => h2 e.2)]
      go_enter Try.func52, Try.ntmps52
      go_wp2
      go_ret
      exact ⟨rfl, rfl⟩
  · rw [decide_eq_false (p := l ≤ n ∧ n ≤ h) (fun e => h1 e.1)]
    go_enter Try.func52, Try.ntmps52
    go_wp2
    go_ret
    exact ⟨rfl, rfl⟩
end Go.Proofs.Ytbkcpgaicoagfaa
/- Drawn regions that store into one box, cell by cell; one operation may change other memory (kc). -/
set_option linter.unusedVariables false
set_option linter.unusedSimpArgs false
namespace Go.Proofs.Ytbkcpgaicoagfaa
open Go

/-- What an operation leaves: c: the cell of the box that it speaks of; s1: it outlives the call. -/
structure Pb (K : Nat) (G1 : World → World → Prop) where
  p : Value → World → Prop
  c : Option Nat
  s1 : Bool
  m0 : ∀ v u u', p v u → Grew u u' → p v u'
  m1 : s1 = true → ∀ v u u', p v u → G1 u u' → p v u'
  ms : ∀ j x, c ≠ some j → ∀ v u, p v u → p v (u.setCell ⟨K, j, none⟩ x)
def Pb.any {K : Nat} {G1 : World → World → Prop} : Pb K G1 := ⟨fun _ _ => True, none, true, fun _ _ _ _ _ => trivial, fun _ _ _ _ _ _ => trivial, fun _ _ _ _ _ _ => trivial⟩
def Pb.eqv {K : Nat} {G1 : World → World → Prop} (v0 : Value) : Pb K G1 := ⟨fun v _ => v = v0, none, true, fun _ _ _ h _ => h, fun _ _ _ _ h _ => h, fun _ _ _ _ _ h => h⟩
def Pb.prop {K : Nat} {G1 : World → World → Prop} (q : Value → Prop) : Pb K G1 := ⟨fun v _ => q v, none, true, fun _ _ _ h _ => h, fun _ _ _ _ h _ => h, fun _ _ _ _ _ h => h⟩
def Pb.cel {K : Nat} {G1 : World → World → Prop} (j : Nat) (x : Value) : Pb K G1 :=
  ⟨fun _ u => u.cell? ⟨K, j, none⟩ = some x, some j, false, fun _ _ _ h hg => hg.ce h, fun h => (by cases h),
   fun i y hi _ u h => by
    rw [World.cell?_setCell_other _ _ _ _ (fun e => hi (by injection e with _ e2 _; rw [e2]))]
    exact h⟩

/-- What the box holds while the region runs. -/
def BoxAt (K : Nat) (T : TypeId) (cs0 : Array Value) (st need : List Nat) (u : World) : Prop :=
  ∃ cs, u.heap[K]? = some (.cells cs T) ∧ cs.size = cs0.size ∧ (∀ j, j ∉ st → cs[j]? = cs0[j]?) ∧ ∀ j ∈ need, cs[j]? = cs0[j]?
def gbL (K : Nat) (R : World → World → Prop) : List (Nat × Nat × Value) → Nat → World → World → Prop
  | [], _ => R
  | (k, j, x) :: r, i => cond (Nat.beq i k) (fun u u' => u' = u.setCell ⟨K, j, none⟩ x) (gbL K R r i)
def Gb (K : Nat) (L : List (Nat × Nat × Value)) (kc : Nat) (G1 : World → World → Prop) (i : Nat) : World → World → Prop := gbL K (cond (Nat.beq i kc) G1 Grew) L i
def needOf (N : List (Nat × Nat)) (i : Nat) : List Nat := N.filterMap fun p => cond (Nat.beq p.1 i) (some p.2) none
def Xb (K : Nat) (T : TypeId) (cs0 : Array Value) (st : List Nat) (N : List (Nat × Nat)) (kc : Nat) (X1 : World → Prop) (i : Nat) (u : World) : Prop := BoxAt K T cs0 st (needOf N i) u ∧ cond (Nat.beq i kc) (X1 u) True
def setAll (a : Array Value) (L : List (Nat × Nat × Value)) : Array Value := L.foldl (fun a p => a.setIfInBounds p.2.1 p.2.2) a

theorem setAll_eq (cs : Array Value) : ∀ (L : List (Nat × Nat × Value)) (a : Array Value), a.size = cs.size → (∀ i, i ∉ L.map (·.2.1) → cs[i]? = a[i]?) → (∀ p ∈ L, cs[p.2.1]? = some p.2.2) → setAll a L = cs
  | [], a, h1, h2, _ => Array.ext_getElem? fun i => (h2 i (by simp)).symm
  | p :: r, a, h1, h2, h3 => by
    show setAll (a.setIfInBounds p.2.1 p.2.2) r = cs
    refine setAll_eq cs r _ (by simpa using h1) (fun i hi => ?_) (fun q hq => h3 q (List.mem_cons_of_mem _ hq))
    by_cases e : p.2.1 = i
    · have h := h3 p (List.mem_cons_self ..)
      have hlt : p.2.1 < a.size := by rw [h1]; exact (Array.getElem?_eq_some_iff.1 h).1
      subst e
      rw [h]
      simp [Array.getElem?_setIfInBounds_self_of_lt hlt]
    · rw [Array.getElem?_setIfInBounds_ne e]
      exact h2 i (by simp only [List.map_cons, List.mem_cons, not_or]; exact ⟨fun e' => e e'.symm, hi⟩)

theorem gbL_cases {K : Nat} {R : World → World → Prop} : ∀ {L : List (Nat × Nat × Value)} {i : Nat} {u u' : World}, gbL K R L i u u' → (∃ p ∈ L, p.1 = i ∧ u' = u.setCell ⟨K, p.2.1, none⟩ p.2.2) ∨ ((∀ p ∈ L, p.1 ≠ i) ∧ R u u')
  | [], i, u, u', h => .inr ⟨fun _ h => (by cases h), h⟩
  | (k, j, x) :: r, i, u, u', h => by
    rw [gbL] at h
    cases hb : Nat.beq i k with
    | true =>
      rw [hb] at h
      exact .inl ⟨(k, j, x), List.mem_cons_self .., (nbeq hb).symm, h⟩
    | false =>
      rw [hb] at h
      rcases gbL_cases h with ⟨p, hp, e, hu⟩ | ⟨hn, hr⟩
      · exact .inl ⟨p, List.mem_cons_of_mem _ hp, e, hu⟩
      · refine .inr ⟨fun p hp => ?_, hr⟩
        rcases List.mem_cons.1 hp with rfl | hp
        · intro e
          have e : k = i := e
          subst e
          simp [beq_nat] at hb
        · exact hn p hp

theorem BoxAt.keep {K : Nat} {T : TypeId} {cs0 : Array Value} {st need : List Nat} {u u' : World} (h : BoxAt K T cs0 st need u) (he : u'.heap[K]? = u.heap[K]?) : BoxAt K T cs0 st need u' := by
  obtain ⟨cs, h1, h2⟩ := h
  exact ⟨cs, he.trans h1, h2⟩
theorem BoxAt.grew {K : Nat} {T : TypeId} {cs0 : Array Value} {st need : List Nat} {u u' : World} (h : BoxAt K T cs0 st need u) (hg : Grew u u') : BoxAt K T cs0 st need u' := by
  obtain ⟨cs, h1, h2⟩ := h
  exact ⟨cs, heap_keep hg h1, h2⟩
theorem BoxAt.set {K : Nat} {T : TypeId} {cs0 : Array Value} {st need : List Nat} {u : World} (h : BoxAt K T cs0 st need u) {j : Nat} (hj : j ∈ st) (hn : j ∉ need) (x : Value) : BoxAt K T cs0 st need (u.setCell ⟨K, j, none⟩ x) := by
  obtain ⟨cs, h1, h2, h3, h4⟩ := h
  refine ⟨_, setCell_heap_same h1 x, by simpa using h2, fun i hi => ?_, fun i hi => ?_⟩
  · rw [Array.getElem?_setIfInBounds_ne (fun e => hi (by rw [← e]; exact hj))]; exact h3 i hi
  · rw [Array.getElem?_setIfInBounds_ne (fun e => hn (by rw [e]; exact hi))]; exact h4 i hi
theorem BoxAt.cell {K : Nat} {T : TypeId} {cs0 : Array Value} {st need : List Nat} {u : World} (h : BoxAt K T cs0 st need u) {j : Nat} {x : Value} (hj : j ∈ need ∨ j ∉ st) (hx : cs0[j]? = some x) : u.cell? ⟨K, j, none⟩ = some x := by
  obtain ⟨cs, h1, h2, h3, h4⟩ := h
  refine cell_of_heap h1 ?_
  rcases hj with hj | hj
  · rw [h4 j hj, hx]
  · rw [h3 j hj, hx]
theorem BoxAt.some {K : Nat} {T : TypeId} {cs0 : Array Value} {st need : List Nat} {u : World} (h : BoxAt K T cs0 st need u) {j : Nat} (hj : j < cs0.size) : ∃ x, u.cell? ⟨K, j, none⟩ = some x ∧ u.frozen? ⟨K, j, none⟩ = false := by
  obtain ⟨cs, h1, h2, h3, h4⟩ := h
  have hj' : j < cs.size := by omega
  exact ⟨cs[j], cell_of_heap h1 (by simp [hj']), frozen_of_heap h1⟩

theorem region_box {ops : List Oper} {Q : Exit → Act → World → Prop} {a0 : Act} {id : Nat} {w : World} (K : Nat) (T : TypeId) (cs0 : Array Value) (L : List (Nat × Nat × Value)) (N : List (Nat × Nat)) (kc : Nat) (G1 : World → World → Prop) (X1 B : World → Prop)
    (b0 : ∀ u u', B u → Grew u u' → B u') (b1 : ∀ u u', B u → G1 u u' → B u') (bs : ∀ u j x, B u → B (u.setCell ⟨K, j, none⟩ x))
    (hG1 : ∀ u u', G1 u u' → u'.heap[K]? = u.heap[K]?) (x10 : ∀ u u', X1 u → Grew u u' → X1 u')
    (hB : B w) (hK : w.heap[K]? = some (.cells cs0 T)) (hX1 : X1 w)
    (D : List (List (Nat × Tmp))) (E : List (Nat × Tmp)) (F : Nat → Pb K G1)
    (hcl : ((List.range ops.length).all fun i => (Nat.ble ops.length kc || (F i).s1 || Nat.beq i kc || reachB D 8 i kc) && L.all fun p => Nat.beq i p.1 || (F i).c != some p.2.1) = true)
    (hln : (L.all fun p => (N.all fun q => q.2 != p.2.1 || (!(Nat.beq q.1 p.1) && reachB D 8 p.1 q.1)) && (Nat.ble ops.length kc || reachB D 8 p.1 kc) && (!Nat.beq p.1 kc) && decide (p.1 < ops.length)) = true)
    (hok : (regionOk ops.toArray a0.tmps.size (D.map (·.map (·.1))).toArray && pairsOk ops.toArray D && decide (pairsOf ops.toArray (List.range ops.length) = E)) = true)
    (hLF : ∀ p ∈ L, ∀ v u, (F p.1).p v u → u.cell? ⟨K, p.2.1, none⟩ = some p.2.2)
    (hsteps : StepsOkk (fun i => (F i).p) B (Gb K L kc G1) (Xb K T cs0 (L.map (·.2.1)) N kc X1) Try.prog ops.toArray a0 ops D 0)
    (hend : ∀ u, B u → u.heap[K]? = some (.cells (setAll cs0 L) T) → (∀ i, i < ops.length → ∃ v, (F i).p v u) → StepGoal (fun i => (F i).p) u (fun a => Q .normal a u) E a0) :
    (Code.region id ops.toArray true).wp Try.prog Q a0 w := by
  have hdr : Grew w w.drew := (Grew.rf w).dr
  have hlive : ∀ i v u, liveF (fun i => (F i).p) [] i v u = (F i).p v u := fun i v u => rfl
  have hlf : liveF (fun i => (F i).p) [] = fun i => (F i).p := rfl
  have hL : ∀ p ∈ L, (∀ q ∈ N, q.2 = p.2.1 → q.1 ≠ p.1 ∧ UpA (D.map (·.map (·.1))).toArray p.1 q.1) ∧ (ops.length ≤ kc ∨ UpA (D.map (·.map (·.1))).toArray p.1 kc) ∧ p.1 ≠ kc ∧ p.1 < ops.length := fun p hp => by
    have h := List.all_eq_true.1 hln p hp
    simp only [Bool.and_eq_true, decide_eq_true_eq] at h
    obtain ⟨⟨⟨h1, h2⟩, h3⟩, h4⟩ := h
    refine ⟨fun q hq e => ?_, ?_, fun e => ?_, h4⟩
    · have h := List.all_eq_true.1 h1 q hq
      rw [Bool.or_eq_true] at h
      rcases h with h | h
      · rw [e] at h; simp at h
      · rw [Bool.and_eq_true] at h
        refine ⟨fun e => ?_, reachB_up _ h.2⟩
        have := h.1
        rw [e] at this
        simp [beq_nat] at this
    · rw [Bool.or_eq_true] at h2
      exact h2.imp (fun h => Nat.le_of_ble_eq_true h) (reachB_up _)
    · rw [e] at h3
      simp [beq_nat] at h3
  have hC : ∀ i, i < ops.length → (ops.length ≤ kc ∨ (F i).s1 = true ∨ i = kc ∨ UpA (D.map (·.map (·.1))).toArray i kc) ∧ ∀ p ∈ L, i = p.1 ∨ (F i).c ≠ some p.2.1 := fun i hi => by
    have h := List.all_eq_true.1 hcl i (List.mem_range.2 hi)
    rw [Bool.and_eq_true] at h
    obtain ⟨h1, h2⟩ := h
    refine ⟨?_, fun p hp => ?_⟩
    · rw [Bool.or_eq_true, Bool.or_eq_true, Bool.or_eq_true] at h1
      rcases h1 with ((h | h) | h) | h
      · exact .inl (Nat.le_of_ble_eq_true h)
      · exact .inr (.inl h)
      · exact .inr (.inr (.inl (nbeq h)))
      · exact .inr (.inr (.inr (reachB_up _ h)))
    · have h := List.all_eq_true.1 h2 p hp
      rw [Bool.or_eq_true] at h
      refine h.imp (fun h => nbeq h) (fun h => by simpa using h)
  -- what a step that is no store comes to
  have hR : ∀ {j : Nat} {u u' : World}, j < ops.length → cond (Nat.beq j kc) G1 Grew u u' → (j = kc ∧ G1 u u') ∨ (j ≠ kc ∧ Grew u u') := fun {j u u'} hj h => by
    cases hb : Nat.beq j kc with
    | true => rw [hb] at h; exact .inl ⟨nbeq hb, h⟩
    | false => rw [hb] at h; exact .inr ⟨fun e => by subst e; simp [beq_nat] at hb, h⟩
  have hne : ∀ i c, c ∈ needOf N i → (i, c) ∈ N := fun i c h => by
    unfold needOf at h
    obtain ⟨q, hq, he⟩ := List.mem_filterMap.1 h
    cases hb : Nat.beq q.1 i with
    | true =>
      rw [hb] at he
      injection he with he
      rw [← nbeq hb, ← he]; exact hq
    | false => rw [hb] at he; cases he
  refine region_kill D E (fun i => (F i).p) (fun u => B u ∧ BoxAt K T cs0 (L.map (·.2.1)) [] u) (Gb K L kc G1) (Xb K T cs0 (L.map (·.2.1)) N kc X1) [] follows hok (by simp [killOk]) ?_ ?_ ?_ ⟨b0 _ _ hB hdr, cs0, heap_keep hdr hK, rfl, fun _ _ => rfl, fun _ _ => rfl⟩ ?_ ?_ ?_
  · intro i j v u u' hi hj hji hna _ hf hg
    rcases gbL_cases hg with ⟨p, hp, rfl, rfl⟩ | ⟨_, hr⟩
    · rcases (hC i hi).2 p hp with e | e
      · exact absurd e.symm hji
      · exact (F i).ms _ _ e _ _ hf
    · rcases hR hj hr with ⟨rfl, h1⟩ | ⟨_, h1⟩
      · rcases (hC i hi).1 with h | h | h | h
        · omega
        · exact (F i).m1 h _ _ _ hf h1
        · exact absurd h.symm hji
        · exact absurd h hna
      · exact (F i).m0 _ _ _ hf h1
  · intro j u u' hj ⟨hb, hx⟩ hg
    rcases gbL_cases hg with ⟨p, hp, rfl, rfl⟩ | ⟨_, hr⟩
    · exact ⟨bs _ _ _ hb, hx.set (List.mem_map.2 ⟨p, hp, rfl⟩) (by simp) _⟩
    · rcases hR hj hr with ⟨rfl, h1⟩ | ⟨_, h1⟩
      · exact ⟨b1 _ _ hb h1, hx.keep (hG1 _ _ h1)⟩
      · exact ⟨b0 _ _ hb h1, hx.grew h1⟩
  · intro i j u u' hi hj hji hna ⟨hx, hx1⟩ hg
    rcases gbL_cases hg with ⟨p, hp, rfl, rfl⟩ | ⟨_, hr⟩
    · refine ⟨hx.set (List.mem_map.2 ⟨p, hp, rfl⟩) (fun hc => ?_) _, ?_⟩
      · exact hna ((hL p hp).1 _ (hne i _ hc) rfl).2
      · cases hb : Nat.beq i kc with
        | false => trivial
        | true =>
          have e := nbeq hb
          rcases (hL p hp).2.1 with h | h
          · omega
          · rw [e] at hna; exact absurd h hna
    · rcases hR hj hr with ⟨rfl, h1⟩ | ⟨_, h1⟩
      · refine ⟨hx.keep (hG1 _ _ h1), ?_⟩
        cases hb : Nat.beq i j with
        | false => trivial
        | true => exact absurd (nbeq hb).symm hji
      · refine ⟨hx.grew h1, ?_⟩
        cases hb : Nat.beq i kc with
        | false => trivial
        | true => rw [hb] at hx1; exact x10 _ _ hx1 h1
  · intro i
    refine ⟨⟨cs0, heap_keep hdr hK, rfl, fun _ _ => rfl, fun _ _ => rfl⟩, ?_⟩
    cases Nat.beq i kc with
    | false => trivial
    | true => exact x10 _ _ hX1 hdr
  · have hst : ∀ (l : List Oper) (D' : List (List (Nat × Tmp))) (n : Nat), StepsOkk (fun i => (F i).p) B (Gb K L kc G1) (Xb K T cs0 (L.map (·.2.1)) N kc X1) Try.prog ops.toArray a0 l D' n → StepsOkk (fun i => (F i).p) (fun u => B u ∧ BoxAt K T cs0 (L.map (·.2.1)) [] u) (Gb K L kc G1) (Xb K T cs0 (L.map (·.2.1)) N kc X1) Try.prog ops.toArray a0 l D' n := by
      intro l
      induction l with
      | nil => intro D' n h; trivial
      | cons o r ih =>
        intro D' n h
        cases D' with
        | nil => exact h
        | cons ps rs => exact ⟨fun u hb hx => h.1 u hb.1 hx, ih rs (n + 1) h.2⟩
    exact hst _ _ _ hsteps
  · intro u ⟨hb, cs, h1, h2, h3, h4⟩ hall
    rw [hlf] at hall ⊢
    refine hend u hb ?_ hall
    rw [h1, setAll_eq cs L cs0 h2.symm h3 (fun p hp => ?_)]
    obtain ⟨v, hv⟩ := hall p.1 (hL p hp).2.2.2
    have := hLF p hp v u hv
    simpa [World.cell?, h1] using this
/-- Without a call that changes memory. -/
theorem region_box0 {ops : List Oper} {Q : Exit → Act → World → Prop} {a0 : Act} {id : Nat} {w : World} (K : Nat) (T : TypeId) (cs0 : Array Value) (L : List (Nat × Nat × Value)) (N : List (Nat × Nat)) (B : World → Prop)
    (b0 : ∀ u u', B u → Grew u u' → B u') (bs : ∀ u j x, B u → B (u.setCell ⟨K, j, none⟩ x))
    (hB : B w) (hK : w.heap[K]? = some (.cells cs0 T))
    (D : List (List (Nat × Tmp))) (E : List (Nat × Tmp)) (F : Nat → Pb K (fun u u' => u = u'))
    (hcl : ((List.range ops.length).all fun i => (Nat.ble ops.length 1000000 || (F i).s1 || Nat.beq i 1000000 || reachB D 8 i 1000000) && L.all fun p => Nat.beq i p.1 || (F i).c != some p.2.1) = true)
    (hln : (L.all fun p => (N.all fun q => q.2 != p.2.1 || (!(Nat.beq q.1 p.1) && reachB D 8 p.1 q.1)) && (Nat.ble ops.length 1000000 || reachB D 8 p.1 1000000) && (!Nat.beq p.1 1000000) && decide (p.1 < ops.length)) = true)
    (hok : (regionOk ops.toArray a0.tmps.size (D.map (·.map (·.1))).toArray && pairsOk ops.toArray D && decide (pairsOf ops.toArray (List.range ops.length) = E)) = true)
    (hLF : ∀ p ∈ L, ∀ v u, (F p.1).p v u → u.cell? ⟨K, p.2.1, none⟩ = some p.2.2)
    (hsteps : StepsOkk (fun i => (F i).p) B (Gb K L 1000000 (fun u u' => u = u')) (Xb K T cs0 (L.map (·.2.1)) N 1000000 (fun _ => True)) Try.prog ops.toArray a0 ops D 0)
    (hend : ∀ u, B u → u.heap[K]? = some (.cells (setAll cs0 L) T) → (∀ i, i < ops.length → ∃ v, (F i).p v u) → StepGoal (fun i => (F i).p) u (fun a => Q .normal a u) E a0) :
    (Code.region id ops.toArray true).wp Try.prog Q a0 w :=
  region_box K T cs0 L N 1000000 (fun u u' => u = u') (fun _ => True) B b0 (fun u u' h e => e ▸ h) bs (fun u u' e => by rw [e]) (fun _ _ _ _ => trivial) hB hK trivial D E F hcl hln hok hLF hsteps hend
end Go.Proofs.Ytbkcpgaicoagfaa
/- A struct's box: whole and cell by cell, loaded and stored. -/
set_option linter.unusedVariables false
set_option linter.unusedSimpArgs false
namespace Go.Proofs.Ytbkcpgaicoagfaa
open Go.RowKit

section
variable {ops : Array Oper} {rest : List Oper} {o : Oper} {a : Act} {Q : Exit → Act → World → Prop} {W : World} {K : Nat} {T : TypeId} {cs : Array Value}
theorem setRow_by (w : World) (g : Nat) (cs : Array Value) : w.grownBy (w.setRow g cs) (some g) := ⟨rfl, rfl, rfl, by simp, fun k _ hk => setRow_other _ _ _ _ (fun e => hk (by rw [e]))⟩
theorem ld_row (hgd : o.guard = none ∨ Region.wanted o (yielded ops a.tmps) = true) {ty : TypeId} {x : Operand} (ho : o.op = .load ty x) (hx : a.eval x = .pointer (some ⟨K, 0, none⟩)) (hK : W.heap[K]? = some (.cells cs T)) {d : TypeDesc}
    (hd : (match d with | .struct _ | .array _ _ => true | _ => false) = true) (hu : Try.prog.underlying ty = some d) (hi : (Try.prog.info? ty).map (·.size) = some cs.size)
    (h : wpList Try.prog ops Q rest (a.put o.dst (.agg cs)) W) : wpList Try.prog ops Q (o :: rest) a W := by
  have hw : Region.wanted o (yielded ops a.tmps) = true := by
    rcases hgd with h | h
    · simp [Region.wanted, h]
    · exact h
  refine wpList_step fun K' hK' => ?_
  rw [if_pos hw]
  refine wp_load_row ty x ho K hx _ _ _ _ hK hu ?_ hi (hK' _ _ h)
  cases d <;> first | rfl | cases hd
theorem st_row (hgd : o.guard = none) {ty : TypeId} {x y : Operand} (ho : o.op = .store ty x y) {cells : Array Value} (hx : a.eval x = .pointer (some ⟨K, 0, none⟩)) (hy : a.eval y = .agg cells) (hK : W.heap[K]? = some (.cells cs T))
    (hi : (Try.prog.info? ty).map (·.size) = some cells.size) (hold : cs.size = cells.size) (h1 : cells.all (·.oneCell') = true)
    (h : ∀ W', W'.heap[K]? = some (.cells cells T) → W.grownBy W' (some K) → wpList Try.prog ops Q rest (a.put o.dst undef) W') : wpList Try.prog ops Q (o :: rest) a W :=
  wpList_store_row hgd ty x y ho K _ hx hy _ _ hK hi hold h1 (h _ (setRow_heap _ _ _ _ _ _ hK) (setRow_by _ _ _))
theorem st_cell (hgd : o.guard = none) {ty : TypeId} {x y : Operand} (ho : o.op = .store ty x y) {j : Nat} {v : Value} (hx : a.eval x = .pointer (some ⟨K, j, none⟩)) (hy : a.eval y = v) (h1 : v.oneCell' = true) (hK : W.heap[K]? = some (.cells cs T))
    (hi : (Try.prog.info? ty).map (·.size) = some 1) (hj : j < cs.size)
    (h : ∀ W', W'.heap[K]? = some (.cells (cs.setIfInBounds j v) T) → W.grownBy W' (some K) → wpList Try.prog ops Q rest (a.put o.dst undef) W') : wpList Try.prog ops Q (o :: rest) a W := by
  have hc : v.cells = #[v] := by cases v <;> first | rfl | cases h1
  have hrun := run_storeCells_at (P := Try.prog) K j T [v] 0 cs W hK (by simp; omega) (fun x hx => by simp at hx; subst hx; exact h1)
  have he : (cs.toList.take (j + 0) ++ [v] ++ cs.toList.drop (j + 0 + [v].length)).toArray = cs.setIfInBounds j v := by
    apply Array.toList_inj.1
    rw [Array.toList_setIfInBounds, List.set_eq_take_append_cons_drop, if_pos (by simpa using hj)]
    simp
  rw [he] at hrun
  refine wpList_plain hgd fun K' hK' => ?_
  unfold Oper.wp execOp
  have hst : (storeVar ty ⟨K, j, none⟩ v).run Try.prog W = .ok () (W.setRow K (cs.setIfInBounds j v)) := by
    cases hq : Try.prog.info? ty with
    | none => simp [hq] at hi
    | some i =>
      have hs : i.size = 1 := by simpa [hq] using hi
      simp [storeVar, sizeOf, typeInfo, hq, hc, hs, hrun]
  simp only [ho, hx, hy, Instr.storeAt, Instr.sureAddr, Sem.run_bind, Sem.run_pure, Result.andThen_ok, hst]
  exact hK' _ _ (h _ (setRow_heap _ _ _ _ _ _ hK) (setRow_by _ _ _))
end
/-- What is loaded whole from a box, as an equation of the walk. -/
theorem grown_at {w W W' : World} {k n : Nat} (h : Below n w W) (hg : W.grownBy W' (some k)) (hk : n ≤ k) (hn : n ≤ W.heap.size) : Below n w W' := h.grown hg hn (fun b e => by cases e; exact hk)
theorem by_other {w w' : World} {k b : Nat} {o : Obj} (hg : w.grownBy w' (some k)) (h : w.heap[b]? = some o) (hne : b ≠ k) : w'.heap[b]? = some o := by_keep hg h (fun e => hne (Option.some.inj e).symm)
end Go.Proofs.Ytbkcpgaicoagfaa
/- event.bare. -/
set_option linter.unusedVariables false
set_option linter.unusedSimpArgs false
namespace Go.Proofs.Ytbkcpgaicoagfaa
open Go.RowKit

set_option maxRecDepth 100000 in
set_option maxHeartbeats 3200000 in
theorem bare_any (x : Ev) (A : Option Addr) (n c : Nat) (y : Ev) (B : Option Addr) (m d : Nat) (w : World) (hA : RdH w A n x.hs) (hB : RdH w B m y.hs) (hn : n ≤ 9223372036854775807) (hm : m ≤ 9223372036854775807) :
    Calls Try.prog 71 #[evV x A n c, evV y B m d] w fun e w' => e = .returned (.bool (sameE x { y with ki := x.ki, se := x.se, ti := x.ti })) ∧ Grew w w' := by
  obtain ⟨ki1, se1, ti1, me1, ur1, hs1, bo1, st1, co1, cr1, no1, nn1⟩ := x
  obtain ⟨ki2, se2, ti2, me2, ur2, hs2, bo2, st2, co2, cr2, no2, nn2⟩ := y
  dsimp only at hA hB
  have HA := Lib.hid hA
  have HB := Lib.hid hB
  clear hA hB
  go_enter Try.func71, Try.ntmps71
  go_upto_region 1 with fail
  have hp0 := heap_keep ((Grew.rf _).al (.cells #[.int .i64 ki2, .int .i64 se2, .int .i64 ti2, .string me2, .string ur2, .slice B m d, .string bo2, .int .i64 st2, .int .i64 co2, .bool cr2, .string no2, .int .u64 nn2] 34)) (heap_alloc_new w (.cells #[.int .i64 ki1, .int .i64 se1, .int .i64 ti1, .string me1, .string ur1, .slice A n c, .string bo1, .int .i64 st1, .int .i64 co1, .bool cr1, .string no1, .int .u64 nn1] 34))
  have hp1 := heap_alloc_new (w.alloc (.cells #[.int .i64 ki1, .int .i64 se1, .int .i64 ti1, .string me1, .string ur1, .slice A n c, .string bo1, .int .i64 st1, .int .i64 co1, .bool cr1, .string no1, .int .u64 nn1] 34)) (.cells #[.int .i64 ki2, .int .i64 se2, .int .i64 ti2, .string me2, .string ur2, .slice B m d, .string bo2, .int .i64 st2, .int .i64 co2, .bool cr2, .string no2, .int .u64 nn2] 34)
  obtain ⟨W, hW⟩ : ∃ W, (w.alloc (.cells #[.int .i64 ki1, .int .i64 se1, .int .i64 ti1, .string me1, .string ur1, .slice A n c, .string bo1, .int .i64 st1, .int .i64 co1, .bool cr1, .string no1, .int .u64 nn1] 34)).alloc (.cells #[.int .i64 ki2, .int .i64 se2, .int .i64 ti2, .string me2, .string ur2, .slice B m d, .string bo2, .int .i64 st2, .int .i64 co2, .bool cr2, .string no2, .int .u64 nn2] 34) = W := ⟨_, rfl⟩
  have hgW : Grew w W := by rw [← hW]; exact ((Grew.rf w).al _).al _
  rw [World.size_alloc] at hp1
  rw [hW] at hp0 hp1 ⊢
  obtain ⟨hb, hhb⟩ : ∃ hb, w.heap.size = hb := ⟨_, rfl⟩
  rw [hhb] at hp0 hp1 ⊢
  have HP0 := Lib.hid hp0
  have HP1 := Lib.hid hp1
  have HGW := Lib.hid hgW
  have HHB := Lib.hid hhb
  clear hp0 hp1 hW hgW hhb
  refine region_box0 (hb + 1) 34 #[.int .i64 ki2, .int .i64 se2, .int .i64 ti2, .string me2, .string ur2, .slice B m d, .string bo2, .int .i64 st2, .int .i64 co2, .bool cr2, .string no2, .int .u64 nn2] [(7, 0, (.int .i64 ki1)), (9, 1, (.int .i64 se1)), (11, 2, (.int .i64 ti1))] [] (fun u => Grew w u ∧ u.heap[hb]? = some (.cells #[.int .i64 ki1, .int .i64 se1, .int .i64 ti1, .string me1, .string ur1, .slice A n c, .string bo1, .int .i64 st1, .int .i64 co1, .bool cr1, .string no1, .int .u64 nn1] 34)) (fun u u' h hg => ⟨h.1.tr hg, heap_keep hg h.2⟩) (fun u j x h => ⟨h.1.st (by show w.heap.size ≤ hb + 1; rw [HHB.out]; omega) x, (setCell_heap_other _ _ _ (by simp)).trans h.2⟩) ⟨HGW.out, HP0.out⟩ HP1.out [[], [(0, 5)], [], [(2, 7)], [], [(4, 9)], [], [(1, 6), (6, 11)], [], [(3, 8), (8, 12)], [], [(5, 10), (10, 13)]] [(0, 5), (1, 6), (2, 7), (3, 8), (4, 9), (5, 10), (6, 11), (8, 12), (10, 13)] (fun
    | 0 => .eqv (.pointer (some ⟨hb, 0, none⟩)) | 1 => .eqv (.int .i64 ki1) | 2 => .eqv (.pointer (some ⟨hb, 1, none⟩)) | 3 => .eqv (.int .i64 se1) | 4 => .eqv (.pointer (some ⟨hb, 2, none⟩)) | 5 => .eqv (.int .i64 ti1) | 6 => .eqv (.pointer (some ⟨hb + 1, 0, none⟩)) | 7 => .cel 0 (.int .i64 ki1) | 8 => .eqv (.pointer (some ⟨hb + 1, 1, none⟩)) | 9 => .cel 1 (.int .i64 se1) | 10 => .eqv (.pointer (some ⟨hb + 1, 2, none⟩)) | 11 => .cel 2 (.int .i64 ti1) | _ => .any) (by kernel_rfl) (by kernel_rfl) (by kernel_rfl) ?hlf ?hsteps ?hend
  case hlf => intro p hp v u h; simp only [List.mem_cons, List.not_mem_nil, or_false] at hp; rcases hp with rfl | rfl | rfl <;> exact h
  case hsteps =>
    refine ⟨fun u hu hx => ?_, fun u hu hx => ?_, fun u hu hx => ?_, fun u hu hx => ?_, fun u hu hx => ?_, fun u hu hx => ?_, fun u hu hx => ?_, fun u hu hx => ?_, fun u hu hx => ?_, fun u hu hx => ?_, fun u hu hx => ?_, fun u hu hx => ?_, trivial⟩
    · refine StepGoal.nil ?_
      go_wp2
      exact ⟨rfl, rfl, Grew.rf _, rfl⟩
    · rintro _ rfl
      have hce : u.cell? ⟨hb, 0, none⟩ = some (.int .i64 ki1) := cell_of_heap hu.2 rfl
      refine StepGoal.nil ?_
      simp only [Act.put, List.setIfInBounds_toArray, List.set_cons_zero, List.set_cons_succ]
      go_wp2
      exact ⟨rfl, rfl, Grew.rf _, rfl⟩
    · refine StepGoal.nil ?_
      go_wp2
      exact ⟨rfl, rfl, Grew.rf _, rfl⟩
    · rintro _ rfl
      have hce : u.cell? ⟨hb, 1, none⟩ = some (.int .i64 se1) := cell_of_heap hu.2 rfl
      refine StepGoal.nil ?_
      simp only [Act.put, List.setIfInBounds_toArray, List.set_cons_zero, List.set_cons_succ]
      go_wp2
      exact ⟨rfl, rfl, Grew.rf _, rfl⟩
    · refine StepGoal.nil ?_
      go_wp2
      exact ⟨rfl, rfl, Grew.rf _, rfl⟩
    · rintro _ rfl
      have hce : u.cell? ⟨hb, 2, none⟩ = some (.int .i64 ti1) := cell_of_heap hu.2 rfl
      refine StepGoal.nil ?_
      simp only [Act.put, List.setIfInBounds_toArray, List.set_cons_zero, List.set_cons_succ]
      go_wp2
      exact ⟨rfl, rfl, Grew.rf _, rfl⟩
    · refine StepGoal.nil ?_
      go_wp2
      exact ⟨rfl, rfl, Grew.rf _, rfl⟩
    · rintro _ rfl _ rfl
      obtain ⟨y, hy, hz⟩ := hx.1.some (j := 0) (by simp)
      refine StepGoal.nil ?_
      simp only [Act.put, List.setIfInBounds_toArray, List.set_cons_zero, List.set_cons_succ]
      go_wp2
      exact ⟨rfl, rfl, rfl, World.cell?_setCell_same _ _ _ hy⟩
    · refine StepGoal.nil ?_
      go_wp2
      exact ⟨rfl, rfl, Grew.rf _, rfl⟩
    · rintro _ rfl _ rfl
      obtain ⟨y, hy, hz⟩ := hx.1.some (j := 1) (by simp)
      refine StepGoal.nil ?_
      simp only [Act.put, List.setIfInBounds_toArray, List.set_cons_zero, List.set_cons_succ]
      go_wp2
      exact ⟨rfl, rfl, rfl, World.cell?_setCell_same _ _ _ hy⟩
    · refine StepGoal.nil ?_
      go_wp2
      exact ⟨rfl, rfl, Grew.rf _, rfl⟩
    · rintro _ rfl _ rfl
      obtain ⟨y, hy, hz⟩ := hx.1.some (j := 2) (by simp)
      refine StepGoal.nil ?_
      simp only [Act.put, List.setIfInBounds_toArray, List.set_cons_zero, List.set_cons_succ]
      go_wp2
      exact ⟨rfl, rfl, rfl, World.cell?_setCell_same _ _ _ hy⟩
  case hend =>
    intro u hu hbx hall
    rintro _ rfl _ rfl _ rfl _ rfl _ rfl _ rfl _ rfl _ rfl _ rfl
    refine StepGoal.nil ?_
    simp only [Act.put, List.setIfInBounds_toArray, List.set_cons_zero, List.set_cons_succ]
    obtain ⟨hgu, hx1⟩ := hu
    have hx2 : u.heap[hb + 1]? = some (evO { ki := ki1, se := se1, ti := ti1, me := me2, ur := ur2, hs := hs2, bo := bo2, st := st2, co := co2, cr := cr2, no := no2, nn := nn2 } B m d) := by simpa [setAll] using hbx
    clear hall hbx
    have hes := esame_any ⟨ki1, se1, ti1, me1, ur1, hs1, bo1, st1, co1, cr1, no1, nn1⟩ A n c ⟨ki1, se1, ti1, me2, ur2, hs2, bo2, st2, co2, cr2, no2, nn2⟩ B m d u (HA.out.keep hgu) (HB.out.keep hgu) hn hm
    have HES := Lib.hid hes
    clear hes
    go_wp2_with (first | (refine ld_row (.inl rfl) rfl rfl hx1 rfl Try.underlying34 (by kernel_rfl) ?_) | (refine ld_row (.inl rfl) rfl rfl hx2 rfl Try.underlying34 (by kernel_rfl) ?_) | (go_at_call 78; refine Calls.mono HES.out ?_; rintro e w2 ⟨rfl, hg2⟩))
    go_ret
    exact ⟨rfl, hgu.tr hg2⟩
end Go.Proofs.Ytbkcpgaicoagfaa
/- fetch.within, ContainsFunc over headers, sized. -/
set_option linter.unusedVariables false
set_option linter.unusedSimpArgs false
namespace Go.Proofs.Ytbkcpgaicoagfaa
open Go.RowKit

theorem fwithin_any (n h : Int) (w : World) : Calls Try.prog 83 #[.int .i64 n, .int .i64 h] w fun e w' => e = .returned (.bool (decide (1 ≤ n ∧ n ≤ h))) ∧ w = w' := by
  by_cases h1 : 1 ≤ n
  · by_cases h2 : n ≤ h
    · rw [decide_eq_true (p := 1 ≤ n ∧ n ≤ h) ⟨h1, h2⟩]
      go_enter Try.func83, Try.ntmps83
      go_wp2
      go_ret
      exact ⟨rfl, rfl⟩
    · rw [decide_eq_false (p := 1 ≤ n ∧ n ≤ h) (fun e => h2 e.2)]
      go_enter Try.func83, Try.ntmps83
      go_wp2
      go_ret
      exact ⟨rfl, rfl⟩
  · rw [decide_eq_false (p := 1 ≤ n ∧ n ≤ h) (fun e => h1 e.1)]
    go_enter Try.func83, Try.ntmps83
    go_wp2
    go_ret
    exact ⟨rfl, rfl⟩

abbrev hV (x : Hdr) : Value := .agg #[.string x.1, .string x.2]
def PredH (g : Nat) (cap : Array Value) (p : Hdr → Bool) (w : World) : Prop :=
  ∀ u, Grew w u → ∀ x, Calls Try.prog g (#[hV x] ++ cap) u fun e u' => e = .returned (.bool (p x)) ∧ Grew u u'
def idxH (p : Hdr → Bool) (l : List Hdr) : Int := if l.findIdx p < l.length then (l.findIdx p : Int) else -1
theorem idxH_any (A : Option Addr) (n c : Nat) (l : List Hdr) (g : Nat) (cap : Array Value) (p : Hdr → Bool) (w : World) (eg : ∀ args w, (callFunc g args).run Try.prog w = .ok (.enter g args) w) (hr : RdH w A n l) (hn : n ≤ 9223372036854775807) (hp : PredH g cap p w) :
    Calls Try.prog 81 #[.slice A n c, .func (.func g) #[] cap] w fun e w' => e = .returned (.int .i64 (idxH p l)) ∧ Grew w w' := by
  have hl := hr.lenH
  have HR := Lib.hid hr
  have HP := Lib.hid hp
  have HL := Lib.hid hl
  clear hr hp hl
  go_enter Try.func81, Try.ntmps81
  go_wp2
  go_loopw [8] (fun i wr => ∃ j : Nat, i = .int .i64 (j : Int) ∧ j ≤ n ∧ Grew w wr ∧ RowKit.Hid (∀ k y, k < j → l[k]? = some y → p y = false)) (fun i _ => n - (intOf i).toNat)
  case atStart => exact ⟨0, rfl, Nat.zero_le _, Grew.rf w, fun k y hk => by omega⟩
  case round =>
    obtain ⟨j, rfl, hj, hg, HI⟩ := hrel
    by_cases hlt : j < n
    · obtain ⟨b, o, x, hA, hx, hc0, hc1⟩ := HR.out.atH hlt
      have c0 := hg.ce hc0
      have c1 := hg.ce hc1
      have HX := Lib.hid hx
      have HG := Lib.hid hg
      subst hA
      clear hx hc0 hc1 hg
      cases hpx : p x with
      | false =>
        have HPX := Lib.hid hpx
        clear hpx
        go_wp2_with (refine Calls.mono (HP.out _ HG.out x) ?_; rintro e w1 ⟨rfl, hg1⟩; rw [HPX.out])
        go_roundw
        case rel =>
          refine ⟨j + 1, by go_num, by omega, HG.out.tr hg1, fun k y hk hy => ?_⟩
          by_cases hkj : k = j
          · subst hkj
            rw [HX.out] at hy
            cases hy
            exact HPX.out
          · exact HI.out k y (by omega) hy
        case measure => simp [intOf]; omega
      | true =>
        have hix : idxH p l = (j : Int) := by
          have hjl : j < l.length := by rw [HL.out]; exact hlt
          have h2 := (List.getElem?_eq_some_iff.1 HX.out).2
          have : l.findIdx p = j := by
            rw [List.findIdx_eq hjl]
            exact ⟨by rw [h2]; exact hpx, fun k hk => by
              have := HI.out k (l[k]'(by omega)) hk (List.getElem?_eq_getElem _)
              simpa using this⟩
          unfold idxH
          rw [this, if_pos hjl]
        have HPX := Lib.hid hpx
        have HIX := Lib.hid hix
        clear hpx hix
        go_wp2_with (refine Calls.mono (HP.out _ HG.out x) ?_; rintro e w1 ⟨rfl, hg1⟩; rw [HPX.out])
        go_ret
        exact ⟨by rw [HIX.out]; rfl, HG.out.tr hg1⟩
    · have hix : idxH p l = -1 := by
        unfold idxH
        rw [if_neg]
        intro h
        have hj2 : j = n := by omega
        have h3 := List.findIdx_getElem (w := h)
        have := HI.out (l.findIdx p) (l[l.findIdx p]'h) (by rw [HL.out] at h; omega) (List.getElem?_eq_getElem _)
        rw [h3] at this
        cases this
      have HIX := Lib.hid hix
      have HG := Lib.hid hg
      clear hix hg
      go_wp2_with fail
      go_ret
      exact ⟨by rw [HIX.out]; rfl, HG.out⟩
theorem idxH_nonneg (p : Hdr → Bool) (l : List Hdr) : decide (0 ≤ idxH p l) = l.any p := by
  unfold idxH
  by_cases h : l.findIdx p < l.length
  · rw [if_pos h]
    have h3 := List.findIdx_getElem (w := h)
    rw [decide_eq_true (by omega), eq_comm, List.any_eq_true]
    exact ⟨_, List.getElem_mem h, h3⟩
  · rw [if_neg h, decide_eq_false (by omega), eq_comm, List.any_eq_false]
    intro x hx hp
    exact h (List.findIdx_lt_length_of_exists ⟨x, hx, hp⟩)
theorem contH_any (A : Option Addr) (n c : Nat) (l : List Hdr) (g : Nat) (cap : Array Value) (p : Hdr → Bool) (w : World) (eg : ∀ args w, (callFunc g args).run Try.prog w = .ok (.enter g args) w) (hr : RdH w A n l) (hn : n ≤ 9223372036854775807) (hp : PredH g cap p w) :
    Calls Try.prog 76 #[.slice A n c, .func (.func g) #[] cap] w fun e w' => e = .returned (.bool (l.any p)) ∧ Grew w w' := by
  have hi := idxH_any A n c l g cap p w eg hr hn hp
  have HI := Lib.hid hi
  have HN := Lib.hid (idxH_nonneg p l)
  clear hi hr hp eg
  generalize idxH p l = ix at HI HN
  go_enter Try.func76, Try.ntmps76
  go_wp2_with (go_at_call 81; refine Calls.mono HI.out ?_; rintro e w1 ⟨rfl, hg1⟩)
  go_ret
  exact ⟨by rw [← HN.out]; rfl, hg1⟩

/-! ### sized -/
def bigH (x : Hdr) : Bool := decide (512 < x.1.size) || decide (2048 < x.2.size)
theorem bigH_any (w : World) : PredH 77 #[] bigH w := by
  intro u hu x
  obtain ⟨x1, x2⟩ := x
  have HD : RowKit.Hid (bigH (x1, x2) = (decide (512 < x1.size) || decide (2048 < x2.size))) := rfl
  go_enter Try.func77, Try.ntmps77
  go_wp2
  all_goals
    go_ret
    refine ⟨congrArg (fun b => Ending.returned (Value.bool b)) ?_, (Grew.rf u).al _⟩
    rw [HD.out]
    first | (simp [*]; done) | (rw [Bool.eq_iff_iff]; simp; omega)
end Go.Proofs.Ytbkcpgaicoagfaa
/- The Book's map of lists. -/
set_option linter.unusedVariables false
set_option linter.unusedSimpArgs false
namespace Go.Proofs.Ytbkcpgaicoagfaa
open Go.RowKit

theorem streamK : Maps.Keyed Try.prog 98 := Maps.Keyed.of_law (deep_law_gate (by kernel_rfl) (Nat.le_of_ble_eq_true (by kernel_rfl)) (Nat.le_of_ble_eq_true (by kernel_rfl)) (by kernel_rfl) (by kernel_rfl))
abbrev skV (s : Int) (b : Bool) : Value := .agg #[.int .i64 s, .bool b]
theorem skey (s : Int) (b : Bool) (h0 : -9223372036854775808 ≤ s) (h1 : s ≤ 9223372036854775807) : ∃ kl, keyOf Try.prog 98 (skV s b) = some kl := by
  have hw : (Lit.int .i64 s).wf = true := WalkArith.wf_i64 (by omega)
  have hs : Try.prog.types.size + 1 = 1 + (Try.prog.types.size - 1) + 1 := by kernel_rfl
  have hk : Try.prog.keyType 98 = true := by kernel_rfl
  have hc : Try.prog.cellsOf 98 = 2 := by kernel_rfl
  have hc1 : Try.prog.cellsOf 3 = 1 := by kernel_rfl
  have hc2 : Try.prog.cellsOf 4 = 1 := by kernel_rfl
  have hi : Program.keyLits Try.prog 161 3 [.int .i64 s] = some [.int .i64 s] := by
    show Program.keyLits Try.prog (160 + 1) 3 _ = _
    unfold Program.keyLits
    simp [Try.underlying3, hw]
  have hbb : Program.keyLits Try.prog 161 4 [.bool b] = some [.bool b] := by
    show Program.keyLits Try.prog (160 + 1) 4 _ = _
    unfold Program.keyLits
    simp [Try.underlying4]
  unfold keyOf
  simp only [Try.underlying98]
  simp [hk, Value.formed, Try.underlying98, hc]
  show ∃ kl a, Program.keyLits Try.prog (161 + 1) 98 _ = some a ∧ _
  unfold Program.keyLits
  simp only [Try.underlying98]
  simp [hc, hc1, hc2, hi, hbb, Value.cells]

def heldR (v : Value) : Option (DataW Value × List MemPlace) := some (.held v, [])
/-- What the address leads to is a row of headers. -/
def HdB (w : World) (A : Option Addr) : Prop := ∀ ad, A = some ad → ∃ cs fr, w.heap[ad.block]? = some (.cells cs 124 fr)
theorem HdB.none (w : World) : HdB w Option.none := fun _ h => by cases h
theorem HdB.chg {w w' : World} {A : Option Addr} {F : Nat → Prop} (h : HdB w A) (hg : Chg F w w') (hF : ∀ ad, A = some ad → ¬ F ad.block) : HdB w' A := fun ad e => by
  obtain ⟨cs, fr, hc⟩ := h ad e
  exact ⟨cs, fr, hg.by_ hc (hF ad e)⟩
theorem HdB.keep {w w' : World} {A : Option Addr} (h : HdB w A) (hg : Grew w w') : HdB w' A := h.chg (F := fun _ => False) (Chg.of hg) (fun _ _ h => h)
theorem OwnV.hdB {w : World} {base : Nat} {A : Option Addr} {m c n : Nat} {vs : List Value} (h : OwnV 124 2 w base (.slice A m c) n vs) : HdB w A := by
  intro ad hA
  rcases h.own.2 with ⟨hv, _⟩ | ⟨g, cap, cur, hv, hg, hh, _⟩
  · cases hv; cases hA
  · cases hv; cases hA; exact ⟨_, _, hh⟩
/-- .. which is nothing of the table's. -/
theorem HdB.tab {w : World} {A : Option Addr} (h : HdB w A) {p : Nat} {lv : Value} {mb : Nat} {ts : List ByteArray} (hT : TabI w p lv mb ts) {ad : Addr} (e : A = some ad) : ¬ ftp p lv mb ad.block := by
  obtain ⟨cs, fr, hc⟩ := h ad e
  rintro (hk | hk | hk)
  · rw [hk, hT.cells] at hc
    simp only [Option.some.injEq, Obj.cells.injEq] at hc
    exact absurd hc.2.1 (by decide)
  · obtain ⟨es, c, hm⟩ := hT.map.isMap
    rw [hk, hm] at hc
    simp at hc
  · obtain ⟨cur, hm⟩ := hT.list.block hk
    rw [hm] at hc
    simp only [Option.some.injEq, Obj.cells.injEq] at hc
    exact absurd hc.2.1 (by decide)

theorem HdB.ne {w : World} {A : Option Addr} (h : HdB w A) {K : Nat} {T : TypeId} {cs : Array Value} {fr : Nat × Nat} (hK : w.heap[K]? = some (.cells cs T fr)) (hT : T ≠ 124) : ∀ ad, A = some ad → ¬ (ad.block = K) := fun ad e e2 => by
  obtain ⟨cs', fr', hc⟩ := h ad e
  rw [e2, hK] at hc
  simp only [Option.some.injEq, Obj.cells.injEq] at hc
  exact hT hc.2.1
theorem chg1 {w w' : World} {K : Nat} (h : w.grownBy w' (some K)) : Chg (fun k => k = K) w w' := Chg.ofBy h (fun b e => by cases e; rfl)
theorem HdB.by_ {w w' : World} {A : Option Addr} (h : HdB w A) {K : Nat} (hg : w.grownBy w' (some K)) (hne : ∀ ad, A = some ad → ¬ (ad.block = K)) : HdB w' A := h.chg (chg1 hg) hne
theorem RdV.by_ {sz : Nat} {vs : List Value} {w w' : World} {A : Option Addr} {n : Nat} (h : RdV sz w A n vs) {K : Nat} (hg : w.grownBy w' (some K)) (hne : ∀ ad, A = some ad → ¬ (ad.block = K)) : RdV sz w' A n vs := h.chg (chg1 hg) (fun _ => hne)

/-- A list that a block of headers holds. -/
structure LstI (w : World) (A : Option Addr) (n c : Nat) (l : List Hdr) : Prop where
  rd : RdH w A n l
  le : n ≤ c
  cap : c ≤ 9223372036854775807
  few : n ≤ 25
  blk : HdB w A
theorem LstI.chg {w w' : World} {A : Option Addr} {n c : Nat} {l : List Hdr} {F : Nat → Prop} (h : LstI w A n c l) (hg : Chg F w w') (hF : ∀ k cs fr, w.heap[k]? = some (.cells cs 124 fr) → ¬ F k) : LstI w' A n c l := by
  have hb : ∀ ad, A = some ad → ¬ F ad.block := fun ad e => by
    obtain ⟨cs, fr, hc⟩ := h.blk ad e
    exact hF _ _ _ hc
  exact ⟨h.rd.chg hg (fun _ => hb), h.le, h.cap, h.few, h.blk.chg hg hb⟩
theorem LstI.nil (w : World) : LstI w none 0 0 [] := ⟨RdV.nil _ _ _, Nat.le_refl _, by omega, by omega, HdB.none _⟩

/-- Block lb is the map that tells each stream's list; k: no more entries. -/
def MapL (w : World) (lb k : Nat) (L : Int → Bool → List Hdr) : Prop :=
  ∃ (D : DataW Value) (n : Nat), w.ownsMap Try.prog 98 heldR lb n D ∧ n ≤ k ∧ Maps.IsMap D ∧
    ∀ s b kl, keyOf Try.prog 98 (skV s b) = some kl → ∃ A n c, D.atKey kl (.held (.slice none 0 0)) = .held (.slice A n c) ∧ LstI w A n c (L s b)
theorem MapL.made (w : World) : MapL (w.alloc (.map #[] 0)) w.heap.size 0 (fun _ _ => []) :=
  ⟨.map [], 0, World.ownsMap_made w _ _ _, Nat.le_refl _, ⟨[], rfl⟩, fun s b kl _ => ⟨none, 0, 0, Maps.atKey_of_not_has (by simp [Maps.has]) _, LstI.nil _⟩⟩
theorem MapL.mono {w : World} {lb k k' : Nat} {L : Int → Bool → List Hdr} (h : MapL w lb k L) (hk : k ≤ k') : MapL w lb k' L := by
  obtain ⟨D, n, h1, h2, h3⟩ := h
  exact ⟨D, n, h1, by omega, h3⟩
theorem MapL.isMap {w : World} {lb k : Nat} {L : Int → Bool → List Hdr} (h : MapL w lb k L) : ∃ es c, w.heap[lb]? = some (.map es c) := by
  obtain ⟨D, n, ⟨es, c, h1, _⟩, _⟩ := h
  exact ⟨es, c, h1⟩
theorem MapL.lt {w : World} {lb k : Nat} {L : Int → Bool → List Hdr} (h : MapL w lb k L) : lb < w.heap.size := by
  obtain ⟨es, c, h1⟩ := h.isMap
  exact (Array.getElem?_eq_some_iff.1 h1).1
theorem MapL.chg {w w' : World} {lb k : Nat} {L : Int → Bool → List Hdr} {F : Nat → Prop} (h : MapL w lb k L) (hg : Chg F w w') (hl : ¬ F lb) (hF : ∀ k cs fr, w.heap[k]? = some (.cells cs 124 fr) → ¬ F k) : MapL w' lb k L := by
  obtain ⟨D, n, h1, h2, h3, h4⟩ := h
  obtain ⟨es, c, hb, r⟩ := h1
  refine ⟨D, n, ⟨es, c, hg.by_ hb hl, r⟩, h2, h3, fun s b kl hk => ?_⟩
  obtain ⟨A, n, c, h5, h6⟩ := h4 s b kl hk
  exact ⟨A, n, c, h5, h6.chg hg hF⟩
theorem MapL.keep {w w' : World} {lb k : Nat} {L : Int → Bool → List Hdr} (h : MapL w lb k L) (hg : Grew w w') : MapL w' lb k L := h.chg (F := fun _ => False) (Chg.of hg) (fun h => h) (fun _ _ _ _ h => h)
theorem zeroL (w : World) : (zeroValue 31).run Try.prog w = .ok (.slice none 0 0) w := by
  have h : (Try.prog.info? 31).map (fun i => (i.zero, i.size)) = some (some (.slice none 0 0), 1) := by kernel_rfl
  exact (zero_of_info h).1 _
/-- 'lists[stream]'. -/
theorem MapL.look {w : World} {lb k : Nat} {L : Int → Bool → List Hdr} (h : MapL w lb k L) (s : Int) (b : Bool) (h0 : -9223372036854775808 ≤ s) (h1 : s ≤ 9223372036854775807) :
    ∃ A n c, (Instr.lookup 82 (.map (some lb)) (skV s b) false).run Try.prog w = .ok (.slice A n c) w ∧ LstI w A n c (L s b) := by
  obtain ⟨D, n, hD, _, _, h4⟩ := h
  obtain ⟨kl, hk⟩ := skey s b h0 h1
  obtain ⟨A, m, c, h5, h6⟩ := h4 s b kl hk
  obtain ⟨v, ps, hrun, hv⟩ := hD.lookup streamK Try.underlying82 (zeroL w) (zd := .held (.slice none 0 0)) (zp := []) rfl hk
  rw [h5] at hv
  simp only [heldR, Option.some.injEq, Prod.mk.injEq, DataW.held.injEq] at hv
  obtain ⟨rfl, _⟩ := hv
  exact ⟨A, m, c, hrun, h6⟩
def setL (L : Int → Bool → List Hdr) (s : Int) (b : Bool) (l : List Hdr) : Int → Bool → List Hdr := fun s' b' => if s' = s ∧ b' = b then l else L s' b'
section
variable {ops : Array Oper} {rest : List Oper} {o : Oper} {a : Act} {Q : Exit → Act → World → Prop} {W : World} {lb k : Nat} {L : Int → Bool → List Hdr}
/-- 'lists[stream] = list'. -/
theorem upd_list (hgd : o.guard = none) {m x v : Operand} (ho : o.op = .mapUpdate 82 m x v) (hm : a.eval m = .map (some lb)) {s : Int} {b : Bool} (hx : a.eval x = skV s b) {A : Option Addr} {n c : Nat} {l : List Hdr} (hv : a.eval v = .slice A n c) (h0 : -9223372036854775808 ≤ s) (h1 : s ≤ 9223372036854775807) (hk : k ≤ 1000000) (hM : MapL W lb k L) (hL : LstI W A n c l)
    (h : ∀ w', MapL w' lb (k + 1) (setL L s b l) → W.grownBy w' (some lb) → wpList Try.prog ops Q rest (a.put o.dst undef) w') : wpList Try.prog ops Q (o :: rest) a W := by
  obtain ⟨D, n0, hD, h2, h3, h4⟩ := hM
  obtain ⟨kl, hkl⟩ := skey s b h0 h1
  refine wpList_mapUpdate_own W hgd m x v _ ho 98 31 streamK Try.underlying82 heldR lb n0 D hm hD (by simp only [maxLen]; omega) _ _ kl hx hv hkl (.held (.slice A n c)) [] rfl ?_
  intro w' hown hg
  have hmap : ∃ es c, W.heap[lb]? = some (.map es c) := by
    obtain ⟨es, c, h1, _⟩ := hD
    exact ⟨es, c, h1⟩
  have hF : ∀ k cs fr, W.heap[k]? = some (.cells cs 124 fr) → ¬ (k = lb) := fun k cs fr hc e => by
    obtain ⟨es, c, hm⟩ := hmap
    rw [e, hm] at hc
    simp at hc
  have hC : Chg (fun k => k = lb) W w' := Chg.ofBy hg (fun b e => by cases e; rfl)
  refine h w' ⟨_, _, hown, by omega, h3.put _ _, fun s' b' kl' hk' => ?_⟩ hg
  by_cases he : s' = s ∧ b' = b
  · obtain ⟨rfl, rfl⟩ := he
    rw [hkl] at hk'
    obtain rfl := Option.some.inj hk'
    refine ⟨A, n, c, Maps.atKey_put_same h3 (streamK.key hkl) _ _, ?_⟩
    unfold setL
    rw [if_pos ⟨rfl, rfl⟩]
    exact hL.chg hC hF
  · have hne : kl' ≠ kl := fun e => by
      subst e
      have := streamK.inj hk' hkl
      simp only [Value.agg.injEq, Array.mk.injEq, List.cons.injEq, Value.int.injEq, Value.bool.injEq, and_true, true_and] at this
      exact he this
    obtain ⟨A', n', c', h5, h6⟩ := h4 s' b' kl' hk'
    refine ⟨A', n', c', by rw [Maps.atKey_put_other hne]; exact h5, ?_⟩
    unfold setL
    rw [if_neg he]
    exact h6.chg hC hF
end
end Go.Proofs.Ytbkcpgaicoagfaa
