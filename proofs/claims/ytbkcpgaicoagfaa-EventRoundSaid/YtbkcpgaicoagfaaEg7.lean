/- A drawn region whose last operations come behind all others, one behind the other: the first ones in whatever order, each looked at once; the last ones as in a plain list. -/
import Derived.Test.YtbkcpgaicoagfaaEg6
import Derived.Test.YtbkcpgaicoagfaaMem
import Derived.Test.YtbkcpgaicoagfaaEg5
set_option linter.unusedVariables false
set_option linter.unusedSimpArgs false
namespace Go.Proofs.Ytbkcpgaicoagfaa
open Go Go.RowKit

def front (n m : Nat) : Array Bool := ((List.range n).map fun i => decide (i < m)).toArray
theorem front_size (n m : Nat) : (front n m).size = n := by simp [front]
theorem front_get {n m i : Nat} (h : i < n) : (front n m)[i]? = some (decide (i < m)) := by simp [front, h]
theorem front_set {n k : Nat} (h : k < n) : (front n k).setIfInBounds k true = front n (k + 1) := by
  apply Array.ext_getElem?
  intro i
  rw [Array.getElem?_setIfInBounds]
  by_cases hi : i < n
  · rw [front_get hi, front_get hi]
    by_cases e : k = i
    · subst e
      simp [front_size, h]
    · rw [if_neg e]
      congr 1
      rw [decide_eq_decide]
      omega
  · rw [Array.getElem?_eq_none (by rw [front_size]; omega), Array.getElem?_eq_none (by rw [front_size]; omega), if_neg (by omega)]

section
variable {P : Program} {ops : Array Oper} {Q : Exit → Act → World → Prop} {a0 : Act}
theorem region_tail (k0 : Nat) (h1 : ∀ j, k0 ≤ j → j < ops.size → Region.ready .any ops (front ops.size j) = [j]) (h2 : Region.ready .any ops (front ops.size ops.size) = []) :
    ∀ (fuel k : Nat) (a : Act) (w : World), k0 ≤ k → k ≤ ops.size → ops.size - k ≤ fuel → wpList P ops Q (ops.toList.drop k) a w → wpAny P .any ops Q fuel (front ops.size k) a w := by
  have hlast : ∀ (k : Nat) (a : Act) (w : World), k = ops.size → wpList P ops Q (ops.toList.drop k) a w → Q .normal a w := fun k a w e h => by
    subst e
    rw [List.drop_of_length_le (by simp)] at h
    exact h
  intro fuel
  induction fuel with
  | zero =>
    intro k a w hk hks he h
    have e : k = ops.size := by omega
    refine ⟨by rw [e]; exact h2, hlast k a w e h⟩
  | succ fuel ih =>
    intro k a w hk hks he h
    rcases Nat.lt_or_ge k ops.size with hlt | hge
    · refine ⟨fun hn => (by rw [h1 k hk hlt] at hn; cases hn), fun i hi => ?_⟩
      rw [h1 k hk hlt, List.mem_singleton] at hi
      subst hi
      have ho : ops[i]? = some ops[i] := Array.getElem?_eq_getElem hlt
      have hd : ops.toList.drop i = ops[i] :: ops.toList.drop (i + 1) := by
        rw [List.drop_eq_getElem_cons (by simpa using hlt)]
        simp
      rw [hd] at h
      unfold wpList at h
      unfold wpOp
      simp only [ho]
      rw [front_set hlt]
      split at h
      · rename_i hw
        rw [if_pos hw]
        rcases h with h | h
        · exact .inl (Oper.wp_mono (fun a w hh => ih (i + 1) a w (by omega) (by omega) (by omega) hh) h)
        · exact .inr h
      · rename_i hw
        rw [if_neg hw]
        exact ih (i + 1) _ w (by omega) (by omega) (by omega) h
    · have e : k = ops.size := by omega
      refine ⟨fun _ => hlast k a w e h, fun i hi => ?_⟩
      rw [e, h2] at hi
      cases hi

variable {A : Array (List Nat)} {F : Nat → Value → World → Prop} {B : World → Prop} {G : World → World → Prop}
theorem region_front (hok : regionOk ops a0.tmps.size A = true) (hF : ∀ i v u u', F i v u → G u u' → F i v u') (hB : ∀ u u', B u → G u u' → B u')
    (m : Nat) (hm : m ≤ ops.size) (hl : ∀ i, m ≤ i → i < ops.size → ∀ j, j < m → j ∈ A.getD i [])
    (hstep : ∀ i, i < m → StepOk A F B G P ops a0 i)
    (hcnt : (unlisted ops.size (front ops.size m)).length = ops.size - m)
    (hend : ∀ f u fuel, ops.size - m ≤ fuel → B u → (∀ i, i < m → F i (f i) u) → wpAny P .any ops Q fuel (front ops.size m) (putAll a0 (pairsOf ops (List.range m)) f) u) :
    ∀ (fuel : Nat) (listed : Array Bool) (f : Nat → Value) (a : Act) (u : World), (unlisted ops.size listed).length ≤ fuel → (∀ i, m ≤ i → listed.getD i false = false) → RegInv A F B ops a0 listed f a u → wpAny P .any ops Q fuel listed a u := by
  have fin : ∀ (listed : Array Bool) (f : Nat → Value) (a : Act) (u : World), (∀ i, i < m → listed.getD i false = true) → (∀ i, m ≤ i → listed.getD i false = false) → RegInv A F B ops a0 listed f a u → ∀ fuel, (unlisted ops.size listed).length ≤ fuel → wpAny P .any ops Q fuel listed a u := by
    intro listed f a u hall hnone hI fuel hfu
    have el : listed = front ops.size m := by
      apply Array.ext_getElem?
      intro i
      by_cases hi : i < ops.size
      · rw [front_get hi]
        have hl : i < listed.size := by rw [hI.size]; exact hi
        by_cases him : i < m
        · have := hall i him
          simp only [Array.getD_eq_getD_getElem?, Array.getElem?_eq_getElem hl] at this
          rw [Array.getElem?_eq_getElem hl, decide_eq_true him]
          simpa using this
        · have := hnone i (by omega)
          simp only [Array.getD_eq_getD_getElem?, Array.getElem?_eq_getElem hl] at this
          rw [Array.getElem?_eq_getElem hl, decide_eq_false him]
          simpa using this
      · rw [Array.getElem?_eq_none (by rw [hI.size]; omega), Array.getElem?_eq_none (by rw [front_size]; omega)]
    have e : a = putAll a0 (pairsOf ops (List.range m)) f := by
      have hd : a.defers = (putAll a0 (pairsOf ops (List.range m)) f).defers := by rw [putAll_defers, hI.defers]
      have ht : a.tmps = (putAll a0 (pairsOf ops (List.range m)) f).tmps := by
        apply Array.ext_getElem?
        intro t
        by_cases hw : ∃ j : Nat, j < m ∧ (ops[j]?).bind (fun o : Oper => o.dst) = some t
        · obtain ⟨j, hjm, hj⟩ := hw
          have hjl := dst_lt hj
          rw [hI.at_ j t (hall j hjm) hj]
          obtain ⟨oj, hoj⟩ : ∃ oj, ops[j]? = some oj := ⟨ops[j], Array.getElem?_eq_getElem hjl⟩
          have hdj : oj.dst = some t := by simpa [hoj] using hj
          obtain ⟨hlt, huniq⟩ := (ok_at hok hoj).2.1 t hdj
          exact (putAll_at _ _ f j t (pairsOf_mem.2 ⟨List.mem_range.2 hjm, hj⟩) (fun p hp hpt => by
            obtain ⟨p1, p2⟩ := p
            simp only at hpt
            subst hpt
            have := pairsOf_mem.1 hp
            exact huniq p1 (dst_lt this.2) this.2) hlt).symm
        · rw [hI.other t (fun i hi h => hw ⟨i, (by
            rcases Nat.lt_or_ge i m with h1 | h1
            · exact h1
            · rw [hnone i h1] at hi; cases hi), h⟩)]
          exact (putAll_other _ _ f t (fun p hp he => by
            obtain ⟨p1, p2⟩ := p
            simp only at he
            subst he
            have := pairsOf_mem.1 hp
            exact hw ⟨p1, List.mem_range.1 this.1, this.2⟩)).symm
      cases a
      simp only at hd ht
      rw [hd, ht]
    rw [el] at hfu ⊢
    rw [e]
    exact hend f u fuel (by omega) hI.base (fun i hi => hI.facts i (hall i hi))
  intro fuel
  induction fuel with
  | zero =>
    intro listed f a u hle hnone hI
    have hall : ∀ i, i < m → listed.getD i false = true := fun i hi => by
      cases h : listed.getD i false with
      | true => rfl
      | false =>
        have : i ∈ unlisted ops.size listed := by
          simp only [unlisted, List.mem_filter, List.mem_range, h]
          exact ⟨by omega, rfl⟩
        rw [List.eq_nil_of_length_eq_zero (show (unlisted ops.size listed).length = 0 by omega)] at this
        cases this
    exact fin listed f a u hall hnone hI 0 hle
  | succ fuel ih =>
    intro listed f a u hle hnone hI
    by_cases hall : ∀ i, i < m → listed.getD i false = true
    · exact fin listed f a u hall hnone hI _ hle
    · refine ⟨fun hr => (hall fun i hi => all_listed hok hI.size hr i (by omega)).elim, fun i hi => ?_⟩
      obtain ⟨h0, o, ho, hdeps⟩ := mem_ready.1 hi
      have hil := (Array.getElem?_eq_some_iff.1 ho).1
      have him : i < m := by
        rcases Nat.lt_or_ge i m with h1 | h1
        · exact h1
        · exfalso
          refine hall fun j hj => ?_
          obtain ⟨e, he, hbd, hej⟩ := (ok_at hok ho).1 j (hl i h1 hil j hj)
          have hle := hdeps e he hbd
          rcases hej with h | h
          · rw [← h]; exact hle
          · exact hI.closed _ hle _ h
      have hunf : listed.getD i false = false := by
        have hl : i < listed.size := by rw [hI.size]; exact hil
        simp only [Array.getD_eq_getD_getElem?, Array.getElem?_eq_getElem hl] at h0 ⊢
        simpa using h0
      have hcount : (unlisted ops.size (listed.setIfInBounds i true)).length ≤ fuel := by
        have := unlisted_lt hil hI.size hunf
        omega
      refine region_step hok hF hB ho (hstep i him) hI hi fun f' a' u' hI' => ih _ f' a' u' hcount (fun j hj => ?_) hI'
      have := hnone j hj
      rw [Array.getD_eq_getD_getElem?] at this ⊢
      rw [Array.getElem?_setIfInBounds, if_neg (by omega)]
      exact this

theorem stepsOk_at2 : ∀ (l : List Oper) (D : List (List (Nat × Tmp))) (k : Nat), (∀ j, j < l.length → l[j]? = ops[k + j]?) → (∀ i, k ≤ i → i < k + l.length → pairsOf ops (A.getD i []) = D.getD (i - k) []) → StepsOk F B G P ops a0 l D k → ∀ i, i < k + l.length → k ≤ i → StepOk A F B G P ops a0 i
  | [], _, k, _, _, _, i, h1, h2 => by simp at h1; omega
  | o :: r, [], k, _, _, h, _, _, _ => h.elim
  | o :: r, ps :: rs, k, hl, hD, h, i, h1, h2 => by
    by_cases e : i = k
    · subst e
      intro o' ho' f u hb hf
      have h0 : ops[i]? = some o := by simpa using (hl 0 (by simp)).symm
      rw [h0] at ho'
      obtain rfl := Option.some.inj ho'
      have hp := hD i (Nat.le_refl _) (by simp)
      rw [Nat.sub_self, List.getD_cons_zero] at hp
      rw [hp]
      exact StepGoal.go ps a0 f (h.1 u hb) (fun p hp' => by
        obtain ⟨p1, p2⟩ := p
        rw [← hp] at hp'
        exact hf p1 (pairsOf_mem.1 hp').1)
    · refine stepsOk_at2 r rs (k + 1) (fun j hj => by have := hl (j + 1) (by simp; omega); simpa [Nat.add_assoc, Nat.add_comm 1 j] using this) (fun i hi1 hi2 => ?_) h.2 i (by simp at h1; omega) (by omega)
      have := hD i (by omega) (by simp; omega)
      rw [this, show i - k = (i - (k + 1)) + 1 by omega, List.getD_cons_succ]

/-- The closed check on the last operations. -/
def splitOk (ops : Array Oper) (A : Array (List Nat)) (m : Nat) : Bool :=
  decide (m ≤ ops.size) && ((List.range ops.size).all fun i => decide (i < m) || (List.range m).all fun j => (A.getD i []).contains j) && decide ((unlisted ops.size (front ops.size m)).length = ops.size - m) &&
  ((List.range ops.size).all fun j => decide (j < m) || decide (Region.ready .any ops (front ops.size j) = [j])) && decide (Region.ready .any ops (front ops.size ops.size) = [])

theorem region_split_any {l : List Oper} {w : World} (m : Nat) (D : List (List (Nat × Tmp))) (E : List (Nat × Tmp)) (F : Nat → Value → World → Prop) (B : World → Prop) (G : World → World → Prop)
    (hok : (regionOk l.toArray a0.tmps.size (D.map (·.map (·.1))).toArray && pairsOk l.toArray D && decide (pairsOf l.toArray (List.range m) = E) && splitOk l.toArray (D.map (·.map (·.1))).toArray m) = true)
    (hF : ∀ i v u u', F i v u → G u u' → F i v u') (hB : ∀ u u', B u → G u u' → B u') (hB0 : B w.drew)
    (hsteps : StepsOk F B G P l.toArray a0 (l.take m) D 0)
    (hend : ∀ u, B u → StepGoal F u (fun a => wpList P l.toArray Q (l.drop m) a u) E a0) :
    wpAny P .any l.toArray Q l.toArray.size (Array.replicate l.toArray.size false) a0 { w with drawn := w.drawn + 1 } := by
  unfold splitOk at hok
  simp only [Bool.and_eq_true, decide_eq_true_eq, List.all_eq_true, Bool.or_eq_true, List.mem_range, List.contains_iff_mem] at hok
  obtain ⟨⟨⟨hok, hp⟩, hE⟩, ⟨⟨⟨hm, hl⟩, hcnt⟩, hr1⟩, hr2⟩ := hok
  have hp2 : ∀ i, i < l.length → pairsOf l.toArray ((D.map (·.map (·.1))).toArray.getD i []) = D.getD i [] := fun i hi => by
    unfold pairsOk at hp
    have := (List.all_eq_true.1 hp) i (List.mem_range.2 (by simpa using hi))
    simpa using this
  have hml : m ≤ l.length := by simpa using hm
  refine region_front (A := (D.map (·.map (·.1))).toArray) hok hF hB m hm (fun i h1 h2 j hj => ?_) (fun i hi => stepsOk_at2 (l.take m) D 0 (fun j hj => ?_) (fun i _ hi => ?_) hsteps i (by rw [List.length_take]; omega) (by omega)) hcnt (fun f u fuel hfu hu hf => ?_) _ _ (fun _ => undef) a0 _ ?_ (fun i _ => ?_) ?_
  · rcases hl i h2 with h | h
    · omega
    · exact h j hj
  · rw [List.length_take] at hj
    simp [List.getElem?_take, show j < m by omega]
  · rw [List.length_take] at hi
    exact hp2 i (by omega)
  · have h3 := StepGoal.go E a0 f (hend u hu) (fun p hp' => by
      obtain ⟨p1, p2⟩ := p
      rw [← hE] at hp'
      have h := pairsOf_mem.1 hp'
      exact hf p1 (List.mem_range.1 (by simpa using h.1)))
    rw [← hE] at h3
    refine region_tail m (fun j h1 h2 => ?_) hr2 fuel m _ u (Nat.le_refl _) hm hfu ?_
    · rcases hr1 j h2 with h | h
      · omega
      · exact h
    · simpa using h3
  · have : (unlisted l.toArray.size (Array.replicate l.toArray.size false)).length ≤ (List.range l.toArray.size).length := List.length_filter_le _ _
    simpa using this
  · rw [Array.getD_eq_getD_getElem?, Array.getElem?_replicate]
    split <;> rfl
  · have hf : ∀ i, (Array.replicate l.toArray.size false).getD i false = true → False := fun i h => by
      rw [Array.getD_eq_getD_getElem?, Array.getElem?_replicate] at h
      split at h <;> simp at h
    exact ⟨by simp, fun i h => (hf i h).elim, hB0, fun i h => (hf i h).elim, rfl, rfl, fun i d h => (hf i h).elim, fun t h => rfl⟩
end

theorem region_split {ops : List Oper} {Q : Exit → Act → World → Prop} {a0 : Act} {id : Nat} {w : World} (m : Nat) (D : List (List (Nat × Tmp))) (E : List (Nat × Tmp)) (F : Nat → Pd)
    (hok : (regionOk ops.toArray a0.tmps.size (D.map (·.map (·.1))).toArray && pairsOk ops.toArray D && decide (pairsOf ops.toArray (List.range m) = E) && splitOk ops.toArray (D.map (·.map (·.1))).toArray m) = true)
    (hsteps : StepsOk (fun i => (F i).p) (Grew w) Grew Try.prog ops.toArray a0 (ops.take m) D 0)
    (hend : ∀ u, Grew w u → StepGoal (fun i => (F i).p) u (fun a => wpList Try.prog ops.toArray Q (ops.drop m) a u) E a0) :
    (Code.region id ops.toArray true).wp Try.prog Q a0 w :=
  wp_region_any follows (region_split_any m D E (fun i => (F i).p) (Grew w) Grew hok (fun i v u u' h hg => (F i).mono v u u' h hg) (fun u u' h hg => h.tr hg) (Grew.rf w).dr hsteps hend)
theorem region_split_in {l n : Nat} {ops : List Oper} {Q : Exit → Act → World → Prop} {a0 : Act} {id : Nat} {w : World} (hd : noDefer ops.toArray = true) (hq : ¬ LetsOut Q) (m : Nat) (D : List (List (Nat × Tmp))) (E : List (Nat × Tmp)) (F : Nat → Pd)
    (hok : (regionOk ops.toArray a0.tmps.size (D.map (·.map (·.1))).toArray && pairsOk ops.toArray D && decide (pairsOf ops.toArray (List.range m) = E) && splitOk ops.toArray (D.map (·.map (·.1))).toArray m) = true)
    (hsteps : StepsOk (fun i => (F i).p) (Grew w) Grew Try.prog ops.toArray a0 (ops.take m) D 0)
    (hend : ∀ u, Grew w u → StepGoal (fun i => (F i).p) u (fun a => wpList Try.prog ops.toArray Q (ops.drop m) a u) E a0) :
    (Code.region id ops.toArray true).wpIn (Fence.wide.inRound l) n Try.prog Q a0 w :=
  wpIn_region_any follows (wpAnyIn_of hd hq _ _ _ _ (region_split_any m D E (fun i => (F i).p) (Grew w) Grew hok (fun i v u u' h hg => (F i).mono v u u' h hg) (fun u u' h hg => h.tr hg) (Grew.rf w).dr hsteps hend))
end Go.Proofs.Ytbkcpgaicoagfaa
/- Intern: the walks of tell, Len, New. -/
set_option linter.unusedVariables false
set_option linter.unusedSimpArgs false
namespace Go.Proofs.Ytbkcpgaicoagfaa
open Go.RowKit

theorem cell_of_heap {w : World} {b i : Nat} {cs : Array Value} {t : TypeId} {v : Value} (h : w.heap[b]? = some (.cells cs t)) (hv : cs[i]? = some v) : w.cell? ⟨b, i, none⟩ = some v := by simp [World.cell?, h, hv]
theorem frozen_of_heap {w : World} {b i : Nat} {cs : Array Value} {t : TypeId} (h : w.heap[b]? = some (.cells cs t)) : w.frozen? ⟨b, i, none⟩ = false := by simp [World.frozen?, h]
theorem heap_keep {w w' : World} {b : Nat} {o : Obj} (hg : Grew w w') (h : w.heap[b]? = some o) : w'.heap[b]? = some o := (hg.block b (Array.getElem?_eq_some_iff.1 h).1).trans h
theorem setCell_heap_other (w : World) (p : Addr) (v : Value) {k : Nat} (h : k ≠ p.block) : (w.setCell p v).heap[k]? = w.heap[k]? := by
  simp [World.setCell, Array.getElem?_modify, Ne.symm h]
theorem setCell_heap_same {w : World} {b i : Nat} {cs : Array Value} {t : TypeId} (h : w.heap[b]? = some (.cells cs t)) (v : Value) : (w.setCell ⟨b, i, none⟩ v).heap[b]? = some (.cells (cs.setIfInBounds i v) t) := by
  simp [World.setCell, Array.getElem?_modify, h]
theorem setCell_size (w : World) (p : Addr) (v : Value) : (w.setCell p v).heap.size = w.heap.size := by simp [World.setCell]
theorem setCell_by (w : World) (p : Addr) (v : Value) : w.grownBy (w.setCell p v) (some p.block) :=
  ⟨rfl, rfl, rfl, by rw [setCell_size]; exact Nat.le_refl _, fun k _ hk => setCell_heap_other _ _ _ (fun e => hk (by rw [e]))⟩
theorem by_keep {w w' : World} {row : Option Nat} {b : Nat} {o : Obj} (hg : w.grownBy w' row) (h : w.heap[b]? = some o) (hne : row ≠ some b) : w'.heap[b]? = some o := (hg.block b (Array.getElem?_eq_some_iff.1 h).1 (fun e => hne e.symm)).trans h
theorem rdV_lit1 (W : World) (v : Value) (t : TypeId) : RdV 1 (W.alloc (.cells #[v] t)) (some ⟨W.heap.size, 0, none⟩) 1 [v] :=
  ⟨rfl, fun _ => ⟨_, 0, rfl, fun j u hj => by
    have : j = 0 := by have := (List.getElem?_eq_some_iff.1 hj).1; simp at this; exact this
    subst this
    simp at hj
    subst hj
    rw [World.cell?_alloc_new]
    rfl⟩⟩
theorem TabI.apart {w : World} {p : Nat} {lv : Value} {mb : Nat} {ts : List ByteArray} (h : TabI w p lv mb ts) : mb ≠ p ∧ lv.ownBlock ≠ some p ∧ lv.ownBlock ≠ some mb := by
  obtain ⟨es, c, hm⟩ := h.map.isMap
  refine ⟨fun e => ?_, fun e => ?_, fun e => ?_⟩
  · rw [e, h.cells] at hm; cases hm
  · obtain ⟨cur, hc⟩ := h.list.block e
    rw [h.cells] at hc
    simp only [Option.some.injEq, Obj.cells.injEq] at hc
    exact absurd hc.2.1 (by decide)
  · obtain ⟨cur, hc⟩ := h.list.block e
    rw [hm] at hc; cases hc
theorem TabI.lt {w : World} {p : Nat} {lv : Value} {mb : Nat} {ts : List ByteArray} (h : TabI w p lv mb ts) {k : Nat} (hk : ftp p lv mb k) : k < w.heap.size := by
  rcases hk with rfl | rfl | hk
  · exact (Array.getElem?_eq_some_iff.1 h.cells).1
  · exact h.map.lt
  · exact h.list.lt hk
theorem TabI.chg {w w' : World} {p : Nat} {lv : Value} {mb : Nat} {ts : List ByteArray} {F : Nat → Prop} (h : TabI w p lv mb ts) (hg : Chg F w w') (hF : ∀ k, ftp p lv mb k → ¬ F k) : TabI w' p lv mb ts := by
  refine ⟨hg.by_ h.cells (hF p (.inl rfl)), ?_, ?_, h.few, h.size⟩
  · have hc : ∀ b, lv.ownBlock = some b → w'.heap[b]? = w.heap[b]? := fun b hb => hg.block b (h.list.lt hb) (hF b (.inr (.inr hb)))
    refine ⟨⟨h.list.own.1, ?_⟩⟩
    rcases h.list.own.2 with h2 | ⟨g, cap, cur, hv, hg2, hh, r⟩
    · exact .inl h2
    · exact .inr ⟨g, cap, cur, hv, hg2, by rw [hc g (by rw [hv]; rfl)]; exact hh, r⟩
  · obtain ⟨D, n, ⟨es, clock, hb, F1, hs, hD⟩, h2⟩ := h.map
    exact ⟨D, n, ⟨es, clock, hg.by_ hb (hF mb (.inr (.inl rfl))), F1, hs, hD⟩, h2⟩
theorem TabI.keep {w w' : World} {p : Nat} {lv : Value} {mb : Nat} {ts : List ByteArray} (h : TabI w p lv mb ts) (hg : Grew w w') : TabI w' p lv mb ts := h.chg (F := fun _ => False) (Chg.of hg) (fun _ _ h => h)

set_option maxRecDepth 100000 in
set_option maxHeartbeats 1600000 in
theorem tell_any (p : Nat) (lv : Value) (mb : Nat) (ts : List ByteArray) (s : ByteArray) (w : World) (hT : TabI w p lv mb ts) (hs : s.size ≤ 1000000) (hn : ts.length < 1000000) (hz : idxT ts s = 0) :
    Calls Try.prog 57 #[.pointer (some ⟨p, 0, none⟩), .string s] w fun e w' => e = .returned (.tuple #[]) ∧ ∃ lv', TabI w' p lv' mb (ts ++ [s]) ∧ Chg (ftp p lv mb) w w' ∧ ∀ k, ftp p lv' mb k → ftp p lv mb k ∨ w.heap.size ≤ k := by
  obtain ⟨hap1, hap2, hap3⟩ := hT.apart
  have hTl := hT.list
  obtain ⟨A, c, rfl, hnc, hc, hrl⟩ := hTl.rd
  have hc0 := cell_of_heap (i := 0) hT.cells rfl
  have hpl := hT.lt (.inl rfl)
  have HT := Lib.hid hT
  clear hT
  go_enter Try.func57, Try.ntmps57
  go_wp2_with ((with_reducible refine gate_b .append #[.tmp 8, .tmp 10] _ rfl ?_); refine appV Try.underlying45 infostr rfl (by decide) (by decide) (.inl rfl) rfl rfl rfl (hTl.keep ((Grew.rf w).al (.cells #[.string s] 9))) (rdV_lit1 w (.string s) 9) (by simp [Value.oneCell']) (Nat.zero_le _) (by omega) ?_; intro v1 w1 ho1 hg1 hat1; obtain ⟨A1, c1, rfl, hn1, hm1, hr1⟩ := ho1.rd; have hcp1 := by_keep hg1 (heap_keep ((Grew.rf w).al (.cells #[.string s] 9)) HT.out.cells) hap2; have hc1 := cell_of_heap (i := 0) hcp1 rfl; have hf1 := frozen_of_heap (i := 0) hcp1)
  have hg1 : (w.alloc (.cells #[.string s] 9)).grownBy w1 (Value.slice A ts.length c).ownBlock := hg1
  have hat1 : (Value.slice A1 (ts.length + 1) c1).ownBlock = (Value.slice A ts.length c).ownBlock ∨ (Value.slice A1 (ts.length + 1) c1).ownBlock = some (w.heap.size + 1) := by
    have h := hat1
    rw [World.size_alloc] at h
    exact h
  have hcp2 := setCell_heap_same hcp1 (i := 0) (.slice A1 (ts.length + 1) c1)
  simp only [Array.setIfInBounds, List.size_toArray] at hcp2
  have hap4 : (Value.slice A1 (ts.length + 1) c1).ownBlock ≠ some p := fun e => by
    rcases hat1 with h | h
    · rw [h] at e; exact hap2 e
    · rw [h] at e; cases e; omega
  have hmb := HT.out.map.lt
  have hM1 : MapT w1 mb ts := (HT.out.map.keep ((Grew.rf w).al _)).kept hg1 (fun e => hap3 e.symm)
  have hM2 : MapT (w1.setCell ⟨p, 0, none⟩ (.slice A1 (ts.length + 1) c1)) mb ts := hM1.kept (setCell_by _ _ _) (by simp; exact hap1)
  have hO2 : OwnV 9 1 (w1.setCell ⟨p, 0, none⟩ (.slice A1 (ts.length + 1) c1)) 0 (.slice A1 (ts.length + 1) c1) (ts.length + 1) (ts.map Value.string ++ [Value.string s]) := ho1.kept (setCell_by _ _ _) (fun b hb he => by cases hb; exact hap4 he)
  have hC2 : Chg (ftp p (.slice A ts.length c) mb) w (w1.setCell ⟨p, 0, none⟩ (.slice A1 (ts.length + 1) c1)) :=
    Chg.tr (Chg.tr (Chg.of ((Grew.rf w).al (.cells #[.string s] 9))) (Chg.ofBy hg1 (fun b hb => .inl (.inr (.inr hb))))) (Chg.ofBy (setCell_by _ _ _) (fun b hb => by cases hb; exact .inl (.inl rfl)))
  have hF2 : ∀ k, ftp p (.slice A1 (ts.length + 1) c1) mb k → ftp p (.slice A ts.length c) mb k ∨ w.heap.size ≤ k := by
    rintro k (rfl | rfl | hk)
    · exact .inl (.inl rfl)
    · exact .inl (.inr (.inl rfl))
    · rcases hat1 with h | h
      · rw [h] at hk; exact .inl (.inr (.inr hk))
      · rw [h] at hk; cases hk; exact .inr (by omega)
  have hs2 : w.heap.size + 1 ≤ (w1.setCell ⟨p, 0, none⟩ (.slice A1 (ts.length + 1) c1)).heap.size := by rw [setCell_size]; have := hg1.size; simp at this; exact this
  obtain ⟨w2, hw2⟩ : ∃ w2, w1.setCell ⟨p, 0, none⟩ (.slice A1 (ts.length + 1) c1) = w2 := ⟨_, rfl⟩
  rw [hw2] at hcp2 hM2 hO2 hC2 hs2 ⊢
  have hcpa : w2.heap[p]? = some (.cells #[.slice A1 (ts.length + 1) c1, .map (some mb)] 117) := hcp2
  have hca := cell_of_heap (i := 0) hcpa rfl
  have hcb := cell_of_heap (i := 1) hcpa rfl
  simp only [List.getElem_toArray, List.getElem_cons_zero, List.getElem_cons_succ] at hca hcb
  have hln : ts.length ≤ 1000000 := by omega
  clear hw2 hcp2 hcp1 hc0 hc1 hf1 hM1 hrl hr1 ho1 hTl hg1 hat1
  refine region_split 11 [[], [(0, 14)], [(1, 15)], [(2, 16)], [], [], [(5, 19)], [(6, 20)], [(7, 21)], [(8, 22)], [(9, 23)], [(0, 14), (1, 15), (2, 16), (3, 17), (4, 18), (5, 19), (6, 20), (7, 21), (8, 22), (9, 23), (10, 24)]] [(0, 14), (1, 15), (2, 16), (3, 17), (4, 18), (5, 19), (6, 20), (7, 21), (8, 22), (9, 23), (10, 24)] (fun
    | 0 => .eqv (.pointer (some ⟨p, 0, none⟩)) | 1 => .eqv (.pointer (some ⟨p, 0, none⟩)) | 2 => .eqv (.pointer (some ⟨p, 1, none⟩)) | 3 => .eqv (.map (some mb)) | 4 => .eqv (.string s) | 5 => .eqv (.pointer (some ⟨p, 0, none⟩)) | 6 => .eqv (.pointer (some ⟨p, 0, none⟩)) | 7 => .eqv (.pointer (some ⟨p, 0, none⟩)) | 8 => .eqv (.slice A1 (ts.length + 1) c1) | 9 => .eqv (.int .i64 ((ts.length : Int) + 1)) | 10 => .eqv (.int .u64 ((ts.length : Int) + 1)) | _ => .any) (by kernel_rfl) ?_ ?_
  · refine ⟨fun u hu => ?_, fun u hu => ?_, fun u hu => ?_, fun u hu => ?_, fun u hu => ?_, fun u hu => ?_, fun u hu => ?_, fun u hu => ?_, fun u hu => ?_, fun u hu => ?_, fun u hu => ?_, trivial⟩
    · refine StepGoal.nil ?_
      go_wp2
      exact ⟨rfl, rfl, Grew.rf _, rfl⟩
    · rintro _ rfl
      refine StepGoal.nil ?_
      simp only [Act.put, List.setIfInBounds_toArray, List.set_cons_zero, List.set_cons_succ]
      go_wp2
      exact ⟨rfl, rfl, Grew.rf _, rfl⟩
    · rintro _ rfl
      refine StepGoal.nil ?_
      simp only [Act.put, List.setIfInBounds_toArray, List.set_cons_zero, List.set_cons_succ]
      go_wp2
      exact ⟨rfl, rfl, Grew.rf _, rfl⟩
    · rintro _ rfl
      have hcb' := hu.ce hcb
      refine StepGoal.nil ?_
      simp only [Act.put, List.setIfInBounds_toArray, List.set_cons_zero, List.set_cons_succ]
      go_wp2
      exact ⟨rfl, rfl, Grew.rf _, rfl⟩
    · refine StepGoal.nil ?_
      go_wp2
      exact ⟨rfl, rfl, Grew.rf _, rfl⟩
    · refine StepGoal.nil ?_
      go_wp2
      exact ⟨rfl, rfl, Grew.rf _, rfl⟩
    · rintro _ rfl
      refine StepGoal.nil ?_
      simp only [Act.put, List.setIfInBounds_toArray, List.set_cons_zero, List.set_cons_succ]
      go_wp2
      exact ⟨rfl, rfl, Grew.rf _, rfl⟩
    · rintro _ rfl
      refine StepGoal.nil ?_
      simp only [Act.put, List.setIfInBounds_toArray, List.set_cons_zero, List.set_cons_succ]
      go_wp2
      exact ⟨rfl, rfl, Grew.rf _, rfl⟩
    · rintro _ rfl
      have hca' := hu.ce hca
      refine StepGoal.nil ?_
      simp only [Act.put, List.setIfInBounds_toArray, List.set_cons_zero, List.set_cons_succ]
      go_wp2
      exact ⟨rfl, rfl, Grew.rf _, rfl⟩
    · rintro _ rfl
      refine StepGoal.nil ?_
      simp only [Act.put, List.setIfInBounds_toArray, List.set_cons_zero, List.set_cons_succ]
      go_wp2
      exact ⟨rfl, rfl, Grew.rf _, rfl⟩
    · rintro _ rfl
      refine StepGoal.nil ?_
      simp only [Act.put, List.setIfInBounds_toArray, List.set_cons_zero, List.set_cons_succ]
      go_wp2
      exact ⟨rfl, rfl, Grew.rf _, rfl⟩
  · intro u hu
    rintro _ rfl _ rfl _ rfl _ rfl _ rfl _ rfl _ rfl _ rfl _ rfl _ rfl _ rfl
    refine StepGoal.nil ?_
    simp only [Act.put, List.setIfInBounds_toArray, List.set_cons_zero, List.set_cons_succ]; simp only [List.drop_succ_cons, List.drop_zero]
    have hMu := hM2.keep hu
    have hC3 : Chg (ftp p (.slice A ts.length c) mb) w u := hC2.tr (Chg.of hu)
    have hOu := hO2.keep hu
    have hpu := heap_keep hu hcpa
    refine upd_num rfl rfl rfl rfl rfl (by omega) (by omega) hMu hz ?_
    intro w3 hM3 hg3
    go_wp2
    go_end0
    have hap5 : (Value.slice A1 (ts.length + 1) c1).ownBlock ≠ some mb := fun e => by
      rcases hF2 mb (.inr (.inr e)) with h | h
      · obtain ⟨es, cl, hm⟩ := hMu.isMap
        obtain ⟨cur, hc⟩ := hOu.block e
        rw [hm] at hc; cases hc
      · omega
    refine ⟨rfl, _, ⟨by_keep hg3 hpu (by simp; exact hap1), ?_, hM3, by simp; omega, ?_⟩, hC3.tr (Chg.ofBy hg3 (fun b hb => by cases hb; exact .inl (.inr (.inl rfl)))), hF2⟩
    · have := hOu.kept hg3 (fun b hb he => by cases hb; exact hap5 he)
      show OwnV _ 1 w3 0 _ (ts ++ [s]).length ((ts ++ [s]).map Value.string)
      rw [List.map_append, List.length_append]
      exact this
    · intro t ht
      rcases List.mem_append.1 ht with h | h
      · exact HT.out.size t h
      · rw [List.mem_singleton] at h; subst h; exact hs

theorem tlen_any (p : Nat) (lv : Value) (mb : Nat) (ts : List ByteArray) (w : World) (hT : TabI w p lv mb ts) :
    Calls Try.prog 25 #[.pointer (some ⟨p, 0, none⟩)] w fun e w' => e = .returned (.int .i64 (ts.length : Int)) ∧ w = w' := by
  obtain ⟨A, c, rfl, hnc, hc, hrl⟩ := hT.list.rd
  have hc0 : w.cell? ⟨p, 0, none⟩ = some (.slice A ts.length c) := cell_of_heap (i := 0) hT.cells rfl
  clear hT
  go_enter Try.func25, Try.ntmps25
  go_wp2
  go_ret
  exact ⟨rfl, rfl⟩
theorem tlen_none (w : World) : Calls Try.prog 25 #[.pointer none] w fun e w' => e = .returned (.int .i64 0) ∧ w = w' := by
  go_enter Try.func25, Try.ntmps25
  go_wp2
  go_ret
  exact ⟨rfl, rfl⟩
theorem tnew_any (w : World) : Calls Try.prog 21 #[] w fun e w' => ∃ p mb, e = .returned (.pointer (some ⟨p, 0, none⟩)) ∧ TabI w' p (.slice none 0 0) mb [] ∧ Grew w w' ∧ w.heap.size ≤ p ∧ w.heap.size ≤ mb := by
  have hmk := fun w => run_makeMap (P := Try.prog) 115 w
  go_enter Try.func21, Try.ntmps21
  go_wp2
  go_ret
  refine ⟨_, _, rfl, ⟨?_, OwnV.nil _ _ _ _, (MapT.made w).keep ((Grew.rf _).al _), by simp, by simp⟩, ((Grew.rf w).al _).al _, by simp, Nat.le_refl _⟩
  have h := heap_alloc_new (w.alloc (.map #[] 0)) (.cells #[.slice none 0 0, .map (some w.heap.size)] 117)
  rw [World.size_alloc] at h
  exact h
end Go.Proofs.Ytbkcpgaicoagfaa
set_option linter.unusedVariables false
set_option linter.unusedSimpArgs false
namespace Go.Proofs.Ytbkcpgaicoagfaa
open Go.RowKit

theorem wrap64_id {n : Int} (h0 : -9223372036854775808 ≤ n) (h1 : n < 9223372036854775808) : wrap64 n = n := by unfold wrap64; omega
def bt (t : ByteArray) (i : Nat) : Int := if h : i < t.size then ((t[i]'h).toNat : Int) else 0
theorem bt_at (t : ByteArray) (i : Nat) (h : i < t.size) : ((t[i]'h).toNat : Int) = bt t i := by simp [bt, h]

def lenTab : ByteArray := ⟨#[0, 1, 2, 2, 3, 3, 3, 3, 4, 4, 4, 4, 4, 4, 4, 4, 5, 5, 5, 5, 5, 5, 5, 5, 5, 5, 5, 5, 5, 5, 5, 5, 6, 6, 6, 6, 6, 6, 6, 6, 6, 6, 6, 6, 6, 6, 6, 6, 6, 6, 6, 6, 6, 6, 6, 6, 6, 6, 6, 6, 6, 6, 6, 6, 7, 7, 7, 7, 7, 7, 7, 7, 7, 7, 7, 7, 7, 7, 7, 7, 7, 7, 7, 7, 7, 7, 7, 7, 7, 7, 7, 7, 7, 7, 7, 7, 7, 7, 7, 7, 7, 7, 7, 7, 7, 7, 7, 7, 7, 7, 7, 7, 7, 7, 7, 7, 7, 7, 7, 7, 7, 7, 7, 7, 7, 7, 7, 7, 8, 8, 8, 8, 8, 8, 8, 8, 8, 8, 8, 8, 8, 8, 8, 8, 8, 8, 8, 8, 8, 8, 8, 8, 8, 8, 8, 8, 8, 8, 8, 8, 8, 8, 8, 8, 8, 8, 8, 8, 8, 8, 8, 8, 8, 8, 8, 8, 8, 8, 8, 8, 8, 8, 8, 8, 8, 8, 8, 8, 8, 8, 8, 8, 8, 8, 8, 8, 8, 8, 8, 8, 8, 8, 8, 8, 8, 8, 8, 8, 8, 8, 8, 8, 8, 8, 8, 8, 8, 8, 8, 8, 8, 8, 8, 8, 8, 8, 8, 8, 8, 8, 8, 8, 8, 8, 8, 8, 8, 8, 8, 8, 8, 8, 8, 8, 8, 8, 8, 8, 8, 8, 8, 8, 8, 8, 8, 8]⟩
theorem lenTab_ok : ∀ k : Nat, k < 256 → bt lenTab k = blenF 8 k := by decide +kernel
theorem lenTab_at {u : Int} (h0 : 0 ≤ u) (h1 : u < 256) : bt lenTab u.toNat = blenF 8 u := by
  have := lenTab_ok u.toNat (by omega)
  rwa [Int.toNat_of_nonneg h0] at this

set_option maxRecDepth 100000 in
set_option maxHeartbeats 1600000 in
theorem len64_any (v : Int) (w : World) (h0 : 0 ≤ v) (h1 : v < 18446744073709551616) :
    Calls Try.prog 80 #[.int .u64 v] w fun e w' => e = .returned (.int .i64 (blenF 64 v)) ∧ w = w' := by
  by_cases c1 : v < 4294967296
  · by_cases c2 : v < 65536
    · by_cases c3 : v < 256
      · rw [blen_8 c3]
        have d0 : 0 ≤ v := by omega
        have d1 : v < 256 := by omega
        go_enter Try.func80, Try.ntmps80
        go_wp2
        go_ret
        refine ⟨congrArg (fun z => Ending.returned (Value.int .i64 z)) ?_, rfl⟩
        have e1 := lenTab_at d0 d1
        unfold lenTab at e1
        simp only [bt_at]
        rw [e1]
        have b0 := blenF_nonneg 8 (v)
        have b1 := blenF_le_fuel 8 (v)
        simp only [wrap64]
        omega
      · rw [blen_16 c2, blenF_8 8 (by omega)]
        have d0 : 0 ≤ v / 256 := by omega
        have d1 : v / 256 < 256 := by omega
        go_enter Try.func80, Try.ntmps80
        go_wp2
        go_ret
        refine ⟨congrArg (fun z => Ending.returned (Value.int .i64 z)) ?_, rfl⟩
        have e1 := lenTab_at d0 d1
        unfold lenTab at e1
        simp only [bt_at]
        rw [e1]
        have b0 := blenF_nonneg 8 (v / 256)
        have b1 := blenF_le_fuel 8 (v / 256)
        simp only [wrap64]
        omega
    · by_cases c3 : v / 65536 < 256
      · rw [blen_32 c1, blenF_16 16 (by omega), blen_16_8 c3]
        have d0 : 0 ≤ v / 65536 := by omega
        have d1 : v / 65536 < 256 := by omega
        go_enter Try.func80, Try.ntmps80
        go_wp2
        go_ret
        refine ⟨congrArg (fun z => Ending.returned (Value.int .i64 z)) ?_, rfl⟩
        have e1 := lenTab_at d0 d1
        unfold lenTab at e1
        simp only [bt_at]
        rw [e1]
        have b0 := blenF_nonneg 8 (v / 65536)
        have b1 := blenF_le_fuel 8 (v / 65536)
        simp only [wrap64]
        omega
      · rw [blen_32 c1, blenF_16 16 (by omega), blenF_8 8 (by omega)]
        have d0 : 0 ≤ v / 65536 / 256 := by omega
        have d1 : v / 65536 / 256 < 256 := by omega
        go_enter Try.func80, Try.ntmps80
        go_wp2
        go_ret
        refine ⟨congrArg (fun z => Ending.returned (Value.int .i64 z)) ?_, rfl⟩
        have e1 := lenTab_at d0 d1
        unfold lenTab at e1
        simp only [bt_at]
        rw [e1]
        have b0 := blenF_nonneg 8 (v / 65536 / 256)
        have b1 := blenF_le_fuel 8 (v / 65536 / 256)
        simp only [wrap64]
        omega
  · by_cases c2 : v / 4294967296 < 65536
    · by_cases c3 : v / 4294967296 < 256
      · rw [blenF_32 32 (by omega), blen_32_16 c2, blen_16_8 c3]
        have d0 : 0 ≤ v / 4294967296 := by omega
        have d1 : v / 4294967296 < 256 := by omega
        go_enter Try.func80, Try.ntmps80
        go_wp2
        go_ret
        refine ⟨congrArg (fun z => Ending.returned (Value.int .i64 z)) ?_, rfl⟩
        have e1 := lenTab_at d0 d1
        unfold lenTab at e1
        simp only [bt_at]
        rw [e1]
        have b0 := blenF_nonneg 8 (v / 4294967296)
        have b1 := blenF_le_fuel 8 (v / 4294967296)
        simp only [wrap64]
        omega
      · rw [blenF_32 32 (by omega), blen_32_16 c2, blenF_8 8 (by omega)]
        have d0 : 0 ≤ v / 4294967296 / 256 := by omega
        have d1 : v / 4294967296 / 256 < 256 := by omega
        go_enter Try.func80, Try.ntmps80
        go_wp2
        go_ret
        refine ⟨congrArg (fun z => Ending.returned (Value.int .i64 z)) ?_, rfl⟩
        have e1 := lenTab_at d0 d1
        unfold lenTab at e1
        simp only [bt_at]
        rw [e1]
        have b0 := blenF_nonneg 8 (v / 4294967296 / 256)
        have b1 := blenF_le_fuel 8 (v / 4294967296 / 256)
        simp only [wrap64]
        omega
    · by_cases c3 : v / 4294967296 / 65536 < 256
      · rw [blenF_32 32 (by omega), blenF_16 16 (by omega), blen_16_8 c3]
        have d0 : 0 ≤ v / 4294967296 / 65536 := by omega
        have d1 : v / 4294967296 / 65536 < 256 := by omega
        go_enter Try.func80, Try.ntmps80
        go_wp2
        go_ret
        refine ⟨congrArg (fun z => Ending.returned (Value.int .i64 z)) ?_, rfl⟩
        have e1 := lenTab_at d0 d1
        unfold lenTab at e1
        simp only [bt_at]
        rw [e1]
        have b0 := blenF_nonneg 8 (v / 4294967296 / 65536)
        have b1 := blenF_le_fuel 8 (v / 4294967296 / 65536)
        simp only [wrap64]
        omega
      · rw [blenF_32 32 (by omega), blenF_16 16 (by omega), blenF_8 8 (by omega)]
        have d0 : 0 ≤ v / 4294967296 / 65536 / 256 := by omega
        have d1 : v / 4294967296 / 65536 / 256 < 256 := by omega
        go_enter Try.func80, Try.ntmps80
        go_wp2
        go_ret
        refine ⟨congrArg (fun z => Ending.returned (Value.int .i64 z)) ?_, rfl⟩
        have e1 := lenTab_at d0 d1
        unfold lenTab at e1
        simp only [bt_at]
        rw [e1]
        have b0 := blenF_nonneg 8 (v / 4294967296 / 65536 / 256)
        have b1 := blenF_le_fuel 8 (v / 4294967296 / 65536 / 256)
        simp only [wrap64]
        omega
end Go.Proofs.Ytbkcpgaicoagfaa
set_option linter.unusedVariables false
set_option linter.unusedSimpArgs false
namespace Go.Proofs.Ytbkcpgaicoagfaa
open Go.RowKit

set_option maxHeartbeats 400000 in
theorem bytes_any (v : Int) (w : World) (h0 : 0 ≤ v) (hc : v < 18446744073709551616) :
    Calls Try.prog 48 #[.int .u64 v] w fun e w' => ∃ u, e = .returned u ∧ Own w' w.heap.size u (leb v) ∧ Grew w w' := by
  have HS := LebAt.start h0 hc
  go_enter Try.func48, Try.ntmps48
  go_wp2
  go_loopw [0, 3] (fun n out wr => ∃ (n' : Int) (xs : List Int), n = .int .u64 n' ∧ 0 ≤ n' ∧ n' < 18446744073709551616 ∧ LebAt v xs n' ∧ Own wr w.heap.size out xs ∧ Grew w wr) (fun n _ _ => (intOf n).toNat)
  case atStart => exact ⟨v, [], rfl, h0, hc, HS, own_lit0 w, (Grew.rf w).al _⟩
  case round =>
    obtain ⟨n', xs, rfl, hn0, hn1, HL, HO, HB⟩ := hrel
    have hx := HL.len
    have hsz := HB.size
    by_cases hlt : n' < 128
    · go_wp2_with (at_builtin; refine app1 rfl rfl rfl rfl HO HB hsz (by omega) ?_; intro v1 w1 HO1 HB1 _)
      go_ret
      exact ⟨v1, rfl, by rw [HL.fin hlt]; exact HO1, HB1⟩
    · have hs := HL.step (by omega)
      go_wp2_with (at_builtin; refine app1 rfl rfl rfl rfl HO HB hsz (by omega) ?_; intro v1 w1 HO1 HB1 _)
      go_roundw
      case rel => exact ⟨_, _, rfl, by omega, by omega, hs, HO1, HB1⟩
      case measure => simp [intOf]; omega

theorem or_one {v : Int} (h0 : 0 ≤ v) (h1 : v < 18446744073709551616) : bits .or .u64 v 1 = v + (1 - v % 2) := by
  rw [u64_or v 1 h0 h1 (by omega) (by omega)]
  obtain ⟨k, rfl⟩ := Int.eq_ofNat_of_zero_le h0
  have h : k ||| 1 = 2 * (k / 2) + 1 := by
    have h2 := Nat.two_pow_add_eq_or_of_lt (i := 1) (b := 1) (by omega) (k / 2)
    have h3 : k ||| 1 = (2 * (k / 2)) ||| 1 := by
      apply Nat.eq_of_testBit_eq
      intro i
      cases i with
      | zero => simp
      | succ i =>
        rw [Nat.testBit_succ, Nat.testBit_succ]
        congr 1
        rw [Nat.or_div_two, Nat.or_div_two]
        simp
    rw [h3]
    simpa using h2.symm
  simp only [Int.toNat_natCast, Int.toNat_one, h]
  omega
theorem or_128 {u : Int} (h0 : 0 ≤ u) (h1 : u < 256) : bits .or .u8 u 128 = u % 128 + 128 := by
  obtain ⟨k, rfl⟩ := Int.eq_ofNat_of_zero_le h0
  have hk : k < 256 := by omega
  clear h0 h1
  revert k
  decide +kernel

set_option maxHeartbeats 400000 in
theorem size_any (v : Int) (w : World) (h0 : 0 ≤ v) (h1 : v < 18446744073709551616) :
    Calls Try.prog 74 #[.int .u64 v] w fun e w' => e = .returned (.int .i64 (leb v).length) ∧ w = w' := by
  have hs := leb_size h0 h1
  have ha := blenF_nonneg 64 (v + (1 - v % 2))
  have hb := blenF_le_fuel 64 (v + (1 - v % 2))
  rw [← hs]
  clear hs
  have e1 := or_one h0 h1
  have hc := fun w => len64_any (v + (1 - v % 2)) w (by omega) (by omega)
  generalize blenF 64 (v + (1 - v % 2)) = L at *
  have HC := Lib.hid hc
  clear hc
  go_enter Try.func74, Try.ntmps74
  go_wp2_with (go_at_call 80; refine (HC.out _).mono ?_; rintro e w' ⟨rfl, rfl⟩)
  go_ret
  exact ⟨congrArg (fun z => Ending.returned (Value.int .i64 z)) (by omega), rfl⟩

set_option maxHeartbeats 400000 in
theorem put_any (A : Option Addr) (n c : Nat) (bs : List Int) (v : Int) (w : World) (hr : Rd w A n bs) (hn : n ≤ 140737488355000) (h0 : 0 ≤ v) (h1 : v < 18446744073709551616) :
    Calls Try.prog 41 #[.slice A n c, .int .u64 v] w fun e w' => ∃ u, e = .returned u ∧ Own w' w.heap.size u (bs ++ leb v) ∧ Grew w w' := by
  have HS := LebAt.start h0 h1
  have hl := leb_len h0
  have hc := fun w => size_any v w h0 h1
  have HC := Lib.hid hc
  clear hc
  generalize (leb v).length = L at *
  go_enter Try.func41, Try.ntmps41
  go_wp2_with (first | (go_at_call 74; refine (HC.out _).mono ?_; rintro e w' ⟨rfl, rfl⟩) | (at_make; refine mkrow rfl rfl rfl rfl (n := n) (cp := n + L) rfl (by omega) (by omega) (by omega) (Grew.rf w) (Nat.le_refl _) ?_; intro g w1 HO1 HB1 hb1 hg1 _ HG1) | ((with_reducible refine gate_b .copy #[.tmp 14, .tmp 15] _ rfl ?_); refine cpy rfl rfl rfl rfl HO1 (hr.keep HG1) (Nat.le_refl _) HB1 hb1 ?_; intro w2 HO2 HB2 hb2 _ _))
  rw [List.drop_of_length_le (by simp), List.append_nil] at HO2
  go_frame
  go_loopw [1, 5] (fun n out wr => ∃ (n' : Int) (xs : List Int), n = .int .u64 n' ∧ 0 ≤ n' ∧ n' < 18446744073709551616 ∧ LebAt v xs n' ∧ Own wr w.heap.size out (bs ++ xs) ∧ Grew w wr) (fun n _ _ => (intOf n).toNat)
  case atStart => exact ⟨v, [], rfl, h0, h1, HS, by simpa using HO2, HB2⟩
  case round =>
    obtain ⟨n', xs, rfl, hn0, hn1, HL, HO, HB⟩ := hrel
    have hx := HL.len
    have hsz := HB.size
    have hbl := hr.len
    have o1 := or_128 (u := n' % 256) (by omega) (by omega)
    by_cases hlt : n' < 128
    · go_wp2_with (at_builtin; refine app1 rfl rfl rfl rfl HO HB hsz (by simp; omega) ?_; intro v1 w3 HO3 HB3 _)
      go_ret
      exact ⟨v1, rfl, by rw [HL.fin hlt, ← List.append_assoc]; exact HO3, HB3⟩
    · have hs := HL.step (by omega)
      go_wp2_with (at_builtin; refine app1 rfl rfl rfl rfl HO HB hsz (by simp; omega) ?_; intro v1 w3 HO3 HB3 _)
      go_roundw
      case rel => exact ⟨_, _, rfl, by omega, by omega, hs, by rw [← List.append_assoc]; exact HO3, HB3⟩
      case measure => simp [intOf]; omega

theorem or_shl {ac d : Int} {k : Nat} (h0 : 0 ≤ ac) (h1 : ac < 128 ^ k) (d0 : 0 ≤ d) (hlt : ac + d * 128 ^ k < 18446744073709551616) :
    bits .or .u64 ac (IntKind.u64.wrap (d * 2 ^ (7 * k))) = ac + d * 128 ^ k := by
  have hp : (2 : Int) ^ (7 * k) = 128 ^ k := by rw [Int.pow_mul]; rfl
  obtain ⟨a, rfl⟩ := Int.eq_ofNat_of_zero_le h0
  obtain ⟨e, rfl⟩ := Int.eq_ofNat_of_zero_le d0
  have hn : ((128 ^ k : Nat) : Int) = 128 ^ k := by push_cast; rfl
  rw [hp, ← hn] at *
  have hlt' : a + e * 128 ^ k < 18446744073709551616 := by
    have h5 : ((a + e * 128 ^ k : Nat) : Int) < 18446744073709551616 := by rw [Int.natCast_add, Int.natCast_mul]; exact hlt
    omega
  have h1' : a < 128 ^ k := Int.ofNat_lt.1 h1
  have e1 : IntKind.u64.wrap ((e : Int) * ((128 ^ k : Nat) : Int)) = ((e * 128 ^ k : Nat) : Int) := by
    rw [IntKind.wrap_u64, ← Int.natCast_mul]
    omega
  rw [e1, u64_or_nat _ _ (by omega) (by omega)]
  have h3 := Nat.two_pow_add_eq_or_of_lt (i := 7 * k) (b := a) (by rw [Nat.pow_mul]; exact h1') e
  have h4 : 2 ^ (7 * k) * e = e * 128 ^ k := by rw [Nat.pow_mul, Nat.mul_comm]
  rw [h4] at h3
  rw [Nat.or_comm, ← h3]
  push_cast
  omega

set_option maxHeartbeats 1600000 in
theorem take_any (A : Option Addr) (n c : Nat) (bs : List Int) (at_ : Int) (w : World) (hr : Rd w A n bs) (hb : ∀ x ∈ bs, 0 ≤ x ∧ x ≤ 255) (hnc : n ≤ c) (hn : n ≤ 9223372036854775807) (h0 : -9223372036854775808 ≤ at_) (h1 : at_ ≤ 9223372036854775807) :
    Calls Try.prog 59 #[.slice A n c, .int .i64 at_] w fun e w' => e = .returned (.tuple #[.int .u64 (lebTake bs at_).1, .int .i64 (lebTake bs at_).2.1, .int .i64 (lebTake bs at_).2.2]) ∧ w = w' := by
  by_cases c0 : at_ < 0
  · have e : lebTake bs at_ = (0, 0, 1) := by unfold lebTake; rw [if_pos c0]
    rw [e]
    go_enter Try.func59, Try.ntmps59
    go_wp2
    go_ret3
    exact ⟨rfl, rfl⟩
  · by_cases c1 : (n : Int) < at_
    · have e : lebTake bs at_ = (0, 0, 1) := by unfold lebTake; rw [if_neg c0, hr.len, if_pos c1]
      rw [e]
      go_enter Try.func59, Try.ntmps59
      go_wp2
      go_ret3
      exact ⟨rfl, rfl⟩
    · obtain ⟨i, rfl⟩ := Int.eq_ofNat_of_zero_le (by omega : 0 ≤ at_)
      obtain ⟨A1, hcut, hA1⟩ := cut_lo (kl := .i64) A n c i (by omega) hnc
      have hd := hA1 hr
      have hbd : ∀ x ∈ bs.drop i, 0 ≤ x ∧ x ≤ 255 := fun x hx => hb x (List.mem_of_mem_drop hx)
      have e : lebTake bs (i : Int) = (let r := tkF 0 0 (bs.drop i); if r.2.2 = 0 then (r.1, (i : Int) + r.2.1, 0) else (0, 0, r.2.2)) := by
        unfold lebTake
        rw [if_neg c0, hr.len, if_neg c1, Int.toNat_natCast]
      rw [e]
      clear hb hA1 e
      generalize bs.drop i = ds at *
      obtain ⟨R, hR⟩ : ∃ R, (let r := tkF 0 0 ds; if r.2.2 = 0 then (r.1, (i : Int) + r.2.1, 0) else (0, 0, r.2.2)) = R := ⟨_, rfl⟩
      rw [hR]
      have HR := Lib.hid hR
      clear hR
      go_enter Try.func59, Try.ntmps59
      go_wp2
      go_loop [4, 7, 8, 21] (fun acc t7 t8 idx => ∃ (k : Nat) (ac : Int), acc = .int .u64 ac ∧ idx = .int .i64 k ∧ k ≤ n - i ∧ TkAt ds k ac) (fun _ _ _ idx => n - i - (intOf idx).toNat)
      case atStart => exact ⟨0, 0, rfl, rfl, by omega, TkAt.start ds⟩
      case round =>
        obtain ⟨k, ac, rfl, rfl, hk, hT⟩ := hrel
        by_cases hlt : k < n - i
        · obtain ⟨b, o, rfl, hcell⟩ := hd.at_ hlt
          have hxb := tk_byte hbd (k := k) (by rw [hd.len]; exact hlt)
          obtain ⟨x, hx⟩ : ∃ x, ds.getD k 0 = x := ⟨_, rfl⟩
          rw [hx] at hcell hxb
          have h9 : k ≤ 9 := hT.2.1
          have a0 := hT.2.2.1
          have a1 : ac < 9223372036854775808 := hT.lt
          have hkl : k < ds.length := by rw [hd.len]; exact hlt
          by_cases c9 : k = 9 ∧ 1 < x
          · obtain ⟨rfl, c1x⟩ := c9
            have e := HR.out
            rw [hT.stop9 hkl (by rw [hx]; exact c1x)] at e
            simp at e
            subst e
            clear HR hT hx
            go_wp2
            go_ret3
            exact ⟨rfl, rfl⟩
          · have hfit : x < 128 → ac + x * 128 ^ k < 18446744073709551616 := fun h => hT.fits hxb.1 h c9
            by_cases c128 : 128 ≤ x
            · have HT := hT.more (by rw [hx]; exact c128) (by rw [hx]; exact hxb.2) (by omega) hkl
              have ho := or_shl (d := x - 128) hT.2.2.1 hT.2.2.2 (by omega) (hT.fits (by omega) (by omega) (by omega))
              have HO := Lib.hid ho
              clear ho
              rw [hx] at HT
              clear hx hfit
              have c9' : ¬ k = 9 := by omega
              go_wp2
              go_round
              case rel => exact ⟨k + 1, _, by rw [HO.out], by go_num, by omega, HT⟩
              case measure => simp [intOf]; omega
            · have hfit := hfit (by omega)
              by_cases c00 : x = 0 ∧ 0 < k
              · obtain ⟨rfl, ck⟩ := c00
                have e := HR.out
                rw [hT.stop0 hkl hx ck] at e
                simp at e
                subst e
                clear HR hT hx
                by_cases k9 : k = 9
                · subst k9
                  go_wp2
                  go_ret3
                  exact ⟨rfl, rfl⟩
                · go_wp2
                  go_ret3
                  exact ⟨rfl, rfl⟩
              · have e := HR.out
                rw [hT.done hkl (by rw [hx]; omega) (by rw [hx]; exact c9) (by rw [hx]; exact c00)] at e
                simp only [if_true] at e
                have ho := or_shl hT.2.2.1 hT.2.2.2 hxb.1 hfit
                have HO := Lib.hid ho
                clear ho
                rw [hx] at e
                subst e
                clear HR hx
                by_cases k9 : k = 9
                · subst k9
                  have x1 : x = 1 := by omega
                  subst x1
                  have ho := HO.out
                  simp [IntKind.wrap_u64] at ho
                  have HO2 := Lib.hid ho
                  clear ho HO hfit hT
                  go_wp2
                  go_ret3
                  exact ⟨ret3 (by simpa using HO2.out) (by first | omega | (simp; omega)) rfl, rfl⟩
                · by_cases x0 : x = 0
                  · subst x0
                    have k0 : k = 0 := by omega
                    subst k0
                    have ho := HO.out
                    simp [IntKind.wrap_u64] at ho
                    have HO2 := Lib.hid ho
                    clear ho HO hfit hT
                    rw [Nat.add_zero] at hcell
                    go_wp2
                    go_ret3
                    exact ⟨ret3 (by simpa using HO2.out) (by first | omega | (simp; omega)) rfl, rfl⟩
                  · go_wp2
                    go_ret3
                    exact ⟨ret3 HO.out (by first | omega | (simp; omega)) rfl, rfl⟩
        · have hke : k = n - i := by omega
          have e := HR.out
          rw [hT.short (by rw [hd.len]; exact hke)] at e
          simp at e
          subst e
          clear HR
          go_wp2
          go_ret3
          exact ⟨rfl, rfl⟩

end Go.Proofs.Ytbkcpgaicoagfaa
