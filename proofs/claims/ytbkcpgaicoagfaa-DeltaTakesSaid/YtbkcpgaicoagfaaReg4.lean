/- Drawn regions in which '[]byte("..")' of a constant marks a row that the region itself has laid. -/
import Derived.Test.YtbkcpgaicoagfaaReg2
set_option linter.unusedVariables false
set_option linter.unusedSimpArgs false
namespace Go.Proofs.Ytbkcpgaicoagfaa
open Go.RowKit

/-- The world has grown; of the blocks from n on the marks may differ. -/
structure Gm (n : Nat) (u u' : World) : Prop where
  low : Below n u u'
  cell : ∀ a v, u.cell? a = some v → u'.cell? a = some v
  blk : ∀ (k : Nat) (C : Array Value) (t : TypeId) (fr : Nat × Nat), u.heap[k]? = some (Obj.cells C t fr) → ∃ fr', u'.heap[k]? = some (Obj.cells C t fr')
theorem Gm.rf (n : Nat) (u : World) : Gm n u u := ⟨Below.refl _ _, fun _ _ h => h, fun _ _ _ fr h => ⟨fr, h⟩⟩
theorem Gm.of {n : Nat} {u u' : World} (h : Grew u u') (hn : n ≤ u.heap.size) : Gm n u u' :=
  ⟨h.mono hn, fun _ _ hc => h.ce hc, fun k C t fr hk => ⟨fr, by rw [h.block k (Array.getElem?_eq_some_iff.1 hk).1]; exact hk⟩⟩
theorem RdK.keepC {k : IntKind} {w w' : World} {A : Option Addr} {n : Nat} {xs : List Int} (h : RdK k w A n xs) (hg : ∀ a v, w.cell? a = some v → w'.cell? a = some v) : RdK k w' A n xs :=
  ⟨h.len, fun hn => by
    obtain ⟨b, o, e, hc⟩ := h.cells hn
    exact ⟨b, o, e, fun j hj => hg _ _ (hc j hj)⟩⟩
structure Pm (n : Nat) where
  p : Value → World → Prop
  mono : ∀ v u u', p v u → Gm n u u' → p v u'
def Pm.any {n : Nat} : Pm n := ⟨fun _ _ => True, fun _ _ _ _ _ => trivial⟩
def Pm.eqv {n : Nat} (v0 : Value) : Pm n := ⟨fun v _ => v = v0, fun _ _ _ h _ => h⟩
def Pm.rd {n : Nat} (xs : List Int) : Pm n := ⟨fun v u => ∃ A m c, v = .slice A m c ∧ m ≤ c ∧ c ≤ 9223372036854775807 ∧ Rd u A m xs, fun _ _ _ ⟨A, m, c, h1, h2, h3, h4⟩ hg => ⟨A, m, c, h1, h2, h3, h4.keepC hg.cell⟩⟩
/-- A literal of bytes whose mark is not told. -/
def Pm.lit {n : Nat} (xs : List Int) : Pm n := ⟨fun v u => ∃ g fr, v = .slice (some ⟨g, 0, none⟩) xs.length xs.length ∧ n ≤ g ∧ u.heap[g]? = some (.cells (nums .u8 xs).toArray 5 fr), fun _ u u' ⟨g, fr, h1, h2, h3⟩ hg => by
  obtain ⟨fr', h4⟩ := hg.blk _ _ _ _ h3
  exact ⟨g, fr', h1, h2, h4⟩⟩
theorem lit_new {n : Nat} {u : World} (xs : List Int) {cs : Array Value} {m g : Nat} (hc : cs = (nums .u8 xs).toArray) (hm : xs.length = m) (hg : u.heap.size = g) (hn : n ≤ u.heap.size) :
    (Pm.lit (n := n) xs).p (.slice (some ⟨g, 0, none⟩) m m) (u.alloc (.cells cs 5)) := by
  subst hc; subst hm; subst hg
  exact ⟨_, (0, 0), rfl, hn, heap_alloc_new u _⟩
theorem lit_rd {n : Nat} {v : Value} {u : World} {xs : List Int} (h : (Pm.lit (n := n) xs).p v u) (hm : xs.length ≤ 9223372036854775807) : (Pm.rd (n := n) xs).p v u := by
  obtain ⟨g, fr, rfl, _, hh⟩ := h
  refine ⟨_, _, _, rfl, Nat.le_refl _, hm, rfl, fun hn => ⟨g, 0, rfl, fun j hj => ?_⟩⟩
  have h1 : (nums .u8 xs)[j]? = some (.int .u8 (xs.getD j 0)) := nums_get _ _ _ hj
  simp [World.cell?, hh, h1]
/-- The conversion of a literal to its own type: a mark, and no more. -/
theorem lit_conv {n : Nat} {v : Value} {u : World} {xs : List Int} (h : (Pm.lit (n := n) xs).p v u) :
    ∃ u', (convert 23 23 v).run Try.prog u = .ok v u' ∧ Gm n u u' ∧ (Pm.lit (n := n) xs).p v u' := by
  obtain ⟨g, ⟨lo, hi⟩, rfl, hng, hh⟩ := h
  have hlt : g < u.heap.size := (Array.getElem?_eq_some_iff.1 hh).1
  have hsh : u.shape? g = some (5, (nums .u8 xs).toArray.size) := by unfold World.shape?; rw [hh]
  have hG : Gm n u (u.freeze ⟨g, (nums .u8 xs).toArray.size, none⟩ 1) := by
    have hb : ∀ k, k ≠ g → (u.freeze ⟨g, (nums .u8 xs).toArray.size, none⟩ 1).heap[k]? = u.heap[k]? := fun k hk => by
      simp [World.freeze, Array.getElem?_modify, Ne.symm hk]
    have hgg : ∃ fr', (u.freeze ⟨g, (nums .u8 xs).toArray.size, none⟩ 1).heap[g]? = some (.cells (nums .u8 xs).toArray 5 fr') := by
      simp [World.freeze, Array.getElem?_modify, hh]
    refine ⟨⟨rfl, rfl, rfl, by simp [World.freeze], fun k hk => hb k (by omega)⟩, fun a x hx => ?_, fun k C t fr hk => ?_⟩
    · by_cases ha : a.block = g
      · obtain ⟨fr', h2⟩ := hgg
        unfold World.cell? at hx ⊢
        rw [ha, hh] at hx
        rw [ha, h2]
        exact hx
      · unfold World.cell? at hx ⊢
        rw [hb _ ha]
        exact hx
    · by_cases ha : k = g
      · subst ha
        rw [hh] at hk
        simp only [Option.some.injEq, Obj.cells.injEq] at hk
        obtain ⟨rfl, rfl, _⟩ := hk
        exact hgg
      · exact ⟨fr, by rw [hb _ ha]; exact hk⟩
  refine ⟨_, ?_, hG, (Pm.lit (n := n) xs).mono _ _ _ ⟨g, (lo, hi), rfl, hng, hh⟩ hG⟩
  simp [convert, run_underlying Try.underlying23, run_underlying Try.underlying5, markStringish, hsh]

theorem region_gm {ops : List Oper} {Q : Exit → Act → World → Prop} {a0 : Act} {id : Nat} {w : World} (D : List (List (Nat × Tmp))) (E : List (Nat × Tmp)) (F : Nat → Pm w.heap.size)
    (hok : (regionOk ops.toArray a0.tmps.size (D.map (·.map (·.1))).toArray && pairsOk ops.toArray D && decide (pairsOf ops.toArray (List.range ops.length) = E)) = true)
    (hsteps : StepsOk (fun i => (F i).p) (Grew w) (Gm w.heap.size) Try.prog ops.toArray a0 ops D 0)
    (hend : ∀ u, Grew w u → StepGoal (fun i => (F i).p) u (fun a => Q .normal a u) E a0) :
    (Code.region id ops.toArray true).wp Try.prog Q a0 w :=
  region_mono D E (fun i => (F i).p) (Grew w) (Gm w.heap.size) follows hok (fun i v u u' h hg => (F i).mono v u u' h hg) (fun u u' h hg => h.trans hg.low) (Grew.rf w).dr hsteps hend
end Go.Proofs.Ytbkcpgaicoagfaa
