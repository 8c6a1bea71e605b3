/- Drawn regions in which one operation appends to a row that the call has had ahead of the region. -/
import Derived.Test.YtbkcpgaicoagfaaEg6
import Derived.Test.YtbkcpgaicoagfaaRegExt
set_option linter.unusedVariables false
set_option linter.unusedSimpArgs false
namespace Go.Proofs.Ytbkcpgaicoagfaa
open Go.RowKit

theorem region_ext_po {ops : List Oper} {Q : Exit → Act → World → Prop} {a0 : Act} {w w0 : World} (D : List (List (Nat × Tmp))) (E : List (Nat × Tmp)) (cs : List (Nat × Nat)) (C : List (Option Tmp)) (O : List Nat) (F : Nat → Po w0.heap.size) (first : Nat) (v : Value) (xs : List Int)
    (hO : ((List.range ops.length).all fun i => (F i).own == O.contains i) = true)
    (hok : (regionOk ops.toArray a0.tmps.size (D.map (·.map (·.1))).toArray && pairsOk ops.toArray D && decide (pairsOf ops.toArray (List.range ops.length) = E)) = true)
    (hco : (consOk ops.toArray (D.map (·.map (·.1))).toArray O.contains (consOf cs) && cs.all (fun p => decide (p.1 < ops.length)) && (List.range ops.length).all (fun i => decide (consSlot ops.toArray (consOf cs) i = C.getD i none)) && cs.all (fun p => consOf cs p.1 == some p.2)) = true)
    (hfx0 : ((some first).all fun k => (cs.all fun p => decide (p.1 ≠ k))) = true) (hV : Own w w0.heap.size v xs)
    (hB0 : w0.heap.size ≤ w.heap.size)
    (hsteps : StepsOk3 (fun i => (F i).p) O.contains w (some first) v.ownBlock (fun u => Own u w0.heap.size v xs) Try.prog ops.toArray a0 ops D C 0)
    (hend : ∀ u, w.grownBy u v.ownBlock → StepGoal (lastF (fun i => (F i).p) cs) u (fun a => Q .normal a u) E a0) :
    wpAny Try.prog .any ops.toArray Q ops.toArray.size (Array.replicate ops.toArray.size false) a0 { w with drawn := w.drawn + 1 } :=
  region_ext_any D E O.contains cs C (fun i => (F i).p) (some first) v.ownBlock (fun u => Own u w0.heap.size v xs) hfx0
    (fun u u' row h hg hr => h.kept hg (fun b hb he => hr b hb he)) hV.dr (fun b hb => hV.lt b hb) hok hco
    (fun i hi x u u' row h hg hr => (F i).mono x u u' row h hg (fun b hb => ⟨(by
      rcases (hr b hb).1 with h1 | h1
      · exact hV.base_le b h1
      · omega), fun ho => (hr b hb).2 (by
      have := (List.all_eq_true.1 hO) i (List.mem_range.2 hi)
      rw [beq_iff_eq] at this
      rw [← this]; exact ho)⟩)) hsteps hend
theorem region_ex {ops : List Oper} {Q : Exit → Act → World → Prop} {a0 : Act} {id : Nat} {w w0 : World} (D : List (List (Nat × Tmp))) (E : List (Nat × Tmp)) (cs : List (Nat × Nat)) (C : List (Option Tmp)) (O : List Nat) (F : Nat → Po w0.heap.size) (first : Nat) (v : Value) (xs : List Int)
    (hO : ((List.range ops.length).all fun i => (F i).own == O.contains i) = true)
    (hok : (regionOk ops.toArray a0.tmps.size (D.map (·.map (·.1))).toArray && pairsOk ops.toArray D && decide (pairsOf ops.toArray (List.range ops.length) = E)) = true)
    (hco : (consOk ops.toArray (D.map (·.map (·.1))).toArray O.contains (consOf cs) && cs.all (fun p => decide (p.1 < ops.length)) && (List.range ops.length).all (fun i => decide (consSlot ops.toArray (consOf cs) i = C.getD i none)) && cs.all (fun p => consOf cs p.1 == some p.2)) = true)
    (hfx0 : ((some first).all fun k => (cs.all fun p => decide (p.1 ≠ k))) = true) (hV : Own w w0.heap.size v xs)
    (hB0 : w0.heap.size ≤ w.heap.size)
    (hsteps : StepsOk3 (fun i => (F i).p) O.contains w (some first) v.ownBlock (fun u => Own u w0.heap.size v xs) Try.prog ops.toArray a0 ops D C 0)
    (hend : ∀ u, w.grownBy u v.ownBlock → StepGoal (lastF (fun i => (F i).p) cs) u (fun a => Q .normal a u) E a0) :
    (Code.region id ops.toArray true).wp Try.prog Q a0 w :=
  wp_region_any follows (region_ext_po D E cs C O F first v xs hO hok hco hfx0 hV hB0 hsteps hend)
/-- What lay ahead of the region, but for the row. -/
theorem below_of_row {w0 w u : World} {v : Value} {xs : List Int} {row : Option Nat} (hB : Below w0.heap.size w0 w) (hV : Own w w0.heap.size v xs) (hr : row = v.ownBlock) (h : w.grownBy u row) : Below w0.heap.size w0 u :=
  hB.grown h hB.size (fun k e => hV.base_le k (by rw [← hr]; exact e))
end Go.Proofs.Ytbkcpgaicoagfaa
