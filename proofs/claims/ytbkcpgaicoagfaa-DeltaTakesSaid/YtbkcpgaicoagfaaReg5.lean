/- Drawn regions in a round of a loop over a function: the same as everywhere. -/
import Derived.Test.YtbkcpgaicoagfaaReg3
import Derived.OrdersIn
set_option linter.unusedVariables false
set_option linter.unusedSimpArgs false
namespace Go.Proofs.Ytbkcpgaicoagfaa
open Go.RowKit

def noDefer (ops : Array Oper) : Bool := ops.toList.all fun o => match o.op with | .defer _ => false | _ => true
theorem noDefer_at {ops : Array Oper} (h : noDefer ops = true) {i : Nat} {o : Oper} (ho : ops[i]? = some o) : ∀ c, o.op ≠ .defer c := by
  intro c e
  have := (List.all_eq_true.1 h) o (by
    rw [← Array.getElem?_toList] at ho
    exact List.mem_of_getElem? ho)
  rw [e] at this
  simp at this

theorem operIn_of {l n : Nat} {P : Program} {o : Oper} {Q : Exit → Act → World → Prop} {a : Act} {w : World} {K : Act → World → Prop} (hd : ∀ c, o.op ≠ .defer c) (h : o.wp P a w K Q) : o.wpIn (Fence.wide.inRound l) n P a w K Q := by
  refine ⟨fun f _ => trivial, ?_⟩
  have e : o.semAt (Fence.wide.inRound l).round a.eval = execOp a.eval o := Oper.semAt_eq _ _ _ hd
  rw [e]
  unfold Oper.wp at h
  generalize (execOp a.eval o).run P w = r at *
  cases r with
  | ok x w' =>
    cases x with
    | value v => exact h
    | skip => exact h
    | defer d => exact h
    | enter f args =>
      exact ⟨fun hn => by simp [Fence.inRound, Fence.wide] at hn, (callsIn_wide (n := n - 1)).2 h⟩
    | row row args => exact ⟨fun hn => by simp [Fence.inRound, Fence.wide] at hn, fun c cs _ => by
        obtain ⟨v, w'', r, s⟩ := h c cs
        exact ⟨v, w'', r, stepsIn_wide.2 s⟩⟩
    | round => exact h.elim
    | _ => exact h.elim
  | halt x w' => cases x <;> exact h

theorem wpAnyIn_of {l n : Nat} {P : Program} {ops : Array Oper} {Q : Exit → Act → World → Prop} (hd : noDefer ops = true) (hq : ¬ LetsOut Q) : ∀ (fuel : Nat) (listed : Array Bool) (a : Act) (w : World),
    wpAny P .any ops Q fuel listed a w → wpAnyIn (Fence.wide.inRound l) n P .any ops Q fuel listed a w := by
  intro fuel
  induction fuel with
  | zero => intro listed a w h; exact h
  | succ fuel ih =>
    intro listed a w h
    refine ⟨h.1, fun i hi => ?_⟩
    have h2 := h.2 i hi
    unfold wpOp at h2
    unfold wpOpIn
    split at h2
    · rename_i ho
      simp only [ho]
      exact ih _ _ _ h2
    · rename_i o ho
      simp only [ho]
      split at h2
      · rename_i hw
        rw [if_pos hw]
        rcases h2 with h2 | ⟨_, h2⟩
        · exact Oper.wpIn_mono (fun a w => ih _ a w) (operIn_of (noDefer_at hd ho) h2)
        · exact (hq h2).elim
      · rename_i hw
        rw [if_neg hw]
        exact ⟨fun f _ => trivial, ih _ _ _ h2⟩
/-- region_ow in a round. -/
theorem region_ow_in {l n : Nat} {ops : List Oper} {Q : Exit → Act → World → Prop} {a0 : Act} {id : Nat} {w w0 : World} (hd : noDefer ops.toArray = true) (hq : ¬ LetsOut Q) (D : List (List (Nat × Tmp))) (E : List (Nat × Tmp)) (cs : List (Nat × Nat)) (C : List (Option Tmp)) (O : List Nat) (F : Nat → Po w0.heap.size)
    (hO : ((List.range ops.length).all fun i => (F i).own == O.contains i) = true)
    (hok : (regionOk ops.toArray a0.tmps.size (D.map (·.map (·.1))).toArray && pairsOk ops.toArray D && decide (pairsOf ops.toArray (List.range ops.length) = E)) = true)
    (hco : (consOk ops.toArray (D.map (·.map (·.1))).toArray O.contains (consOf cs) && cs.all (fun p => decide (p.1 < ops.length)) && (List.range ops.length).all (fun i => decide (consSlot ops.toArray (consOf cs) i = C.getD i none)) && cs.all (fun p => consOf cs p.1 == some p.2)) = true)
    (hB0 : Below w0.heap.size w0 w)
    (hsteps : StepsOk2 (fun i => (F i).p) O.contains (consOf cs) w0 Try.prog ops.toArray a0 ops D C 0)
    (hend : ∀ u, Below w0.heap.size w0 u → StepGoal (lastF (fun i => (F i).p) cs) u (fun a => Q .normal a u) E a0) :
    (Code.region id ops.toArray true).wpIn (Fence.wide.inRound l) n Try.prog Q a0 w :=
  wpIn_region_any follows (wpAnyIn_of hd hq _ _ _ _ (region_own_any D E O.contains cs C (fun i => (F i).p) hok hco (fun i hi v u u' row h hg hr => (F i).mono v u u' row h hg (fun b hb => ⟨(hr b hb).1, fun ho => (hr b hb).2 (by
    have := (List.all_eq_true.1 hO) i (List.mem_range.2 hi)
    rw [beq_iff_eq] at this
    rw [← this]; exact ho)⟩)) hB0 hsteps hend))
end Go.Proofs.Ytbkcpgaicoagfaa
