/- Drawn regions over a world that only grows; strings of bytes. -/
import Derived.Test.YtcllmhabhbnihaaMem0
import Derived.Test.YtcllmhabhbnihaaRegion
set_option linter.unusedVariables false
set_option linter.unusedSimpArgs false
namespace Go.Proofs.Ytcllmhabhbnihaa
open Go.RowKit

/-- What an operation leaves: a word on its value that stays true while the world grows. -/
structure Pd where
  p : Value → World → Prop
  mono : ∀ v u u', p v u → Grew u u' → p v u'
def Pd.any : Pd := ⟨fun _ _ => True, fun _ _ _ _ _ => trivial⟩
def Pd.eqv (v0 : Value) : Pd := ⟨fun v _ => v = v0, fun _ _ _ h _ => h⟩

theorem follows : Try.prog.follows .mixedOrders = true := by kernel_rfl

theorem region_grew {ops : List Oper} {Q : Exit → Act → World → Prop} {a0 : Act} {id : Nat} {w : World} (D : List (List (Nat × Tmp))) (E : List (Nat × Tmp)) (F : Nat → Pd)
    (hok : (regionOk ops.toArray a0.tmps.size (D.map (·.map (·.1))).toArray && pairsOk ops.toArray D && decide (pairsOf ops.toArray (List.range ops.length) = E)) = true)
    (hsteps : StepsOk (fun i => (F i).p) (Grew w) Grew Try.prog ops.toArray a0 ops D 0)
    (hend : ∀ u, Grew w u → StepGoal (fun i => (F i).p) u (fun a => Q .normal a u) E a0) :
    (Code.region id ops.toArray true).wp Try.prog Q a0 w :=
  region_mono D E (fun i => (F i).p) (Grew w) Grew follows hok (fun i v u u' h hg => (F i).mono v u u' h hg) (fun u u' h hg => h.tr hg) (Grew.rf w).dr hsteps hend

end Go.Proofs.Ytcllmhabhbnihaa
