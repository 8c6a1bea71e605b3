/- What the frames of Memo's statements are told of the arguments: an entry, rows of deeds. -/
import Derived.Test.YtcllmhabhbnihaaMemo9
import Derived.ChangeSame
import Derived.Deep.Slices
import Derived.Deep.Fields
import Derived.Lib.SmallJoins
import Derived.OpenShut
import Derived.ChangeOld
namespace Go.Proofs.Ytcllmhabhbnihaa
open Go.ChangeShapes Go.WideShapes Go.ChangeAt Go.RowKit
set_option linter.unusedVariables false

theorem drop_take_one {α : Type} {l : List α} {k : Nat} {x : α} (h : (l.drop k).take 1 = [x]) : l[k]? = some x := by
  have := congrArg (fun q : List α => q[0]?) h
  simpa [List.getElem?_take, List.getElem?_drop] using this
theorem ask_cells {H : Type} {enc : TypeId × Value → H} {w : World} {base : Nat} {spare : Nat → Bool} {held : Bool} {fuel : Nat} {cs : List Value} {x : DataW H × List MemPlace}
    (h : DataW.trod enc Try.prog w base spare held fuel 32 cs = some x) : ∃ a : Ask, cs = av a ∧ (Lit.int .i64 a.2.2.2.2.2).wf = true := by
  obtain ⟨xs, n, _, _, hlen, hxl, hf⟩ := DataW.trod_struct Try.underlying32 h
  have hl6 : cs.length = 6 := hlen.trans (by kernel_rfl)
  have hat : ∀ i, i < 6 → ∃ y, xs[i]? = some y := fun i hi => ⟨_, List.getElem?_eq_getElem (by rw [hxl]; exact hi)⟩
  obtain ⟨y0, e0⟩ := hat 0 (by decide)
  obtain ⟨y1, e1⟩ := hat 1 (by decide)
  obtain ⟨y2, e2⟩ := hat 2 (by decide)
  obtain ⟨y3, e3⟩ := hat 3 (by decide)
  obtain ⟨y4, e4⟩ := hat 4 (by decide)
  obtain ⟨y5, e5⟩ := hat 5 (by decide)
  have k1 : Try.prog.cellsOf 9 = 1 := by kernel_rfl
  have k2 : Try.prog.cellsOf 4 = 1 := by kernel_rfl
  have k3 : Try.prog.cellsOf 3 = 1 := by kernel_rfl
  have f0 : DataW.trod enc Try.prog w base spare held n 9 ((cs.drop 0).take (Try.prog.cellsOf 9)) = some y0 := (hf 0 _ rfl).trans e0
  have f1 : DataW.trod enc Try.prog w base spare held n 9 ((cs.drop 1).take (Try.prog.cellsOf 9)) = some y1 := (hf 1 _ rfl).trans e1
  have f2 : DataW.trod enc Try.prog w base spare held n 4 ((cs.drop 2).take (Try.prog.cellsOf 4)) = some y2 := (hf 2 _ rfl).trans e2
  have f3 : DataW.trod enc Try.prog w base spare held n 9 ((cs.drop 3).take (Try.prog.cellsOf 9)) = some y3 := (hf 3 _ rfl).trans e3
  have f4 : DataW.trod enc Try.prog w base spare held n 9 ((cs.drop 4).take (Try.prog.cellsOf 9)) = some y4 := (hf 4 _ rfl).trans e4
  have f5 : DataW.trod enc Try.prog w base spare held n 3 ((cs.drop 5).take (Try.prog.cellsOf 3)) = some y5 := (hf 5 _ rfl).trans e5
  rw [k1] at f0 f1 f3 f4
  rw [k2] at f2
  rw [k3] at f5
  obtain ⟨s0, g0, _⟩ := DataW.trod_string Try.underlying9 f0
  obtain ⟨s1, g1, _⟩ := DataW.trod_string Try.underlying9 f1
  obtain ⟨s2, g2, _⟩ := DataW.trod_bool Try.underlying4 f2
  obtain ⟨s3, g3, _⟩ := DataW.trod_string Try.underlying9 f3
  obtain ⟨s4, g4, _⟩ := DataW.trod_string Try.underlying9 f4
  obtain ⟨s5, g5, _, wf⟩ := DataW.trod_int Try.underlying3 f5
  refine ⟨(s0, s1, s2, s3, s4, s5), ?_, wf⟩
  apply List.ext_getElem?
  intro i
  by_cases hi : i < 6
  · rcases (by omega : i = 0 ∨ i = 1 ∨ i = 2 ∨ i = 3 ∨ i = 4 ∨ i = 5) with rfl | rfl | rfl | rfl | rfl | rfl
    · exact drop_take_one g0
    · exact drop_take_one g1
    · exact drop_take_one g2
    · exact drop_take_one g3
    · exact drop_take_one g4
    · exact drop_take_one g5
  · rw [List.getElem?_eq_none (by omega), List.getElem?_eq_none (by simp [av]; omega)]
theorem ask_open {H : Type} {enc : TypeId × Value → H} {w : World} {base b0 : Nat} {spare : Nat → Bool} {held : Bool} {r : Reach} {v : Value} {d : DataW H} {p : List MemPlace}
    (hv : Value.okWide Try.prog w r b0 32 v) (h : DataW.Trod enc Try.prog w base spare held 32 v d p) : ∃ a : Ask, v = aV a ∧ (Lit.int .i64 a.2.2.2.2.2).wf = true := by
  obtain ⟨cs, rfl, hsz⟩ := okWide_struct Try.underlying32 hv
  obtain ⟨fuel, hf⟩ := h
  obtain ⟨a, ha, hw⟩ := ask_cells hf
  refine ⟨a, ?_, hw⟩
  have : cs.toList = av a := by simpa [Value.cells] using ha
  rw [show cs = (av a).toArray from by rw [← this]]
  rfl
end Go.Proofs.Ytcllmhabhbnihaa
