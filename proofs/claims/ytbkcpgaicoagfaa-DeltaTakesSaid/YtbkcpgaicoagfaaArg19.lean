/- What the frames of Intern's statements are told of the arguments: rows of bytes and rows of texts. -/
import Derived.Test.YtbkcpgaicoagfaaTab
import Derived.SliceStrings
import Derived.WalkKit
import Derived.ProofKit
import Derived.OpenShut
import Derived.ChangeOld
import Derived.Below
namespace Go.Proofs.Ytbkcpgaicoagfaa
open Go.ChangeShapes Go.WideShapes Go.ChangeAt Go.RowKit
set_option linter.unusedVariables false

def IsRow19 (k : IntKind) (w : World) (a : Option Addr) (len cap : Nat) (zs : List Int) : Prop :=
  (a = none ∧ len = 0 ∧ cap = 0 ∧ zs = []) ∨
  ∃ x, a = some x ∧ len ≤ cap ∧ cap ≤ maxLen ∧ zs.length = cap ∧ (∀ i, i < zs.length → w.cell? (x.add i) = some (.int k (zs.getD i 0))) ∧ ∀ n ∈ zs, (Lit.int k n).wf = true

theorem IsRow19.rd {w : World} {a : Option Addr} {len cap : Nat} {zs : List Int} (h : IsRow19 .u8 w a len cap zs) : Rd w a len (zs.take len) ∧ Byt (zs.take len) ∧ len ≤ cap ∧ cap ≤ 9223372036854775807 := by
  rcases h with ⟨rfl, rfl, rfl, rfl⟩ | ⟨x, rfl, h1, h2, h3, h4, h5⟩
  · exact ⟨RdK.nil _ _ _, fun x hx => by simp at hx, by omega, by omega⟩
  · refine ⟨⟨by rw [List.length_take]; omega, fun hn => ?_⟩, fun y hy => ?_, h1, by simpa [maxLen] using h2⟩
    · have h0 := h4 0 (by omega)
      have hs : x.spot = none := by
        have := plain_of_cell h0
        simpa [Addr.add] using this
      obtain ⟨b, o, sp⟩ := x
      simp only at hs
      subst hs
      refine ⟨b, o, rfl, fun j hj => ?_⟩
      have := h4 j (by omega)
      rw [add_plain] at this
      rw [this]
      simp [List.getD_eq_getElem?_getD, hj]
    · exact bounds_u8 (h5 y (List.mem_of_mem_take hy))

def IsStrs19 (w : World) (a : Option Addr) (len cap : Nat) (ss : List ByteArray) : Prop :=
  (a = none ∧ len = 0 ∧ cap = 0 ∧ ss = []) ∨
  ∃ x, a = some x ∧ len ≤ cap ∧ cap ≤ maxLen ∧ ss.length = cap ∧ (∀ i, i < ss.length → w.cell? (x.add i) = some (.string (ss.getD i ByteArray.empty))) ∧ ∀ s ∈ ss, s.size ≤ maxLen

theorem IsStrs19.rd {w : World} {a : Option Addr} {len cap : Nat} {ss : List ByteArray} (h : IsStrs19 w a len cap ss) : RdV 1 w a len ((ss.take len).map Value.string) ∧ (∀ t ∈ ss.take len, t.size ≤ 9223372036854775807) ∧ len ≤ 9223372036854775807 := by
  rcases h with ⟨rfl, rfl, rfl, rfl⟩ | ⟨x, rfl, h1, h2, h3, h4, h5⟩
  · exact ⟨⟨by simp, fun h => by omega⟩, fun x hx => by simp at hx, by omega⟩
  · refine ⟨⟨by rw [List.length_map, List.length_take]; omega, fun hn => ?_⟩, fun y hy => ?_, Nat.le_trans h1 (by simpa [maxLen] using h2)⟩
    · have h0 := h4 0 (by omega)
      have hs : x.spot = none := by
        have := plain_of_cell h0
        simpa [Addr.add] using this
      obtain ⟨b, o, sp⟩ := x
      simp only at hs
      subst hs
      refine ⟨b, o, rfl, fun j u hj => ?_⟩
      rw [List.getElem?_map, Option.map_eq_some_iff] at hj
      obtain ⟨t, ht, rfl⟩ := hj
      have hjl : j < len := by
        have := (List.getElem?_eq_some_iff.1 ht).1
        rw [List.length_take] at this
        omega
      rw [List.getElem?_take, if_pos hjl] at ht
      have := h4 j (by omega)
      rw [add_plain] at this
      rw [this, List.getD_eq_getElem?_getD, ht]
      rfl
    · simpa [maxLen] using h5 y (List.mem_of_mem_take hy)
end Go.Proofs.Ytbkcpgaicoagfaa
