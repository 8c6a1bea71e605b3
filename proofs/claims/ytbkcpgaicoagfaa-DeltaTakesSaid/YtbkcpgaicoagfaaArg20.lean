/- What the frames of Delta's statements are told of the arguments: rows of bytes and rows of headers. -/
import Derived.Test.YtbkcpgaicoagfaaArg19
import Derived.Test.YtbkcpgaicoagfaaDel1
import Derived.Deep.SlicePairs
namespace Go.Proofs.Ytbkcpgaicoagfaa
open Go.ChangeShapes Go.WideShapes Go.ChangeAt Go.RowKit
set_option linter.unusedVariables false

def IsHdrs20 (w : World) (a : Option Addr) (len cap : Nat) (l : List Hdr) : Prop := RdH w a len l ∧ (∀ t ∈ l, t.1.size ≤ 9223372036854775807 ∧ t.2.size ≤ 9223372036854775807) ∧ len ≤ cap ∧ cap ≤ 9223372036854775807

theorem hdrs_by {w : World} {b o n : Nat} (h : ∀ i, i < n → ∃ s t : ByteArray, w.cell? ⟨b, o + i * 2, none⟩ = some (.string s) ∧ w.cell? ⟨b, o + i * 2 + 1, none⟩ = some (.string t) ∧ s.size ≤ 9223372036854775807 ∧ t.size ≤ 9223372036854775807) : ∃ l, RdH w (some ⟨b, o, none⟩) n l ∧ ∀ t ∈ l, t.1.size ≤ 9223372036854775807 ∧ t.2.size ≤ 9223372036854775807 := by
  induction n with
  | zero => exact ⟨[], RdV.nil _ _ _, fun t ht => by cases ht⟩
  | succ n ih =>
    obtain ⟨l, hl, hs⟩ := ih (fun i hi => h i (by omega))
    obtain ⟨s, t, h1, h2, h3, h4⟩ := h n (by omega)
    have hll := hl.lenH
    refine ⟨l ++ [(s, t)], ⟨by rw [hcs_len, List.length_append, hll]; simp, fun _ => ⟨b, o, rfl, fun j u hj => ?_⟩⟩, fun x hx => ?_⟩
    · rw [hcs_append] at hj
      by_cases hlt : j < n * 2
      · rw [List.getElem?_append_left (by rw [hcs_len, hll]; exact hlt)] at hj
        obtain ⟨b', o', e, hc⟩ := hl.cells (by omega)
        cases e
        exact hc j u hj
      · rw [List.getElem?_append_right (by rw [hcs_len, hll]; omega), hcs_len, hll] at hj
        have hj2 : j - n * 2 < 2 := by have := (List.getElem?_eq_some_iff.1 hj).1; simpa [hcs] using this
        rcases (by omega : j = n * 2 ∨ j = n * 2 + 1) with rfl | rfl
        · rw [Nat.sub_self] at hj
          simp [hcs] at hj
          subst hj
          exact h1
        · rw [show n * 2 + 1 - n * 2 = 1 by omega] at hj
          simp [hcs] at hj
          subst hj
          rw [← Nat.add_assoc]
          exact h2
    · rcases List.mem_append.1 hx with hx | hx
      · exact hs x hx
      · rw [List.mem_singleton] at hx; subst hx; exact ⟨h3, h4⟩
theorem hdrs_open {H : Type} {enc : TypeId × Value → H} {w : World} {spare : Nat → Bool} {held : Bool} {fuel : Nat} {a : Option Addr} {len cap : Nat} {x : DataW H × List MemPlace}
    (h : DataW.trod enc Try.prog w 0 spare held fuel 31 [.slice a len cap] = some x) : ∃ l, IsHdrs20 w a len cap l := by
  rcases Go.Deep.open_slice_pairs Try.underlying31 Try.underlying124 (by kernel_rfl) rfl rfl (by kernel_rfl) (by kernel_rfl) h with ⟨hcs, _⟩ | ⟨ad, len', cap', m, n, V0, V1, D0, D1, P0, P1, hcs, _, hl, hm, hmm, _, hc⟩
  · simp at hcs
    obtain ⟨rfl, rfl, rfl⟩ := hcs
    exact ⟨[], RdV.nil _ _ _, (fun t ht => by cases ht), by omega, by omega⟩
  · simp at hcs
    obtain ⟨rfl, rfl, rfl⟩ := hcs
    have hlm : len ≤ m := by rw [hmm]; split <;> omega
    rcases Nat.eq_zero_or_pos len with h0 | h0
    · subst h0
      exact ⟨[], RdV.nil _ _ _, (fun t ht => by cases ht), by omega, by simpa [maxLen] using hm⟩
    · have hp := plain_of_cell (hc 0 (by omega)).1
      have hsp : ad.spot = none := by simpa [Addr.add] using hp
      obtain ⟨b, o, sp⟩ := ad
      simp only at hsp
      subst hsp
      obtain ⟨l, hl1, hl2⟩ := hdrs_by (w := w) (b := b) (o := o) (n := len) (fun i hi => by
        obtain ⟨c0, c1, t0, t1⟩ := hc i (by omega)
        rw [add_plain] at c0 c1
        obtain ⟨s, hs, _, hs2⟩ := DataW.trod_string (by kernel_rfl) t0
        obtain ⟨s', hs', _, hs2'⟩ := DataW.trod_string (by kernel_rfl) t1
        simp only [List.cons.injEq, and_true] at hs hs'
        rw [hs] at c0
        rw [hs'] at c1
        exact ⟨s, s', c0, by rw [← Nat.add_assoc] at c1; exact c1, by simpa [maxLen] using hs2, by simpa [maxLen] using hs2'⟩)
      exact ⟨l, hl1, hl2, hl, by simpa [maxLen] using hm⟩
end Go.Proofs.Ytbkcpgaicoagfaa
