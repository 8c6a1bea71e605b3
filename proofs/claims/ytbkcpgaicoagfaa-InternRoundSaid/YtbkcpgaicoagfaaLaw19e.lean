/- Intern's laws: what holds between the rounds of InternRound (two tables side by side). -/
import Derived.Test.YtbkcpgaicoagfaaLaw19d
import Derived.Test.YtbkcpgaicoagfaaInt7
import Derived.Test.YtbkcpgaicoagfaaPureInt3
set_option linter.unusedVariables false
set_option linter.unusedSimpArgs false
namespace Go.Proofs.Ytbkcpgaicoagfaa
open Go.RowKit

structure RI19 (w : World) (p mb p2 mb2 : Nat) (AL : Option Addr) (l : List ByteArray) (lv lv2 : Value) (us us2 : List ByteArray) (wr : World) : Prop where
  tab : TabI wr p lv mb us
  tab2 : TabI wr p2 lv2 mb2 us2
  sep : ∀ k, ftp p lv mb k → ¬ ftp p2 lv2 mb2 k
  rl : RdV 1 wr AL l.length (l.map Value.string)
  al : ∀ ad, AL = some ad → ¬ ftp p lv mb ad.block ∧ ¬ ftp p2 lv2 mb2 ad.block ∧ ad.block < wr.heap.size
  low : ∀ k, ftp p lv mb k ∨ ftp p2 lv2 mb2 k → w.heap.size ≤ k
  grew : Grew w wr
section
variable {w : World} {p mb p2 mb2 : Nat} {AL : Option Addr} {l : List ByteArray} {lv lv2 : Value} {us us2 : List ByteArray} {wr : World}
theorem RI19.keep (h : RI19 w p mb p2 mb2 AL l lv lv2 us us2 wr) {u : World} (hg : Grew wr u) : RI19 w p mb p2 mb2 AL l lv lv2 us us2 u where
  tab := h.tab.keep hg
  tab2 := h.tab2.keep hg
  sep := h.sep
  rl := h.rl.keep hg
  al := fun ad e => ⟨(h.al ad e).1, (h.al ad e).2.1, Nat.lt_of_lt_of_le (h.al ad e).2.2 hg.size⟩
  low := h.low
  grew := h.grew.tr hg
theorem RI19.one (h : RI19 w p mb p2 mb2 AL l lv lv2 us us2 wr) {w1 : World} {l1 : Value} {us' : List ByteArray} (hc : Chg (ftp p lv mb) wr w1) (hT : TabI w1 p l1 mb us') (f1 : ∀ k, ftp p l1 mb k → ftp p lv mb k ∨ wr.heap.size ≤ k) : RI19 w p mb p2 mb2 AL l l1 lv2 us' us2 w1 where
  tab := hT
  tab2 := h.tab2.chg hc (fun k hk h2 => h.sep k h2 hk)
  sep := fun k hk h2 => (f1 k hk).elim (fun h3 => h.sep k h3 h2) (fun h3 => by have := h.tab2.lt h2; omega)
  rl := h.rl.chg hc (fun ad e => (h.al ad e).1)
  al := fun ad e => ⟨fun hk => (f1 _ hk).elim (h.al ad e).1 (fun h3 => by have := (h.al ad e).2.2; omega), (h.al ad e).2.1, Nat.lt_of_lt_of_le (h.al ad e).2.2 hc.size⟩
  low := fun k hk => by
    have hz := h.grew.size
    rcases hk with hk | hk
    · rcases f1 k hk with h3 | h3
      · exact h.low k (.inl h3)
      · omega
    · exact h.low k (.inr hk)
  grew := grew_chg h.grew hc (fun k hk => h.low k (.inl hk))
theorem RI19.two (h : RI19 w p mb p2 mb2 AL l lv lv2 us us2 wr) {w1 : World} {l2 : Value} {us' : List ByteArray} (hc : Chg (ftp p2 lv2 mb2) wr w1) (hT : TabI w1 p2 l2 mb2 us') (f1 : ∀ k, ftp p2 l2 mb2 k → ftp p2 lv2 mb2 k ∨ wr.heap.size ≤ k) : RI19 w p mb p2 mb2 AL l lv l2 us us' w1 where
  tab := h.tab.chg hc (fun k hk h2 => h.sep k hk h2)
  tab2 := hT
  sep := fun k hk h2 => (f1 k h2).elim (fun h3 => h.sep k hk h3) (fun h3 => by have := h.tab.lt hk; omega)
  rl := h.rl.chg hc (fun ad e => (h.al ad e).2.1)
  al := fun ad e => ⟨(h.al ad e).1, fun hk => (f1 _ hk).elim (h.al ad e).2.1 (fun h3 => by have := (h.al ad e).2.2; omega), Nat.lt_of_lt_of_le (h.al ad e).2.2 hc.size⟩
  low := fun k hk => by
    have hz := h.grew.size
    rcases hk with hk | hk
    · exact h.low k (.inl hk)
    · rcases f1 k hk with h3 | h3
      · exact h.low k (.inr h3)
      · omega
  grew := grew_chg h.grew hc (fun k hk => h.low k (.inr hk))
end
end Go.Proofs.Ytbkcpgaicoagfaa
