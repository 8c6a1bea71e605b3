/- A table and the answer's table side by side: what holds while one and the other are put to, in whatever order. -/
import Derived.Test.YtbkcpgaicoagfaaLaw19b
set_option linter.unusedVariables false
set_option linter.unusedSimpArgs false
namespace Go.Proofs.Ytbkcpgaicoagfaa
open Go.RowKit

def GT (p : Nat) (lv : Value) (mb : Nat) (u u' : World) : Prop := Chg (ftp p lv mb) u u' ∧ ∃ l1, u'.heap[p]? = some (.cells #[l1, .map (some mb)] 117) ∧ ∀ b, l1.ownBlock = some b → (lv.ownBlock = some b ∨ u.heap.size ≤ b) ∧ b < u'.heap.size
def GR (q : Nat) (lv2 : Value) (u u' : World) : Prop := Chg (ftr q lv2) u u' ∧ ∃ l2, u'.heap[q]? = some (.cells #[l2] 50) ∧ ∀ b, l2.ownBlock = some b → (lv2.ownBlock = some b ∨ u.heap.size ≤ b) ∧ b < u'.heap.size
/-- What does not hang on the moment. -/
structure Sep (n : Nat) (p : Nat) (lv : Value) (mb : Nat) (q : Nat) (lv2 : Value) : Prop where
  sep : ∀ k, ftp p lv mb k → ¬ ftr q lv2 k
  lp : ∀ k, ftp p lv mb k → k < n
  lq : ∀ k, ftr q lv2 k → k < n
structure Pair (w0 : World) (p : Nat) (lv : Value) (mb : Nat) (q : Nat) (lv2 : Value) (u : World) : Prop where
  chg : Chg (fun k => ftp p lv mb k ∨ ftr q lv2 k) w0 u
  two : ∃ l1 l2, u.heap[p]? = some (.cells #[l1, .map (some mb)] 117) ∧ u.heap[q]? = some (.cells #[l2] 50) ∧ (∀ b, l1.ownBlock = some b → b < u.heap.size ∧ ¬ ftr q lv2 b) ∧ (∀ b, l2.ownBlock = some b → b < u.heap.size ∧ ¬ ftp p lv mb b) ∧ ∀ b, l1.ownBlock = some b → l2.ownBlock ≠ some b
section
variable {w0 u u' : World} {p : Nat} {lv : Value} {mb q : Nat} {lv2 : Value}
theorem Pair.start {ts ts2 : List ByteArray} (hT : TabI u p lv mb ts) (hR : RefI u q lv2 ts2) (hs : Sep u.heap.size p lv mb q lv2) : Pair u p lv mb q lv2 u :=
  ⟨Chg.of (Grew.rf u), lv, lv2, hT.cells, hR.cells, fun b hb => ⟨hs.lp b (.inr (.inr hb)), hs.sep b (.inr (.inr hb))⟩, fun b hb => ⟨hs.lq b (.inr hb), fun h => hs.sep b h (.inr hb)⟩, fun b hb h => hs.sep b (.inr (.inr hb)) (.inr h)⟩
theorem Pair.b0 (h : Pair w0 p lv mb q lv2 u) (hg : Grew u u') : Pair w0 p lv mb q lv2 u' := by
  obtain ⟨l1, l2, h1, h2, h3, h4, h5⟩ := h.two
  have := hg.size
  exact ⟨h.chg.tr (Chg.of hg), l1, l2, heap_keep hg h1, heap_keep hg h2, fun b hb => ⟨by have := (h3 b hb).1; omega, (h3 b hb).2⟩, fun b hb => ⟨by have := (h4 b hb).1; omega, (h4 b hb).2⟩, h5⟩
theorem Pair.b1 (hs : Sep w0.heap.size p lv mb q lv2) (h : Pair w0 p lv mb q lv2 u) (hg : GT p lv mb u u') : Pair w0 p lv mb q lv2 u' := by
  obtain ⟨l1, l2, h1, h2, h3, h4, h5⟩ := h.two
  obtain ⟨hc, l1', g1, g2⟩ := hg
  have hz := hc.size
  have hw := h.chg.size
  refine ⟨h.chg.tr (hc.mono fun k hk => .inl (.inl hk)), l1', l2, g1, hc.by_ h2 (fun hk => hs.sep q hk (.inl rfl)), fun b hb => ⟨(g2 b hb).2, ?_⟩, fun b hb => ⟨by have := (h4 b hb).1; omega, (h4 b hb).2⟩, fun b hb h6 => ?_⟩
  · rcases (g2 b hb).1 with h | h
    · exact hs.sep b (.inr (.inr h))
    · intro hk; have := hs.lq b hk; omega
  · rcases (g2 b hb).1 with h | h
    · exact (h4 b h6).2 (.inr (.inr h))
    · have := (h4 b h6).1; omega
theorem Pair.b2 (hs : Sep w0.heap.size p lv mb q lv2) (h : Pair w0 p lv mb q lv2 u) (hg : GR q lv2 u u') : Pair w0 p lv mb q lv2 u' := by
  obtain ⟨l1, l2, h1, h2, h3, h4, h5⟩ := h.two
  obtain ⟨hc, l2', g1, g2⟩ := hg
  have hz := hc.size
  have hw := h.chg.size
  refine ⟨h.chg.tr (hc.mono fun k hk => .inl (.inr hk)), l1, l2', hc.by_ h1 (fun hk => hs.sep p (.inl rfl) hk), g1, fun b hb => ⟨by have := (h3 b hb).1; omega, (h3 b hb).2⟩, fun b hb => ⟨(g2 b hb).2, ?_⟩, fun b hb h6 => ?_⟩
  · rcases (g2 b hb).1 with h | h
    · intro hk; exact hs.sep b hk (.inr h)
    · intro hk; have := hs.lp b hk; omega
  · rcases (g2 b h6).1 with h | h
    · exact (h3 b hb).2 (.inr h)
    · have := (h3 b hb).1; omega
theorem GT.of {out : List Int} {ts' : List ByteArray} {B : Option Addr} {m d : Nat} (h : PutQ u u' p lv mb out ts' B m d) : GT p lv mb u u' := by
  obtain ⟨l1, hT, hf, _⟩ := h.tab
  obtain ⟨a1, a2, a3⟩ := hT.apart
  refine ⟨h.chg, l1, hT.cells, fun b hb => ⟨?_, hT.list.lt hb⟩⟩
  rcases hf b (.inr (.inr hb)) with (h1 | h1 | h1) | h1
  · subst h1; exact absurd hb a2
  · subst h1; exact absurd hb a3
  · exact .inl h1
  · exact .inr h1
theorem GR.of {out : List Int} {ts' : List ByteArray} {B : Option Addr} {m d : Nat} (h : RPutQ u u' q lv2 out ts' B m d) : GR q lv2 u u' := by
  obtain ⟨l2, hR, hf, _⟩ := h.tab
  have a1 := hR.apart
  refine ⟨h.chg, l2, hR.cells, fun b hb => ⟨?_, hR.list.lt hb⟩⟩
  rcases hf b (.inr hb) with (h1 | h1) | h1
  · subst h1; exact absurd hb a1
  · exact .inl h1
  · exact .inr h1
end

/-- What the table's Put leaves, whatever comes behind. -/
def PutW (w0 : World) (p : Nat) (lv : Value) (mb : Nat) (out : List Int) (ts' : List ByteArray) (v : Value) (u : World) : Prop :=
  ∃ B m d, v = .slice B m d ∧ Rd u B m out ∧ m ≤ d ∧ d ≤ 9223372036854775807 ∧ FreshA w0.heap.size B ∧ U8 u B ∧ ∃ l1, TabI u p l1 mb ts' ∧ ∀ k, ftp p l1 mb k → ftp p lv mb k ∨ w0.heap.size ≤ k
def RPutW (w0 : World) (q : Nat) (lv2 : Value) (out : List Int) (ts' : List ByteArray) (v : Value) (u : World) : Prop :=
  ∃ B m d, v = .slice B m d ∧ Rd u B m out ∧ m ≤ d ∧ d ≤ 9223372036854775807 ∧ FreshA w0.heap.size B ∧ U8 u B ∧ ∃ l2, RefI u q l2 ts' ∧ ∀ k, ftr q l2 k → ftr q lv2 k ∨ w0.heap.size ≤ k
def pxT {w0 : World} {p : Nat} {lv : Value} {mb q : Nat} {lv2 : Value} (hs : Sep w0.heap.size p lv mb q lv2) (out : List Int) (ts' : List ByteArray) : Px (GT p lv mb) (GR q lv2) where
  p := PutW w0 p lv mb out ts'
  s1 := false
  s2 := true
  m0 := fun v u u' ⟨B, m, d, h1, h2, h3, h4, h5, h6, l1, h7, h8⟩ hg => ⟨B, m, d, h1, h2.keep hg, h3, h4, h5, h6.keep hg, l1, h7.keep hg, h8⟩
  m1 := fun h => by cases h
  m2 := fun _ v u u' ⟨B, m, d, h1, h2, h3, h4, h5, h6, l1, h7, h8⟩ hg => by
    have hB : ∀ ad, B = some ad → ¬ ftr q lv2 ad.block := fun ad e hk => by have := h5 ad e; have := hs.lq _ hk; omega
    refine ⟨B, m, d, h1, h2.chg hg.1 (fun _ => hB), h3, h4, h5, h6.chg hg.1 hB, l1, h7.chg hg.1 (fun k hk h => ?_), h8⟩
    rcases h8 k hk with h9 | h9
    · exact hs.sep k h9 h
    · have := hs.lq k h; omega
def pxR {w0 : World} {p : Nat} {lv : Value} {mb q : Nat} {lv2 : Value} (hs : Sep w0.heap.size p lv mb q lv2) (out : List Int) (ts' : List ByteArray) : Px (GT p lv mb) (GR q lv2) where
  p := RPutW w0 q lv2 out ts'
  s1 := true
  s2 := false
  m0 := fun v u u' ⟨B, m, d, h1, h2, h3, h4, h5, h6, l1, h7, h8⟩ hg => ⟨B, m, d, h1, h2.keep hg, h3, h4, h5, h6.keep hg, l1, h7.keep hg, h8⟩
  m1 := fun _ v u u' ⟨B, m, d, h1, h2, h3, h4, h5, h6, l1, h7, h8⟩ hg => by
    have hB : ∀ ad, B = some ad → ¬ ftp p lv mb ad.block := fun ad e hk => by have := h5 ad e; have := hs.lp _ hk; omega
    refine ⟨B, m, d, h1, h2.chg hg.1 (fun _ => hB), h3, h4, h5, h6.chg hg.1 hB, l1, h7.chg hg.1 (fun k hk h => ?_), h8⟩
    rcases h8 k hk with h9 | h9
    · exact hs.sep k h h9
    · have := hs.lp k h; omega
  m2 := fun h => by cases h
theorem PutW.of {w0 u u' : World} {p : Nat} {lv : Value} {mb : Nat} {out : List Int} {ts' : List ByteArray} {B : Option Addr} {m d : Nat} (h : PutQ u u' p lv mb out ts' B m d) (hw : w0.heap.size ≤ u.heap.size) : PutW w0 p lv mb out ts' (.slice B m d) u' := by
  obtain ⟨l1, hT, hf, _⟩ := h.tab
  exact ⟨B, m, d, rfl, h.rd, h.le, h.cap, h.fresh.mono hw, h.u8, l1, hT, fun k hk => (hf k hk).imp id (fun h => by omega)⟩
theorem RPutW.of {w0 u u' : World} {q : Nat} {lv2 : Value} {out : List Int} {ts' : List ByteArray} {B : Option Addr} {m d : Nat} (h : RPutQ u u' q lv2 out ts' B m d) (hw : w0.heap.size ≤ u.heap.size) : RPutW w0 q lv2 out ts' (.slice B m d) u' := by
  obtain ⟨l1, hT, hf, _⟩ := h.tab
  exact ⟨B, m, d, rfl, h.rd, h.le, h.cap, h.fresh.mono hw, h.u8, l1, hT, fun k hk => (hf k hk).imp id (fun h => by omega)⟩
/-- Behind the region the two are apart again. -/
theorem Pair.apart {w0 u : World} {p : Nat} {lv : Value} {mb q : Nat} {lv2 l1 l2 : Value} {ts ts2 : List ByteArray} (h : Pair w0 p lv mb q lv2 u) (hs : Sep w0.heap.size p lv mb q lv2) (hT : TabI u p l1 mb ts) (hR : RefI u q l2 ts2) : Sep u.heap.size p l1 mb q l2 := by
  obtain ⟨m1, m2, h1, h2, h3, h4, h5⟩ := h.two
  have e1 : m1 = l1 := by have := hT.cells; rw [h1] at this; simp only [Option.some.injEq, Obj.cells.injEq] at this; simpa using this.1
  have e2 : m2 = l2 := by have := hR.cells; rw [h2] at this; simp only [Option.some.injEq, Obj.cells.injEq] at this; simpa using this.1
  subst e1; subst e2
  refine ⟨fun k hk hk2 => ?_, fun k hk => hT.lt hk, fun k hk => hR.lt hk⟩
  rcases hk2 with rfl | hk2
  · rcases hk with hk | hk | hk
    · exact hs.sep k (.inl hk) (.inl rfl)
    · exact hs.sep k (.inr (.inl hk)) (.inl rfl)
    · exact (h3 _ hk).2 (.inl rfl)
  · rcases hk with rfl | rfl | hk
    · exact (h4 _ hk2).2 (.inl rfl)
    · exact (h4 _ hk2).2 (.inr (.inl rfl))
    · exact h5 _ hk hk2
end Go.Proofs.Ytbkcpgaicoagfaa
