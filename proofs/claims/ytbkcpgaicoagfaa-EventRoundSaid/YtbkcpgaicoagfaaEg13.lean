/- A table and the answer's table side by side: what holds while one and the other are put to, in whatever order. -/
import Derived.Test.YtbkcpgaicoagfaaEg12
set_option linter.unusedVariables false
set_option linter.unusedSimpArgs false
namespace Go.Proofs.Ytbkcpgaicoagfaa
open Go.RowKit

def GT (p : Nat) (lv : Value) (mb : Nat) (u u' : World) : Prop := Chg (ftp p lv mb) u u' ∧ ∃ l1, u'.heap[p]? = some (.cells #[l1, .map (some mb)] 117) ∧ ∀ b, l1.ownBlock = some b → (lv.ownBlock = some b ∨ u.heap.size ≤ b) ∧ b < u'.heap.size
def GR (q : Nat) (lv2 : Value) (u u' : World) : Prop := Chg (ftr q lv2) u u' ∧ ∃ l2, u'.heap[q]? = some (.cells #[l2] 50) ∧ ∀ b, l2.ownBlock = some b → (lv2.ownBlock = some b ∨ u.heap.size ≤ b) ∧ b < u'.heap.size
/-- What does not hang on the moment. -/
structure Sep (n : Nat) (p : Nat) (lv : Value) (mb : Nat) (q : Nat) (lv2 : Value) : Prop where
  sep : ∀ k, ftp p lv mb k → ¬ ftr q lv2 k
  lp : ∀ k, ftp p lv mb k → k < n
  lq : ∀ k, ftr q lv2 k → k < n
structure Pair (w0 : World) (p : Nat) (lv : Value) (mb : Nat) (q : Nat) (lv2 : Value) (u : World) : Prop where
  chg : Chg (fun k => ftp p lv mb k ∨ ftr q lv2 k) w0 u
  two : ∃ l1 l2, u.heap[p]? = some (.cells #[l1, .map (some mb)] 117) ∧ u.heap[q]? = some (.cells #[l2] 50) ∧ (∀ b, l1.ownBlock = some b → b < u.heap.size ∧ ¬ ftr q lv2 b) ∧ (∀ b, l2.ownBlock = some b → b < u.heap.size ∧ ¬ ftp p lv mb b) ∧ ∀ b, l1.ownBlock = some b → l2.ownBlock ≠ some b
section
variable {w0 u u' : World} {p : Nat} {lv : Value} {mb q : Nat} {lv2 : Value}
theorem Pair.start {ts ts2 : List ByteArray} (hT : TabI u p lv mb ts) (hR : RefI u q lv2 ts2) (hs : Sep u.heap.size p lv mb q lv2) : Pair u p lv mb q lv2 u :=
  ⟨Chg.of (Grew.rf u), lv, lv2, hT.cells, hR.cells, fun b hb => ⟨hs.lp b (.inr (.inr hb)), hs.sep b (.inr (.inr hb))⟩, fun b hb => ⟨hs.lq b (.inr hb), fun h => hs.sep b h (.inr hb)⟩, fun b hb h => hs.sep b (.inr (.inr hb)) (.inr h)⟩
theorem Pair.b0 (h : Pair w0 p lv mb q lv2 u) (hg : Grew u u') : Pair w0 p lv mb q lv2 u' := by
  obtain ⟨l1, l2, h1, h2, h3, h4, h5⟩ := h.two
  have := hg.size
  exact ⟨h.chg.tr (Chg.of hg), l1, l2, heap_keep hg h1, heap_keep hg h2, fun b hb => ⟨by have := (h3 b hb).1; omega, (h3 b hb).2⟩, fun b hb => ⟨by have := (h4 b hb).1; omega, (h4 b hb).2⟩, h5⟩
theorem Pair.b1 (hs : Sep w0.heap.size p lv mb q lv2) (h : Pair w0 p lv mb q lv2 u) (hg : GT p lv mb u u') : Pair w0 p lv mb q lv2 u' := by
  obtain ⟨l1, l2, h1, h2, h3, h4, h5⟩ := h.two
  obtain ⟨hc, l1', g1, g2⟩ := hg
  have hz := hc.size
  have hw := h.chg.size
  refine ⟨h.chg.tr (hc.mono fun k hk => .inl (.inl hk)), l1', l2, g1, hc.by_ h2 (fun hk => hs.sep q hk (.inl rfl)), fun b hb => ⟨(g2 b hb).2, ?_⟩, fun b hb => ⟨by have := (h4 b hb).1; omega, (h4 b hb).2⟩, fun b hb h6 => ?_⟩
  · rcases (g2 b hb).1 with h | h
    · exact hs.sep b (.inr (.inr h))
    · intro hk; have := hs.lq b hk; omega
  · rcases (g2 b hb).1 with h | h
    · exact (h4 b h6).2 (.inr (.inr h))
    · have := (h4 b h6).1; omega
theorem Pair.b2 (hs : Sep w0.heap.size p lv mb q lv2) (h : Pair w0 p lv mb q lv2 u) (hg : GR q lv2 u u') : Pair w0 p lv mb q lv2 u' := by
  obtain ⟨l1, l2, h1, h2, h3, h4, h5⟩ := h.two
  obtain ⟨hc, l2', g1, g2⟩ := hg
  have hz := hc.size
  have hw := h.chg.size
  refine ⟨h.chg.tr (hc.mono fun k hk => .inl (.inr hk)), l1, l2', hc.by_ h1 (fun hk => hs.sep p (.inl rfl) hk), g1, fun b hb => ⟨by have := (h3 b hb).1; omega, (h3 b hb).2⟩, fun b hb => ⟨(g2 b hb).2, ?_⟩, fun b hb h6 => ?_⟩
  · rcases (g2 b hb).1 with h | h
    · intro hk; exact hs.sep b hk (.inr h)
    · intro hk; have := hs.lp b hk; omega
  · rcases (g2 b h6).1 with h | h
    · exact (h3 b hb).2 (.inr h)
    · have := (h3 b hb).1; omega
theorem GT.of {out : List Int} {ts' : List ByteArray} {B : Option Addr} {m d : Nat} (h : PutQ u u' p lv mb out ts' B m d) : GT p lv mb u u' := by
  obtain ⟨l1, hT, hf, _⟩ := h.tab
  obtain ⟨a1, a2, a3⟩ := hT.apart
  refine ⟨h.chg, l1, hT.cells, fun b hb => ⟨?_, hT.list.lt hb⟩⟩
  rcases hf b (.inr (.inr hb)) with (h1 | h1 | h1) | h1
  · subst h1; exact absurd hb a2
  · subst h1; exact absurd hb a3
  · exact .inl h1
  · exact .inr h1
theorem GR.of {out : List Int} {ts' : List ByteArray} {B : Option Addr} {m d : Nat} (h : RPutQ u u' q lv2 out ts' B m d) : GR q lv2 u u' := by
  obtain ⟨l2, hR, hf, _⟩ := h.tab
  have a1 := hR.apart
  refine ⟨h.chg, l2, hR.cells, fun b hb => ⟨?_, hR.list.lt hb⟩⟩
  rcases hf b (.inr hb) with (h1 | h1) | h1
  · subst h1; exact absurd hb a1
  · exact .inl h1
  · exact .inr h1
end

/-- What the table's Put leaves, whatever comes behind. -/
def PutW (w0 : World) (p : Nat) (lv : Value) (mb : Nat) (out : List Int) (ts' : List ByteArray) (v : Value) (u : World) : Prop :=
  ∃ B m d, v = .slice B m d ∧ Rd u B m out ∧ m ≤ d ∧ d ≤ 9223372036854775807 ∧ FreshA w0.heap.size B ∧ U8 u B ∧ ∃ l1, TabI u p l1 mb ts' ∧ ∀ k, ftp p l1 mb k → ftp p lv mb k ∨ w0.heap.size ≤ k
def RPutW (w0 : World) (q : Nat) (lv2 : Value) (out : List Int) (ts' : List ByteArray) (v : Value) (u : World) : Prop :=
  ∃ B m d, v = .slice B m d ∧ Rd u B m out ∧ m ≤ d ∧ d ≤ 9223372036854775807 ∧ FreshA w0.heap.size B ∧ U8 u B ∧ ∃ l2, RefI u q l2 ts' ∧ ∀ k, ftr q l2 k → ftr q lv2 k ∨ w0.heap.size ≤ k
def pxT {w0 : World} {p : Nat} {lv : Value} {mb q : Nat} {lv2 : Value} (hs : Sep w0.heap.size p lv mb q lv2) (out : List Int) (ts' : List ByteArray) : Px (GT p lv mb) (GR q lv2) where
  p := PutW w0 p lv mb out ts'
  s1 := false
  s2 := true
  m0 := fun v u u' ⟨B, m, d, h1, h2, h3, h4, h5, h6, l1, h7, h8⟩ hg => ⟨B, m, d, h1, h2.keep hg, h3, h4, h5, h6.keep hg, l1, h7.keep hg, h8⟩
  m1 := fun h => by cases h
  m2 := fun _ v u u' ⟨B, m, d, h1, h2, h3, h4, h5, h6, l1, h7, h8⟩ hg => by
    have hB : ∀ ad, B = some ad → ¬ ftr q lv2 ad.block := fun ad e hk => by have := h5 ad e; have := hs.lq _ hk; omega
    refine ⟨B, m, d, h1, h2.chg hg.1 (fun _ => hB), h3, h4, h5, h6.chg hg.1 hB, l1, h7.chg hg.1 (fun k hk h => ?_), h8⟩
    rcases h8 k hk with h9 | h9
    · exact hs.sep k h9 h
    · have := hs.lq k h; omega
def pxR {w0 : World} {p : Nat} {lv : Value} {mb q : Nat} {lv2 : Value} (hs : Sep w0.heap.size p lv mb q lv2) (out : List Int) (ts' : List ByteArray) : Px (GT p lv mb) (GR q lv2) where
  p := RPutW w0 q lv2 out ts'
  s1 := true
  s2 := false
  m0 := fun v u u' ⟨B, m, d, h1, h2, h3, h4, h5, h6, l1, h7, h8⟩ hg => ⟨B, m, d, h1, h2.keep hg, h3, h4, h5, h6.keep hg, l1, h7.keep hg, h8⟩
  m1 := fun _ v u u' ⟨B, m, d, h1, h2, h3, h4, h5, h6, l1, h7, h8⟩ hg => by
    have hB : ∀ ad, B = some ad → ¬ ftp p lv mb ad.block := fun ad e hk => by have := h5 ad e; have := hs.lp _ hk; omega
    refine ⟨B, m, d, h1, h2.chg hg.1 (fun _ => hB), h3, h4, h5, h6.chg hg.1 hB, l1, h7.chg hg.1 (fun k hk h => ?_), h8⟩
    rcases h8 k hk with h9 | h9
    · exact hs.sep k h h9
    · have := hs.lp k h; omega
  m2 := fun h => by cases h
theorem PutW.of {w0 u u' : World} {p : Nat} {lv : Value} {mb : Nat} {out : List Int} {ts' : List ByteArray} {B : Option Addr} {m d : Nat} (h : PutQ u u' p lv mb out ts' B m d) (hw : w0.heap.size ≤ u.heap.size) : PutW w0 p lv mb out ts' (.slice B m d) u' := by
  obtain ⟨l1, hT, hf, _⟩ := h.tab
  exact ⟨B, m, d, rfl, h.rd, h.le, h.cap, h.fresh.mono hw, h.u8, l1, hT, fun k hk => (hf k hk).imp id (fun h => by omega)⟩
theorem RPutW.of {w0 u u' : World} {q : Nat} {lv2 : Value} {out : List Int} {ts' : List ByteArray} {B : Option Addr} {m d : Nat} (h : RPutQ u u' q lv2 out ts' B m d) (hw : w0.heap.size ≤ u.heap.size) : RPutW w0 q lv2 out ts' (.slice B m d) u' := by
  obtain ⟨l1, hT, hf, _⟩ := h.tab
  exact ⟨B, m, d, rfl, h.rd, h.le, h.cap, h.fresh.mono hw, h.u8, l1, hT, fun k hk => (hf k hk).imp id (fun h => by omega)⟩
/-- Behind the region the two are apart again. -/
theorem Pair.apart {w0 u : World} {p : Nat} {lv : Value} {mb q : Nat} {lv2 l1 l2 : Value} {ts ts2 : List ByteArray} (h : Pair w0 p lv mb q lv2 u) (hs : Sep w0.heap.size p lv mb q lv2) (hT : TabI u p l1 mb ts) (hR : RefI u q l2 ts2) : Sep u.heap.size p l1 mb q l2 := by
  obtain ⟨m1, m2, h1, h2, h3, h4, h5⟩ := h.two
  have e1 : m1 = l1 := by have := hT.cells; rw [h1] at this; simp only [Option.some.injEq, Obj.cells.injEq] at this; simpa using this.1
  have e2 : m2 = l2 := by have := hR.cells; rw [h2] at this; simp only [Option.some.injEq, Obj.cells.injEq] at this; simpa using this.1
  subst e1; subst e2
  refine ⟨fun k hk hk2 => ?_, fun k hk => hT.lt hk, fun k hk => hR.lt hk⟩
  rcases hk2 with rfl | hk2
  · rcases hk with hk | hk | hk
    · exact hs.sep k (.inl hk) (.inl rfl)
    · exact hs.sep k (.inr (.inl hk)) (.inl rfl)
    · exact (h3 _ hk).2 (.inl rfl)
  · rcases hk with rfl | rfl | hk
    · exact (h4 _ hk2).2 (.inl rfl)
    · exact (h4 _ hk2).2 (.inr (.inl rfl))
    · exact h5 _ hk hk2
end Go.Proofs.Ytbkcpgaicoagfaa
/- Delta: cuts of slices of headers; the walk of Put. -/
set_option linter.unusedVariables false
set_option linter.unusedSimpArgs false
namespace Go.Proofs.Ytbkcpgaicoagfaa
open Go.RowKit

theorem infoH : (Try.prog.info? 124).map (fun i => (i.zero, i.size, i.bytes)) = some (some (.agg #[.string ByteArray.empty, .string ByteArray.empty]), 2, 32) := by kernel_rfl
theorem elemH : Try.prog.elem 31 = 124 := by simp [Program.elem, Try.underlying31]
theorem sizeH (w : World) : (sizeOf 124).run Try.prog w = .ok 2 w := by
  obtain ⟨i0, hi, hz0, hz1, hz2⟩ := info_parts infoH
  simp [sizeOf, typeInfo, hi, hz1]
section
variable {w w' : World} {A : Option Addr} {n c : Nat} {l : List Hdr}
theorem RdV.takeH (h : RdH w A n l) {i : Nat} (hi : i ≤ n) : RdH w A i (l.take i) := by
  have hl := h.lenH
  refine ⟨by rw [hcs_len, List.length_take]; omega, fun hn => ?_⟩
  obtain ⟨b, o, e, hc⟩ := h.cells (by omega)
  refine ⟨b, o, e, fun j u hj => hc j u ?_⟩
  have h2 : hcs l = hcs (l.take i) ++ hcs (l.drop i) := by rw [← hcs_append, List.take_append_drop]
  rw [h2, List.getElem?_append_left (List.getElem?_eq_some_iff.1 hj).1]
  exact hj
theorem RdV.dropH (h : RdH w A n l) {i : Nat} (hi : i ≤ n) (hc : n ≤ c) : RdH w (if c = i then A else A.map (·.add (i * 2))) (n - i) (l.drop i) := by
  have hl := h.lenH
  refine ⟨by rw [hcs_len, List.length_drop]; omega, fun hn => ?_⟩
  obtain ⟨b, o, rfl, hc'⟩ := h.cells (by omega)
  rw [if_neg (by omega)]
  refine ⟨b, o + i * 2, by simp [add_plain], fun j u hj => ?_⟩
  rw [Nat.add_assoc]
  refine hc' _ _ ?_
  have h2 : hcs l = hcs (l.take i) ++ hcs (l.drop i) := by rw [← hcs_append, List.take_append_drop]
  have h3 : (hcs (l.take i)).length = i * 2 := by rw [hcs_len, List.length_take]; omega
  rw [h2, List.getElem?_append_right (by omega), h3, show i * 2 + j - i * 2 = j by omega]
  exact hj
theorem RdV.chg {sz : Nat} {vs : List Value} {F : Nat → Prop} (h : RdV sz w A n vs) (hg : Chg F w w') (hA : 0 < n → ∀ ad, A = some ad → ¬ F ad.block) : RdV sz w' A n vs :=
  ⟨h.len, fun hn => by
    obtain ⟨b, o, e, hc⟩ := h.cells hn
    refine ⟨b, o, e, fun j u hj => ?_⟩
    have hp : 0 < n := by
      rcases Nat.eq_zero_or_pos n with h0 | h0
      · subst h0; simp at hn
      · exact h0
    rw [← hc j u hj]
    exact World.cell?_of_block (hg.block b (lt_of_cell (hc j u hj)) (hA hp _ e))⟩
/-- The cut's address lies in the block of what was cut. -/
def SameB (A' A : Option Addr) : Prop := ∀ ad, A' = some ad → ∃ ad0, A = some ad0 ∧ ad.block = ad0.block
theorem sameB_if (c i : Nat) (A : Option Addr) : SameB (if c = i then A else A.map (·.add (i * 2))) A := by
  intro ad e
  split at e
  · exact ⟨ad, e, rfl⟩
  · cases A with
    | none => simp at e
    | some x =>
      simp only [Option.map_some, Option.some.injEq] at e
      subst e
      refine ⟨x, rfl, ?_⟩
      simp only [Addr.add]
      split <;> rfl
end
section
variable {kl kh : IntKind}
theorem cutH_lh (A : Option Addr) (n c l h : Nat) (hl : l ≤ h) (hh : h ≤ n) (hc : n ≤ c) :
    ∃ A' : Option Addr, SameB A' A ∧ (∀ W : World, (Instr.slice 31 (.slice A n c) (some (.int kl (l : Int))) (some (.int kh (h : Int))) none).run Try.prog W = .ok (.slice A' (h - l) (c - l)) W) ∧
      ∀ {w : World} {xs : List Hdr}, RdH w A n xs → RdH w A' (h - l) ((xs.take h).drop l) := by
  refine ⟨if c = l then A else A.map (·.add (l * 2)), sameB_if _ _ _, fun W => ?_, fun hr => (hr.takeH hh).dropH hl (by omega)⟩
  have hu : Try.prog.underlying 31 = some (.slice (Try.prog.elem 31)) := by rw [elemH]; exact Try.underlying31
  rw [run_slice_lh W 31 A n c hu kl kh (l : Int) (h : Int) (Int.natCast_nonneg _) (by omega) (by omega), elemH]
  simp [sizeH, sliced, Result.andThen]
theorem cutH_lo (A : Option Addr) (n c m : Nat) (hm : m ≤ n) (hc : n ≤ c) :
    ∃ A' : Option Addr, SameB A' A ∧ (∀ W : World, (Instr.slice 31 (.slice A n c) (some (.int kl (m : Int))) none none).run Try.prog W = .ok (.slice A' (n - m) (c - m)) W) ∧
      ∀ {w : World} {xs : List Hdr}, RdH w A n xs → RdH w A' (n - m) (xs.drop m) := by
  refine ⟨if c = m then A else A.map (·.add (m * 2)), sameB_if _ _ _, fun W => ?_, fun h => h.dropH hm hc⟩
  have hu : Try.prog.underlying 31 = some (.slice (Try.prog.elem 31)) := by rw [elemH]; exact Try.underlying31
  rw [run_slice_l W 31 A n c hu kl (m : Int) (Int.natCast_nonneg _) (by omega), elemH]
  simp [sizeH, sliced, Result.andThen]
theorem cutH_hi (A : Option Addr) (n c j : Nat) (hm : j ≤ c) :
    ∀ W : World, (Instr.slice 31 (.slice A n c) none (some (.int kh (j : Int))) none).run Try.prog W = .ok (.slice A j c) W := by
  intro W
  have hu : Try.prog.underlying 31 = some (.slice (Try.prog.elem 31)) := by rw [elemH]; exact Try.underlying31
  have ha : (A.map fun x => x.add 0) = A := by cases A <;> simp [Addr.add]
  rw [run_slice_h W 31 A n c hu kh (j : Int) (Int.natCast_nonneg _) (by omega), elemH]
  simp [sizeH, sliced, Result.andThen, ha]
theorem clipH_any (A : Option Addr) (n c : Nat) (w : World) (hn : n ≤ c) (hc : c ≤ 9223372036854775807) :
    Calls Try.prog 66 #[.slice A n c] w fun e w' => e = .returned (.slice A n n) ∧ w = w' := by
  have hcut : ∀ W : World, (Instr.slice 31 (.slice A n c) none (some (.int .i64 (n : Int))) (some (.int .i64 (n : Int)))).run Try.prog W = .ok (.slice A n n) W := fun W => by
    have hu : Try.prog.underlying 31 = some (.slice (Try.prog.elem 31)) := by rw [elemH]; exact Try.underlying31
    have ha : (A.map fun x => x.add 0) = A := by cases A <;> simp [Addr.add]
    rw [run_slice_hm W 31 A n c hu .i64 .i64 (n : Int) (n : Int) (Int.natCast_nonneg _) (by omega) (by omega), elemH]
    simp [sizeH, sliced, Result.andThen, ha]
  go_enter Try.func66, Try.ntmps66
  go_wp2
  go_ret
  exact ⟨rfl, rfl⟩
end

/-! ### Two Puts, one behind the other, in a drawn region -/
/-- Of what lay in w0 only the table's may have changed. -/
def GP (w0 : World) (p : Nat) (lv : Value) (mb : Nat) (u u' : World) : Prop := Chg (fun k => ftp p lv mb k ∨ w0.heap.size ≤ k) u u'
structure PairP (w0 : World) (p : Nat) (lv : Value) (mb : Nat) (u : World) : Prop where
  chg : Chg (ftp p lv mb) w0 u
theorem PairP.b0 {w0 u u' : World} {p : Nat} {lv : Value} {mb : Nat} (h : PairP w0 p lv mb u) (hg : Grew u u') : PairP w0 p lv mb u' := ⟨h.chg.tr (Chg.of hg)⟩
theorem PairP.b1 {w0 u u' : World} {p : Nat} {lv : Value} {mb : Nat} (h : PairP w0 p lv mb u) (hg : GP w0 p lv mb u u') : PairP w0 p lv mb u' := ⟨h.chg.tr hg⟩
def pxP (w0 : World) (p : Nat) (lv : Value) (mb : Nat) (out : List Int) (ts' : List ByteArray) : Px (GP w0 p lv mb) (GP w0 p lv mb) where
  p := PutW w0 p lv mb out ts'
  s1 := false
  s2 := false
  m0 := fun v u u' ⟨B, m, d, h1, h2, h3, h4, h5, h6, l1, h7, h8⟩ hg => ⟨B, m, d, h1, h2.keep hg, h3, h4, h5, h6.keep hg, l1, h7.keep hg, h8⟩
  m1 := fun h => by cases h
  m2 := fun h => by cases h
theorem GP.of1 {w0 u u' : World} {p : Nat} {lv : Value} {mb : Nat} {out : List Int} {ts' : List ByteArray} {B : Option Addr} {m d : Nat} (h : PutQ u u' p lv mb out ts' B m d) : GP w0 p lv mb u u' := h.chg.mono (fun k hk => .inl hk)
theorem GP.of2 {w0 u u' : World} {p : Nat} {lv l1 : Value} {mb : Nat} {out : List Int} {ts' : List ByteArray} {B : Option Addr} {m d : Nat} (h : PutQ u u' p l1 mb out ts' B m d) (hf : ∀ k, ftp p l1 mb k → ftp p lv mb k ∨ w0.heap.size ≤ k) : GP w0 p lv mb u u' := h.chg.mono hf
theorem PutW.of2 {w0 u u' : World} {p : Nat} {lv lv1 : Value} {mb : Nat} {out : List Int} {ts' : List ByteArray} {B : Option Addr} {m d : Nat} (h : PutQ u u' p lv1 mb out ts' B m d) (hw : w0.heap.size ≤ u.heap.size) (hf : ∀ k, ftp p lv1 mb k → ftp p lv mb k ∨ w0.heap.size ≤ k) : PutW w0 p lv mb out ts' (.slice B m d) u' := by
  obtain ⟨l1, hT, hf1, _⟩ := h.tab
  exact ⟨B, m, d, rfl, h.rd, h.le, h.cap, h.fresh.mono hw, h.u8, l1, hT, fun k hk => (hf1 k hk).elim (fun h => hf k h) (fun h => .inr (by omega))⟩

set_option maxRecDepth 100000 in
set_option maxHeartbeats 3200000 in
theorem dput_any (p : Nat) (lv : Value) (mb : Nat) (ts : List ByteArray) (A0 : Option Addr) (n0 c0 : Nat) (bs : List Int) (A : Option Addr) (n c : Nat) (was : List Hdr) (B : Option Addr) (m d : Nat) (list : List Hdr) (w : World)
    (hT : TabI w p lv mb ts) (hb : Rd w A0 n0 bs) (hr : RdH w A n was) (hs : RdH w B m list) (hA0 : 0 < n0 → ∀ ad, A0 = some ad → ¬ ftp p lv mb ad.block) (hB : 0 < m → ∀ ad, B = some ad → ¬ ftp p lv mb ad.block)
    (hn : n ≤ 1000) (hm : m ≤ 1000) (hmd : m ≤ d) (hd : d ≤ 9223372036854775807) (hn0 : n0 ≤ 10000000) (hz : ∀ h ∈ list, h.1.size ≤ 10000 ∧ h.2.size ≤ 10000) (hf : ts.length + 2 * m < 1000000) :
    Calls Try.prog 30 #[.slice A0 n0 c0, .pointer (some ⟨p, 0, none⟩), .slice A n c, .slice B m d] w fun e w' => ∃ B' m' d', e = .returned (.slice B' m' d') ∧ PutQ w w' p lv mb (bs ++ (putD ts was list).1) (putD ts was list).2 B' m' d' := by
  have hl1 := hr.lenH
  have hl2 := hs.lenH
  have hle := endsB_le was list
  have hends := fun (u : World) (h1 : RdH u A n was) (h2 : RdH u B m list) => ends_any A n c was B m d list u h1 h2 (by omega) (by omega)
  obtain ⟨f, hf1⟩ : ∃ f, endsA was list = f := ⟨_, rfl⟩
  obtain ⟨g, hg1⟩ : ∃ g, endsB was list = g := ⟨_, rfl⟩
  obtain ⟨fr, hfr⟩ : ∃ fr, freshD was list = fr := ⟨_, rfl⟩
  have hfl := freshD_len was list
  have hfd : (list.take (m - g)).drop f = fr := by rw [← hfr, freshD, hf1, hg1, hl2]
  unfold putD
  rw [hf1, hg1] at hends hle hfl
  rw [hf1, hg1]
  rw [hfr] at hfl ⊢
  rw [hl1, hl2] at hle
  rw [hl2] at hfl
  obtain ⟨B1, hsb, hcut, hRB⟩ := cutH_lh (kl := .i64) (kh := .i64) B m d f (m - g) (by omega) (by omega) hmd
  obtain ⟨q, hq⟩ : ∃ q, m - g - f = q := ⟨_, rfl⟩
  have hfl2 : fr.length = q := by omega
  rw [hfl2]
  rw [hq] at hcut
  have hcc : ((m - g : Nat) : Int) = (m : Int) - (g : Int) := by omega
  rw [hcc] at hcut
  have HT := Lib.hid hT
  have HB := Lib.hid hb
  have HRD := Lib.hid hr
  have HSD := Lib.hid hs
  have HE := Lib.hid hends
  have hle1 : f + g ≤ m := hle.2
  have hqm : q ≤ m := by omega
  have HL := Lib.hid hfl2
  have hR1 : RdH w B1 q fr := by
    have := hRB hs
    rw [hfd, hq] at this
    exact this
  have HR1 := Lib.hid hR1
  have HB1 : RowKit.Hid (0 < q → ∀ ad, B1 = some ad → ¬ ftp p lv mb ad.block) := fun h0 ad e => by
    obtain ⟨ad0, e0, h1⟩ := hsb ad e
    rw [h1]
    exact hB (by omega) ad0 e0
  have HZ : RowKit.Hid (∀ h ∈ fr, h.1.size ≤ 10000 ∧ h.2.size ≤ 10000) := fun h hh => hz h (by rw [← hfd] at hh; exact List.mem_of_mem_take (List.mem_of_mem_drop hh))
  have HA0 := Lib.hid hA0
  clear hR1 hRB hsb hB hz hA0
  clear hl1 hl2 hle hends hf1 hg1 hfr hfl hfd hq hcc hfl2 hT hb hr hs
  go_enter Try.func30, Try.ntmps30
  go_wp2_with (go_at_call 60; refine Calls.mono (HE.out _ HRD.out HSD.out) ?_; rintro e w1 ⟨rfl, hg1⟩)
  obtain ⟨lb, hlb⟩ : ∃ lb, w1.heap.size = lb := ⟨_, rfl⟩
  obtain ⟨wl, hwl⟩ : ∃ wl, w1.alloc (.cells #[.int .i64 (f : Int), .int .i64 (g : Int), .int .i64 (q : Int)] 3) = wl := ⟨_, rfl⟩
  have hcl := heap_alloc_new w1 (.cells #[.int .i64 (f : Int), .int .i64 (g : Int), .int .i64 (q : Int)] 3)
  have hGl : Grew w wl := by rw [← hwl]; exact hg1.al _
  have hll : w.heap.size ≤ lb := by rw [← hlb]; exact hg1.size
  rw [hwl] at hcl ⊢
  rw [hlb] at hcl ⊢
  have HCL := Lib.hid hcl
  clear hwl hlb hcl hg1 hcut
  go_loopw [0, 35] (fun b i wr => ∃ (k : Nat) (A' : Option Addr) (n' c' : Nat), i = .int .i64 (k : Int) ∧ k ≤ 3 ∧ b = .slice A' n' c' ∧ Rd wr A' n' (bs ++ pre3 f g q k) ∧ n' ≤ n0 + 10 * k ∧ Grew wl wr ∧ (0 < k → FreshA w.heap.size A' ∧ U8 wr A' ∧ n' ≤ c' ∧ c' ≤ 9223372036854775807)) (fun _ i _ => 3 - (intOf i).toNat)
  case atStart => exact ⟨0, A0, n0, c0, rfl, by omega, rfl, by show Rd _ _ _ (bs ++ []); rw [List.append_nil]; exact HB.out.keep hGl, by omega, Grew.rf _, fun h => by omega⟩
  case round =>
    obtain ⟨k, A', n', c', rfl, hk, rfl, hrk, hnk, hgk, hfk⟩ := hrel
    by_cases hk3 : k < 3
    · obtain ⟨v, hv1, hv2, hv3⟩ : ∃ v : Nat, v ≤ 1000 ∧ wl.cell? ⟨lb, k, none⟩ = some (.int .i64 (v : Int)) ∧ pre3 f g q (k + 1) = pre3 f g q k ++ leb (v : Int) := by
        rcases (by omega : k = 0 ∨ k = 1 ∨ k = 2) with rfl | rfl | rfl
        · exact ⟨f, by omega, cell_of_heap HCL.out rfl, (List.nil_append _).symm⟩
        · exact ⟨g, by omega, cell_of_heap HCL.out rfl, rfl⟩
        · exact ⟨q, by omega, cell_of_heap HCL.out rfl, (List.append_assoc _ _ _).symm⟩
      have hce := hgk.ce hv2
      have hlen := leb_len (v := (v : Int)) (by omega)
      have hp := put_any A' n' c' (bs ++ pre3 f g q k) (v : Int) wr hrk (by omega) (by omega) (by omega)
      have HP := Lib.hid hp
      have HV := Lib.hid hv3
      have HLN := Lib.hid hlen
      have HRK := Lib.hid hrk
      clear hp hv2 hv3 hlen hrk hfk
      go_wp2_with (go_at_call 41; refine Calls.mono HP.out ?_; rintro e w3 ⟨v3, rfl, ho3, hg3⟩)
      go_roundw
      case rel =>
        obtain ⟨A3, c3, rfl, hc3, hm3, hr3⟩ := ho3.rd
        have h1 := HRK.out.len
        have h2 := HLN.out
        have h5 := hgk.size
        have h6 := hGl.size
        refine ⟨k + 1, A3, _, c3, by go_num, by omega, rfl, ?_, by simp only [List.length_append] at h1 ⊢; omega, hgk.tr hg3, fun _ => ⟨ho3.fresh.mono (by omega), ho3.u8, hc3, hm3⟩⟩
        rw [HV.out, ← List.append_assoc]
        exact hr3
      case measure => simp [intOf]; omega
    · obtain rfl : k = 3 := by omega
      obtain ⟨hfr0, hu80, hnc0, hcm0⟩ := hfk (by omega)
      have hpre : pre3 f g q 3 = leb (f : Int) ++ (leb (g : Int) ++ leb (q : Int)) := rfl
      obtain ⟨pb, hpb⟩ : ∃ pb, pre3 f g q 3 = pb := ⟨_, rfl⟩
      rw [hpb] at hpre hrk
      have HPB := Lib.hid hpre
      have hI0 : PutQ w wr p lv mb (bs ++ pb) ts A' n' c' := ⟨hrk, hnc0, hcm0, hfr0, hu80, ⟨lv, HT.out.keep (hGl.tr hgk), fun k h => .inl h, fun ad e h => by have := hfr0 ad e; have := HT.out.lt h; omega⟩, Chg.of (hGl.tr hgk)⟩
      have HI0 := Lib.hid hI0
      clear hpb hpre hrk hfr0 hu80 hnc0 hcm0 hgk hfk hI0 hGl hll HCL hk hk3
      go_wp2_with fail
      go_loopw [0, 46] (fun b i wr => ∃ (k : Nat) (B' : Option Addr) (m' d' : Nat), i = .int .i64 (k : Int) ∧ k ≤ q ∧ b = .slice B' m' d' ∧ PutQ w wr p lv mb ((bs ++ pb) ++ (putFs ts (fr.take k)).1) (putFs ts (fr.take k)).2 B' m' d') (fun _ i _ => q - (intOf i).toNat)
      case atStart => exact ⟨0, A', n', c', rfl, Nat.zero_le _, rfl, by simpa [putFs] using HI0.out⟩
      case round =>
        rename_i hrel0
        obtain ⟨k, B', m', d', rfl, hk, rfl, hQ⟩ := hrel
        have HQ := Lib.hid hQ
        clear hQ HI0
        by_cases hlt : k < q
        · obtain ⟨x, hx⟩ : ∃ x, fr[k]? = some x := ⟨_, List.getElem?_eq_getElem (by rw [HL.out]; exact hlt)⟩
          have hR := HR1.out.chg HQ.out.chg HB1.out
          obtain ⟨b1, o1, x', hA, hx', ha1, ha2⟩ := hR.atH hlt
          rw [hx] at hx'
          obtain rfl := Option.some.inj hx'
          have hsn := putFs_snoc (fr.take k) ts x
          have htk : fr.take k ++ [x] = fr.take (k + 1) := by
            have h2 := (List.getElem?_eq_some_iff.1 hx).2
            rw [← h2, List.take_append_getElem]
          rw [htk] at hsn
          have hzx := HZ.out x (List.mem_of_getElem? hx)
          have hlk := putFs_len (fr.take k) ts (fun h hh => HZ.out h (List.mem_of_mem_take hh)) (by rw [List.length_take, HL.out]; omega)
          rw [List.length_take, HL.out] at hlk
          have HSN := Lib.hid hsn
          have hpbl : pb.length ≤ 30 := by
            rw [HPB.out]
            have h1 := leb_len (v := (f : Int)) (by omega)
            have h2 := leb_len (v := (g : Int)) (by omega)
            have h3 := leb_len (v := (q : Int)) (by omega)
            simp only [List.length_append]; omega
          obtain ⟨o, ho⟩ : ∃ o, (bs ++ pb) ++ (putFs ts (fr.take k)).1 = o := ⟨_, rfl⟩
          obtain ⟨us, hus⟩ : ∃ us, (putFs ts (fr.take k)).2 = us := ⟨_, rfl⟩
          have hml := HQ.out.rd.len
          have hbl := HB.out.len
          have hmm : m' ≤ 50000000 := by
            rw [← hml]
            simp only [List.length_append]; omega
          have HQ2 : RowKit.Hid (PutQ w wr p lv mb o us B' m' d') := by rw [← ho, ← hus]; exact HQ.out
          rw [hus] at hsn hlk
          have hul : us.length + 2 ≤ 1000000 := by omega
          obtain ⟨us1, hus1⟩ : ∃ us1, (putT us x.1).2 = us1 := ⟨_, rfl⟩
          obtain ⟨us2, hus2⟩ : ∃ us2, (putT us1 x.2).2 = us2 := ⟨_, rfl⟩
          have hp1 := putT_len2 us x.1 (by omega) (by omega)
          rw [hus1] at hp1
          obtain ⟨o1', ho1⟩ : ∃ o1', o ++ (putT us x.1).1 = o1' := ⟨_, rfl⟩
          obtain ⟨o2', ho2⟩ : ∃ o2', o1' ++ (putT us1 x.2).1 = o2' := ⟨_, rfl⟩
          have hm2 : o1'.length ≤ 60000000 := by
            have h1 := HQ2.out.rd.len
            rw [← ho1, List.length_append, h1]; omega
          obtain ⟨l1, hT1, hf1, _⟩ := HQ2.out.tab
          have hP1 := fun (u : World) (h : TabI u p l1 mb us) (h2 : Rd u B' m' o) => tput_any p l1 mb us x.1 B' m' d' o u h h2 (fun _ => HQ2.out.u8.tab hT1) (by omega) (by omega) (by omega)
          have hP2 := fun (u : World) (l : Value) (A : Option Addr) (n c : Nat) (h : TabI u p l mb us1) (h2 : Rd u A n o1') (h3 : U8 u A) => tput_any p l mb us1 x.2 A n c o1' u h h2 (fun _ => h3.tab h) (by omega) (by have := h2.len; omega) (by omega)
          rw [ho1, hus1] at hP1
          rw [ho2, hus2] at hP2
          have HE1 : RowKit.Hid (o2' = (bs ++ pb) ++ (putFs ts (fr.take (k + 1))).1 ∧ us2 = (putFs ts (fr.take (k + 1))).2) := by
            rw [hsn]
            refine ⟨?_, ?_⟩
            · rw [← ho2, ← ho1, ← ho, hus1]; simp only [List.append_assoc]
            · rw [← hus2, ← hus1]
          have HP1 := Lib.hid hP1
          have HP2 := Lib.hid hP2
          have HT1 := Lib.hid hT1
          have HF1 := Lib.hid hf1
          obtain ⟨hs1, hs2⟩ := hzx
          subst hA
          clear hsn htk hx ho hus hml hbl hlk hpbl hus1 hus2 ho1 ho2 hP1 hP2 hT1 hf1 hp1 HSN HQ hR hx' hul hmm hm2
          go_wp2_with fail
          obtain ⟨hb, hhb⟩ : ∃ hb, wr.heap.size = hb := ⟨_, rfl⟩
          have hcx := heap_alloc_new wr (.cells #[.string x.1, .string x.2] 124)
          obtain ⟨W0, hW0⟩ : ∃ W0, wr.alloc (.cells #[.string x.1, .string x.2] 124) = W0 := ⟨_, rfl⟩
          have hgW : Grew wr W0 := by rw [← hW0]; exact (Grew.rf wr).al _
          have hsW : W0.heap.size = hb + 1 := by rw [← hW0, World.size_alloc, hhb]
          rw [hhb, hW0] at hcx ⊢
          clear hW0
          have hT0 : TabI W0 p l1 mb us ∧ Rd W0 B' m' o := ⟨HT1.out.keep hgW, HQ2.out.rd.keep hgW⟩
          have hS : TwoK false true (GP W0 p l1 mb) (GP W0 p l1 mb) (fun u => TabI u p l1 mb us ∧ Rd u B' m' o) (fun _ => True) (PairP W0 p l1 mb) :=
            ⟨fun _ _ h hg => h.b0 hg, fun _ _ h hg => h.b1 hg, fun _ _ h hg => h.b1 hg, fun _ _ h hg => ⟨h.1.keep hg, h.2.keep hg⟩, (fun h => by cases h), (fun _ _ _ _ => trivial), (fun _ _ _ _ _ => trivial)⟩
          have hB0 : PairP W0 p l1 mb W0 := ⟨Chg.of (Grew.rf W0)⟩
          have hhF : ¬ ftp p l1 mb hb := fun h => by have := HT1.out.lt h; omega
          have hcu : ∀ u, PairP W0 p l1 mb u → u.heap[hb]? = some (.cells #[.string x.1, .string x.2] 124) := fun u h => h.chg.by_ hcx hhF
          have HCU := Lib.hid hcu
          have HHB := Lib.hid hhb
          have HSW := Lib.hid hsW
          have HGW := Lib.hid hgW
          clear hcu hcx hhb hsW hgW hhF ha1 ha2
          refine region_twok 5 8 hS hB0 hT0 trivial [(8, 5)] [[], [], [], [], [(3, 53)], [(1, 51), (2, 52), (4, 54)], [], [(6, 56)], [(0, 50), (5, 55), (7, 57)], [(2, 52), (8, 58)]] [(0, 50), (1, 51), (2, 52), (3, 53), (4, 54), (5, 55), (6, 56), (7, 57), (8, 58), (9, 0)] (fun
            | 0 => .eqv (.pointer (some ⟨p, 0, none⟩)) | 1 => .eqv (.pointer (some ⟨p, 0, none⟩)) | 2 => .eqv (.slice B' m' d') | 3 => .eqv (.pointer (some ⟨hb, 0, none⟩)) | 4 => .eqv (.string x.1) | 5 => pxP W0 p l1 mb o1' us1 | 6 => .eqv (.pointer (some ⟨hb, 1, none⟩)) | 7 => .eqv (.string x.2) | 8 => pxP W0 p l1 mb o2' us2 | 9 => pxP W0 p l1 mb o2' us2 | _ => .any) rfl (by kernel_rfl) (by kernel_rfl) ?_ ?_
          · refine ⟨fun u hu hx => ?_, fun u hu hx => ?_, fun u hu hx => ?_, fun u hu hx => ?_, fun u hu hx => ?_, fun u hu hx => ?_, fun u hu hx => ?_, fun u hu hx => ?_, fun u hu hx => ?_, fun u hu hx => ?_, trivial⟩
            · refine StepGoal.nil ?_
              go_wp2
              exact ⟨rfl, rfl, Grew.rf _, rfl⟩
            · refine StepGoal.nil ?_
              go_wp2
              exact ⟨rfl, rfl, Grew.rf _, rfl⟩
            · refine StepGoal.nil ?_
              go_wp2
              exact ⟨rfl, rfl, Grew.rf _, rfl⟩
            · refine StepGoal.nil ?_
              go_wp2
              exact ⟨rfl, rfl, Grew.rf _, rfl⟩
            · rintro _ rfl
              have hce := cell_of_heap (i := 0) (HCU.out u hu) rfl
              refine StepGoal.nil ?_
              simp only [Act.put, List.setIfInBounds_toArray, List.set_cons_zero, List.set_cons_succ]
              go_wp2
              exact ⟨rfl, rfl, Grew.rf _, rfl⟩
            · rintro _ rfl _ rfl _ rfl
              have hx1 : TabI u p l1 mb us ∧ Rd u B' m' o := hx
              refine StepGoal.nil ?_
              simp only [Act.put, List.setIfInBounds_toArray, List.set_cons_zero, List.set_cons_succ]
              go_wp2_with (go_at_call 23; refine Calls.mono (HP1.out _ hx1.1 hx1.2) ?_; rintro e w' ⟨B, m, d, rfl, Q⟩)
              exact ⟨rfl, rfl, GP.of1 Q, PutW.of Q hu.chg.size⟩
            · refine StepGoal.nil ?_
              go_wp2
              exact ⟨rfl, rfl, Grew.rf _, rfl⟩
            · rintro _ rfl
              have hce := cell_of_heap (i := 1) (HCU.out u hu) rfl
              refine StepGoal.nil ?_
              simp only [Act.put, List.setIfInBounds_toArray, List.set_cons_zero, List.set_cons_succ]
              go_wp2
              exact ⟨rfl, rfl, Grew.rf _, rfl⟩
            · rintro _ rfl v55 h55 _ rfl
              obtain ⟨B5, m5, d5, rfl, r5, _, _, _, q5, l5, T5, f5⟩ : PutW W0 p l1 mb o1' us1 v55 u := h55
              refine StepGoal.nil ?_
              simp only [Act.put, List.setIfInBounds_toArray, List.set_cons_zero, List.set_cons_succ]
              go_wp2_with (go_at_call 23; refine Calls.mono (HP2.out _ l5 B5 m5 d5 T5 r5 q5) ?_; rintro e w' ⟨B, m, d, rfl, Q⟩)
              exact ⟨rfl, rfl, GP.of2 Q f5, PutW.of2 Q hu.chg.size f5⟩
            · rintro _ rfl v58 h58
              refine StepGoal.nil ?_
              simp only [Act.put, List.setIfInBounds_toArray, List.set_cons_zero, List.set_cons_succ]
              go_wp2
              exact ⟨rfl, rfl, Grew.rf _, h58⟩
          · intro u hu
            rintro _ rfl _ rfl _ rfl _ rfl _ rfl v55 _ _ rfl _ rfl v58 h58 v0 h0
            refine StepGoal.nil ?_
            simp only [Act.put, List.setIfInBounds_toArray, List.set_cons_zero, List.set_cons_succ]
            obtain ⟨B6, m6, d6, rfl, r6, e6, c6, s6, q6, l6, T6, f6⟩ : PutW W0 p l1 mb o2' us2 v0 u := h0
            have hchg := HQ2.out.chg
            have hB0' : hb = wr.heap.size := HHB.out.symm
            have hsz := HSW.out
            have hws := hchg.size
            have hN : PutQ w u p lv mb ((bs ++ pb) ++ (putFs ts (fr.take (k + 1))).1) (putFs ts (fr.take (k + 1))).2 B6 m6 d6 := by
              rw [← HE1.out.1, ← HE1.out.2]
              refine ⟨r6, e6, c6, s6.mono (by omega), q6, ⟨l6, T6, fun j hj => ?_, fun ad e => q6.tab T6 ad e⟩, hchg.tr ((Chg.of HGW.out).tr (hu.chg.mono fun j hj => .inl hj) |>.mono fun j hj => HF1.out j hj)⟩
              rcases f6 j hj with h | h
              · exact HF1.out j h
              · exact .inr (by omega)
            have HN := Lib.hid hN
            clear hN hchg hB0' hsz hws r6 e6 c6 s6 q6 T6 f6 hu hS hT0 hB0
            go_wp2_with fail
            go_roundw
            case rel => exact ⟨k + 1, B6, m6, d6, by go_num, by omega, rfl, HN.out⟩
            case measure => simp [intOf]; omega
        · have hfin : fr.take k = fr := List.take_of_length_le (by rw [HL.out]; omega)
          have HFIN := Lib.hid hfin
          clear hfin
          go_wp2_with fail
          go_ret
          refine ⟨_, _, _, rfl, ?_⟩
          have := HQ.out
          rw [HFIN.out, List.append_assoc, HPB.out, List.append_assoc, List.append_assoc] at this
          exact this
end Go.Proofs.Ytbkcpgaicoagfaa
