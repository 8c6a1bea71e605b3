/- What the frames of Memo's statements are told of rows of deeds. -/
import Derived.Test.YtcllmhabhbnihaaMemo12
import Derived.Test.YtcllmhabhbnihaaArg15
namespace Go.Proofs.Ytcllmhabhbnihaa
open Go.ChangeShapes Go.WideShapes Go.ChangeAt Go.RowKit
set_option linter.unusedVariables false

def IsDees (w : World) (a : Option Addr) (len cap : Nat) (l : List Dee) : Prop := RdD w a len l ∧ (∀ d ∈ l, (Lit.int .u8 d.1).wf = true) ∧ len ≤ cap ∧ cap ≤ 9223372036854775807

theorem deed_cells {H : Type} {enc : TypeId × Value → H} {w : World} {base : Nat} {spare : Nat → Bool} {held : Bool} {fuel : Nat} {cs : List Value} {x : DataW H × List MemPlace}
    (h : DataW.trod enc Try.prog w base spare held fuel 34 cs = some x) : ∃ d : Dee, cs = dv d ∧ (Lit.int .u8 d.1).wf = true := by
  obtain ⟨xs, n, _, _, hlen, hxl, hf⟩ := DataW.trod_struct Try.underlying34 h
  have hl8 : cs.length = 8 := hlen.trans (by kernel_rfl)
  have hat : ∀ i, i < 3 → ∃ y, xs[i]? = some y := fun i hi => ⟨_, List.getElem?_eq_getElem (by rw [hxl]; exact hi)⟩
  obtain ⟨y0, e0⟩ := hat 0 (by decide)
  obtain ⟨y1, e1⟩ := hat 1 (by decide)
  obtain ⟨y2, e2⟩ := hat 2 (by decide)
  have k1 : Try.prog.cellsOf 5 = 1 := by kernel_rfl
  have k2 : Try.prog.cellsOf 32 = 6 := by kernel_rfl
  have k3 : Try.prog.cellsOf 3 = 1 := by kernel_rfl
  have f0 : DataW.trod enc Try.prog w base spare held n 5 ((cs.drop 0).take (Try.prog.cellsOf 5)) = some y0 := (hf 0 _ rfl).trans e0
  have f1 : DataW.trod enc Try.prog w base spare held n 32 ((cs.drop 1).take (Try.prog.cellsOf 32)) = some y1 := (hf 1 _ rfl).trans e1
  have f2 : DataW.trod enc Try.prog w base spare held n 3 ((cs.drop 7).take (Try.prog.cellsOf 3)) = some y2 := (hf 2 _ rfl).trans e2
  rw [k1] at f0
  rw [k2] at f1
  rw [k3] at f2
  obtain ⟨s0, g0, _, wf⟩ := DataW.trod_int Try.underlying5 f0
  obtain ⟨a, g1, _⟩ := ask_cells f1
  obtain ⟨s2, g2, _⟩ := DataW.trod_int Try.underlying3 f2
  refine ⟨(s0, a, s2), ?_, wf⟩
  apply List.ext_getElem?
  intro i
  by_cases hi : i < 8
  · rcases (by omega : i = 0 ∨ i = 7 ∨ (1 ≤ i ∧ i < 7)) with rfl | rfl | ⟨h1, h2⟩
    · exact drop_take_one g0
    · exact drop_take_one g2
    · have := congrArg (fun q : List Value => q[i - 1]?) g1
      simp only [List.getElem?_take, List.getElem?_drop] at this
      rw [if_pos (by omega), show 1 + (i - 1) = i by omega] at this
      rw [this]
      obtain ⟨j, rfl⟩ : ∃ j, i = j + 1 := ⟨i - 1, by omega⟩
      simp only [dv, Nat.add_sub_cancel, List.getElem?_cons_succ]
      rw [List.getElem?_append_left (by simp [av]; omega)]
  · rw [List.getElem?_eq_none (by omega), List.getElem?_eq_none (by simp [dv, av]; omega)]

theorem dees_by {w : World} {b o n : Nat} (h : ∀ i, i < n → ∃ d : Dee, (Lit.int .u8 d.1).wf = true ∧ ∀ j v, (dv d)[j]? = some v → w.cell? ⟨b, o + i * 8 + j, none⟩ = some v) : ∃ l : List Dee, RdD w (some ⟨b, o, none⟩) n l ∧ ∀ d ∈ l, (Lit.int .u8 d.1).wf = true := by
  induction n with
  | zero => exact ⟨[], RdV.nil _ _ _, fun t ht => by cases ht⟩
  | succ n ih =>
    obtain ⟨l, hl, hs⟩ := ih (fun i hi => h i (by omega))
    obtain ⟨d, hw, hc⟩ := h n (by omega)
    have hll := hl.lenD
    refine ⟨l ++ [d], ⟨by rw [dcs_len, List.length_append, hll]; simp, fun _ => ⟨b, o, rfl, fun j u hj => ?_⟩⟩, fun x hx => ?_⟩
    · rw [dcs_append] at hj
      by_cases hlt : j < n * 8
      · rw [List.getElem?_append_left (by rw [dcs_len, hll]; exact hlt)] at hj
        obtain ⟨b', o', e, hc⟩ := hl.cells (by omega)
        cases e
        exact hc j u hj
      · rw [List.getElem?_append_right (by rw [dcs_len, hll]; omega), dcs_len, hll] at hj
        have e1 : dcs [d] = dv d := by simp [dcs]
        rw [e1] at hj
        have := hc _ _ hj
        rw [Nat.add_assoc, show n * 8 + (j - n * 8) = j by omega] at this
        exact this
    · rcases List.mem_append.1 hx with hx | hx
      · exact hs x hx
      · rw [List.mem_singleton] at hx; subst hx; exact hw
theorem dees_open {H : Type} {enc : TypeId × Value → H} {w : World} {spare : Nat → Bool} {held : Bool} {fuel : Nat} {a : Option Addr} {len cap : Nat} {x : DataW H × List MemPlace}
    (h : DataW.trod enc Try.prog w 0 spare held fuel 22 [.slice a len cap] = some x) : ∃ l, IsDees w a len cap l := by
  have hC : Try.prog.cellsOf 34 = 8 := by kernel_rfl
  rcases Go.Deep.open_slice Try.underlying22 h with ⟨hcs, _⟩ | ⟨ad, len', cap', m, n, D, Pl, hcs, _, hl, hm, hmm, _, hc⟩
  · simp at hcs
    obtain ⟨rfl, rfl, rfl⟩ := hcs
    exact ⟨[], RdV.nil _ _ _, (fun t ht => by cases ht), by omega, by omega⟩
  · simp at hcs
    obtain ⟨rfl, rfl, rfl⟩ := hcs
    have hlm : len ≤ m := by rw [hmm]; split <;> omega
    rw [hC] at hc
    rcases Nat.eq_zero_or_pos len with h0 | h0
    · subst h0
      exact ⟨[], RdV.nil _ _ _, (fun t ht => by cases ht), by omega, by simpa [maxLen] using hm⟩
    · have hall : ∀ i, i < len → ∃ d : Dee, (Lit.int .u8 d.1).wf = true ∧ ∀ j v, (dv d)[j]? = some v → w.cell? ((ad.add (i * 8)).add j) = some v := fun i hi => by
        obtain ⟨cs', hce, ht⟩ := hc i (by omega)
        obtain ⟨d, rfl, hw⟩ := deed_cells ht
        obtain ⟨_, hcl, hat⟩ := World.cells?_some hce
        refine ⟨d, hw, fun j v hj => ?_⟩
        have hj8 : j < 8 := by have := (List.getElem?_eq_some_iff.1 hj).1; simpa [dv, av] using this
        rw [hat j hj8]
        exact hj
      obtain ⟨d0, _, hc0⟩ := hall 0 (by omega)
      have hp := plain_of_cell (hc0 0 _ rfl)
      have hsp : ad.spot = none := by simpa [Addr.add] using hp
      obtain ⟨b, o, sp⟩ := ad
      simp only at hsp
      subst hsp
      obtain ⟨l, hl1, hl2⟩ := dees_by (w := w) (b := b) (o := o) (n := len) (fun i hi => by
        obtain ⟨d, hw, hcc⟩ := hall i hi
        refine ⟨d, hw, fun j v hj => ?_⟩
        have := hcc j v hj
        rw [add_plain, add_plain] at this
        exact this)
      exact ⟨l, hl1, hl2, hl, by simpa [maxLen] using hm⟩
end Go.Proofs.Ytcllmhabhbnihaa
