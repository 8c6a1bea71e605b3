/- What the frames of Intern's statements are told of the arguments: rows of bytes and rows of texts. -/
import Derived.Test.YtbkcpgaicoagfaaEg6
import Derived.SliceStrings
import Derived.WalkKit
import Derived.ProofKit
import Derived.OpenShut
import Derived.ChangeOld
import Derived.Below
import Derived.Test.YtbkcpgaicoagfaaEg12
import Derived.Deep.SlicePairs
import Derived.Test.YtbkcpgaicoagfaaEg18
import Derived.Test.YtbkcpgaicoagfaaEg27
import Derived.ChangeSame
import Derived.Deep.Slices
import Derived.Deep.Fields
import Derived.Lib.SmallJoins
namespace Go.Proofs.Ytbkcpgaicoagfaa
open Go.ChangeShapes Go.WideShapes Go.ChangeAt Go.RowKit
set_option linter.unusedVariables false

def IsRow19 (k : IntKind) (w : World) (a : Option Addr) (len cap : Nat) (zs : List Int) : Prop :=
  (a = none ∧ len = 0 ∧ cap = 0 ∧ zs = []) ∨
  ∃ x, a = some x ∧ len ≤ cap ∧ cap ≤ maxLen ∧ zs.length = cap ∧ (∀ i, i < zs.length → w.cell? (x.add i) = some (.int k (zs.getD i 0))) ∧ ∀ n ∈ zs, (Lit.int k n).wf = true

theorem IsRow19.rd {w : World} {a : Option Addr} {len cap : Nat} {zs : List Int} (h : IsRow19 .u8 w a len cap zs) : Rd w a len (zs.take len) ∧ Byt (zs.take len) ∧ len ≤ cap ∧ cap ≤ 9223372036854775807 := by
  rcases h with ⟨rfl, rfl, rfl, rfl⟩ | ⟨x, rfl, h1, h2, h3, h4, h5⟩
  · exact ⟨RdK.nil _ _ _, fun x hx => by simp at hx, by omega, by omega⟩
  · refine ⟨⟨by rw [List.length_take]; omega, fun hn => ?_⟩, fun y hy => ?_, h1, by simpa [maxLen] using h2⟩
    · have h0 := h4 0 (by omega)
      have hs : x.spot = none := by
        have := plain_of_cell h0
        simpa [Addr.add] using this
      obtain ⟨b, o, sp⟩ := x
      simp only at hs
      subst hs
      refine ⟨b, o, rfl, fun j hj => ?_⟩
      have := h4 j (by omega)
      rw [add_plain] at this
      rw [this]
      simp [List.getD_eq_getElem?_getD, hj]
    · exact bounds_u8 (h5 y (List.mem_of_mem_take hy))

def IsStrs19 (w : World) (a : Option Addr) (len cap : Nat) (ss : List ByteArray) : Prop :=
  (a = none ∧ len = 0 ∧ cap = 0 ∧ ss = []) ∨
  ∃ x, a = some x ∧ len ≤ cap ∧ cap ≤ maxLen ∧ ss.length = cap ∧ (∀ i, i < ss.length → w.cell? (x.add i) = some (.string (ss.getD i ByteArray.empty))) ∧ ∀ s ∈ ss, s.size ≤ maxLen

theorem IsStrs19.rd {w : World} {a : Option Addr} {len cap : Nat} {ss : List ByteArray} (h : IsStrs19 w a len cap ss) : RdV 1 w a len ((ss.take len).map Value.string) ∧ (∀ t ∈ ss.take len, t.size ≤ 9223372036854775807) ∧ len ≤ 9223372036854775807 := by
  rcases h with ⟨rfl, rfl, rfl, rfl⟩ | ⟨x, rfl, h1, h2, h3, h4, h5⟩
  · exact ⟨⟨by simp, fun h => by omega⟩, fun x hx => by simp at hx, by omega⟩
  · refine ⟨⟨by rw [List.length_map, List.length_take]; omega, fun hn => ?_⟩, fun y hy => ?_, Nat.le_trans h1 (by simpa [maxLen] using h2)⟩
    · have h0 := h4 0 (by omega)
      have hs : x.spot = none := by
        have := plain_of_cell h0
        simpa [Addr.add] using this
      obtain ⟨b, o, sp⟩ := x
      simp only at hs
      subst hs
      refine ⟨b, o, rfl, fun j u hj => ?_⟩
      rw [List.getElem?_map, Option.map_eq_some_iff] at hj
      obtain ⟨t, ht, rfl⟩ := hj
      have hjl : j < len := by
        have := (List.getElem?_eq_some_iff.1 ht).1
        rw [List.length_take] at this
        omega
      rw [List.getElem?_take, if_pos hjl] at ht
      have := h4 j (by omega)
      rw [add_plain] at this
      rw [this, List.getD_eq_getElem?_getD, ht]
      rfl
    · simpa [maxLen] using h5 y (List.mem_of_mem_take hy)
end Go.Proofs.Ytbkcpgaicoagfaa
/- What the frames of Delta's statements are told of the arguments: rows of bytes and rows of headers. -/
namespace Go.Proofs.Ytbkcpgaicoagfaa
open Go.ChangeShapes Go.WideShapes Go.ChangeAt Go.RowKit
set_option linter.unusedVariables false

def IsHdrs20 (w : World) (a : Option Addr) (len cap : Nat) (l : List Hdr) : Prop := RdH w a len l ∧ (∀ t ∈ l, t.1.size ≤ 9223372036854775807 ∧ t.2.size ≤ 9223372036854775807) ∧ len ≤ cap ∧ cap ≤ 9223372036854775807

theorem hdrs_by {w : World} {b o n : Nat} (h : ∀ i, i < n → ∃ s t : ByteArray, w.cell? ⟨b, o + i * 2, none⟩ = some (.string s) ∧ w.cell? ⟨b, o + i * 2 + 1, none⟩ = some (.string t) ∧ s.size ≤ 9223372036854775807 ∧ t.size ≤ 9223372036854775807) : ∃ l, RdH w (some ⟨b, o, none⟩) n l ∧ ∀ t ∈ l, t.1.size ≤ 9223372036854775807 ∧ t.2.size ≤ 9223372036854775807 := by
  induction n with
  | zero => exact ⟨[], RdV.nil _ _ _, fun t ht => by cases ht⟩
  | succ n ih =>
    obtain ⟨l, hl, hs⟩ := ih (fun i hi => h i (by omega))
    obtain ⟨s, t, h1, h2, h3, h4⟩ := h n (by omega)
    have hll := hl.lenH
    refine ⟨l ++ [(s, t)], ⟨by rw [hcs_len, List.length_append, hll]; simp, fun _ => ⟨b, o, rfl, fun j u hj => ?_⟩⟩, fun x hx => ?_⟩
    · rw [hcs_append] at hj
      by_cases hlt : j < n * 2
      · rw [List.getElem?_append_left (by rw [hcs_len, hll]; exact hlt)] at hj
        obtain ⟨b', o', e, hc⟩ := hl.cells (by omega)
        cases e
        exact hc j u hj
      · rw [List.getElem?_append_right (by rw [hcs_len, hll]; omega), hcs_len, hll] at hj
        have hj2 : j - n * 2 < 2 := by have := (List.getElem?_eq_some_iff.1 hj).1; simpa [hcs] using this
        rcases (by omega : j = n * 2 ∨ j = n * 2 + 1) with rfl | rfl
        · rw [Nat.sub_self] at hj
          simp [hcs] at hj
          subst hj
          exact h1
        · rw [show n * 2 + 1 - n * 2 = 1 by omega] at hj
          simp [hcs] at hj
          subst hj
          rw [← Nat.add_assoc]
          exact h2
    · rcases List.mem_append.1 hx with hx | hx
      · exact hs x hx
      · rw [List.mem_singleton] at hx; subst hx; exact ⟨h3, h4⟩
theorem hdrs_open {H : Type} {enc : TypeId × Value → H} {w : World} {spare : Nat → Bool} {held : Bool} {fuel : Nat} {a : Option Addr} {len cap : Nat} {x : DataW H × List MemPlace}
    (h : DataW.trod enc Try.prog w 0 spare held fuel 31 [.slice a len cap] = some x) : ∃ l, IsHdrs20 w a len cap l := by
  rcases Go.Deep.open_slice_pairs Try.underlying31 Try.underlying124 (by kernel_rfl) rfl rfl (by kernel_rfl) (by kernel_rfl) h with ⟨hcs, _⟩ | ⟨ad, len', cap', m, n, V0, V1, D0, D1, P0, P1, hcs, _, hl, hm, hmm, _, hc⟩
  · simp at hcs
    obtain ⟨rfl, rfl, rfl⟩ := hcs
    exact ⟨[], RdV.nil _ _ _, (fun t ht => by cases ht), by omega, by omega⟩
  · simp at hcs
    obtain ⟨rfl, rfl, rfl⟩ := hcs
    have hlm : len ≤ m := by rw [hmm]; split <;> omega
    rcases Nat.eq_zero_or_pos len with h0 | h0
    · subst h0
      exact ⟨[], RdV.nil _ _ _, (fun t ht => by cases ht), by omega, by simpa [maxLen] using hm⟩
    · have hp := plain_of_cell (hc 0 (by omega)).1
      have hsp : ad.spot = none := by simpa [Addr.add] using hp
      obtain ⟨b, o, sp⟩ := ad
      simp only at hsp
      subst hsp
      obtain ⟨l, hl1, hl2⟩ := hdrs_by (w := w) (b := b) (o := o) (n := len) (fun i hi => by
        obtain ⟨c0, c1, t0, t1⟩ := hc i (by omega)
        rw [add_plain] at c0 c1
        obtain ⟨s, hs, _, hs2⟩ := DataW.trod_string (by kernel_rfl) t0
        obtain ⟨s', hs', _, hs2'⟩ := DataW.trod_string (by kernel_rfl) t1
        simp only [List.cons.injEq, and_true] at hs hs'
        rw [hs] at c0
        rw [hs'] at c1
        exact ⟨s, s', c0, by rw [← Nat.add_assoc] at c1; exact c1, by simpa [maxLen] using hs2, by simpa [maxLen] using hs2'⟩)
      exact ⟨l, hl1, hl2, hl, by simpa [maxLen] using hm⟩
end Go.Proofs.Ytbkcpgaicoagfaa
/- What the frames of Event's statements are told of the arguments: an event, rows of events. -/
namespace Go.Proofs.Ytbkcpgaicoagfaa
open Go.ChangeShapes Go.WideShapes Go.ChangeAt Go.RowKit
set_option linter.unusedVariables false

theorem drop_take_one {α : Type} {l : List α} {k : Nat} {x : α} (h : (l.drop k).take 1 = [x]) : l[k]? = some x := by
  have := congrArg (fun q : List α => q[0]?) h
  simpa [List.getElem?_take, List.getElem?_drop] using this

/-- An event of an argument: its headers' slice reads as the plain event's. -/
structure EvArg (w : World) (x : Ev) (A : Option Addr) (n c : Nat) : Prop where
  rd : RdH w A n x.hs
  le : n ≤ c
  cap : c ≤ 9223372036854775807
  nil : A = none → n = 0 ∧ c = 0
  evw : EvW x
theorem wf_rg64 {n : Int} (h : (Lit.int .i64 n).wf = true) : -9223372036854775808 ≤ n ∧ n ≤ 9223372036854775807 := by
  simp only [Lit.wf, Bool.and_eq_true, decide_eq_true_eq] at h
  exact h
theorem wf_rgu64 {n : Int} (h : (Lit.int .u64 n).wf = true) : 0 ≤ n ∧ n < 18446744073709551616 := by
  simp only [Lit.wf, Bool.and_eq_true, decide_eq_true_eq] at h
  have h2 : n ≤ 18446744073709551615 := h.2
  exact ⟨h.1, by omega⟩
theorem hdr_slice {H : Type} {enc : TypeId × Value → H} {w : World} {spare : Nat → Bool} {held : Bool} {fuel : Nat} {cs : List Value} {x : DataW H × List MemPlace}
    (h : DataW.trod enc Try.prog w 0 spare held fuel 31 cs = some x) : ∃ A n c l, cs = [.slice A n c] ∧ IsHdrs20 w A n c l ∧ (A = none → n = 0 ∧ c = 0) := by
  rcases Go.Deep.open_slice Try.underlying31 h with ⟨rfl, _⟩ | ⟨ad, len, cap, m, n, D, Pl, rfl, _⟩
  · obtain ⟨l, hl⟩ := hdrs_open h
    exact ⟨_, _, _, l, rfl, hl, fun _ => ⟨rfl, rfl⟩⟩
  · obtain ⟨l, hl⟩ := hdrs_open h
    exact ⟨_, _, _, l, rfl, hl, fun e => by cases e⟩
theorem ev_cells {H : Type} {enc : TypeId × Value → H} {w : World} {spare : Nat → Bool} {held : Bool} {fuel : Nat} {cs : List Value} {d : DataW H × List MemPlace}
    (h : DataW.trod enc Try.prog w 0 spare held fuel 34 cs = some d) : ∃ (x : Ev) (A : Option Addr) (n c : Nat), cs = (evA x A n c).toList ∧ EvArg w x A n c := by
  obtain ⟨xs, n, _, _, hlen, hxl, hf⟩ := DataW.trod_struct Try.underlying34 h
  have hl12 : cs.length = 12 := hlen.trans (by kernel_rfl)
  have hat : ∀ i, i < 12 → ∃ y, xs[i]? = some y := fun i hi => ⟨_, List.getElem?_eq_getElem (by rw [hxl]; exact hi)⟩
  have k1 : Try.prog.cellsOf 9 = 1 := by kernel_rfl
  have k2 : Try.prog.cellsOf 4 = 1 := by kernel_rfl
  have k3 : Try.prog.cellsOf 3 = 1 := by kernel_rfl
  have k4 : Try.prog.cellsOf 32 = 1 := by kernel_rfl
  have k5 : Try.prog.cellsOf 31 = 1 := by kernel_rfl
  obtain ⟨y0, e0⟩ := hat 0 (by decide)
  have f0 : DataW.trod enc Try.prog w 0 spare held n 3 ((cs.drop 0).take (Try.prog.cellsOf 3)) = some y0 := (hf 0 _ rfl).trans e0
  rw [k3] at f0
  obtain ⟨s0, g0, _, wf0⟩ := DataW.trod_int Try.underlying3 f0
  obtain ⟨y1, e1⟩ := hat 1 (by decide)
  have f1 : DataW.trod enc Try.prog w 0 spare held n 3 ((cs.drop 1).take (Try.prog.cellsOf 3)) = some y1 := (hf 1 _ rfl).trans e1
  rw [k3] at f1
  obtain ⟨s1, g1, _, wf1⟩ := DataW.trod_int Try.underlying3 f1
  obtain ⟨y2, e2⟩ := hat 2 (by decide)
  have f2 : DataW.trod enc Try.prog w 0 spare held n 3 ((cs.drop 2).take (Try.prog.cellsOf 3)) = some y2 := (hf 2 _ rfl).trans e2
  rw [k3] at f2
  obtain ⟨s2, g2, _, wf2⟩ := DataW.trod_int Try.underlying3 f2
  obtain ⟨y3, e3⟩ := hat 3 (by decide)
  have f3 : DataW.trod enc Try.prog w 0 spare held n 9 ((cs.drop 3).take (Try.prog.cellsOf 9)) = some y3 := (hf 3 _ rfl).trans e3
  rw [k1] at f3
  obtain ⟨s3, g3, _⟩ := DataW.trod_string Try.underlying9 f3
  obtain ⟨y4, e4⟩ := hat 4 (by decide)
  have f4 : DataW.trod enc Try.prog w 0 spare held n 9 ((cs.drop 4).take (Try.prog.cellsOf 9)) = some y4 := (hf 4 _ rfl).trans e4
  rw [k1] at f4
  obtain ⟨s4, g4, _⟩ := DataW.trod_string Try.underlying9 f4
  obtain ⟨y5, e5⟩ := hat 5 (by decide)
  have f5 : DataW.trod enc Try.prog w 0 spare held n 31 ((cs.drop 5).take (Try.prog.cellsOf 31)) = some y5 := (hf 5 _ rfl).trans e5
  rw [k5] at f5
  obtain ⟨A, m, c, l, g5, hl, hnil⟩ := hdr_slice f5
  obtain ⟨y6, e6⟩ := hat 6 (by decide)
  have f6 : DataW.trod enc Try.prog w 0 spare held n 9 ((cs.drop 6).take (Try.prog.cellsOf 9)) = some y6 := (hf 6 _ rfl).trans e6
  rw [k1] at f6
  obtain ⟨s6, g6, _⟩ := DataW.trod_string Try.underlying9 f6
  obtain ⟨y7, e7⟩ := hat 7 (by decide)
  have f7 : DataW.trod enc Try.prog w 0 spare held n 3 ((cs.drop 7).take (Try.prog.cellsOf 3)) = some y7 := (hf 7 _ rfl).trans e7
  rw [k3] at f7
  obtain ⟨s7, g7, _, wf7⟩ := DataW.trod_int Try.underlying3 f7
  obtain ⟨y8, e8⟩ := hat 8 (by decide)
  have f8 : DataW.trod enc Try.prog w 0 spare held n 3 ((cs.drop 8).take (Try.prog.cellsOf 3)) = some y8 := (hf 8 _ rfl).trans e8
  rw [k3] at f8
  obtain ⟨s8, g8, _, wf8⟩ := DataW.trod_int Try.underlying3 f8
  obtain ⟨y9, e9⟩ := hat 9 (by decide)
  have f9 : DataW.trod enc Try.prog w 0 spare held n 4 ((cs.drop 9).take (Try.prog.cellsOf 4)) = some y9 := (hf 9 _ rfl).trans e9
  rw [k2] at f9
  obtain ⟨s9, g9, _⟩ := DataW.trod_bool Try.underlying4 f9
  obtain ⟨y10, e10⟩ := hat 10 (by decide)
  have f10 : DataW.trod enc Try.prog w 0 spare held n 9 ((cs.drop 10).take (Try.prog.cellsOf 9)) = some y10 := (hf 10 _ rfl).trans e10
  rw [k1] at f10
  obtain ⟨s10, g10, _⟩ := DataW.trod_string Try.underlying9 f10
  obtain ⟨y11, e11⟩ := hat 11 (by decide)
  have f11 : DataW.trod enc Try.prog w 0 spare held n 32 ((cs.drop 11).take (Try.prog.cellsOf 32)) = some y11 := (hf 11 _ rfl).trans e11
  rw [k4] at f11
  obtain ⟨s11, g11, _, wf11⟩ := DataW.trod_int Try.underlying32 f11
  refine ⟨⟨s0, s1, s2, s3, s4, l, s6, s7, s8, s9, s10, s11⟩, A, m, c, ?_, ⟨hl.1, hl.2.2.1, hl.2.2.2, hnil, ⟨wf_rg64 wf0, wf_rg64 wf1, wf_rg64 wf2, wf_rg64 wf7, wf_rg64 wf8, wf_rgu64 wf11⟩⟩⟩
  apply List.ext_getElem?
  intro i
  by_cases hi : i < 12
  · rcases (by omega : i = 0 ∨ i = 1 ∨ i = 2 ∨ i = 3 ∨ i = 4 ∨ i = 5 ∨ i = 6 ∨ i = 7 ∨ i = 8 ∨ i = 9 ∨ i = 10 ∨ i = 11) with rfl | rfl | rfl | rfl | rfl | rfl | rfl | rfl | rfl | rfl | rfl | rfl
    · exact drop_take_one g0
    · exact drop_take_one g1
    · exact drop_take_one g2
    · exact drop_take_one g3
    · exact drop_take_one g4
    · exact drop_take_one g5
    · exact drop_take_one g6
    · exact drop_take_one g7
    · exact drop_take_one g8
    · exact drop_take_one g9
    · exact drop_take_one g10
    · exact drop_take_one g11
  · rw [List.getElem?_eq_none (by omega), List.getElem?_eq_none (by simp; omega)]
set_option maxRecDepth 100000 in
theorem ev_open {H : Type} {enc : TypeId × Value → H} {w : World} {b0 : Nat} {spare : Nat → Bool} {held : Bool} {r : Reach} {v : Value} {d : DataW H} {p : List MemPlace}
    (hv : Value.okWide Try.prog w r b0 34 v) (h : DataW.Trod enc Try.prog w 0 spare held 34 v d p) : ∃ (x : Ev) (A : Option Addr) (n c : Nat), v = evV x A n c ∧ EvArg w x A n c := by
  obtain ⟨cs, rfl, hsz⟩ := okWide_struct Try.underlying34 hv
  obtain ⟨fuel, hf⟩ := h
  obtain ⟨x, A, n, c, ha, hw⟩ := ev_cells hf
  refine ⟨x, A, n, c, ?_, hw⟩
  have : cs.toList = (evA x A n c).toList := by simpa [Value.cells] using ha
  rw [Array.toList_inj.1 this]

/-! ### Rows of events -/
abbrev Evr := Ev × Option Addr × Nat × Nat
abbrev ecl (r : Evr) : List Value := (evA r.1 r.2.1 r.2.2.1 r.2.2.2).toList
def ecs (l : List Evr) : List Value := l.flatMap ecl
set_option maxRecDepth 10000 in
theorem ecs_len (l : List Evr) : (ecs l).length = l.length * 12 := by
  induction l with
  | nil => rfl
  | cons x l ih => have h12 : (ecl x).length = 12 := rfl; have e : ecs (x :: l) = ecl x ++ ecs l := List.flatMap_cons; have h2 : (x :: l).length = l.length + 1 := rfl; rw [e, List.length_append, h12, ih, h2]; omega
theorem ecs_append (l m : List Evr) : ecs (l ++ m) = ecs l ++ ecs m := by simp [ecs]
abbrev RdE (w : World) (a : Option Addr) (len : Nat) (l : List Evr) : Prop := RdV 12 w a len (ecs l)
theorem RdV.lenE {w : World} {a : Option Addr} {len : Nat} {l : List Evr} (h : RdE w a len l) : l.length = len := by
  have := h.len
  rw [ecs_len] at this
  omega
def IsEvs (w : World) (a : Option Addr) (len cap : Nat) (l : List Evr) : Prop := RdE w a len l ∧ (∀ r ∈ l, EvArg w r.1 r.2.1 r.2.2.1 r.2.2.2) ∧ len ≤ cap ∧ cap ≤ 9223372036854775807

theorem evs_by {w : World} {b o n : Nat} (h : ∀ i, i < n → ∃ r : Evr, EvArg w r.1 r.2.1 r.2.2.1 r.2.2.2 ∧ ∀ j v, (ecl r)[j]? = some v → w.cell? ⟨b, o + i * 12 + j, none⟩ = some v) : ∃ l : List Evr, RdE w (some ⟨b, o, none⟩) n l ∧ ∀ r ∈ l, EvArg w r.1 r.2.1 r.2.2.1 r.2.2.2 := by
  induction n with
  | zero => exact ⟨[], RdV.nil _ _ _, fun t ht => by cases ht⟩
  | succ n ih =>
    obtain ⟨l, hl, hs⟩ := ih (fun i hi => h i (by omega))
    obtain ⟨d, hw, hc⟩ := h n (by omega)
    have hll := RdV.lenE hl
    refine ⟨l ++ [d], ⟨by rw [ecs_len, List.length_append, hll]; simp, fun _ => ⟨b, o, rfl, fun j u hj => ?_⟩⟩, fun x hx => ?_⟩
    · rw [ecs_append] at hj
      by_cases hlt : j < n * 12
      · rw [List.getElem?_append_left (by rw [ecs_len, hll]; exact hlt)] at hj
        obtain ⟨b', o', e, hc⟩ := hl.cells (by omega)
        cases e
        exact hc j u hj
      · rw [List.getElem?_append_right (by rw [ecs_len, hll]; omega), ecs_len, hll] at hj
        have e1 : ecs [d] = ecl d := by simp [ecs]
        rw [e1] at hj
        have := hc _ _ hj
        rw [Nat.add_assoc, show n * 12 + (j - n * 12) = j by omega] at this
        exact this
    · rcases List.mem_append.1 hx with hx | hx
      · exact hs x hx
      · rw [List.mem_singleton] at hx; subst hx; exact hw
theorem evs_open {H : Type} {enc : TypeId × Value → H} {w : World} {spare : Nat → Bool} {held : Bool} {fuel : Nat} {a : Option Addr} {len cap : Nat} {x : DataW H × List MemPlace}
    (h : DataW.trod enc Try.prog w 0 spare held fuel 22 [.slice a len cap] = some x) : ∃ l, IsEvs w a len cap l := by
  have hC : Try.prog.cellsOf 34 = 12 := by kernel_rfl
  rcases Go.Deep.open_slice Try.underlying22 h with ⟨hcs, _⟩ | ⟨ad, len', cap', m, n, D, Pl, hcs, _, hl, hm, hmm, _, hc⟩
  · simp at hcs
    obtain ⟨rfl, rfl, rfl⟩ := hcs
    exact ⟨[], RdV.nil _ _ _, (fun t ht => by cases ht), by omega, by omega⟩
  · simp at hcs
    obtain ⟨rfl, rfl, rfl⟩ := hcs
    have hlm : len ≤ m := by rw [hmm]; split <;> omega
    rw [hC] at hc
    rcases Nat.eq_zero_or_pos len with h0 | h0
    · subst h0
      exact ⟨[], RdV.nil _ _ _, (fun t ht => by cases ht), by omega, by simpa [maxLen] using hm⟩
    · have hall : ∀ i, i < len → ∃ r : Evr, EvArg w r.1 r.2.1 r.2.2.1 r.2.2.2 ∧ ∀ j v, (ecl r)[j]? = some v → w.cell? ((ad.add (i * 12)).add j) = some v := fun i hi => by
        obtain ⟨cs', hce, ht⟩ := hc i (by omega)
        obtain ⟨x, A, n', c, rfl, hw⟩ := ev_cells ht
        obtain ⟨_, hcl, hat⟩ := World.cells?_some hce
        refine ⟨(x, A, n', c), hw, fun j v hj => ?_⟩
        have hj8 : j < 12 := by have := (List.getElem?_eq_some_iff.1 hj).1; simpa using this
        rw [hat j hj8]
        exact hj
      obtain ⟨d0, _, hc0⟩ := hall 0 (by omega)
      have hp := plain_of_cell (hc0 0 _ rfl)
      have hsp : ad.spot = none := by simpa [Addr.add] using hp
      obtain ⟨b, o, sp⟩ := ad
      simp only at hsp
      subst hsp
      obtain ⟨l, hl1, hl2⟩ := evs_by (w := w) (b := b) (o := o) (n := len) (fun i hi => by
        obtain ⟨d, hw, hcc⟩ := hall i hi
        refine ⟨d, hw, fun j v hj => ?_⟩
        have := hcc j v hj
        rw [add_plain, add_plain] at this
        exact this)
      exact ⟨l, hl1, hl2, hl, by simpa [maxLen] using hm⟩
end Go.Proofs.Ytbkcpgaicoagfaa
