/- Memo: rows of entries cut, stored into, cleared. -/
import Derived.Test.YtcllmhabhbnihaaMemo4
import Derived.Laws.IdiomCopy
import Derived.OwnWalk
set_option linter.unusedVariables false
set_option linter.unusedSimpArgs false
namespace Go.Proofs.Ytcllmhabhbnihaa
open Go.RowKit

theorem infoA : (Try.prog.info? 32).map (fun i => (i.zero, i.size, i.bytes)) = some (some (.agg #[.string ⟨#[]⟩, .string ⟨#[]⟩, .bool false, .string ⟨#[]⟩, .string ⟨#[]⟩, .int .i64 0]), 6, 80) := by kernel_rfl
theorem zero_ask : (Value.agg #[.string ⟨#[]⟩, .string ⟨#[]⟩, .bool false, .string ⟨#[]⟩, .string ⟨#[]⟩, .int .i64 0]).cells.size = 6 := by decide
theorem elemA : Try.prog.elem 39 = 32 := by simp [Program.elem, Try.underlying39]
theorem sizeA (w : World) : (sizeOf 32).run Try.prog w = .ok 6 w := by
  obtain ⟨i0, hi, hz0, hz1, hz2⟩ := info_parts infoA
  simp [sizeOf, typeInfo, hi, hz1]
/-- A row of entries that the call itself has made. -/
abbrev OwnA (w : World) (base : Nat) (v : Value) (l : List Ask) : Prop := OwnV 32 6 w base v l.length (acs l)
section
variable {w w' : World} {A : Option Addr} {n c : Nat} {l : List Ask}
theorem RdV.takeA (h : RdA w A n l) {i : Nat} (hi : i ≤ n) : RdA w A i (l.take i) := by
  have hl := h.lenA
  refine ⟨by rw [acs_len, List.length_take]; omega, fun hn => ?_⟩
  obtain ⟨b, o, e, hc⟩ := h.cells (by omega)
  refine ⟨b, o, e, fun j u hj => hc j u ?_⟩
  have h2 : acs l = acs (l.take i) ++ acs (l.drop i) := by rw [← acs_append, List.take_append_drop]
  rw [h2, List.getElem?_append_left (List.getElem?_eq_some_iff.1 hj).1]
  exact hj
theorem RdV.dropA (h : RdA w A n l) {i : Nat} (hi : i ≤ n) (hc : n ≤ c) : RdA w (if c = i then A else A.map (·.add (i * 6))) (n - i) (l.drop i) := by
  have hl := h.lenA
  refine ⟨by rw [acs_len, List.length_drop]; omega, fun hn => ?_⟩
  obtain ⟨b, o, rfl, hc'⟩ := h.cells (by omega)
  rw [if_neg (by omega)]
  refine ⟨b, o + i * 6, by simp [add_plain], fun j u hj => ?_⟩
  rw [Nat.add_assoc]
  refine hc' _ _ ?_
  have h2 : acs l = acs (l.take i) ++ acs (l.drop i) := by rw [← acs_append, List.take_append_drop]
  have h3 : (acs (l.take i)).length = i * 6 := by rw [acs_len, List.length_take]; omega
  rw [h2, List.getElem?_append_right (by omega), h3, show i * 6 + j - i * 6 = j by omega]
  exact hj
end
section
variable {kl kh : IntKind}
theorem cutA_lo (A : Option Addr) (n c m : Nat) (hm : m ≤ n) (hc : n ≤ c) :
    ∀ W : World, (Instr.slice 39 (.slice A n c) (some (.int kl (m : Int))) none none).run Try.prog W = .ok (.slice (if c = m then A else A.map (·.add (m * 6))) (n - m) (c - m)) W := by
  intro W
  have hu : Try.prog.underlying 39 = some (.slice (Try.prog.elem 39)) := by rw [elemA]; exact Try.underlying39
  rw [run_slice_l W 39 A n c hu kl (m : Int) (Int.natCast_nonneg _) (by omega), elemA]
  simp [sizeA, sliced, Result.andThen]
theorem cutA_lh (A : Option Addr) (n c l h : Nat) (hl : l ≤ h) (hh : h ≤ c) :
    ∀ W : World, (Instr.slice 39 (.slice A n c) (some (.int kl (l : Int))) (some (.int kh (h : Int))) none).run Try.prog W = .ok (.slice (if c = l then A else A.map (·.add (l * 6))) (h - l) (c - l)) W := by
  intro W
  have hu : Try.prog.underlying 39 = some (.slice (Try.prog.elem 39)) := by rw [elemA]; exact Try.underlying39
  rw [run_slice_lh W 39 A n c hu kl kh (l : Int) (h : Int) (Int.natCast_nonneg _) (by omega) (by omega), elemA]
  simp [sizeA, sliced, Result.andThen]
theorem cutA_hi (A : Option Addr) (n c j : Nat) (hm : j ≤ c) :
    ∀ W : World, (Instr.slice 39 (.slice A n c) none (some (.int kh (j : Int))) none).run Try.prog W = .ok (.slice A j c) W := by
  intro W
  have hu : Try.prog.underlying 39 = some (.slice (Try.prog.elem 39)) := by rw [elemA]; exact Try.underlying39
  have ha : (A.map fun x => x.add 0) = A := by cases A <;> simp [Addr.add]
  rw [run_slice_h W 39 A n c hu kh (j : Int) (Int.natCast_nonneg _) (by omega), elemA]
  simp [sizeA, sliced, Result.andThen, ha]
theorem clipA_any (A : Option Addr) (n c : Nat) (w : World) (hn : n ≤ c) (hc : c ≤ 9223372036854775807) :
    Calls Try.prog 28 #[.slice A n c] w fun e w' => e = .returned (.slice A n n) ∧ w = w' := by
  have hcut : ∀ W : World, (Instr.slice 39 (.slice A n c) none (some (.int .i64 (n : Int))) (some (.int .i64 (n : Int)))).run Try.prog W = .ok (.slice A n n) W := fun W => by
    have hu : Try.prog.underlying 39 = some (.slice (Try.prog.elem 39)) := by rw [elemA]; exact Try.underlying39
    have ha : (A.map fun x => x.add 0) = A := by cases A <;> simp [Addr.add]
    rw [run_slice_hm W 39 A n c hu .i64 .i64 (n : Int) (n : Int) (Int.natCast_nonneg _) (by omega) (by omega), elemA]
    simp [sizeA, sliced, Result.andThen, ha]
  go_enter Try.func28, Try.ntmps28
  go_wp2
  go_ret
  exact ⟨rfl, rfl⟩
end

/-! ### Rows stored into and shortened -/
theorem OwnV.shrink {e : TypeId} {sz : Nat} {w : World} {base : Nat} {A : Option Addr} {n c : Nat} {vs : List Value} (h : OwnV e sz w base (.slice A n c) n vs) {k : Nat} (hk : k ≤ n) : OwnV e sz w base (.slice A k c) k (vs.take (k * sz)) := by
  obtain ⟨h1, h2⟩ := h.own
  have hle : k * sz ≤ n * sz := Nat.mul_le_mul_right _ hk
  refine ⟨⟨by rw [List.length_take]; omega, ?_⟩⟩
  rcases h2 with ⟨hv, h0⟩ | ⟨g, cap, cur, hv, hg, hh, hn, hm, hsz, htk⟩
  · cases hv
    exact .inl ⟨by rw [show k = 0 by omega], by omega⟩
  · cases hv
    refine .inr ⟨g, _, cur, rfl, hg, hh, by omega, hm, hsz, ?_⟩
    rw [← htk, List.take_take, Nat.min_eq_left hle]
theorem OwnV.stored {e : TypeId} {sz : Nat} {w : World} {base : Nat} {g n c : Nat} {vs : List Value} (h : OwnV e sz w base (.slice (some ⟨g, 0, none⟩) n c) n vs) (i : Nat) (u : Value) : OwnV e sz (w.setCell ⟨g, i, none⟩ u) base (.slice (some ⟨g, 0, none⟩) n c) n (vs.set i u) :=
  ⟨(h.own.stored i u).1⟩
theorem acs_cons (x : Ask) (l : List Ask) : acs (x :: l) = .string x.1 :: .string x.2.1 :: .bool x.2.2.1 :: .string x.2.2.2.1 :: .string x.2.2.2.2.1 :: .int .i64 x.2.2.2.2.2 :: acs l := rfl
theorem acs_set : ∀ (l : List Ask) (i : Nat) (x : Ask), i < l.length → acs (l.set i x) = ((((((acs l).set (i * 6) (.string x.1)).set (i * 6 + 1) (.string x.2.1)).set (i * 6 + 2) (.bool x.2.2.1)).set (i * 6 + 3) (.string x.2.2.2.1)).set (i * 6 + 4) (.string x.2.2.2.2.1)).set (i * 6 + 5) (.int .i64 x.2.2.2.2.2)
  | [], i, x, h => by simp at h
  | y :: l, 0, x, h => by simp [acs_cons]
  | y :: l, i + 1, x, h => by
    have := acs_set l i x (by simpa using h)
    rw [List.set_cons_succ, acs_cons, acs_cons, this]
    have e : ∀ k, (i + 1) * 6 + k = i * 6 + k + 1 + 1 + 1 + 1 + 1 + 1 := fun k => by omega
    rw [show (i + 1) * 6 = i * 6 + 1 + 1 + 1 + 1 + 1 + 1 by omega]
    simp only [Nat.add_right_comm _ 1, List.set_cons_succ]
theorem setCells_row (g : Nat) (e : TypeId) : ∀ (vs : List Value) (o : Nat) (w : World) (cur : Array Value), w.heap[g]? = some (.cells cur e (0, 0)) →
    (∃ cur', (w.setCells g o vs).heap[g]? = some (.cells cur' e (0, 0)) ∧ cur'.size = cur.size ∧ ∀ j, j < o → cur'[j]? = cur[j]?) ∧ w.grownBy (w.setCells g o vs) (some g)
  | [], o, w, cur, h => ⟨⟨cur, h, rfl, fun _ _ => rfl⟩, ⟨rfl, rfl, rfl, Nat.le_refl _, fun _ _ _ => rfl⟩⟩
  | v :: vs, o, w, cur, h => by
    have h1 := setCell_heap_same h (i := o) v
    obtain ⟨⟨cur', h2, h3, h4⟩, hg⟩ := setCells_row g e vs (o + 1) _ _ h1
    have hb := setCell_by w ⟨g, o, none⟩ v
    refine ⟨⟨cur', h2, by rw [h3]; simp, fun j hj => ?_⟩, ⟨hg.os.trans hb.os, hg.tape.trans hb.tape, hg.output.trans hb.output, Nat.le_trans hb.size hg.size, fun k hk hne => (hg.block k (Nat.lt_of_lt_of_le hk hb.size) hne).trans (hb.block k hk hne)⟩⟩
    rw [h4 j (by omega), Array.getElem?_setIfInBounds_ne (by omega)]
theorem zeroA (w : World) : (zeroValue 32).run Try.prog w = .ok (.agg #[.string ⟨#[]⟩, .string ⟨#[]⟩, .bool false, .string ⟨#[]⟩, .string ⟨#[]⟩, .int .i64 0]) w := by
  obtain ⟨i0, hi, hz0, hz1, hz2⟩ := info_parts infoA
  simp [zeroValue, typeInfo, hi, hz0]
/-- clear of a row's end: what is ahead of it stays. -/
theorem clear_row {W : World} {base g n c : Nat} {l : List Ask} (hO : OwnV 32 6 W base (.slice (some ⟨g, 0, none⟩) n c) n (acs l)) (k : Nat) (hk : k ≤ n) (B : Option Addr) (m d : Nat) (hB : 0 < m → B = some ⟨g, k * 6, none⟩) (hm : k + m ≤ c) :
    ∃ W', (∀ ty : TypeId, (Builtin.clear_ #[39] ty #[.slice B m d]).run Try.prog W = .ok (.tuple #[]) W') ∧ OwnV 32 6 W' base (.slice (some ⟨g, 0, none⟩) k c) k (acs (l.take k)) ∧ W.grownBy W' (some g) := by
  have hsh := hO.shrink hk
  have hll : l.length = n := by have := hO.own.1; rw [acs_len] at this; omega
  have htk : (acs l).take (k * 6) = acs (l.take k) := by
    have h2 : acs l = acs (l.take k) ++ acs (l.drop k) := by rw [← acs_append, List.take_append_drop]
    have h3 : (acs (l.take k)).length = k * 6 := by rw [acs_len, List.length_take]; omega
    rw [h2, ← h3, List.take_left']
    rfl
  rw [htk] at hsh
  rcases Nat.eq_zero_or_pos m with h0 | h0
  · subst h0
    refine ⟨W, fun ty => ?_, hsh, ⟨rfl, rfl, rfl, Nat.le_refl _, fun _ _ _ => rfl⟩⟩
    cases B <;> simp [Builtin.clear_, run_underlying Try.underlying39]
  · rw [hB h0]
    obtain ⟨h1, h2⟩ := hO.own
    rcases h2 with ⟨hv, _⟩ | ⟨g', cap, cur, hv, hg, hh, hn, hmx, hsz, hcur⟩
    · cases hv
    · cases hv
      have hz : (Builtin.zeroCells (Value.agg #[.string ⟨#[]⟩, .string ⟨#[]⟩, .bool false, .string ⟨#[]⟩, .string ⟨#[]⟩, .int .i64 0]).cells m).toList.length = m * 6 := by
        simp [Builtin.zeroCells, zero_ask]
      have hz1 : ∀ v ∈ (Builtin.zeroCells (Value.agg #[.string ⟨#[]⟩, .string ⟨#[]⟩, .bool false, .string ⟨#[]⟩, .string ⟨#[]⟩, .int .i64 0]).cells m).toList, v.oneCell' = true := by
        intro v hv
        simp only [Builtin.zeroCells, Array.toList_map, List.mem_map] at hv
        obtain ⟨i, _, rfl⟩ := hv
        have h6 : i % 6 < 6 := Nat.mod_lt _ (by decide)
        have hs : (Value.agg #[.string ⟨#[]⟩, .string ⟨#[]⟩, .bool false, .string ⟨#[]⟩, .string ⟨#[]⟩, .int .i64 0]).cells.size = 6 := zero_ask
        rw [hs]
        generalize i % 6 = r at h6
        rcases (by omega : r = 0 ∨ r = 1 ∨ r = 2 ∨ r = 3 ∨ r = 4 ∨ r = 5) with rfl | rfl | rfl | rfl | rfl | rfl <;> rfl
      have hst := run_storeCells_cells (P := Try.prog) g (k * 6) (Builtin.zeroCells (Value.agg #[.string ⟨#[]⟩, .string ⟨#[]⟩, .bool false, .string ⟨#[]⟩, .string ⟨#[]⟩, .int .i64 0]).cells m).toList 0 W (by
        intro j hj
        rw [hz] at hj
        have hlt : k * 6 + 0 + j < cur.size := by rw [hsz]; omega
        simp [World.cell?, hh]; omega) (by intro j _; exact frozen_of_heap hh) hz1
      simp only [Nat.add_zero] at hst
      obtain ⟨⟨cur', h2, h3, h4⟩, hgb⟩ := setCells_row g 32 (Builtin.zeroCells (Value.agg #[.string ⟨#[]⟩, .string ⟨#[]⟩, .bool false, .string ⟨#[]⟩, .string ⟨#[]⟩, .int .i64 0]).cells m).toList (k * 6) W cur hh
      refine ⟨_, fun ty => ?_, ⟨⟨by rw [acs_len, List.length_take]; omega, .inr ⟨g, c, cur', rfl, hg, h2, by omega, hmx, by rw [h3]; exact hsz, ?_⟩⟩⟩, hgb⟩
      · obtain ⟨m', rfl⟩ : ∃ m', m = m' + 1 := ⟨m - 1, by omega⟩
        simp [Builtin.clear_, run_underlying Try.underlying39, zeroA, hst, Result.andThen]
      · rw [← htk, ← hcur, List.take_take, Nat.min_eq_left (by omega)]
        apply List.ext_getElem?
        intro j
        rw [List.getElem?_take, List.getElem?_take]
        split
        · rename_i hj
          have := h4 j hj
          simpa using this
        · rfl
end Go.Proofs.Ytcllmhabhbnihaa
