/- A table of texts in memory: a list, and a map from each text to its number. -/
import Derived.Test.YtbkcpgaicoagfaaPureInt
import Derived.Maps.OwnSet
import Derived.StringKeys
import Derived.Deep.WholeRow
set_option linter.unusedVariables false
set_option linter.unusedSimpArgs false
namespace Go.Proofs.Ytbkcpgaicoagfaa
open Go.RowKit

abbrev OwnT (w : World) (base : Nat) (v : Value) (ts : List ByteArray) : Prop := OwnV 9 1 w base v ts.length (ts.map .string)
theorem infostr : (Try.prog.info? 9).map (fun i => (i.zero, i.size, i.bytes)) = some (some (.string ByteArray.empty), 1, 16) := by kernel_rfl
theorem infou64 : (Try.prog.info? 32).map (fun i => (i.zero, i.size)) = some (some (.int .u64 0), 1) := by kernel_rfl
theorem strs_one (ts : List ByteArray) : ∀ u ∈ ts.map Value.string, u.oneCell' = true := by
  intro u hu
  obtain ⟨_, _, rfl⟩ := List.mem_map.1 hu
  rfl

/-- Block mb is the map that tells each text's number. -/
def MapT (w : World) (mb : Nat) (ts : List ByteArray) : Prop :=
  ∃ (D : DataW Unit) (n : Nat), w.ownsMap Try.prog 9 (plainElem Try.prog 32) mb n D ∧ n ≤ ts.length ∧ Maps.IsMap D ∧
    ∀ s : ByteArray, Maps.has D (.string s.data.toList) = decide (idxT ts s ≠ 0) ∧ (idxT ts s ≠ 0 → ∀ z, D.atKey (.string s.data.toList) z = .lit (.int .u64 (idxT ts s : Int)))
theorem MapT.made (w : World) : MapT (w.alloc (.map #[] 0)) w.heap.size [] :=
  ⟨.map [], 0, World.ownsMap_made w _ _ _, Nat.le_refl _, ⟨[], rfl⟩, fun s => ⟨by simp [Maps.has, idxT], fun h => by simp [idxT] at h⟩⟩
theorem MapT.kept {w w' : World} {mb : Nat} {ts : List ByteArray} {row : Option Nat} (h : MapT w mb ts) (hg : w.grownBy w' row) (hne : some mb ≠ row) : MapT w' mb ts := by
  obtain ⟨D, n, h1, h2⟩ := h
  exact ⟨D, n, h1.kept hg hne, h2⟩
theorem MapT.keep {w w' : World} {mb : Nat} {ts : List ByteArray} (h : MapT w mb ts) (hg : Grew w w') : MapT w' mb ts := h.kept (hg.gb none) (by simp)
theorem MapT.lt {w : World} {mb : Nat} {ts : List ByteArray} (h : MapT w mb ts) : mb < w.heap.size := by
  obtain ⟨D, n, h1, _⟩ := h
  exact h1.lt
theorem MapT.isMap {w : World} {mb : Nat} {ts : List ByteArray} (h : MapT w mb ts) : ∃ es c, w.heap[mb]? = some (.map es c) := by
  obtain ⟨D, n, ⟨es, c, h1, _⟩, _⟩ := h
  exact ⟨es, c, h1⟩
theorem data_inj {s t : ByteArray} (h : Lit.string s.data.toList = Lit.string t.data.toList) : s = t := by
  cases s; cases t
  simp only [Lit.string.injEq] at h
  congr 1
  exact Array.toList_inj.1 h

section
variable {ops : Array Oper} {rest : List Oper} {o : Oper} {a : Act} {Q : Exit → Act → World → Prop} {W : World} {mb : Nat} {ts : List ByteArray}
theorem look_num (hgd : o.guard = none) {m x : Operand} (ho : o.op = .lookup 115 m x true) (hm : a.eval m = .map (some mb)) {s : ByteArray} (hx : a.eval x = .string s) (hs : s.size ≤ 9223372036854775807) (hM : MapT W mb ts)
    (h : wpList Try.prog ops Q rest (a.put o.dst (.tuple #[.int .u64 (idxT ts s : Int), .bool (decide (idxT ts s ≠ 0))])) W) : wpList Try.prog ops Q (o :: rest) a W := by
  obtain ⟨D, n, h1, h2, h3, h4⟩ := hM
  obtain ⟨h5, h6⟩ := h4 s
  refine wpList_lookup_own_ok_int W hgd m x _ ho 9 32 .u64 (Maps.string_keyed Try.underlying9) Try.underlying115 Try.underlying32 ((zero_of_info infou64).1 _) mb n D hm h1 _ (.string s.data.toList) hx (Go.WideMaps.keyOf_string_mk Try.underlying9 (by simpa [maxLen] using hs)) ?_
  intro c hat hwc
  have hc : c = (idxT ts s : Int) := by
    by_cases hz : idxT ts s = 0
    · rw [hz] at h5
      have := Maps.atKey_of_not_has (by simpa using h5) (z := (.lit (.int .u64 0) : DataW Unit))
      rw [this] at hat
      rw [hz]
      injection hat with h7
      injection h7 with h8 h9
      omega
    · rw [h6 hz] at hat
      injection hat with h7
      injection h7 with h8 h9
      omega
  rw [hc, h5]
  exact h
theorem upd_num (hgd : o.guard = none) {m x v : Operand} (ho : o.op = .mapUpdate 115 m x v) (hm : a.eval m = .map (some mb)) {s : ByteArray} (hx : a.eval x = .string s) (hv : a.eval v = .int .u64 ((ts.length : Int) + 1)) (hs : s.size ≤ 9223372036854775807) (hl : ts.length ≤ 1000000000) (hM : MapT W mb ts) (hz : idxT ts s = 0)
    (h : ∀ w', MapT w' mb (ts ++ [s]) → W.grownBy w' (some mb) → wpList Try.prog ops Q rest (a.put o.dst undef) w') : wpList Try.prog ops Q (o :: rest) a W := by
  obtain ⟨D, n, h1, h2, h3, h4⟩ := hM
  have hw : (Lit.int .u64 ((ts.length : Int) + 1)).wf = true := by
    simp only [Lit.wf, Bool.and_eq_true, decide_eq_true_eq]
    exact ⟨show (0 : Int) ≤ _ by omega, show _ ≤ (18446744073709551615 : Int) by omega⟩
  refine wpList_mapUpdate_own W hgd m x v _ ho 9 32 (Maps.string_keyed Try.underlying9) Try.underlying115 (plainElem Try.prog 32) mb n D hm h1 (by simp only [maxLen]; omega) _ _ (.string s.data.toList) hx hv (Go.WideMaps.keyOf_string_mk Try.underlying9 (by simpa [maxLen] using hs)) (.lit (.int .u64 ((ts.length : Int) + 1))) [] (plainElem_int Try.underlying32 hw) ?_
  intro w' hown hg
  refine h w' ⟨_, _, hown, by simp; omega, h3.put _ _, fun t => ?_⟩ hg
  rw [idxT_snoc]
  by_cases hst : s = t
  · subst hst
    rw [if_pos hz, if_pos rfl]
    refine ⟨?_, fun _ z => ?_⟩
    · rw [Maps.has_put_same h3 (by trivial)]; simp
    · rw [Maps.atKey_put_same h3 (by trivial)]; simp
  · have hne : Lit.string t.data.toList ≠ Lit.string s.data.toList := fun e => hst (data_inj e).symm
    obtain ⟨h5, h6⟩ := h4 t
    rw [Maps.has_put_other hne, h5]
    by_cases ht : idxT ts t = 0
    · rw [if_pos ht, if_neg hst, ht]
      exact ⟨rfl, fun h => absurd rfl h⟩
    · rw [if_neg ht]
      exact ⟨rfl, fun _ z => by rw [Maps.atKey_put_other hne]; exact h6 ht z⟩
end

/-- The table at block p. -/
structure TabI (w : World) (p : Nat) (lv : Value) (mb : Nat) (ts : List ByteArray) : Prop where
  cells : w.heap[p]? = some (.cells #[lv, .map (some mb)] 117)
  list : OwnT w 0 lv ts
  map : MapT w mb ts
  few : ts.length ≤ 1000000
  size : ∀ t ∈ ts, t.size ≤ 1000000
/-- What the table holds. -/
def ftp (p : Nat) (lv : Value) (mb k : Nat) : Prop := k = p ∨ k = mb ∨ lv.ownBlock = some k
/-- The world has grown; of what was there, only what F names may differ. -/
structure Chg (F : Nat → Prop) (w w' : World) : Prop where
  os : w'.os = w.os
  tape : w'.tape = w.tape
  output : w'.output = w.output
  size : w.heap.size ≤ w'.heap.size
  block : ∀ k, k < w.heap.size → ¬ F k → w'.heap[k]? = w.heap[k]?
theorem Chg.of {F : Nat → Prop} {w w' : World} (h : Grew w w') : Chg F w w' := ⟨h.os, h.tape, h.output, h.size, fun k hk _ => h.block k hk⟩
theorem Chg.ofBy {F : Nat → Prop} {w w' : World} {row : Option Nat} (h : w.grownBy w' row) (hr : ∀ b, row = some b → F b) : Chg F w w' :=
  ⟨h.os, h.tape, h.output, h.size, fun k hk hF => h.block k hk (fun e => hF (hr k e.symm))⟩
theorem Chg.tr {F : Nat → Prop} {a b c : World} (h : Chg F a b) (k : Chg (fun x => F x ∨ a.heap.size ≤ x) b c) : Chg F a c :=
  ⟨k.os.trans h.os, k.tape.trans h.tape, k.output.trans h.output, Nat.le_trans h.size k.size, fun x hx hF => (k.block x (Nat.lt_of_lt_of_le hx h.size) (fun hh => hh.elim hF (fun h2 => by omega))).trans (h.block x hx hF)⟩
theorem Chg.mono {F G : Nat → Prop} {w w' : World} (h : Chg F w w') (hFG : ∀ k, F k → G k) : Chg G w w' := ⟨h.os, h.tape, h.output, h.size, fun k hk hG => h.block k hk (fun hF => hG (hFG k hF))⟩
theorem Chg.low {F : Nat → Prop} {w w' : World} {n : Nat} (h : Chg F w w') (hF : ∀ k, F k → n ≤ k) (hn : n ≤ w.heap.size) : Below n w w' := ⟨h.os, h.tape, h.output, h.size, fun k hk => h.block k (by omega) (fun hh => by have := hF k hh; omega)⟩
theorem Chg.by_ {F : Nat → Prop} {w w' : World} (h : Chg F w w') {k : Nat} {o : Obj} (ho : w.heap[k]? = some o) (hF : ¬ F k) : w'.heap[k]? = some o := (h.block k (Array.getElem?_eq_some_iff.1 ho).1 hF).trans ho
theorem RdK.chg {k : IntKind} {F : Nat → Prop} {w w' : World} {A : Option Addr} {n : Nat} {xs : List Int} (h : RdK k w A n xs) (hg : Chg F w w') (hA : 0 < n → ∀ ad, A = some ad → ¬ F ad.block) : RdK k w' A n xs :=
  ⟨h.len, fun hn => by
    obtain ⟨b, o, e, hc⟩ := h.cells hn
    refine ⟨b, o, e, fun j hj => ?_⟩
    rw [← hc j hj]
    exact World.cell?_of_block (hg.block b (lt_of_cell (hc j hj)) (hA hn _ e))⟩
end Go.Proofs.Ytbkcpgaicoagfaa
