/- Words on memory: rows of any cells, append onto them, what may change. (Printed by wip/mkMem0.py out of the other seat's texts.) -/
import Derived.Test.YtcllmhabhbnihaaProg
import Derived.WalkKit
import Derived.WalkSpells
import Derived.WalkLawsBesides
import Derived.Maps.AppendAt
import Derived.Deep.AppendLies
import Derived.Deep.Draws
import Derived.Laws.OwnMore
import Derived.Laws.MakeOwn
import Derived.Laws.CopyOwn
import Derived.Deep.QuietTactic
import Derived.BigQuiet
import Derived.Deep.LoopGhost
import Derived.Deep.DeepCutAuto
import Derived.Deep.CutBlock
import Derived.Deep.RegionHeld3
import Derived.Lib.Hide
import Derived.KernelRfl
import Derived.Laws.StructEq
set_option linter.unusedVariables false
set_option linter.unusedSimpArgs false
namespace Go.Proofs.Ytcllmhabhbnihaa
open Go.RowKit

theorem add_plain (g o j : Nat) : (⟨g, o, none⟩ : Addr).add j = ⟨g, o + j, none⟩ := by
  unfold Addr.add
  split
  · rename_i h; subst h; rfl
  · rfl
theorem lt_of_cell {w : World} {p : Addr} {v : Value} (h : w.cell? p = some v) : p.block < w.heap.size := by
  rcases Nat.lt_or_ge p.block w.heap.size with hlt | hge
  · exact hlt
  · simp [World.cell?, Array.getElem?_eq_none hge] at h
theorem plain_of_cell {w : World} {p : Addr} {v : Value} (h : w.cell? p = some v) : p.spot = none := by
  unfold World.cell? at h
  split at h
  · split at h
    · cases h
    · rename_i hs; simpa using hs
  · cases h

/-- The world has grown: what was there is as it was. -/
abbrev Grew (w w' : World) : Prop := Below w.heap.size w w'
theorem Grew.rf (w : World) : Grew w w := Below.refl _ _
theorem Grew.tr {a b c : World} (h : Grew a b) (k : Grew b c) : Grew a c := h.trans (k.mono h.size)
theorem Grew.al {a b : World} (h : Grew a b) (o : Obj) : Grew a (b.alloc o) := h.alloc h.size o
theorem Grew.dr {a b : World} (h : Grew a b) : Grew a b.drew := h.drew
theorem Grew.drN {a b : World} (h : Grew a b) (n : Nat) : Grew a (b.drewN n) := ⟨h.os, h.tape, h.output, h.size, h.block⟩
theorem Grew.st {a b : World} (h : Grew a b) {p : Addr} (hp : a.heap.size ≤ p.block) (u : Value) : Grew a (b.setCell p u) := h.setCell hp u
theorem Grew.ce {a b : World} (h : Grew a b) {p : Addr} {v : Value} (hc : a.cell? p = some v) : b.cell? p = some v := (h.cell (lt_of_cell hc)).trans hc

section
variable {ops : Array Oper} {rest : List Oper} {o : Oper} {a : Act} {Q : Exit → Act → World → Prop} {w0 W : World} {base : Nat}
theorem grown_below {w w1 : World} (hg : w.grownBy w1 none) : Grew w w1 := ⟨hg.os, hg.tape, hg.output, hg.size, fun k hk => hg.block k hk (by simp)⟩
/-- A guard for an arm of the walk: the next operation is this builtin with these operands. -/
theorem gate_b (b : Builtin) (xs : Array Operand) (ts : Array TypeId) (ho : o.op = .call { callee := .builtin b, args := xs, argTypes := ts }) (k : wpList Try.prog ops Q (o :: rest) a W) : wpList Try.prog ops Q (o :: rest) a W := k
end
theorem Grew.gb {w w1 : World} (h : Grew w w1) (row : Option Nat) : w.grownBy w1 row := ⟨h.os, h.tape, h.output, h.size, fun i hi _ => h.block i hi⟩
/-! ### Rows of cells -/
structure RdV (sz : Nat) (w : World) (A : Option Addr) (n : Nat) (vs : List Value) : Prop where
  len : vs.length = n * sz
  cells : 0 < n * sz → ∃ b o, A = some ⟨b, o, none⟩ ∧ ∀ j u, vs[j]? = some u → w.cell? ⟨b, o + j, none⟩ = some u
structure OwnV (e : TypeId) (sz : Nat) (w : World) (base : Nat) (v : Value) (n : Nat) (vs : List Value) : Prop where
  own : w.ownsRow base e sz v n vs

section
variable {e : TypeId} {sz : Nat} {w w' : World} {base : Nat} {v : Value} {n : Nat} {vs us : List Value} {A : Option Addr}
theorem RdV.nil (sz : Nat) (w : World) (A : Option Addr) : RdV sz w A 0 [] := ⟨by simp, fun h => by omega⟩
theorem RdV.keep (h : RdV sz w A n vs) (hg : Grew w w') : RdV sz w' A n vs :=
  ⟨h.len, fun hn => by
    obtain ⟨b, o, e, hc⟩ := h.cells hn
    exact ⟨b, o, e, fun j u hj => hg.ce (hc j u hj)⟩⟩
theorem OwnV.nil (e : TypeId) (sz : Nat) (w : World) (base : Nat) : OwnV e sz w base (.slice none 0 0) 0 [] := ⟨⟨by simp, .inl ⟨rfl, rfl⟩⟩⟩
theorem OwnV.lower (h : OwnV e sz w base v n vs) {base' : Nat} (hb : base' ≤ base) : OwnV e sz w base' v n vs := by
  refine ⟨h.own.1, ?_⟩
  rcases h.own.2 with h2 | ⟨g, cap, cur, hv, hg, r⟩
  · exact .inl h2
  · exact .inr ⟨g, cap, cur, hv, by omega, r⟩
theorem OwnV.kept {row : Option Nat} (h : OwnV e sz w base v n vs) (hg : w.grownBy w' row) (hr : ∀ b, row = some b → v.ownBlock ≠ some b) : OwnV e sz w' base v n vs := by
  refine ⟨h.own.kept hg ?_⟩
  cases hv : v.ownBlock with
  | none => exact .inl rfl
  | some b => exact .inr fun e => hr b e.symm hv
theorem OwnV.keep (h : OwnV e sz w base v n vs) (hg : Grew w w') : OwnV e sz w' base v n vs := h.kept (hg.gb none) (fun b hb => by cases hb)
theorem OwnV.base_le (h : OwnV e sz w base v n vs) (b : Nat) (hb : v.ownBlock = some b) : base ≤ b := by
  rcases h.own.2 with ⟨rfl, _⟩ | ⟨g, cap, cur, rfl, hg, _⟩
  · simp [Value.ownBlock] at hb
  · have : g = b := by simpa [Value.ownBlock] using hb
    omega
theorem OwnV.block (h : OwnV e sz w base v n vs) {b : Nat} (hb : v.ownBlock = some b) : ∃ cur, w.heap[b]? = some (.cells cur e (0, 0)) := by
  rcases h.own.2 with ⟨rfl, _⟩ | ⟨g, cap, cur, rfl, hg, hh, _⟩
  · simp [Value.ownBlock] at hb
  · have : g = b := by simpa [Value.ownBlock] using hb
    subst this
    exact ⟨cur, hh⟩
theorem OwnV.lt (h : OwnV e sz w base v n vs) {b : Nat} (hb : v.ownBlock = some b) : b < w.heap.size := by
  obtain ⟨cur, hc⟩ := h.block hb
  exact (Array.getElem?_eq_some_iff.1 hc).1
theorem OwnV.rd (h : OwnV e sz w base v n vs) : ∃ A c, v = .slice A n c ∧ n ≤ c ∧ c ≤ 9223372036854775807 ∧ RdV sz w A n vs := by
  rcases h.own.2 with ⟨rfl, h0⟩ | ⟨g, cap, cur, rfl, hb, hh, hn, hm, hsz, htk⟩
  · subst h0
    have : vs = [] := List.eq_nil_of_length_eq_zero (by have := h.own.1; omega)
    subst this
    exact ⟨none, 0, rfl, Nat.le_refl _, by omega, RdV.nil _ _ _⟩
  · refine ⟨some ⟨g, 0, none⟩, cap, rfl, hn, by simpa [maxLen] using hm, h.own.1, fun _ => ⟨g, 0, rfl, fun j u hj => ?_⟩⟩
    have h1 : cur.toList[j]? = some u := by
      rw [← htk] at hj
      rw [List.getElem?_take] at hj
      split at hj
      · exact hj
      · cases hj
    simpa [World.cell?, hh] using h1
end

section
variable {ops : Array Oper} {rest : List Oper} {o : Oper} {a : Act} {Q : Exit → Act → World → Prop} {W : World} {base : Nat}
/-- append(v, us...) onto a row of the call's own. -/
theorem appV {e sl : TypeId} {sz by_ : Nat} {z : Value} (hsl : Try.prog.underlying sl = some (.slice e)) (hinf : (Try.prog.info? e).map (fun i => (i.zero, i.size, i.bytes)) = some (some z, sz, by_)) (hzc : z.cells.size = sz) (hsz : 0 < sz) (hby : 0 < by_)
    (hgd : o.guard = none ∨ Region.wanted o (yielded ops a.tmps) = true) {s x : Operand} (ho : o.op = .call { callee := .builtin .append, args := #[s, x], argTypes := #[sl, sl] })
    {v : Value} {n m c : Nat} {vs us : List Value} {A : Option Addr} (hs : a.eval s = v) (hx : a.eval x = .slice A m c) (HO : OwnV e sz W base v n vs) (HR : RdV sz W A m us) (h1 : ∀ u ∈ us, u.oneCell' = true) (hb : base ≤ W.heap.size) (hl : (n + m) * by_ ≤ 140737488355328)
    (h : ∀ v1 w1, OwnV e sz w1 base v1 (n + m) (vs ++ us) → W.grownBy w1 v.ownBlock → (v1.ownBlock = v.ownBlock ∨ v1.ownBlock = some W.heap.size) → wpList Try.prog ops Q rest (a.put o.dst v1) w1) :
    wpList Try.prog ops Q (o :: rest) a W := by
  obtain ⟨i0, hi, hz0, hz1, hz2⟩ := info_parts hinf
  have hw : Region.wanted o (yielded ops a.tmps) = true := by
    rcases hgd with h | h
    · simp [Region.wanted, h]
    · exact h
  have hnm : n + m ≤ 140737488355328 := Nat.le_trans (Nat.le_mul_of_pos_right _ hby) hl
  have hrun : ∃ v1 w1, (Builtin.append_ #[sl, sl] o.type #[v, .slice A m c]).run Try.prog W = .ok v1 w1 ∧ OwnV e sz w1 base v1 (n + m) (vs ++ us) ∧ W.grownBy w1 v.ownBlock ∧ (v1.ownBlock = v.ownBlock ∨ v1.ownBlock = some W.heap.size) := by
    rcases Nat.eq_zero_or_pos m with h0 | h0
    · subst h0
      have h0' : us = [] := List.eq_nil_of_length_eq_zero (by have := HR.len; omega)
      subst h0'
      refine ⟨v, W, ?_, ⟨by simpa using HO.own⟩, ⟨rfl, rfl, rfl, Nat.le_refl _, fun _ _ _ => rfl⟩, .inl rfl⟩
      rcases HO.own.2 with ⟨rfl, h00⟩ | ⟨g, cap, cur, rfl, _, _, hnc, _⟩
      · cases A <;> simp [Builtin.append_, run_underlying hsl, sizeOf, typeInfo, hi, Builtin.lenOf, Builtin.firstCells, loadCells, loadCellsFrom]
      · cases A <;> simp [Builtin.append_, run_underlying hsl, sizeOf, typeInfo, hi, Builtin.lenOf, Builtin.firstCells, hnc, storeCells, loadCells, loadCellsFrom]
    · obtain ⟨b, o', rfl, hc⟩ := HR.cells (Nat.mul_pos h0 hsz)
      obtain ⟨v1, w1, hr, hown, hg, _, hat⟩ := run_append_own_at (P := Try.prog) W base sl o.type e i0 z sz by_ hsl hi hz0 hz1 hz2 hzc hsz v n vs HO.own ⟨b, o', none⟩ m c us HR.len (fun j u hu => by rw [add_plain]; exact hc j u hu) h1 (by simp only [maxLen]; omega) hl hb
      exact ⟨v1, w1, hr, ⟨hown⟩, hg, hat⟩
  obtain ⟨v1, w1, hr, hO1, hg, hat⟩ := hrun
  refine wpList_step fun K hK => ?_
  rw [if_pos hw]
  unfold Oper.wp execOp
  simp only [ho, resolve, invoke, builtin, Sem.run_bind, Sem.run_pure, Result.andThen_ok, List.map_toArray, List.map_cons, List.map_nil, hs, hx, hr]
  exact hK _ _ (h v1 w1 hO1 hg hat)
end
/-- The world has grown; of what was there, only what F names may differ. -/
structure Chg (F : Nat → Prop) (w w' : World) : Prop where
  os : w'.os = w.os
  tape : w'.tape = w.tape
  output : w'.output = w.output
  size : w.heap.size ≤ w'.heap.size
  block : ∀ k, k < w.heap.size → ¬ F k → w'.heap[k]? = w.heap[k]?
theorem Chg.of {F : Nat → Prop} {w w' : World} (h : Grew w w') : Chg F w w' := ⟨h.os, h.tape, h.output, h.size, fun k hk _ => h.block k hk⟩
theorem Chg.ofBy {F : Nat → Prop} {w w' : World} {row : Option Nat} (h : w.grownBy w' row) (hr : ∀ b, row = some b → F b) : Chg F w w' :=
  ⟨h.os, h.tape, h.output, h.size, fun k hk hF => h.block k hk (fun e => hF (hr k e.symm))⟩
theorem Chg.tr {F : Nat → Prop} {a b c : World} (h : Chg F a b) (k : Chg (fun x => F x ∨ a.heap.size ≤ x) b c) : Chg F a c :=
  ⟨k.os.trans h.os, k.tape.trans h.tape, k.output.trans h.output, Nat.le_trans h.size k.size, fun x hx hF => (k.block x (Nat.lt_of_lt_of_le hx h.size) (fun hh => hh.elim hF (fun h2 => by omega))).trans (h.block x hx hF)⟩
theorem Chg.mono {F G : Nat → Prop} {w w' : World} (h : Chg F w w') (hFG : ∀ k, F k → G k) : Chg G w w' := ⟨h.os, h.tape, h.output, h.size, fun k hk hG => h.block k hk (fun hF => hG (hFG k hF))⟩
theorem Chg.low {F : Nat → Prop} {w w' : World} {n : Nat} (h : Chg F w w') (hF : ∀ k, F k → n ≤ k) (hn : n ≤ w.heap.size) : Below n w w' := ⟨h.os, h.tape, h.output, h.size, fun k hk => h.block k (by omega) (fun hh => by have := hF k hh; omega)⟩
theorem Chg.by_ {F : Nat → Prop} {w w' : World} (h : Chg F w w') {k : Nat} {o : Obj} (ho : w.heap[k]? = some o) (hF : ¬ F k) : w'.heap[k]? = some o := (h.block k (Array.getElem?_eq_some_iff.1 ho).1 hF).trans ho
theorem cell_of_heap {w : World} {b i : Nat} {cs : Array Value} {t : TypeId} {v : Value} (h : w.heap[b]? = some (.cells cs t)) (hv : cs[i]? = some v) : w.cell? ⟨b, i, none⟩ = some v := by simp [World.cell?, h, hv]
theorem frozen_of_heap {w : World} {b i : Nat} {cs : Array Value} {t : TypeId} (h : w.heap[b]? = some (.cells cs t)) : w.frozen? ⟨b, i, none⟩ = false := by simp [World.frozen?, h]
theorem heap_keep {w w' : World} {b : Nat} {o : Obj} (hg : Grew w w') (h : w.heap[b]? = some o) : w'.heap[b]? = some o := (hg.block b (Array.getElem?_eq_some_iff.1 h).1).trans h
theorem setCell_heap_other (w : World) (p : Addr) (v : Value) {k : Nat} (h : k ≠ p.block) : (w.setCell p v).heap[k]? = w.heap[k]? := by
  simp [World.setCell, Array.getElem?_modify, Ne.symm h]
theorem setCell_heap_same {w : World} {b i : Nat} {cs : Array Value} {t : TypeId} (h : w.heap[b]? = some (.cells cs t)) (v : Value) : (w.setCell ⟨b, i, none⟩ v).heap[b]? = some (.cells (cs.setIfInBounds i v) t) := by
  simp [World.setCell, Array.getElem?_modify, h]
theorem setCell_size (w : World) (p : Addr) (v : Value) : (w.setCell p v).heap.size = w.heap.size := by simp [World.setCell]
theorem setCell_by (w : World) (p : Addr) (v : Value) : w.grownBy (w.setCell p v) (some p.block) :=
  ⟨rfl, rfl, rfl, by rw [setCell_size]; exact Nat.le_refl _, fun k _ hk => setCell_heap_other _ _ _ (fun e => hk (by rw [e]))⟩
theorem by_keep {w w' : World} {row : Option Nat} {b : Nat} {o : Obj} (hg : w.grownBy w' row) (h : w.heap[b]? = some o) (hne : row ≠ some b) : w'.heap[b]? = some o := (hg.block b (Array.getElem?_eq_some_iff.1 h).1 (fun e => hne e.symm)).trans h
theorem OwnV.chg {e : TypeId} {sz : Nat} {w w' : World} {base : Nat} {v : Value} {n : Nat} {vs : List Value} {F : Nat → Prop} (h : OwnV e sz w base v n vs) (hg : Chg F w w') (hF : ∀ k, v.ownBlock = some k → ¬ F k) : OwnV e sz w' base v n vs := by
  have hc : ∀ b, v.ownBlock = some b → w'.heap[b]? = w.heap[b]? := fun b hb => hg.block b (h.lt hb) (hF b hb)
  refine ⟨⟨h.own.1, ?_⟩⟩
  rcases h.own.2 with h2 | ⟨g, cap, cur, hv, hg2, hh, r⟩
  · exact .inl h2
  · exact .inr ⟨g, cap, cur, hv, hg2, by rw [hc g (by rw [hv]; rfl)]; exact hh, r⟩
theorem ownV_lit0 (e : TypeId) (sz : Nat) (W : World) : OwnV e sz (W.alloc (.cells #[] e)) W.heap.size (.slice (some ⟨W.heap.size, 0, none⟩) 0 0) 0 [] :=
  ⟨⟨by simp, .inr ⟨W.heap.size, 0, #[], rfl, Nat.le_refl _, heap_alloc_new W _, Nat.le_refl _, Nat.zero_le _, by simp, by simp⟩⟩⟩

theorem Chg.or {F G : Nat → Prop} {a b : World} (h : Chg F a b) : Chg (fun x => F x ∨ G x) a b := h.mono (fun _ => .inl)
theorem Chg.set {F : Nat → Prop} {w0 w : World} (h : Chg F w0 w) {a : Addr} (ha : w0.heap.size ≤ a.block) (v : Value) : Chg F w0 (w.setCell a v) :=
  h.tr (Chg.ofBy (setCell_by w a v) (fun b hb => by cases hb; exact .inr ha))

section
variable {w w' : World} {A : Option Addr} {n c : Nat}
theorem RdV.chg {sz : Nat} {vs : List Value} {F : Nat → Prop} (h : RdV sz w A n vs) (hg : Chg F w w') (hA : 0 < n → ∀ ad, A = some ad → ¬ F ad.block) : RdV sz w' A n vs :=
  ⟨h.len, fun hn => by
    obtain ⟨b, o, e, hc⟩ := h.cells hn
    refine ⟨b, o, e, fun j u hj => ?_⟩
    have hp : 0 < n := by
      rcases Nat.eq_zero_or_pos n with h0 | h0
      · subst h0; simp at hn
      · exact h0
    rw [← hc j u hj]
    exact World.cell?_of_block (hg.block b (lt_of_cell (hc j u hj)) (hA hp _ e))⟩
end
theorem grew_chg {F : Nat → Prop} {w a b : World} (h : Grew w a) (hc : Chg F a b) (hF : ∀ k, F k → w.heap.size ≤ k) : Grew w b := h.trans (hc.low hF h.size)
end Go.Proofs.Ytcllmhabhbnihaa
