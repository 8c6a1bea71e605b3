/- Drawn regions in which the call appends to rows of its own. -/
import Derived.Test.YtbkcpgaicoagfaaReg2
import Derived.Test.YtbkcpgaicoagfaaRegOwn
set_option linter.unusedVariables false
set_option linter.unusedSimpArgs false
namespace Go.Proofs.Ytbkcpgaicoagfaa
open Go.RowKit

/-- A word on a value that hangs on blocks below B0 and, where 'own' says so, on the value's own block. -/
structure Po (B0 : Nat) where
  p : Value → World → Prop
  own : Bool
  mono : ∀ v u u' row, p v u → u.grownBy u' row → (∀ b, row = some b → B0 ≤ b ∧ (own = true → v.ownBlock ≠ some b)) → p v u'
def Po.any {B0 : Nat} : Po B0 := ⟨fun _ _ => True, false, fun _ _ _ _ _ _ _ => trivial⟩
def Po.eqv {B0 : Nat} (v0 : Value) : Po B0 := ⟨fun v _ => v = v0, false, fun _ _ _ _ h _ _ => h⟩
theorem OwnK.kept {e : TypeId} {k : IntKind} {u u' : World} {base : Nat} {v : Value} {xs : List Int} {row : Option Nat} (h : OwnK e k u base v xs) (hg : u.grownBy u' row) (hr : ∀ b, row = some b → v.ownBlock ≠ some b) : OwnK e k u' base v xs := by
  refine ⟨h.own.kept hg ?_⟩
  cases hv : v.ownBlock with
  | none => exact .inl rfl
  | some b => exact .inr fun e => hr b e.symm hv
def Po.ow {B0 : Nat} (xs : List Int) : Po B0 := ⟨fun v u => Own u B0 v xs, true, fun v u u' row h hg hr => h.kept hg (fun b hb => (hr b hb).2 rfl)⟩

theorem region_ow {ops : List Oper} {Q : Exit → Act → World → Prop} {a0 : Act} {id : Nat} {w w0 : World} (D : List (List (Nat × Tmp))) (E : List (Nat × Tmp)) (cs : List (Nat × Nat)) (C : List (Option Tmp)) (O : List Nat) (F : Nat → Po w0.heap.size)
    (hO : ((List.range ops.length).all fun i => (F i).own == O.contains i) = true)
    (hok : (regionOk ops.toArray a0.tmps.size (D.map (·.map (·.1))).toArray && pairsOk ops.toArray D && decide (pairsOf ops.toArray (List.range ops.length) = E)) = true)
    (hco : (consOk ops.toArray (D.map (·.map (·.1))).toArray O.contains (consOf cs) && cs.all (fun p => decide (p.1 < ops.length)) && (List.range ops.length).all (fun i => decide (consSlot ops.toArray (consOf cs) i = C.getD i none)) && cs.all (fun p => consOf cs p.1 == some p.2)) = true)
    (hB0 : Below w0.heap.size w0 w)
    (hsteps : StepsOk2 (fun i => (F i).p) O.contains (consOf cs) w0 Try.prog ops.toArray a0 ops D C 0)
    (hend : ∀ u, Below w0.heap.size w0 u → StepGoal (lastF (fun i => (F i).p) cs) u (fun a => Q .normal a u) E a0) :
    (Code.region id ops.toArray true).wp Try.prog Q a0 w :=
  region_own D E O.contains cs C (fun i => (F i).p) follows hok hco (fun i hi v u u' row h hg hr => (F i).mono v u u' row h hg (fun b hb => ⟨(hr b hb).1, fun ho => (hr b hb).2 (by
    have := (List.all_eq_true.1 hO) i (List.mem_range.2 hi)
    rw [beq_iff_eq] at this
    rw [← this]; exact ho)⟩)) hB0 hsteps hend

/-! ### What closes a step -/
theorem gb_rf (w : World) : w.grownBy w none := ⟨rfl, rfl, rfl, Nat.le_refl _, fun _ _ _ => rfl⟩
theorem Grew.gb {w w1 : World} (h : Grew w w1) (row : Option Nat) : w.grownBy w1 row := ⟨h.os, h.tape, h.output, h.size, fun i hi _ => h.block i hi⟩
theorem own_fresh {u u' : World} {v : Value} {xs : List Int} {row : Option Nat} (h : Own u' u.heap.size v xs) : true = true → ∀ b, v.ownBlock = some b → (row = some b ∨ u.heap.size ≤ b) ∧ b < u'.heap.size := fun _ b hb => ⟨.inr (h.base_le b hb), h.lt b hb⟩

section
variable {ops : Array Oper} {rest : List Oper} {o : Oper} {a : Act} {Q : Exit → Act → World → Prop} {W : World} {base : Nat}
/-- append(v, ys...): ys is read; what has become of the world, and where the new row lies. -/
theorem apps2 (hgd : o.guard = none ∨ Region.wanted o (yielded ops a.tmps) = true) {s x : Operand} (ho : o.op = .call { callee := .builtin .append, args := #[s, x], argTypes := #[23, 23] })
    {v : Value} {xs ys : List Int} {A : Option Addr} {m c : Nat} (hs : a.eval s = v) (hx : a.eval x = .slice A m c)
    (HO : Own W base v xs) (HR : Rd W A m ys) (hb : base ≤ W.heap.size) (hl : xs.length + m ≤ 140737488355328)
    (h : ∀ v1 w1, Own w1 base v1 (xs ++ ys) → W.grownBy w1 v.ownBlock → (∀ b, v1.ownBlock = some b → (v.ownBlock = some b ∨ W.heap.size ≤ b) ∧ b < w1.heap.size) → wpList Try.prog ops Q rest (a.put o.dst v1) w1) :
    wpList Try.prog ops Q (o :: rest) a W := by
  obtain ⟨i0, hi, hz0, hz1, hz2⟩ := info_parts infou8
  have hw : Region.wanted o (yielded ops a.tmps) = true := by
    rcases hgd with h | h
    · simp [Region.wanted, h]
    · exact h
  have hm := HR.len
  subst hm
  have hrun : ∃ v1 w1, (Builtin.append_ #[23, 23] o.type #[v, .slice A ys.length c]).run Try.prog W = .ok v1 w1 ∧ Own w1 base v1 (xs ++ ys) ∧ W.grownBy w1 v.ownBlock ∧ (v1.ownBlock = v.ownBlock ∨ v1.ownBlock = some W.heap.size) := by
    rcases Nat.eq_zero_or_pos ys.length with h0 | h0
    · have h0' : ys = [] := List.eq_nil_of_length_eq_zero h0
      subst h0'
      refine ⟨v, W, ?_, by simpa using HO, ⟨rfl, rfl, rfl, Nat.le_refl _, fun _ _ _ => rfl⟩, .inl rfl⟩
      have ht := Try.underlying23
      rcases HO.own.2 with ⟨rfl, h00⟩ | ⟨g, cap, cur, rfl, _, _, hnc, _⟩
      · cases A <;> simp [Builtin.append_, run_underlying ht, sizeOf, typeInfo, hi, Builtin.lenOf, Builtin.firstCells, loadCells, loadCellsFrom]
      · cases A <;> simp [Builtin.append_, run_underlying ht, sizeOf, typeInfo, hi, Builtin.lenOf, Builtin.firstCells, hnc, storeCells, loadCells, loadCellsFrom]
    · obtain ⟨b, o', rfl, hc⟩ := HR.cells h0
      obtain ⟨v1, w1, hr, hown, hg, _, hat⟩ := run_append_own_at (P := Try.prog) W base 23 o.type 5 i0 (.int .u8 0) 1 1 Try.underlying23 hi hz0 hz1 hz2 rfl (by omega) v xs.length (nums .u8 xs) HO.own ⟨b, o', none⟩ ys.length c (nums .u8 ys) (by simp [nums])
        (fun j u hu => by
          have hj : j < ys.length := by simpa [nums] using (List.getElem?_eq_some_iff.1 hu).1
          rw [nums_get _ _ _ hj] at hu
          rw [add_plain, hc j hj]
          exact hu) (nums_one _ _) (by simp only [maxLen]; omega) (by omega) hb
      exact ⟨v1, w1, hr, ⟨by simpa [nums] using hown⟩, hg, hat⟩
  obtain ⟨v1, w1, hr, hown, hg, hat⟩ := hrun
  refine wpList_step fun K hK => ?_
  rw [if_pos hw]
  unfold Oper.wp execOp
  simp only [ho, resolve, invoke, builtin, Sem.run_bind, Sem.run_pure, Result.andThen_ok, List.map_toArray, List.map_cons, List.map_nil, hs, hx, hr]
  refine hK _ _ (h v1 w1 hown hg fun b hb' => ⟨?_, hown.lt b hb'⟩)
  rcases hat with e | e
  · rw [← e]; exact .inl hb'
  · rw [e] at hb'
    injection hb' with hb'
    exact .inr (by omega)
end
end Go.Proofs.Ytbkcpgaicoagfaa
