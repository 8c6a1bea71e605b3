/- Tables of 256 words; the walks of cyc and of its answer. -/
import Derived.Test.YtflnopaheanpdaaPureCyc
import Derived.Great.Ranges
import Derived.Great.Walk
import Derived.Laws.Rows
import Derived.Laws.Tables
import Derived.Deep.WholeRow
import Derived.Laws.Alloc2
set_option linter.unusedVariables false
set_option linter.unusedSimpArgs false
namespace Go.Proofs.Ytflnopaheanpdaa
open Go.RowKit

/-- The table of zeros. -/
def zT : List Int := List.replicate 256 0
theorem zT_len : zT.length = 256 := by unfold zT; exact List.length_replicate
theorem tabInfo : (Try.prog.info? 24).map (fun i => (i.zero, i.size)) = some (some (.agg (nums .u32 zT).toArray), 256) := by kernel_rfl
theorem tabSize : (Try.prog.info? 24).map (·.size) = some 256 := by kernel_rfl
def tabV (T : List Int) : Value := .agg (nums .u32 T).toArray
/-- A table lies at block g. -/
structure TabAt (w : World) (g : Nat) (T : List Int) : Prop where
  len : T.length = 256
  heap : w.heap[g]? = some (.cells (nums .u32 T).toArray 24 (0, 0))
section
variable {w w' : World} {g : Nat} {T : List Int}
theorem TabAt.lt (h : TabAt w g T) : g < w.heap.size := (Array.getElem?_eq_some_iff.1 h.heap).1
theorem TabAt.keep (h : TabAt w g T) (hg : Grew w w') : TabAt w' g T := ⟨h.len, by rw [hg.block g h.lt]; exact h.heap⟩
theorem TabAt.cell (h : TabAt w g T) {j : Nat} (hj : j < 256) : w.cell? ⟨g, j, none⟩ = some (.int .u32 (T.getD j 0)) := by
  have h1 : (nums .u32 T)[j]? = some (.int .u32 (T.getD j 0)) := nums_get _ _ _ (by rw [h.len]; exact hj)
  simp [World.cell?, h.heap, h1]
theorem TabAt.frozen (h : TabAt w g T) (j : Nat) : w.frozen? ⟨g, j, none⟩ = false := by simp [World.frozen?, h.heap]
theorem TabAt.new (w : World) (hl : T.length = 256) : TabAt (w.alloc (.cells (nums .u32 T).toArray 24)) w.heap.size T := ⟨hl, heap_alloc_new w _⟩
theorem TabAt.store (h : TabAt w g T) (i : Nat) (x : Int) : TabAt (w.setCell ⟨g, i, none⟩ (.int .u32 x)) g (T.set i x) := by
  refine ⟨by rw [List.length_set]; exact h.len, ?_⟩
  rw [setCell_eq_setRow w g i _ _ _ _ h.heap, setRow_heap w g _ _ _ _ h.heap]
  simp [nums, List.map_set]
end
section
variable {ops : Array Oper} {rest : List Oper} {o : Oper} {a : Act} {Q : Exit → Act → World → Prop} {W : World} {g : Nat} {T : List Int}
/-- var t [256]uint32. -/
theorem tab_alloc (hgd : o.guard = none) (ho : o.op = .alloc 24)
    (h : TabAt (W.alloc (.cells (nums .u32 zT).toArray 24)) W.heap.size zT → wpList Try.prog ops Q rest (a.put o.dst (.pointer (some ⟨W.heap.size, 0, none⟩))) (W.alloc (.cells (nums .u32 zT).toArray 24))) :
    wpList Try.prog ops Q (o :: rest) a W := by
  refine wpList_plain hgd fun K hK => ?_
  have hz := (zero_of_info tabInfo).1
  unfold Oper.wp execOp
  simp only [ho, Sem.run_bind, Instr.alloc, hz, newVar, newRow, run_newObj_alloc, Sem.run_pure, Result.andThen_ok, Value.cells]
  exact hK _ _ (h (TabAt.new W zT_len))
/-- A table by value into a variable of its own. -/
theorem tab_box (hgd : o.guard = none) {x : Operand} (ho : o.op = .box 24 x) (hx : a.eval x = tabV T) (hl : T.length = 256)
    (h : TabAt (W.alloc (.cells (nums .u32 T).toArray 24)) W.heap.size T → wpList Try.prog ops Q rest (a.put o.dst (.pointer (some ⟨W.heap.size, 0, none⟩))) (W.alloc (.cells (nums .u32 T).toArray 24))) :
    wpList Try.prog ops Q (o :: rest) a W :=
  Go.Great.wpList_boxTo hgd 24 x ho o.dst rfl _ rfl (nums .u32 T).toArray (by rw [hx]; rfl) (h (TabAt.new W hl))
theorem tab_load (hgd : o.guard = none) {x : Operand} (ho : o.op = .load 24 x) (hx : a.eval x = .pointer (some ⟨g, 0, none⟩)) (hT : TabAt W g T)
    (h : wpList Try.prog ops Q rest (a.put o.dst (tabV T)) W) : wpList Try.prog ops Q (o :: rest) a W :=
  wpList_load_row hgd 24 x ho g hx _ _ _ _ hT.heap Try.underlying24 rfl (by rw [tabSize]; simp [nums_length, hT.len]) h
theorem tab_store (hgd : o.guard = none) {x y : Operand} (ho : o.op = .store 24 x y) (hx : a.eval x = .pointer (some ⟨g, 0, none⟩)) (hy : a.eval y = tabV T) {T0 : List Int} (hT : TabAt W g T0) (hl : T.length = 256)
    (h : TabAt (W.setRow g (nums .u32 T).toArray) g T → wpList Try.prog ops Q rest (a.put o.dst undef) (W.setRow g (nums .u32 T).toArray)) : wpList Try.prog ops Q (o :: rest) a W :=
  wpList_store_row hgd 24 x y ho g _ hx hy _ _ hT.heap (by rw [tabSize]; simp [nums_length, hl]) (by simp [nums_length, hT.len, hl]) (all_one _) (h ⟨hl, setRow_heap W g _ _ _ _ hT.heap⟩)
where all_one (T : List Int) : ((nums .u32 T).toArray).all (·.oneCell') = true := Array.all_eq_true_iff_forall_mem.2 (fun v hv => nums_one .u32 T v (by simpa using hv))
theorem tab_storeA (hgd : o.guard = none) {x y : Operand} (ho : o.op = .store 24 x y) (hx : a.eval x = .pointer (some ⟨g, 0, none⟩)) (hy : a.eval y = tabV T) {T0 : List Int} (hT : TabAt W g T0) (hl : T.length = 256) {b : Nat} {w0 : World} (hB : Below b w0 W) (hb : b ≤ g)
    (h : ∀ W', TabAt W' g T → Below b w0 W' → wpList Try.prog ops Q rest (a.put o.dst undef) W') : wpList Try.prog ops Q (o :: rest) a W :=
  tab_store hgd ho hx hy hT hl fun hF => h _ hF (below_setRow hB hb _)
end
end Go.Proofs.Ytflnopaheanpdaa
