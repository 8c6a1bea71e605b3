/- Drawn regions in which the call appends to rows of its own. -/
import Derived.Test.YtbkcpgaicoagfaaReg2
import Derived.Test.YtbkcpgaicoagfaaRegOwn
import Derived.ArgAppend
import Derived.Lib.AppendStr
set_option linter.unusedVariables false
set_option linter.unusedSimpArgs false
namespace Go.Proofs.Ytbkcpgaicoagfaa
open Go.RowKit

/-- A word on a value that hangs on blocks below B0 and, where 'own' says so, on the value's own block. -/
structure Po (B0 : Nat) where
  p : Value → World → Prop
  own : Bool
  mono : ∀ v u u' row, p v u → u.grownBy u' row → (∀ b, row = some b → B0 ≤ b ∧ (own = true → v.ownBlock ≠ some b)) → p v u'
def Po.any {B0 : Nat} : Po B0 := ⟨fun _ _ => True, false, fun _ _ _ _ _ _ _ => trivial⟩
def Po.eqv {B0 : Nat} (v0 : Value) : Po B0 := ⟨fun v _ => v = v0, false, fun _ _ _ _ h _ _ => h⟩
theorem OwnK.kept {e : TypeId} {k : IntKind} {u u' : World} {base : Nat} {v : Value} {xs : List Int} {row : Option Nat} (h : OwnK e k u base v xs) (hg : u.grownBy u' row) (hr : ∀ b, row = some b → v.ownBlock ≠ some b) : OwnK e k u' base v xs := by
  refine ⟨h.own.kept hg ?_⟩
  cases hv : v.ownBlock with
  | none => exact .inl rfl
  | some b => exact .inr fun e => hr b e.symm hv
def Po.ow {B0 : Nat} (xs : List Int) : Po B0 := ⟨fun v u => Own u B0 v xs, true, fun v u u' row h hg hr => h.kept hg (fun b hb => (hr b hb).2 rfl)⟩

theorem region_ow {ops : List Oper} {Q : Exit → Act → World → Prop} {a0 : Act} {id : Nat} {w w0 : World} (D : List (List (Nat × Tmp))) (E : List (Nat × Tmp)) (cs : List (Nat × Nat)) (C : List (Option Tmp)) (O : List Nat) (F : Nat → Po w0.heap.size)
    (hO : ((List.range ops.length).all fun i => (F i).own == O.contains i) = true)
    (hok : (regionOk ops.toArray a0.tmps.size (D.map (·.map (·.1))).toArray && pairsOk ops.toArray D && decide (pairsOf ops.toArray (List.range ops.length) = E)) = true)
    (hco : (consOk ops.toArray (D.map (·.map (·.1))).toArray O.contains (consOf cs) && cs.all (fun p => decide (p.1 < ops.length)) && (List.range ops.length).all (fun i => decide (consSlot ops.toArray (consOf cs) i = C.getD i none)) && cs.all (fun p => consOf cs p.1 == some p.2)) = true)
    (hB0 : Below w0.heap.size w0 w)
    (hsteps : StepsOk2 (fun i => (F i).p) O.contains (consOf cs) w0 Try.prog ops.toArray a0 ops D C 0)
    (hend : ∀ u, Below w0.heap.size w0 u → StepGoal (lastF (fun i => (F i).p) cs) u (fun a => Q .normal a u) E a0) :
    (Code.region id ops.toArray true).wp Try.prog Q a0 w :=
  region_own D E O.contains cs C (fun i => (F i).p) follows hok hco (fun i hi v u u' row h hg hr => (F i).mono v u u' row h hg (fun b hb => ⟨(hr b hb).1, fun ho => (hr b hb).2 (by
    have := (List.all_eq_true.1 hO) i (List.mem_range.2 hi)
    rw [beq_iff_eq] at this
    rw [← this]; exact ho)⟩)) hB0 hsteps hend

/-! ### What closes a step -/
theorem gb_rf (w : World) : w.grownBy w none := ⟨rfl, rfl, rfl, Nat.le_refl _, fun _ _ _ => rfl⟩
theorem Grew.gb {w w1 : World} (h : Grew w w1) (row : Option Nat) : w.grownBy w1 row := ⟨h.os, h.tape, h.output, h.size, fun i hi _ => h.block i hi⟩
theorem own_fresh {u u' : World} {v : Value} {xs : List Int} {row : Option Nat} (h : Own u' u.heap.size v xs) : true = true → ∀ b, v.ownBlock = some b → (row = some b ∨ u.heap.size ≤ b) ∧ b < u'.heap.size := fun _ b hb => ⟨.inr (h.base_le b hb), h.lt b hb⟩

section
variable {ops : Array Oper} {rest : List Oper} {o : Oper} {a : Act} {Q : Exit → Act → World → Prop} {W : World} {base : Nat}
/-- append(v, ys...): ys is read; what has become of the world, and where the new row lies. -/
theorem apps2 (hgd : o.guard = none ∨ Region.wanted o (yielded ops a.tmps) = true) {s x : Operand} (ho : o.op = .call { callee := .builtin .append, args := #[s, x], argTypes := #[23, 23] })
    {v : Value} {xs ys : List Int} {A : Option Addr} {m c : Nat} (hs : a.eval s = v) (hx : a.eval x = .slice A m c)
    (HO : Own W base v xs) (HR : Rd W A m ys) (hb : base ≤ W.heap.size) (hl : xs.length + m ≤ 140737488355328)
    (h : ∀ v1 w1, Own w1 base v1 (xs ++ ys) → W.grownBy w1 v.ownBlock → (∀ b, v1.ownBlock = some b → (v.ownBlock = some b ∨ W.heap.size ≤ b) ∧ b < w1.heap.size) → wpList Try.prog ops Q rest (a.put o.dst v1) w1) :
    wpList Try.prog ops Q (o :: rest) a W := by
  obtain ⟨i0, hi, hz0, hz1, hz2⟩ := info_parts infou8
  have hw : Region.wanted o (yielded ops a.tmps) = true := by
    rcases hgd with h | h
    · simp [Region.wanted, h]
    · exact h
  have hm := HR.len
  subst hm
  have hrun : ∃ v1 w1, (Builtin.append_ #[23, 23] o.type #[v, .slice A ys.length c]).run Try.prog W = .ok v1 w1 ∧ Own w1 base v1 (xs ++ ys) ∧ W.grownBy w1 v.ownBlock ∧ (v1.ownBlock = v.ownBlock ∨ v1.ownBlock = some W.heap.size) := by
    rcases Nat.eq_zero_or_pos ys.length with h0 | h0
    · have h0' : ys = [] := List.eq_nil_of_length_eq_zero h0
      subst h0'
      refine ⟨v, W, ?_, by simpa using HO, ⟨rfl, rfl, rfl, Nat.le_refl _, fun _ _ _ => rfl⟩, .inl rfl⟩
      have ht := Try.underlying23
      rcases HO.own.2 with ⟨rfl, h00⟩ | ⟨g, cap, cur, rfl, _, _, hnc, _⟩
      · cases A <;> simp [Builtin.append_, run_underlying ht, sizeOf, typeInfo, hi, Builtin.lenOf, Builtin.firstCells, loadCells, loadCellsFrom]
      · cases A <;> simp [Builtin.append_, run_underlying ht, sizeOf, typeInfo, hi, Builtin.lenOf, Builtin.firstCells, hnc, storeCells, loadCells, loadCellsFrom]
    · obtain ⟨b, o', rfl, hc⟩ := HR.cells h0
      obtain ⟨v1, w1, hr, hown, hg, _, hat⟩ := run_append_own_at (P := Try.prog) W base 23 o.type 5 i0 (.int .u8 0) 1 1 Try.underlying23 hi hz0 hz1 hz2 rfl (by omega) v xs.length (nums .u8 xs) HO.own ⟨b, o', none⟩ ys.length c (nums .u8 ys) (by simp [nums])
        (fun j u hu => by
          have hj : j < ys.length := by simpa [nums] using (List.getElem?_eq_some_iff.1 hu).1
          rw [nums_get _ _ _ hj] at hu
          rw [add_plain, hc j hj]
          exact hu) (nums_one _ _) (by simp only [maxLen]; omega) (by omega) hb
      exact ⟨v1, w1, hr, ⟨by simpa [nums] using hown⟩, hg, hat⟩
  obtain ⟨v1, w1, hr, hown, hg, hat⟩ := hrun
  refine wpList_step fun K hK => ?_
  rw [if_pos hw]
  unfold Oper.wp execOp
  simp only [ho, resolve, invoke, builtin, Sem.run_bind, Sem.run_pure, Result.andThen_ok, List.map_toArray, List.map_cons, List.map_nil, hs, hx, hr]
  refine hK _ _ (h v1 w1 hown hg fun b hb' => ⟨?_, hown.lt b hb'⟩)
  rcases hat with e | e
  · rw [← e]; exact .inl hb'
  · rw [e] at hb'
    injection hb' with hb'
    exact .inr (by omega)
end
end Go.Proofs.Ytbkcpgaicoagfaa
/- Drawn regions in which '[]byte("..")' of a constant marks a row that the region itself has laid. -/
set_option linter.unusedVariables false
set_option linter.unusedSimpArgs false
namespace Go.Proofs.Ytbkcpgaicoagfaa
open Go.RowKit

/-- The world has grown; of the blocks from n on the marks may differ. -/
structure Gm (n : Nat) (u u' : World) : Prop where
  low : Below n u u'
  cell : ∀ a v, u.cell? a = some v → u'.cell? a = some v
  blk : ∀ (k : Nat) (C : Array Value) (t : TypeId) (fr : Nat × Nat), u.heap[k]? = some (Obj.cells C t fr) → ∃ fr', u'.heap[k]? = some (Obj.cells C t fr')
theorem Gm.rf (n : Nat) (u : World) : Gm n u u := ⟨Below.refl _ _, fun _ _ h => h, fun _ _ _ fr h => ⟨fr, h⟩⟩
theorem Gm.of {n : Nat} {u u' : World} (h : Grew u u') (hn : n ≤ u.heap.size) : Gm n u u' :=
  ⟨h.mono hn, fun _ _ hc => h.ce hc, fun k C t fr hk => ⟨fr, by rw [h.block k (Array.getElem?_eq_some_iff.1 hk).1]; exact hk⟩⟩
theorem RdK.keepC {k : IntKind} {w w' : World} {A : Option Addr} {n : Nat} {xs : List Int} (h : RdK k w A n xs) (hg : ∀ a v, w.cell? a = some v → w'.cell? a = some v) : RdK k w' A n xs :=
  ⟨h.len, fun hn => by
    obtain ⟨b, o, e, hc⟩ := h.cells hn
    exact ⟨b, o, e, fun j hj => hg _ _ (hc j hj)⟩⟩
structure Pm (n : Nat) where
  p : Value → World → Prop
  mono : ∀ v u u', p v u → Gm n u u' → p v u'
def Pm.any {n : Nat} : Pm n := ⟨fun _ _ => True, fun _ _ _ _ _ => trivial⟩
def Pm.eqv {n : Nat} (v0 : Value) : Pm n := ⟨fun v _ => v = v0, fun _ _ _ h _ => h⟩
def Pm.rd {n : Nat} (xs : List Int) : Pm n := ⟨fun v u => ∃ A m c, v = .slice A m c ∧ m ≤ c ∧ c ≤ 9223372036854775807 ∧ Rd u A m xs, fun _ _ _ ⟨A, m, c, h1, h2, h3, h4⟩ hg => ⟨A, m, c, h1, h2, h3, h4.keepC hg.cell⟩⟩
/-- A literal of bytes whose mark is not told. -/
def Pm.lit {n : Nat} (xs : List Int) : Pm n := ⟨fun v u => ∃ g fr, v = .slice (some ⟨g, 0, none⟩) xs.length xs.length ∧ n ≤ g ∧ u.heap[g]? = some (.cells (nums .u8 xs).toArray 5 fr), fun _ u u' ⟨g, fr, h1, h2, h3⟩ hg => by
  obtain ⟨fr', h4⟩ := hg.blk _ _ _ _ h3
  exact ⟨g, fr', h1, h2, h4⟩⟩
theorem lit_new {n : Nat} {u : World} (xs : List Int) {cs : Array Value} {m g : Nat} (hc : cs = (nums .u8 xs).toArray) (hm : xs.length = m) (hg : u.heap.size = g) (hn : n ≤ u.heap.size) :
    (Pm.lit (n := n) xs).p (.slice (some ⟨g, 0, none⟩) m m) (u.alloc (.cells cs 5)) := by
  subst hc; subst hm; subst hg
  exact ⟨_, (0, 0), rfl, hn, heap_alloc_new u _⟩
theorem lit_rd {n : Nat} {v : Value} {u : World} {xs : List Int} (h : (Pm.lit (n := n) xs).p v u) (hm : xs.length ≤ 9223372036854775807) : (Pm.rd (n := n) xs).p v u := by
  obtain ⟨g, fr, rfl, _, hh⟩ := h
  refine ⟨_, _, _, rfl, Nat.le_refl _, hm, rfl, fun hn => ⟨g, 0, rfl, fun j hj => ?_⟩⟩
  have h1 : (nums .u8 xs)[j]? = some (.int .u8 (xs.getD j 0)) := nums_get _ _ _ hj
  simp [World.cell?, hh, h1]
/-- The conversion of a literal to its own type: a mark, and no more. -/
theorem lit_conv {n : Nat} {v : Value} {u : World} {xs : List Int} (h : (Pm.lit (n := n) xs).p v u) :
    ∃ u', (convert 23 23 v).run Try.prog u = .ok v u' ∧ Gm n u u' ∧ (Pm.lit (n := n) xs).p v u' := by
  obtain ⟨g, ⟨lo, hi⟩, rfl, hng, hh⟩ := h
  have hlt : g < u.heap.size := (Array.getElem?_eq_some_iff.1 hh).1
  have hsh : u.shape? g = some (5, (nums .u8 xs).toArray.size) := by unfold World.shape?; rw [hh]
  have hG : Gm n u (u.freeze ⟨g, (nums .u8 xs).toArray.size, none⟩ 1) := by
    have hb : ∀ k, k ≠ g → (u.freeze ⟨g, (nums .u8 xs).toArray.size, none⟩ 1).heap[k]? = u.heap[k]? := fun k hk => by
      simp [World.freeze, Array.getElem?_modify, Ne.symm hk]
    have hgg : ∃ fr', (u.freeze ⟨g, (nums .u8 xs).toArray.size, none⟩ 1).heap[g]? = some (.cells (nums .u8 xs).toArray 5 fr') := by
      simp [World.freeze, Array.getElem?_modify, hh]
    refine ⟨⟨rfl, rfl, rfl, by simp [World.freeze], fun k hk => hb k (by omega)⟩, fun a x hx => ?_, fun k C t fr hk => ?_⟩
    · by_cases ha : a.block = g
      · obtain ⟨fr', h2⟩ := hgg
        unfold World.cell? at hx ⊢
        rw [ha, hh] at hx
        rw [ha, h2]
        exact hx
      · unfold World.cell? at hx ⊢
        rw [hb _ ha]
        exact hx
    · by_cases ha : k = g
      · subst ha
        rw [hh] at hk
        simp only [Option.some.injEq, Obj.cells.injEq] at hk
        obtain ⟨rfl, rfl, _⟩ := hk
        exact hgg
      · exact ⟨fr, by rw [hb _ ha]; exact hk⟩
  refine ⟨_, ?_, hG, (Pm.lit (n := n) xs).mono _ _ _ ⟨g, (lo, hi), rfl, hng, hh⟩ hG⟩
  simp [convert, run_underlying Try.underlying23, run_underlying Try.underlying5, markStringish, hsh]

theorem region_gm {ops : List Oper} {Q : Exit → Act → World → Prop} {a0 : Act} {id : Nat} {w : World} (D : List (List (Nat × Tmp))) (E : List (Nat × Tmp)) (F : Nat → Pm w.heap.size)
    (hok : (regionOk ops.toArray a0.tmps.size (D.map (·.map (·.1))).toArray && pairsOk ops.toArray D && decide (pairsOf ops.toArray (List.range ops.length) = E)) = true)
    (hsteps : StepsOk (fun i => (F i).p) (Grew w) (Gm w.heap.size) Try.prog ops.toArray a0 ops D 0)
    (hend : ∀ u, Grew w u → StepGoal (fun i => (F i).p) u (fun a => Q .normal a u) E a0) :
    (Code.region id ops.toArray true).wp Try.prog Q a0 w :=
  region_mono D E (fun i => (F i).p) (Grew w) (Gm w.heap.size) follows hok (fun i v u u' h hg => (F i).mono v u u' h hg) (fun u u' h hg => h.trans hg.low) (Grew.rf w).dr hsteps hend
end Go.Proofs.Ytbkcpgaicoagfaa
/- More words on memory: append onto a slice that is full; a tuple that a call hands back. -/
set_option linter.unusedVariables false
set_option linter.unusedSimpArgs false
namespace Go.Proofs.Ytbkcpgaicoagfaa
open Go.RowKit

section
variable {ops : Array Oper} {rest : List Oper} {o : Oper} {a : Act} {Q : Exit → Act → World → Prop} {W : World}
/-- append(s, ys...) where s has no room: what comes is new. -/
theorem apps_full (hgd : o.guard = none ∨ Region.wanted o (yielded ops a.tmps) = true) {s x : Operand} (ho : o.op = .call { callee := .builtin .append, args := #[s, x], argTypes := #[23, 23] })
    {ad : Addr} {n : Nat} {xs ys : List Int} {A : Option Addr} {m c : Nat} (hs : a.eval s = .slice (some ad) n n) (hx : a.eval x = .slice A m c)
    (HS : Rd W (some ad) n xs) (HR : Rd W A m ys) (hm : 0 < m) (hl : n + m ≤ 140737488355328)
    (h : ∀ v1 w1, Own w1 W.heap.size v1 (xs ++ ys) → Grew W w1 → wpList Try.prog ops Q rest (a.put o.dst v1) w1) :
    wpList Try.prog ops Q (o :: rest) a W := by
  obtain ⟨i0, hi, hz0, hz1, hz2⟩ := info_parts infou8
  have hw : Region.wanted o (yielded ops a.tmps) = true := by
    rcases hgd with h | h
    · simp [Region.wanted, h]
    · exact h
  have hxl := HS.len
  have hyl := HR.len
  obtain ⟨b, o', rfl, hc⟩ := HR.cells hm
  have holds : ∀ j u, (nums .u8 xs)[j]? = some u → W.cell? (ad.add j) = some u := by
    intro j u hu
    have hj : j < xs.length := by simpa [nums] using (List.getElem?_eq_some_iff.1 hu).1
    obtain ⟨b2, o2, e2, hc2⟩ := HS.at_ (j := j) (by omega)
    cases e2
    rw [nums_get _ _ _ hj] at hu
    rw [add_plain, hc2]
    exact hu
  have hnews : ∀ j u, (nums .u8 ys)[j]? = some u → W.cell? ((⟨b, o', none⟩ : Addr).add j) = some u := by
    intro j u hu
    have hj : j < ys.length := by simpa [nums] using (List.getElem?_eq_some_iff.1 hu).1
    rw [nums_get _ _ _ hj] at hu
    rw [add_plain, hc j (by omega)]
    exact hu
  obtain ⟨v1, w1, hrun, hown, hg⟩ := run_append_arg_grows (P := Try.prog) W 23 o.type 5 i0 (.int .u8 0) 1 1 Try.underlying23 hi hz0 hz1 hz2 rfl (by omega) ad n n (nums .u8 xs) (by simp [nums, hxl]) holds ⟨b, o', none⟩ m c (nums .u8 ys) (by simp [nums, hyl]) hnews (by omega) (by simp only [maxLen]; omega) (by omega)
  refine wpList_step fun K hK => ?_
  rw [if_pos hw]
  unfold Oper.wp execOp
  simp only [ho, resolve, invoke, builtin, Sem.run_bind, Sem.run_pure, Result.andThen_ok, List.map_toArray, List.map_cons, List.map_nil, hs, hx, hrun]
  exact hK _ _ (h v1 w1 ⟨by rw [List.length_append, hxl, hyl]; simpa [nums] using hown⟩ (grown_below hg))
/-- The conversion of a literal to its own type. -/
theorem conv_lit (hgd : o.guard = none) {x : Operand} (ho : o.op = .convert 23 23 x) {n : Nat} {v : Value} {xs : List Int} (hx : a.eval x = v) (hl : (Pm.lit (n := n) xs).p v W)
    (h : ∀ u, Gm n W u → (Pm.lit (n := n) xs).p v u → wpList Try.prog ops Q rest (a.put o.dst v) u) : wpList Try.prog ops Q (o :: rest) a W := by
  obtain ⟨u, hrun, hg, hl2⟩ := lit_conv hl
  refine wpList_plain hgd fun K hK => ?_
  unfold Oper.wp execOp
  simp only [ho, Sem.run_bind, Sem.run_pure, Result.andThen_ok, hx, hrun]
  exact hK _ _ (h u hg hl2)
end
/-- A slice without room. -/
def Pd.full (xs : List Int) : Pd := ⟨fun v u => ∃ ad n, v = .slice (some ad) n n ∧ Rd u (some ad) n xs, fun _ _ _ ⟨ad, n, h1, h2⟩ hg => ⟨ad, n, h1, h2.keep hg⟩⟩
/-- Bytes, a place, an error's number. -/
def Pd.tup (xs : List Int) (a b : Int) : Pd := ⟨fun v u => ∃ B m d, v = .tuple #[.slice B m d, .int .i64 a, .int .i64 b] ∧ Rd u B m xs ∧ m ≤ d ∧ d ≤ 9223372036854775807, fun _ _ _ ⟨B, m, d, h1, h2, h3⟩ hg => ⟨B, m, d, h1, h2.keep hg, h3⟩⟩
theorem OwnK.addr {e : TypeId} {k : IntKind} {w : World} {base : Nat} {v : Value} {xs : List Int} (h : OwnK e k w base v xs) (h0 : 0 < xs.length) : ∃ g c, v = .slice (some ⟨g, 0, none⟩) xs.length c ∧ base ≤ g ∧ g < w.heap.size ∧ xs.length ≤ c ∧ c ≤ 9223372036854775807 := by
  rcases h.own.2 with ⟨rfl, h2⟩ | ⟨g, cap, cur, rfl, hg, hh, hn, hm, _⟩
  · omega
  · exact ⟨g, cap, rfl, hg, (Array.getElem?_eq_some_iff.1 hh).1, hn, by simpa [maxLen] using hm⟩
end Go.Proofs.Ytbkcpgaicoagfaa
/- Words on memory: rows of any cells (texts, headers), append onto them; texts as bytes. -/
set_option linter.unusedVariables false
set_option linter.unusedSimpArgs false
namespace Go.Proofs.Ytbkcpgaicoagfaa
open Go.RowKit

/-! ### Texts as bytes -/
def bsOf (s : ByteArray) : List Int := s.data.toList.map fun b => (b.toNat : Int)
theorem bsOf_len (s : ByteArray) : (bsOf s).length = s.size := by rw [bsOf, List.length_map, Array.length_toList]; rfl
theorem bsOf_byt (s : ByteArray) : Byt (bsOf s) := fun x hx => by
  obtain ⟨b, _, rfl⟩ := List.mem_map.1 hx
  have := b.toNat_lt
  omega
theorem bsOf_str (s : ByteArray) : strOfNums (bsOf s) = s := by
  have e : (bsOf s).map (fun n => UInt8.ofNat n.toNat) = s.data.toList := by
    rw [bsOf, List.map_map]
    conv => rhs; rw [← List.map_id s.data.toList]
    refine List.map_congr_left fun b _ => ?_
    simp
  cases s with
  | mk d => simp only [strOfNums]; simp only [bsOf] at e ⊢; rw [e]
theorem bsOf_nums {xs : List Int} (h : Byt xs) : bsOf (strOfNums xs) = xs := strOfNums_inj (bsOf_byt _) h (bsOf_str _)

/-- An address that lies at or beyond block b. -/
def FreshA (b : Nat) (A : Option Addr) : Prop := ∀ ad, A = some ad → b ≤ ad.block
theorem FreshA.none (b : Nat) : FreshA b Option.none := fun _ h => by cases h
theorem FreshA.mono {b b' : Nat} {A : Option Addr} (h : FreshA b A) (hb : b' ≤ b) : FreshA b' A := fun ad e => Nat.le_trans hb (h ad e)
theorem OwnK.fresh {e : TypeId} {k : IntKind} {w : World} {base : Nat} {A : Option Addr} {n c : Nat} {xs : List Int} (h : OwnK e k w base (.slice A n c) xs) : FreshA base A := by
  intro ad hA
  rcases h.own.2 with ⟨hv, _⟩ | ⟨g, cap, cur, hv, hg, _⟩
  · cases hv; cases hA
  · cases hv; cases hA; exact hg
/-- What the address leads to is a row of bytes. -/
def U8 (w : World) (A : Option Addr) : Prop := ∀ ad, A = some ad → ∃ cs fr, w.heap[ad.block]? = some (.cells cs 5 fr)
theorem U8.none (w : World) : U8 w Option.none := fun _ h => by cases h
theorem U8.keep {w w' : World} {A : Option Addr} (h : U8 w A) (hg : Grew w w') : U8 w' A := fun ad e => by
  obtain ⟨cs, fr, hc⟩ := h ad e
  exact ⟨cs, fr, (hg.block _ (Array.getElem?_eq_some_iff.1 hc).1).trans hc⟩
theorem OwnK.u8 {w : World} {base : Nat} {A : Option Addr} {n c : Nat} {xs : List Int} (h : Own w base (.slice A n c) xs) : U8 w A := by
  intro ad hA
  rcases h.own.2 with ⟨hv, _⟩ | ⟨g, cap, cur, hv, hg, hh, _⟩
  · cases hv; cases hA
  · cases hv; cases hA; exact ⟨_, _, hh⟩
theorem OwnK.freshv {e : TypeId} {k : IntKind} {w : World} {base : Nat} {v : Value} {xs : List Int} (h : OwnK e k w base v xs) {b : Nat} (hb : v.ownBlock = some b) : base ≤ b := h.base_le b hb
theorem clip_any (A : Option Addr) (n c : Nat) (w : World) (hn : n ≤ c) (hc : c ≤ 9223372036854775807) :
    Calls Try.prog 47 #[.slice A n c] w fun e w' => e = .returned (.slice A n n) ∧ w = w' := by
  have hcut : ∀ W : World, (Instr.slice 23 (.slice A n c) none (some (.int .i64 (n : Int))) (some (.int .i64 (n : Int)))).run Try.prog W = .ok (.slice A n n) W := fun W => by
    have hu : Try.prog.underlying 23 = some (.slice (Try.prog.elem 23)) := by rw [elem8]; exact Try.underlying23
    have ha : (A.map fun x => x.add 0) = A := by cases A <;> simp [Addr.add]
    rw [run_slice_hm W 23 A n c hu .i64 .i64 (n : Int) (n : Int) (Int.natCast_nonneg _) (by omega) (by omega), elem8]
    simp [size8, sliced, Result.andThen, ha]
  go_enter Try.func47, Try.ntmps47
  go_wp2
  go_ret
  exact ⟨rfl, rfl⟩

/-! ### Rows of cells -/
structure RdV (sz : Nat) (w : World) (A : Option Addr) (n : Nat) (vs : List Value) : Prop where
  len : vs.length = n * sz
  cells : 0 < n * sz → ∃ b o, A = some ⟨b, o, none⟩ ∧ ∀ j u, vs[j]? = some u → w.cell? ⟨b, o + j, none⟩ = some u
structure OwnV (e : TypeId) (sz : Nat) (w : World) (base : Nat) (v : Value) (n : Nat) (vs : List Value) : Prop where
  own : w.ownsRow base e sz v n vs

section
variable {e : TypeId} {sz : Nat} {w w' : World} {base : Nat} {v : Value} {n : Nat} {vs us : List Value} {A : Option Addr}
theorem RdV.nil (sz : Nat) (w : World) (A : Option Addr) : RdV sz w A 0 [] := ⟨by simp, fun h => by omega⟩
theorem RdV.keep (h : RdV sz w A n vs) (hg : Grew w w') : RdV sz w' A n vs :=
  ⟨h.len, fun hn => by
    obtain ⟨b, o, e, hc⟩ := h.cells hn
    exact ⟨b, o, e, fun j u hj => hg.ce (hc j u hj)⟩⟩
theorem OwnV.nil (e : TypeId) (sz : Nat) (w : World) (base : Nat) : OwnV e sz w base (.slice none 0 0) 0 [] := ⟨⟨by simp, .inl ⟨rfl, rfl⟩⟩⟩
theorem OwnV.lower (h : OwnV e sz w base v n vs) {base' : Nat} (hb : base' ≤ base) : OwnV e sz w base' v n vs := by
  refine ⟨h.own.1, ?_⟩
  rcases h.own.2 with h2 | ⟨g, cap, cur, hv, hg, r⟩
  · exact .inl h2
  · exact .inr ⟨g, cap, cur, hv, by omega, r⟩
theorem OwnV.kept {row : Option Nat} (h : OwnV e sz w base v n vs) (hg : w.grownBy w' row) (hr : ∀ b, row = some b → v.ownBlock ≠ some b) : OwnV e sz w' base v n vs := by
  refine ⟨h.own.kept hg ?_⟩
  cases hv : v.ownBlock with
  | none => exact .inl rfl
  | some b => exact .inr fun e => hr b e.symm hv
theorem OwnV.keep (h : OwnV e sz w base v n vs) (hg : Grew w w') : OwnV e sz w' base v n vs := h.kept (hg.gb none) (fun b hb => by cases hb)
theorem OwnV.base_le (h : OwnV e sz w base v n vs) (b : Nat) (hb : v.ownBlock = some b) : base ≤ b := by
  rcases h.own.2 with ⟨rfl, _⟩ | ⟨g, cap, cur, rfl, hg, _⟩
  · simp [Value.ownBlock] at hb
  · have : g = b := by simpa [Value.ownBlock] using hb
    omega
theorem OwnV.block (h : OwnV e sz w base v n vs) {b : Nat} (hb : v.ownBlock = some b) : ∃ cur, w.heap[b]? = some (.cells cur e (0, 0)) := by
  rcases h.own.2 with ⟨rfl, _⟩ | ⟨g, cap, cur, rfl, hg, hh, _⟩
  · simp [Value.ownBlock] at hb
  · have : g = b := by simpa [Value.ownBlock] using hb
    subst this
    exact ⟨cur, hh⟩
theorem OwnV.lt (h : OwnV e sz w base v n vs) {b : Nat} (hb : v.ownBlock = some b) : b < w.heap.size := by
  obtain ⟨cur, hc⟩ := h.block hb
  exact (Array.getElem?_eq_some_iff.1 hc).1
theorem OwnV.rd (h : OwnV e sz w base v n vs) : ∃ A c, v = .slice A n c ∧ n ≤ c ∧ c ≤ 9223372036854775807 ∧ RdV sz w A n vs := by
  rcases h.own.2 with ⟨rfl, h0⟩ | ⟨g, cap, cur, rfl, hb, hh, hn, hm, hsz, htk⟩
  · subst h0
    have : vs = [] := List.eq_nil_of_length_eq_zero (by have := h.own.1; omega)
    subst this
    exact ⟨none, 0, rfl, Nat.le_refl _, by omega, RdV.nil _ _ _⟩
  · refine ⟨some ⟨g, 0, none⟩, cap, rfl, hn, by simpa [maxLen] using hm, h.own.1, fun _ => ⟨g, 0, rfl, fun j u hj => ?_⟩⟩
    have h1 : cur.toList[j]? = some u := by
      rw [← htk] at hj
      rw [List.getElem?_take] at hj
      split at hj
      · exact hj
      · cases hj
    simpa [World.cell?, hh] using h1
end

section
variable {ops : Array Oper} {rest : List Oper} {o : Oper} {a : Act} {Q : Exit → Act → World → Prop} {W : World} {base : Nat}
/-- append(v, us...) onto a row of the call's own. -/
theorem appV {e sl : TypeId} {sz by_ : Nat} {z : Value} (hsl : Try.prog.underlying sl = some (.slice e)) (hinf : (Try.prog.info? e).map (fun i => (i.zero, i.size, i.bytes)) = some (some z, sz, by_)) (hzc : z.cells.size = sz) (hsz : 0 < sz) (hby : 0 < by_)
    (hgd : o.guard = none ∨ Region.wanted o (yielded ops a.tmps) = true) {s x : Operand} (ho : o.op = .call { callee := .builtin .append, args := #[s, x], argTypes := #[sl, sl] })
    {v : Value} {n m c : Nat} {vs us : List Value} {A : Option Addr} (hs : a.eval s = v) (hx : a.eval x = .slice A m c) (HO : OwnV e sz W base v n vs) (HR : RdV sz W A m us) (h1 : ∀ u ∈ us, u.oneCell' = true) (hb : base ≤ W.heap.size) (hl : (n + m) * by_ ≤ 140737488355328)
    (h : ∀ v1 w1, OwnV e sz w1 base v1 (n + m) (vs ++ us) → W.grownBy w1 v.ownBlock → (v1.ownBlock = v.ownBlock ∨ v1.ownBlock = some W.heap.size) → wpList Try.prog ops Q rest (a.put o.dst v1) w1) :
    wpList Try.prog ops Q (o :: rest) a W := by
  obtain ⟨i0, hi, hz0, hz1, hz2⟩ := info_parts hinf
  have hw : Region.wanted o (yielded ops a.tmps) = true := by
    rcases hgd with h | h
    · simp [Region.wanted, h]
    · exact h
  have hnm : n + m ≤ 140737488355328 := Nat.le_trans (Nat.le_mul_of_pos_right _ hby) hl
  have hrun : ∃ v1 w1, (Builtin.append_ #[sl, sl] o.type #[v, .slice A m c]).run Try.prog W = .ok v1 w1 ∧ OwnV e sz w1 base v1 (n + m) (vs ++ us) ∧ W.grownBy w1 v.ownBlock ∧ (v1.ownBlock = v.ownBlock ∨ v1.ownBlock = some W.heap.size) := by
    rcases Nat.eq_zero_or_pos m with h0 | h0
    · subst h0
      have h0' : us = [] := List.eq_nil_of_length_eq_zero (by have := HR.len; omega)
      subst h0'
      refine ⟨v, W, ?_, ⟨by simpa using HO.own⟩, ⟨rfl, rfl, rfl, Nat.le_refl _, fun _ _ _ => rfl⟩, .inl rfl⟩
      rcases HO.own.2 with ⟨rfl, h00⟩ | ⟨g, cap, cur, rfl, _, _, hnc, _⟩
      · cases A <;> simp [Builtin.append_, run_underlying hsl, sizeOf, typeInfo, hi, Builtin.lenOf, Builtin.firstCells, loadCells, loadCellsFrom]
      · cases A <;> simp [Builtin.append_, run_underlying hsl, sizeOf, typeInfo, hi, Builtin.lenOf, Builtin.firstCells, hnc, storeCells, loadCells, loadCellsFrom]
    · obtain ⟨b, o', rfl, hc⟩ := HR.cells (Nat.mul_pos h0 hsz)
      obtain ⟨v1, w1, hr, hown, hg, _, hat⟩ := run_append_own_at (P := Try.prog) W base sl o.type e i0 z sz by_ hsl hi hz0 hz1 hz2 hzc hsz v n vs HO.own ⟨b, o', none⟩ m c us HR.len (fun j u hu => by rw [add_plain]; exact hc j u hu) h1 (by simp only [maxLen]; omega) hl hb
      exact ⟨v1, w1, hr, ⟨hown⟩, hg, hat⟩
  obtain ⟨v1, w1, hr, hO1, hg, hat⟩ := hrun
  refine wpList_step fun K hK => ?_
  rw [if_pos hw]
  unfold Oper.wp execOp
  simp only [ho, resolve, invoke, builtin, Sem.run_bind, Sem.run_pure, Result.andThen_ok, List.map_toArray, List.map_cons, List.map_nil, hs, hx, hr]
  exact hK _ _ (h v1 w1 hO1 hg hat)
/-- append(v, s...): a text's bytes onto a row of bytes. -/
theorem appStr (hgd : o.guard = none) {s x : Operand} (ho : o.op = .call { callee := .builtin .append, args := #[s, x], argTypes := #[23, 9] })
    {v : Value} {xs : List Int} {t : ByteArray} (hs : a.eval s = v) (hx : a.eval x = .string t) (HO : Own W base v xs) (hb : base ≤ W.heap.size) (hl : xs.length + t.size ≤ 140737488355328)
    (h : ∀ v1 w1, Own w1 base v1 (xs ++ bsOf t) → W.grownBy w1 v.ownBlock → wpList Try.prog ops Q rest (a.put o.dst v1) w1) :
    wpList Try.prog ops Q (o :: rest) a W := by
  obtain ⟨i0, hi, hz0, hz1, hz2⟩ := info_parts infou8
  refine Go.Lib.wpList_append_own_string W hgd s x 23 9 ho base 5 i0 Try.underlying23 Try.underlying9 hi hz0 hz1 hz2 v xs.length (nums .u8 xs) hs HO.own t hx (by simp only [maxLen]; omega) hl hb ?_
  intro v1 w1 hown hg _
  refine h v1 w1 ⟨?_⟩ hg
  have e : Go.Lib.strCells t = nums .u8 (bsOf t) := by
    simp [Go.Lib.strCells, nums, bsOf]
  rw [e, ← nums_append] at hown
  rw [List.length_append, bsOf_len]
  exact hown
end
end Go.Proofs.Ytbkcpgaicoagfaa
/- Plain law of layer 1 (leb): the encoding of a number and its reading, on lists of whole numbers. -/
set_option linter.unusedVariables false
set_option linter.unusedSimpArgs false
namespace Go.Proofs.Ytbkcpgaicoagfaa

/-- The encoding of a number, at most k groups. -/
def lebF : Nat → Int → List Int
  | 0, _ => []
  | k + 1, v => if v < 128 then [v] else (v % 128 + 128) :: lebF k (v / 128)
def leb (v : Int) : List Int := lebF 10 v

/-- Somewhere in the encoding of v: xs is told, n is left. -/
def LebAt (v : Int) (xs : List Int) (n : Int) : Prop := ∃ j : Nat, 1 ≤ j ∧ 0 ≤ n ∧ n < 128 ^ j ∧ xs.length + j = 10 ∧ leb v = xs ++ lebF j n
theorem LebAt.start {v : Int} (h0 : 0 ≤ v) (h1 : v < 18446744073709551616) : LebAt v [] v := by
  have h : (128 : Int) ^ 10 = 1180591620717411303424 := by decide
  exact ⟨10, by omega, h0, by omega, rfl, rfl⟩
theorem LebAt.step {v n : Int} {xs : List Int} (h : LebAt v xs n) (hn : 128 ≤ n) : LebAt v (xs ++ [n % 128 + 128]) (n / 128) := by
  obtain ⟨j, h1, h2, h3, h4, h5⟩ := h
  obtain ⟨i, rfl⟩ : ∃ i, j = i + 1 := ⟨j - 1, by omega⟩
  have h6 : n < 128 * 128 ^ i := by rw [Int.pow_succ] at h3; omega
  have hi : 1 ≤ i := by
    rcases Nat.eq_zero_or_pos i with rfl | h
    · simp at h6; omega
    · exact h
  refine ⟨i, hi, by omega, by omega, by simp; omega, ?_⟩
  rw [h5, lebF, if_neg (by omega)]
  simp
theorem LebAt.fin {v n : Int} {xs : List Int} (h : LebAt v xs n) (hn : n < 128) : leb v = xs ++ [n] := by
  obtain ⟨j, h1, h2, h3, h4, h5⟩ := h
  obtain ⟨i, rfl⟩ : ∃ i, j = i + 1 := ⟨j - 1, by omega⟩
  rw [h5, lebF, if_pos hn]
theorem LebAt.len {v n : Int} {xs : List Int} (h : LebAt v xs n) : xs.length < 10 := by
  obtain ⟨j, h1, h2, h3, h4, h5⟩ := h
  omega

theorem leb_len {v : Int} (h0 : 0 ≤ v) : 1 ≤ (leb v).length ∧ (leb v).length ≤ 10 := by
  have : ∀ k v, 1 ≤ k → 1 ≤ (lebF k v).length ∧ (lebF k v).length ≤ k := by
    intro k
    induction k with
    | zero => intro v h; omega
    | succ k ih =>
      intro v _
      rw [lebF]
      split
      · simp
      · rcases Nat.eq_zero_or_pos k with rfl | h
        · simp [lebF]
        · have := ih (v / 128) h
          simp; omega
  exact this 10 v (by omega)
theorem leb_byte {v : Int} (h0 : 0 ≤ v) : ∀ x ∈ leb v, 0 ≤ x ∧ x ≤ 255 := by
  have : ∀ k v, 0 ≤ v → ∀ x ∈ lebF k v, 0 ≤ x ∧ x ≤ 255 := by
    intro k
    induction k with
    | zero => intro v _ x hx; simp [lebF] at hx
    | succ k ih =>
      intro v h x hx
      rw [lebF] at hx
      split at hx
      · simp at hx; omega
      · simp at hx
        rcases hx with rfl | hx
        · omega
        · exact ih _ (by omega) x hx
  exact this 10 v h0

/-- How many bits a number has. -/
def blenF : Nat → Int → Int
  | 0, _ => 0
  | k + 1, v => if v < 1 then 0 else 1 + blenF k (v / 2)
theorem blenF_zero (k : Nat) {v : Int} (h : v < 1) : blenF k v = 0 := by
  cases k with
  | zero => rfl
  | succ k => rw [blenF, if_pos h]
theorem blenF_step (k : Nat) {v : Int} (h : 1 ≤ v) : blenF (k + 1) v = 1 + blenF k (v / 2) := by rw [blenF, if_neg (by omega)]
theorem blenF_nonneg : ∀ (k : Nat) (v : Int), 0 ≤ blenF k v
  | 0, _ => by simp [blenF]
  | k + 1, v => by
    have := blenF_nonneg k (v / 2)
    rw [blenF]
    split <;> omega
theorem blenF_le_fuel : ∀ (k : Nat) (v : Int), blenF k v ≤ k
  | 0, _ => by simp [blenF]
  | k + 1, v => by
    have := blenF_le_fuel k (v / 2)
    rw [blenF]
    split <;> omega
theorem blenF_more : ∀ (k : Nat) (v : Int), v < 2 ^ k → ∀ j, blenF (k + j) v = blenF k v
  | 0, v, h, j => by
    rw [blenF_zero _ (by simpa using h), blenF_zero _ (by simpa using h)]
  | k + 1, v, h, j => by
    by_cases h1 : v < 1
    · rw [blenF_zero _ h1, blenF_zero _ h1]
    · rw [show k + 1 + j = (k + j) + 1 by omega, blenF_step _ (by omega), blenF_step _ (by omega), blenF_more k (v / 2) (by rw [Int.pow_succ] at h; omega) j]
theorem blenF_odd (k : Nat) {x : Int} (h : 1 ≤ x) : blenF k (x + (1 - x % 2)) = blenF k x := by
  cases k with
  | zero => rfl
  | succ k => rw [blenF_step _ (by omega), blenF_step _ (by omega), show (x + (1 - x % 2)) / 2 = x / 2 by omega]
theorem blenF_8 (k : Nat) {v : Int} (h : 256 ≤ v) : blenF (k + 8) v = 8 + blenF k (v / 256) := by
  rw [blenF_step _ (by omega), blenF_step _ (by omega), blenF_step _ (by omega), blenF_step _ (by omega), blenF_step _ (by omega), blenF_step _ (by omega), blenF_step _ (by omega), blenF_step _ (by omega)]
  rw [show v / 2 / 2 / 2 / 2 / 2 / 2 / 2 / 2 = v / 256 by omega]
  omega
theorem blenF_16 (k : Nat) {v : Int} (h : 65536 ≤ v) : blenF (k + 16) v = 16 + blenF k (v / 65536) := by
  rw [blenF_8 (k + 8) (by omega), blenF_8 k (by omega), show v / 256 / 256 = v / 65536 by omega]
  omega
theorem blenF_32 (k : Nat) {v : Int} (h : 4294967296 ≤ v) : blenF (k + 32) v = 32 + blenF k (v / 4294967296) := by
  rw [blenF_16 (k + 16) (by omega), blenF_16 k (by omega), show v / 65536 / 65536 = v / 4294967296 by omega]
  omega
theorem blenF_7 (k : Nat) {v : Int} (h : 128 ≤ v) : blenF (k + 7) v = 7 + blenF k (v / 128) := by
  rw [blenF_step _ (by omega), blenF_step _ (by omega), blenF_step _ (by omega), blenF_step _ (by omega), blenF_step _ (by omega), blenF_step _ (by omega), blenF_step _ (by omega)]
  rw [show v / 2 / 2 / 2 / 2 / 2 / 2 / 2 = v / 128 by omega]
  omega
/-- How the code comes to it: by halves, the last eight bits by a table. -/
theorem blen_8 {v : Int} (h : v < 256) : blenF 64 v = blenF 8 v := blenF_more 8 v h 56
theorem blen_16 {v : Int} (h : v < 65536) : blenF 64 v = blenF 16 v := blenF_more 16 v h 48
theorem blen_32 {v : Int} (h : v < 4294967296) : blenF 64 v = blenF 32 v := blenF_more 32 v h 32
theorem blen_32_16 {v : Int} (h : v < 65536) : blenF 32 v = blenF 16 v := blenF_more 16 v h 16
theorem blen_16_8 {v : Int} (h : v < 256) : blenF 16 v = blenF 8 v := blenF_more 8 v h 8

theorem leb_size_aux : ∀ (j : Nat) (v : Int), 1 ≤ j → 0 ≤ v → v < 128 ^ j → (blenF (7 * j) (v + (1 - v % 2)) + 6) / 7 = ((lebF j v).length : Int)
  | 0, v, h, _, _ => by omega
  | j + 1, v, _, h0, h1 => by
    rw [lebF]
    by_cases hv : v < 128
    · rw [if_pos hv]
      have ha : blenF (7 * (j + 1)) (v + (1 - v % 2)) = blenF 7 (v + (1 - v % 2)) := by
        rw [show 7 * (j + 1) = 7 + 7 * j by omega]
        exact blenF_more 7 _ (by show _ < 128; omega) _
      have hb := blenF_le_fuel 7 (v + (1 - v % 2))
      have hc : blenF 7 (v + (1 - v % 2)) = 1 + blenF 6 ((v + (1 - v % 2)) / 2) := blenF_step 6 (by omega)
      have hd := blenF_nonneg 6 ((v + (1 - v % 2)) / 2)
      rw [ha]
      simp
      omega
    · rw [if_neg hv]
      have hj : 1 ≤ j := by
        rcases Nat.eq_zero_or_pos j with rfl | h
        · simp at h1; omega
        · exact h
      have ih := leb_size_aux j (v / 128) hj (by omega) (by rw [Int.pow_succ] at h1; omega)
      have h2 := blenF_odd (7 * j) (x := v / 128) (by omega)
      rw [h2] at ih
      rw [show 7 * (j + 1) = 7 * j + 7 by omega, blenF_7 _ (by omega), show (v + (1 - v % 2)) / 128 = v / 128 by omega]
      simp only [List.length_cons]
      omega
theorem leb_size {v : Int} (h0 : 0 ≤ v) (h1 : v < 18446744073709551616) : (blenF 64 (v + (1 - v % 2)) + 6) / 7 = ((leb v).length : Int) := by
  have h := leb_size_aux 10 v (by omega) h0 (by have h : (128 : Int) ^ 10 = 1180591620717411303424 := by decide
                                                omega)
  have e : blenF (64 + 6) (v + (1 - v % 2)) = blenF 64 (v + (1 - v % 2)) := blenF_more 64 _ (by have h : (2 : Int) ^ 64 = 18446744073709551616 := by decide
                                                                                                omega) 6
  rw [show 7 * 10 = 64 + 6 by omega, e] at h
  exact h

theorem LebAt.len2 {v n : Int} {xs : List Int} (h : LebAt v xs n) : xs.length < 10 := h.len
/-- The reading of a number, byte by byte: i bytes are read, acc is what they come to; the answer: the number, how many bytes it took, the error. -/
def tkF : Nat → Int → List Int → Int × Nat × Int
  | _, _, [] => (0, 0, 7)
  | i, acc, c :: r =>
    if i = 9 ∧ 1 < c then (0, 0, 4)
    else if 128 ≤ c then tkF (i + 1) (acc + (c - 128) * 128 ^ i) r
    else if c = 0 ∧ 0 < i then (0, 0, 4)
    else (acc + c * 128 ^ i, i + 1, 0)

/-- Take, in plain words. -/
def lebTake (bs : List Int) (at_ : Int) : Int × Int × Int :=
  if at_ < 0 then (0, 0, 1) else if (bs.length : Int) < at_ then (0, 0, 1)
  else let r := tkF 0 0 (bs.drop at_.toNat); if r.2.2 = 0 then (r.1, at_ + r.2.1, 0) else (0, 0, r.2.2)

/-- k bytes of ds are read, ac is what they come to. -/
def TkAt (ds : List Int) (k : Nat) (ac : Int) : Prop := tkF 0 0 ds = tkF k ac (ds.drop k) ∧ k ≤ 9 ∧ 0 ≤ ac ∧ ac < 128 ^ k
theorem TkAt.start (ds : List Int) : TkAt ds 0 0 := ⟨by simp, by omega, by omega, by decide⟩

theorem tk_byte {ds : List Int} (hb : ∀ x ∈ ds, 0 ≤ x ∧ x ≤ 255) {k : Nat} (hk : k < ds.length) : 0 ≤ ds.getD k 0 ∧ ds.getD k 0 ≤ 255 := by
  have : ds.getD k 0 = ds[k] := by simp [List.getD_eq_getElem?_getD, List.getElem?_eq_getElem hk]
  rw [this]
  exact hb _ (List.getElem_mem hk)
theorem drop_at {ds : List Int} {k : Nat} (hk : k < ds.length) : ds.drop k = ds.getD k 0 :: ds.drop (k + 1) := by
  rw [List.drop_eq_getElem_cons hk]
  simp [List.getD_eq_getElem?_getD, List.getElem?_eq_getElem hk]
theorem TkAt.lt {ds : List Int} {k : Nat} {ac : Int} (h : TkAt ds k ac) : ac < 9223372036854775808 := by
  obtain ⟨_, h1, _, h2⟩ := h
  have h3 : (128 : Int) ^ k ≤ 128 ^ 9 := by exact_mod_cast Nat.pow_le_pow_right (n := 128) (by omega) h1
  have h4 : (128 : Int) ^ 9 = 9223372036854775808 := by decide
  omega
theorem TkAt.more {ds : List Int} {k : Nat} {ac : Int} (h : TkAt ds k ac) (hc : 128 ≤ ds.getD k 0) (hc2 : ds.getD k 0 ≤ 255) (h9 : ¬ k = 9) (hk : k < ds.length) : TkAt ds (k + 1) (ac + (ds.getD k 0 - 128) * 128 ^ k) := by
  obtain ⟨h0, h1, h2, h3⟩ := h
  have hp : (0 : Int) < 128 ^ k := Int.pow_pos (by omega)
  refine ⟨?_, by omega, ?_, ?_⟩
  · rw [h0, drop_at hk, tkF, if_neg (by omega), if_pos hc]
  · have := Int.mul_nonneg (a := ds.getD k 0 - 128) (b := 128 ^ k) (by omega) (by omega)
    omega
  · have h5 : (ds.getD k 0 - 128) * 128 ^ k ≤ 127 * 128 ^ k := Int.mul_le_mul_of_nonneg_right (by omega) (by omega)
    rw [Int.pow_succ]
    omega

theorem TkAt.stop9 {ds : List Int} {ac : Int} (h : TkAt ds 9 ac) (hk : 9 < ds.length) (hc : 1 < ds.getD 9 0) : tkF 0 0 ds = (0, 0, 4) := by
  rw [h.1, drop_at hk, tkF, if_pos ⟨rfl, hc⟩]
theorem TkAt.stop0 {ds : List Int} {k : Nat} {ac : Int} (h : TkAt ds k ac) (hk : k < ds.length) (hc : ds.getD k 0 = 0) (h0 : 0 < k) : tkF 0 0 ds = (0, 0, 4) := by
  rw [h.1, drop_at hk, tkF, hc, if_neg (by omega), if_neg (by omega), if_pos ⟨rfl, h0⟩]
theorem TkAt.done {ds : List Int} {k : Nat} {ac : Int} (h : TkAt ds k ac) (hk : k < ds.length) (h1 : ds.getD k 0 < 128) (h2 : ¬ (k = 9 ∧ 1 < ds.getD k 0)) (h3 : ¬ (ds.getD k 0 = 0 ∧ 0 < k)) : tkF 0 0 ds = (ac + ds.getD k 0 * 128 ^ k, k + 1, 0) := by
  rw [h.1, drop_at hk, tkF, if_neg h2, if_neg (by omega), if_neg h3]
theorem TkAt.short {ds : List Int} {k : Nat} {ac : Int} (h : TkAt ds k ac) (hk : k = ds.length) : tkF 0 0 ds = (0, 0, 7) := by
  rw [h.1, hk, List.drop_length, tkF]
theorem TkAt.fits {ds : List Int} {k : Nat} {ac d : Int} (h : TkAt ds k ac) (d0 : 0 ≤ d) (hd : d < 128) (h2 : ¬ (k = 9 ∧ 1 < d)) : ac + d * 128 ^ k < 18446744073709551616 := by
  obtain ⟨_, h1, h3, h4⟩ := h
  by_cases c : k = 9
  · subst c
    have h5 : (128 : Int) ^ 9 = 9223372036854775808 := by decide
    rw [h5] at h4 ⊢
    omega
  · have h5 : (128 : Int) ^ k ≤ 128 ^ 8 := by exact_mod_cast Nat.pow_le_pow_right (n := 128) (by omega) (by omega : k ≤ 8)
    have h6 : (128 : Int) ^ 8 = 72057594037927936 := by decide
    have h7 : d * 128 ^ k ≤ 127 * 128 ^ k := Int.mul_le_mul_of_nonneg_right (by omega) (Int.le_of_lt (Int.pow_pos (by omega)))
    omega

end Go.Proofs.Ytbkcpgaicoagfaa
