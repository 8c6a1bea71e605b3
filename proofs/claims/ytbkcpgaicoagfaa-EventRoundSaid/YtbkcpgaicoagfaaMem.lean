/- Words on memory for this seat's walks: slices of bytes that are read, rows of the call's own, append. -/
import Derived.Test.YtbkcpgaicoagfaaProg
import Derived.WalkKit
import Derived.WalkSpells
import Derived.WalkLawsBesides
import Derived.Maps.AppendAt
import Derived.Deep.AppendLies
import Derived.Deep.Draws
import Derived.Laws.OwnMore
import Derived.Laws.MakeOwn
import Derived.Laws.CopyOwn
import Derived.Deep.QuietTactic
import Derived.BigQuiet
import Derived.Deep.LoopGhost
import Derived.Deep.DeepCutAuto
import Derived.Deep.CutBlock
import Derived.Deep.RegionHeld3
import Derived.Lib.Hide
import Derived.Lib.ConvBytes
import Derived.Laws.BytesArg
import Derived.KernelRfl
set_option linter.unusedVariables false
set_option linter.unusedSimpArgs false
namespace Go.Proofs.Ytbkcpgaicoagfaa
open Go.RowKit

def nums (k : IntKind) (xs : List Int) : List Value := xs.map fun x => .int k x
theorem nums_length (k : IntKind) (xs : List Int) : (nums k xs).length = xs.length := by simp [nums]
theorem nums_append (k : IntKind) (xs ys : List Int) : nums k (xs ++ ys) = nums k xs ++ nums k ys := by simp [nums]
theorem nums_one (k : IntKind) (xs : List Int) : ∀ u ∈ nums k xs, u.oneCell' = true := by
  intro u hu
  obtain ⟨_, _, rfl⟩ := List.mem_map.1 hu
  rfl
theorem nums_get (k : IntKind) (xs : List Int) (j : Nat) (h : j < xs.length) : (nums k xs)[j]? = some (.int k (xs.getD j 0)) := by
  simp [nums, List.getElem?_eq_getElem h, List.getD_eq_getElem?_getD]

theorem add_plain (g o j : Nat) : (⟨g, o, none⟩ : Addr).add j = ⟨g, o + j, none⟩ := by
  unfold Addr.add
  split
  · rename_i h; subst h; rfl
  · rfl
theorem lt_of_cell {w : World} {p : Addr} {v : Value} (h : w.cell? p = some v) : p.block < w.heap.size := by
  rcases Nat.lt_or_ge p.block w.heap.size with hlt | hge
  · exact hlt
  · simp [World.cell?, Array.getElem?_eq_none hge] at h
theorem plain_of_cell {w : World} {p : Addr} {v : Value} (h : w.cell? p = some v) : p.spot = none := by
  unfold World.cell? at h
  split at h
  · split at h
    · cases h
    · rename_i hs; simpa using hs
  · cases h

theorem ret1 {k : IntKind} {a a' : Int} (h : a = a') : Ending.returned (.int k a) = Ending.returned (.int k a') := by rw [h]
theorem ret3 {k1 k2 k3 : IntKind} {a a' b b' c c' : Int} (h : a = a') (h2 : b = b') (h3 : c = c') : Ending.returned (.tuple #[.int k1 a, .int k2 b, .int k3 c]) = Ending.returned (.tuple #[.int k1 a', .int k2 b', .int k3 c']) := by rw [h, h2, h3]
/-- The world has grown: what was there is as it was. -/
abbrev Grew (w w' : World) : Prop := Below w.heap.size w w'
theorem Grew.rf (w : World) : Grew w w := Below.refl _ _
theorem Grew.tr {a b c : World} (h : Grew a b) (k : Grew b c) : Grew a c := h.trans (k.mono h.size)
theorem Grew.al {a b : World} (h : Grew a b) (o : Obj) : Grew a (b.alloc o) := h.alloc h.size o
theorem Grew.dr {a b : World} (h : Grew a b) : Grew a b.drew := h.drew
theorem Grew.drN {a b : World} (h : Grew a b) (n : Nat) : Grew a (b.drewN n) := ⟨h.os, h.tape, h.output, h.size, h.block⟩
theorem Grew.st {a b : World} (h : Grew a b) {p : Addr} (hp : a.heap.size ≤ p.block) (u : Value) : Grew a (b.setCell p u) := h.setCell hp u
theorem Grew.ce {a b : World} (h : Grew a b) {p : Addr} {v : Value} (hc : a.cell? p = some v) : b.cell? p = some v := (h.cell (lt_of_cell hc)).trans hc

/-- A slice of numbers of kind k that is read: nil, empty and other slices alike. -/
structure RdK (k : IntKind) (w : World) (A : Option Addr) (n : Nat) (xs : List Int) : Prop where
  len : xs.length = n
  cells : 0 < n → ∃ b o, A = some ⟨b, o, none⟩ ∧ ∀ j, j < n → w.cell? ⟨b, o + j, none⟩ = some (.int k (xs.getD j 0))
abbrev Rd := RdK .u8

section
variable {k : IntKind} {w w' : World} {A : Option Addr} {n c : Nat} {xs ys : List Int}
theorem RdK.nil (k : IntKind) (w : World) (A : Option Addr) : RdK k w A 0 [] := ⟨rfl, fun h => absurd h (by omega)⟩
theorem RdK.at_ (h : RdK k w A n xs) {j : Nat} (hj : j < n) : ∃ b o, A = some ⟨b, o, none⟩ ∧ w.cell? ⟨b, o + j, none⟩ = some (.int k (xs.getD j 0)) := by
  obtain ⟨b, o, e, hc⟩ := h.cells (by omega)
  exact ⟨b, o, e, hc j hj⟩
theorem RdK.keep (h : RdK k w A n xs) (hg : Grew w w') : RdK k w' A n xs :=
  ⟨h.len, fun hn => by
    obtain ⟨b, o, e, hc⟩ := h.cells hn
    exact ⟨b, o, e, fun j hj => hg.ce (hc j hj)⟩⟩
theorem RdK.dr (h : RdK k w A n xs) : RdK k w.drew A n xs := h.keep (Grew.rf w).dr
theorem RdK.al (h : RdK k w A n xs) (o : Obj) : RdK k (w.alloc o) A n xs := h.keep ((Grew.rf w).al o)
theorem RdK.take (h : RdK k w A n xs) {i : Nat} (hi : i ≤ n) : RdK k w A i (xs.take i) :=
  ⟨by rw [List.length_take, h.len]; omega, fun hn => by
    obtain ⟨b, o, e, hc⟩ := h.cells (by omega)
    exact ⟨b, o, e, fun j hj => by rw [hc j (by omega)]; simp [List.getD_eq_getElem?_getD, List.getElem?_take, hj]⟩⟩
theorem RdK.drop (h : RdK k w A n xs) {i : Nat} (hi : i ≤ n) (hc : n ≤ c) : RdK k w (if c = i then A else A.map (·.add i)) (n - i) (xs.drop i) :=
  ⟨by rw [List.length_drop, h.len], fun hn => by
    obtain ⟨b, o, rfl, hc'⟩ := h.cells (by omega)
    rw [if_neg (by omega)]
    refine ⟨b, o + i, by simp [add_plain], fun j hj => ?_⟩
    rw [Nat.add_assoc, hc' _ (by omega)]
    simp [List.getD_eq_getElem?_getD]⟩
theorem RdK.drop1 (h : RdK k w A n xs) {i : Nat} (hi : i < n) : RdK k w (A.map (·.add i)) (n - i) (xs.drop i) := by
  have := h.drop (c := n) (i := i) (by omega) (Nat.le_refl _)
  rwa [if_neg (by omega)] at this
end

/-- A row of numbers of kind k that the call itself has made, from block base on; e: the number of its elements' type. -/
structure OwnK (e : TypeId) (k : IntKind) (w : World) (base : Nat) (v : Value) (xs : List Int) : Prop where
  own : w.ownsRow base e 1 v xs.length (nums k xs)
abbrev Own := OwnK 5 .u8

section
variable {e : TypeId} {k : IntKind} {w w' : World} {base : Nat} {v : Value} {xs ys : List Int}
theorem OwnK.nil (e : TypeId) (k : IntKind) (w : World) (base : Nat) : OwnK e k w base (.slice none 0 0) [] := ⟨⟨by simp [nums], .inl ⟨rfl, rfl⟩⟩⟩
theorem OwnK.lower (h : OwnK e k w base v xs) {base' : Nat} (hb : base' ≤ base) : OwnK e k w base' v xs := by
  refine ⟨h.own.1, ?_⟩
  rcases h.own.2 with h2 | ⟨g, cap, cur, hv, hg, r⟩
  · exact .inl h2
  · exact .inr ⟨g, cap, cur, hv, by omega, r⟩
theorem OwnK.keep (h : OwnK e k w base v xs) (hg : Grew w w') : OwnK e k w' base v xs := by
  refine ⟨h.own.1, ?_⟩
  rcases h.own.2 with h2 | ⟨g, cap, cur, hv, hb, hh, r⟩
  · exact .inl h2
  · exact .inr ⟨g, cap, cur, hv, hb, by rw [hg.block g (Array.getElem?_eq_some_iff.1 hh).1]; exact hh, r⟩
theorem OwnK.dr (h : OwnK e k w base v xs) : OwnK e k w.drew base v xs := h.keep (Grew.rf w).dr
theorem OwnK.al (h : OwnK e k w base v xs) (o : Obj) : OwnK e k (w.alloc o) base v xs := h.keep ((Grew.rf w).al o)
theorem OwnK.base_le (h : OwnK e k w base v xs) (b : Nat) (hb : v.ownBlock = some b) : base ≤ b := by
  rcases h.own.2 with ⟨rfl, _⟩ | ⟨g, cap, cur, rfl, hg, _⟩
  · simp [Value.ownBlock] at hb
  · have : g = b := by simpa [Value.ownBlock] using hb
    omega
theorem OwnK.lt (h : OwnK e k w base v xs) (b : Nat) (hb : v.ownBlock = some b) : b < w.heap.size := by
  rcases h.own.2 with ⟨rfl, _⟩ | ⟨g, cap, cur, rfl, hg, hh, _⟩
  · simp [Value.ownBlock] at hb
  · have : g = b := by simpa [Value.ownBlock] using hb
    subst this
    exact (Array.getElem?_eq_some_iff.1 hh).1
/-- What is owned can be read. -/
theorem OwnK.rd (h : OwnK e k w base v xs) : ∃ A c, v = .slice A xs.length c ∧ xs.length ≤ c ∧ c ≤ 9223372036854775807 ∧ RdK k w A xs.length xs := by
  rcases h.own.2 with ⟨rfl, h0⟩ | ⟨g, cap, cur, rfl, hb, hh, hn, hm, hsz, htk⟩
  · have : xs = [] := List.eq_nil_of_length_eq_zero h0
    subst this
    exact ⟨none, 0, rfl, Nat.le_refl _, by omega, RdK.nil _ _ _⟩
  · refine ⟨some ⟨g, 0, none⟩, cap, rfl, hn, by simpa [maxLen] using hm, rfl, fun _ => ⟨g, 0, rfl, fun j hj => ?_⟩⟩
    have h1 : cur.toList[j]? = some (.int k (xs.getD j 0)) := by
      rw [← nums_get k xs j hj, ← htk, List.getElem?_take, if_pos (by omega)]
    simpa [World.cell?, hh] using h1
theorem own_litK (e : TypeId) (k : IntKind) (W : World) (base : Nat) (xs : List Int) (hb : base ≤ W.heap.size) (hm : xs.length ≤ 9223372036854775807) :
    OwnK e k (W.alloc (.cells (nums k xs).toArray e)) base (.slice (some ⟨W.heap.size, 0, none⟩) xs.length xs.length) xs := by
  have h := World.ownsRow_lit (base := base) (e := e) (size := 1) W (nums k xs).toArray xs.length hb (by simpa [maxLen] using hm) (by simp [nums])
  exact ⟨by simpa using h⟩
theorem own_lit0 (W : World) : Own (W.alloc (.cells #[] 5)) W.heap.size (.slice (some ⟨W.heap.size, 0, none⟩) 0 0) [] := own_litK _ .u8 W _ [] (Nat.le_refl _) (by simp)
theorem OwnK.rd' {e : TypeId} {k : IntKind} {w : World} {base : Nat} {v : Value} {xs : List Int} (h : OwnK e k w base v xs) {n : Nat} (hn : xs.length = n) : ∃ A c, v = .slice A n c ∧ n ≤ c ∧ c ≤ 9223372036854775807 ∧ RdK k w A n xs := by
  subst hn
  exact h.rd
/-- What a literal of bytes holds. -/
theorem rd_lit (W : World) (xs : List Int) (hm : xs.length ≤ 9223372036854775807) : Rd (W.alloc (.cells (nums .u8 xs).toArray 5)) (some ⟨W.heap.size, 0, none⟩) xs.length xs := by
  obtain ⟨A, c, he, _, _, hr⟩ := (own_litK 5 .u8 W W.heap.size xs (Nat.le_refl _) hm).rd
  simp only [Value.slice.injEq] at he
  obtain ⟨rfl, _, _⟩ := he
  exact hr
theorem rd_lit' {W : World} {k n : Nat} {cs : Array Value} (xs : List Int) (hk : W.heap.size = k) (hc : cs = (nums .u8 xs).toArray) (hn : xs.length = n) (hm : xs.length ≤ 9223372036854775807) : Rd (W.alloc (.cells cs 5)) (some ⟨k, 0, none⟩) n xs := by
  subst hk; subst hc; subst hn
  exact rd_lit W xs hm
theorem OwnK.len_le (h : OwnK e k w base v xs) : xs.length ≤ 9223372036854775807 := by
  obtain ⟨_, _, _, h1, h2, _⟩ := h.rd
  omega
end

/-! ### append onto a row of the call's own -/
theorem infou8 : (Try.prog.info? 5).map (fun i => (i.zero, i.size, i.bytes)) = some (some (.int .u8 0), 1, 1) := by kernel_rfl

section
variable {ops : Array Oper} {rest : List Oper} {o : Oper} {a : Act} {Q : Exit → Act → World → Prop} {w0 W : World} {base : Nat}
theorem grown_below {w w1 : World} (hg : w.grownBy w1 none) : Grew w w1 := ⟨hg.os, hg.tape, hg.output, hg.size, fun k hk => hg.block k hk (by simp)⟩
/-- A guard for an arm of the walk: the next operation is this builtin with these operands. -/
theorem gate_b (b : Builtin) (xs : Array Operand) (ts : Array TypeId) (ho : o.op = .call { callee := .builtin b, args := xs, argTypes := ts }) (k : wpList Try.prog ops Q (o :: rest) a W) : wpList Try.prog ops Q (o :: rest) a W := k
/-- append(v, y): behind 'at_builtin'; the goal's world bears the variadic's box. -/
theorem app1 (hgd : o.guard = none) {s x : Operand} (ho : o.op = .call { callee := .builtin .append, args := #[s, x], argTypes := #[23, 23] })
    {v : Value} {xs : List Int} {y : Int} (hs : a.eval s = v) (hx : a.eval x = .slice (some ⟨W.heap.size, 0, none⟩) 1 1)
    (HO : Own W base v xs) (HB : Below base w0 W) (hb : base ≤ W.heap.size) (hl : xs.length + 1 ≤ 140737488355328)
    (h : ∀ v1 w1, Own w1 base v1 (xs ++ [y]) → Below base w0 w1 → base ≤ w1.heap.size → wpList Try.prog ops Q rest (a.put o.dst v1) w1) :
    wpList Try.prog ops Q (o :: rest) a (W.alloc (.cells #[.int .u8 y] 5)) := by
  obtain ⟨i0, hi, hz0, hz1, hz2⟩ := info_parts infou8
  refine wpList_append_own_at (W.alloc (.cells #[.int .u8 y] 5)) hgd s x 23 ho base 5 i0 (.int .u8 0) 1 1 Try.underlying23 hi hz0 hz1 hz2 rfl (by omega) v xs.length (nums .u8 xs) hs (HO.own.alloc _) ⟨W.heap.size, 0, none⟩ 1 1 [.int .u8 y] hx rfl
    (World.news_of_block (cs := #[.int .u8 y]) (t := 5) (fr := (0, 0)) (heap_alloc_new W _)) (by simp [Value.oneCell']) (by simp only [maxLen]; omega) (by omega) (by simp; omega) ?_
  intro v1 w1 hown hg _ hat
  refine h v1 w1 ⟨by simpa [nums] using hown⟩ ((HB.alloc hb _).grown hg (by simp; omega) HO.base_le) ?_
  have := hg.size
  simp at this
  omega
/-- append(v, ys...): ys is read. -/
theorem apps (hgd : o.guard = none) {s x : Operand} (ho : o.op = .call { callee := .builtin .append, args := #[s, x], argTypes := #[23, 23] })
    {v : Value} {xs ys : List Int} {A : Option Addr} {m c : Nat} (hs : a.eval s = v) (hx : a.eval x = .slice A m c)
    (HO : Own W base v xs) (HR : Rd W A m ys) (HB : Below base w0 W) (hb : base ≤ W.heap.size) (hl : xs.length + m ≤ 140737488355328)
    (h : ∀ v1 w1, Own w1 base v1 (xs ++ ys) → Below base w0 w1 → base ≤ w1.heap.size → wpList Try.prog ops Q rest (a.put o.dst v1) w1) :
    wpList Try.prog ops Q (o :: rest) a W := by
  obtain ⟨i0, hi, hz0, hz1, hz2⟩ := info_parts infou8
  have hm := HR.len
  subst hm
  rcases Nat.eq_zero_or_pos ys.length with h0 | h0
  · have h0' : ys = [] := List.eq_nil_of_length_eq_zero h0
    subst h0'
    have hrun : (Builtin.append_ #[23, 23] o.type #[v, .slice A 0 c]).run Try.prog W = .ok v W := by
      have ht := Try.underlying23
      rcases HO.own.2 with ⟨rfl, h00⟩ | ⟨g, cap, cur, rfl, _, _, hnc, _⟩
      · cases A <;> simp [Builtin.append_, run_underlying ht, sizeOf, typeInfo, hi, Builtin.lenOf, Builtin.firstCells, loadCells, loadCellsFrom]
      · cases A <;> simp [Builtin.append_, run_underlying ht, sizeOf, typeInfo, hi, Builtin.lenOf, Builtin.firstCells, hnc, storeCells, loadCells, loadCellsFrom]
    refine wpList_plain hgd fun K hK => ?_
    unfold Oper.wp execOp
    simp only [ho, resolve, invoke, builtin, Sem.run_bind, Sem.run_pure, Result.andThen_ok, List.map_toArray, List.map_cons, List.map_nil, hs, hx, List.length_nil, hrun]
    exact hK _ _ (h v W (by simpa using HO) HB hb)
  · obtain ⟨b, o', rfl, hc⟩ := HR.cells h0
    refine wpList_append_own_at W hgd s x 23 ho base 5 i0 (.int .u8 0) 1 1 Try.underlying23 hi hz0 hz1 hz2 rfl (by omega) v xs.length (nums .u8 xs) hs HO.own ⟨b, o', none⟩ ys.length c (nums .u8 ys) hx (by simp [nums])
      (fun j u hu => ?_) (nums_one _ _) (by simp only [maxLen]; omega) (by omega) hb ?_
    · have hj : j < ys.length := by simpa [nums] using (List.getElem?_eq_some_iff.1 hu).1
      rw [nums_get _ _ _ hj] at hu
      rw [add_plain, hc j hj]
      exact hu
    · intro v1 w1 hown hg _ hat
      refine h v1 w1 ⟨by simpa [nums] using hown⟩ (HB.grown hg hb HO.base_le) ?_
      have := hg.size
      omega
/-- make([]byte, n, cp). -/
theorem mkrow (hgd : o.guard = none) {l c : Operand} (ho : o.op = .makeSlice 23 l c) {kl kc : IntKind} {L C : Int} (hl : a.eval l = .int kl L) (hc : a.eval c = .int kc C) {n cp : Nat} (hL : L = (n : Int)) (hC : C = (cp : Int))
    (hn : n ≤ cp) (hcp : cp ≤ 140737488355328) (HB : Below base w0 W) (hb : base ≤ W.heap.size)
    (h : ∀ g w1, Own w1 base (.slice (some ⟨g, 0, none⟩) n cp) (List.replicate n 0) → Below base w0 w1 → base ≤ w1.heap.size → base ≤ g → W.heap.size ≤ g → Grew W w1 → wpList Try.prog ops Q rest (a.put o.dst (.slice (some ⟨g, 0, none⟩) n cp)) w1) :
    wpList Try.prog ops Q (o :: rest) a W := by
  obtain ⟨i0, hi, hz0, hz1, hz2⟩ := info_parts infou8
  subst hL
  subst hC
  have hrun := run_make (P := Try.prog) W 23 5 i0 (.int .u8 0) Try.underlying23 hi hz0 kl kc (n : Int) (cp : Int) (by omega) (by omega) (by rw [hz2]; omega) (by omega)
  refine wpList_plain hgd fun K hK => ?_
  unfold Oper.wp
  simp only [Int.toNat_natCast, hz1, Nat.mul_one] at hrun
  simp [execOp, ho, hl, hc, hrun, Result.andThen]
  refine hK _ _ (h W.heap.size _ ?_ (HB.alloc hb _) (by simp; omega) hb (Nat.le_refl _) ((Grew.rf W).al _))
  refine ⟨⟨by simp [nums], .inr ⟨W.heap.size, cp, _, by simp, hb, heap_alloc_new W _, by simpa using hn, by simp [maxLen]; omega, by simp [size_madeCells, Value.cells], ?_⟩⟩⟩
  apply List.ext_getElem?
  intro j
  simp only [nums, List.length_replicate, Nat.mul_one, List.getElem?_take, List.map_replicate, List.getElem?_replicate]
  by_cases hj : j < n
  · rw [if_pos hj, if_pos hj]
    simp [madeCells, Value.cells, List.getElem?_eq_getElem, show j < cp by omega, Nat.mod_one]
  · rw [if_neg hj, if_neg hj]
/-- copy(out, b): out is the call's own, no shorter than b. -/
theorem cpy (hgd : o.guard = none) {d s : Operand} (ho : o.op = .call { callee := .builtin .copy, args := #[d, s], argTypes := #[23, 23] })
    {D : Option Addr} {n c1 : Nat} {A : Option Addr} {m c2 : Nat} {xs ys : List Int} (hd : a.eval d = .slice D n c1) (hs : a.eval s = .slice A m c2)
    (HO : Own W base (.slice D n c1) xs) (HR : Rd W A m ys) (hm : m ≤ n) (HB : Below base w0 W) (hb : base ≤ W.heap.size)
    (h : ∀ w1, Own w1 base (.slice D n c1) (ys ++ xs.drop m) → Below base w0 w1 → base ≤ w1.heap.size → W.heap.size ≤ w1.heap.size → (∀ k, k < W.heap.size → some k ≠ (Value.slice D n c1).ownBlock → w1.heap[k]? = W.heap[k]?) → wpList Try.prog ops Q rest (a.put o.dst (.int .i64 (m : Int))) w1) :
    wpList Try.prog ops Q (o :: rest) a W := by
  obtain ⟨i0, hi, hz0, hz1, hz2⟩ := info_parts infou8
  have hsz : (Try.prog.info? 5).map (·.size) = some 1 := by rw [hi]; simp [hz1]
  obtain ⟨A1, c3, he, hlc, hcm, _⟩ := HO.rd
  simp only [Value.slice.injEq] at he
  obtain ⟨rfl, hxn, rfl⟩ := he
  have hl := HR.len
  subst hl
  refine wpList_plain hgd fun K hK => ?_
  rcases Nat.eq_zero_or_pos ys.length with h0 | h0
  · have hrun := run_copy_none (P := Try.prog) W 23 23 o.type 5 D A n c1 ys.length c2 Try.underlying23 hsz (by rw [h0]; simp)
    have e : ys = [] := List.eq_nil_of_length_eq_zero h0
    subst e
    unfold Oper.wp
    simp only [List.length_nil] at hrun
    simp [execOp, ho, resolve, invoke, builtin, hd, hs, hrun, Result.andThen]
    exact hK _ _ (h W (by simpa using HO) HB hb (Nat.le_refl _) (fun _ _ _ => rfl))
  · obtain ⟨b, o', rfl, hc⟩ := HR.cells h0
    rcases HO.own.2 with ⟨he, hz⟩ | ⟨g, cap, cur, he, hbg, hh, hncap, hcm', hcs, htk⟩
    · omega
    · simp only [Value.slice.injEq] at he
      obtain ⟨rfl, _, rfl⟩ := he
      have hrun := run_copy_row (P := Try.prog) W 23 23 o.type 5 g 0 n c1 ⟨b, o', none⟩ ys.length c2 cur 5 (nums .u8 ys) Try.underlying23 hsz hh
        (by rw [nums_length]; exact (Nat.min_eq_left hm).symm)
        (fun j u hu => by
          have hj : j < ys.length := by simpa [nums] using (List.getElem?_eq_some_iff.1 hu).1
          rw [nums_get _ _ _ hj] at hu
          rw [add_plain, hc j hj]
          exact hu) (by rw [nums_length]; omega) (nums_one _ _)
      have e1 : goInt (nums .u8 ys).length = .int .i64 (ys.length : Int) := by rw [nums_length]; rfl
      rw [e1] at hrun
      have hgw : g < W.heap.size := (Array.getElem?_eq_some_iff.1 hh).1
      have hnl : (nums .u8 ys).length = ys.length := nums_length _ _
      have hfin := h (W.setRow g (cur.toList.take 0 ++ nums .u8 ys ++ cur.toList.drop (0 + (nums .u8 ys).length)).toArray) ?_ (below_setRow HB hbg _) (by simpa [World.setRow] using hb) (by simp [World.setRow])
        (fun k hk hne => setRow_other W g k _ (fun e => hne (by simp [Value.ownBlock, e])))
      · unfold Oper.wp execOp
        simp only [ho, resolve, invoke, builtin, Sem.run_bind, Sem.run_pure, Result.andThen_ok, List.map_toArray, List.map_cons, List.map_nil, hd, hs, hrun]
        exact hK _ _ hfin
      · have hxl : xs.length = n := hxn.symm
        refine ⟨⟨by rw [nums_length]; simp, .inr ⟨g, c1, _, ?_, hbg, setRow_heap W g cur _ 5 _ hh, ?_, hcm', ?_, ?_⟩⟩⟩
        · rw [List.length_append, List.length_drop]
          exact congrArg (fun k => Value.slice (some ⟨g, 0, none⟩) k c1) (by omega)
        · rw [List.length_append, List.length_drop]
          omega
        · simp [nums]
          omega
        · have h3 : cur.toList.take n = nums .u8 xs := by rw [← htk, ← hxl, Nat.mul_one]
          have h4 : (cur.toList.drop ys.length).take (n - ys.length) = nums .u8 (xs.drop ys.length) := by
            rw [← List.drop_take, h3]
            simp [nums, List.map_drop]
          simp only [List.take_zero, List.nil_append, Nat.zero_add, hnl, Nat.mul_one, nums_append]
          rw [List.length_append, List.length_drop, List.take_append, hnl, hxl, List.take_of_length_le (by rw [hnl]; omega)]
          rw [show ys.length + (n - ys.length) - ys.length = n - ys.length by omega, h4]
/-- out[i] = x: a row of the call's own is written. -/
theorem OwnK.store {e : TypeId} {k : IntKind} {g n c : Nat} {xs : List Int} (HO : OwnK e k W base (.slice (some ⟨g, 0, none⟩) n c) xs) (i : Nat) (x : Int) :
    OwnK e k (W.setCell ⟨g, i, none⟩ (.int k x)) base (.slice (some ⟨g, 0, none⟩) n c) (xs.set i x) := by
  obtain ⟨A1, c3, he, _⟩ := HO.rd
  simp only [Value.slice.injEq] at he
  obtain ⟨_, rfl, _⟩ := he
  have h := (HO.own.stored i (.int k x)).1
  have he : (nums k xs).set i (.int k x) = nums k (xs.set i x) := by simp [nums, List.map_set]
  rw [he] at h
  exact ⟨by simpa using h⟩
end

/-! ### Cuts of a slice of bytes, its address a letter: no case on the capacity -/
section
variable {kl kh : IntKind}
theorem elem8 : Try.prog.elem 23 = 5 := by simp [Program.elem, Try.underlying23]
theorem size8 (w : World) : (sizeOf 5).run Try.prog w = .ok 1 w := by
  obtain ⟨i0, hi, hz0, hz1, hz2⟩ := info_parts infou8
  simp [sizeOf, typeInfo, hi, hz1]
theorem cut_lo (A : Option Addr) (n c m : Nat) (hm : m ≤ n) (hc : n ≤ c) :
    ∃ A' : Option Addr, (∀ W : World, (Instr.slice 23 (.slice A n c) (some (.int kl (m : Int))) none none).run Try.prog W = .ok (.slice A' (n - m) (c - m)) W) ∧
      ∀ {w : World} {k : IntKind} {xs : List Int}, RdK k w A n xs → RdK k w A' (n - m) (xs.drop m) := by
  refine ⟨if c = m then A else A.map (·.add m), fun W => ?_, fun h => h.drop hm hc⟩
  have hu : Try.prog.underlying 23 = some (.slice (Try.prog.elem 23)) := by rw [elem8]; exact Try.underlying23
  rw [run_slice_l W 23 A n c hu kl (m : Int) (Int.natCast_nonneg _) (by omega), elem8]
  simp [size8, sliced, Result.andThen]
theorem cut_hi (A : Option Addr) (n c j : Nat) (hm : j ≤ c) :
    ∀ W : World, (Instr.slice 23 (.slice A n c) none (some (.int kh (j : Int))) none).run Try.prog W = .ok (.slice A j c) W := by
  intro W
  have hu : Try.prog.underlying 23 = some (.slice (Try.prog.elem 23)) := by rw [elem8]; exact Try.underlying23
  have ha : (A.map fun x => x.add 0) = A := by cases A <;> simp [Addr.add]
  rw [run_slice_h W 23 A n c hu kh (j : Int) (Int.natCast_nonneg _) (by omega), elem8]
  simp [size8, sliced, Result.andThen, ha]
theorem cut_lh (A : Option Addr) (n c l h : Nat) (hl : l ≤ h) (hh : h ≤ n) (hc : n ≤ c) :
    ∃ A' : Option Addr, (∀ W : World, (Instr.slice 23 (.slice A n c) (some (.int kl (l : Int))) (some (.int kh (h : Int))) none).run Try.prog W = .ok (.slice A' (h - l) (c - l)) W) ∧
      ∀ {w : World} {k : IntKind} {xs : List Int}, RdK k w A n xs → RdK k w A' (h - l) ((xs.take h).drop l) := by
  refine ⟨if c = l then A else A.map (·.add l), fun W => ?_, fun hr => (hr.take hh).drop hl (by omega)⟩
  have hu : Try.prog.underlying 23 = some (.slice (Try.prog.elem 23)) := by rw [elem8]; exact Try.underlying23
  rw [run_slice_lh W 23 A n c hu kl kh (l : Int) (h : Int) (Int.natCast_nonneg _) (by omega) (by omega), elem8]
  simp [size8, sliced, Result.andThen]
end
end Go.Proofs.Ytbkcpgaicoagfaa
