/- Words on memory: rows of any cells (texts, headers), append onto them; texts as bytes. -/
import Derived.Test.YtbkcpgaicoagfaaReg3
import Derived.Test.YtbkcpgaicoagfaaApp
import Derived.Lib.AppendStr
set_option linter.unusedVariables false
set_option linter.unusedSimpArgs false
namespace Go.Proofs.Ytbkcpgaicoagfaa
open Go.RowKit

/-! ### Texts as bytes -/
def bsOf (s : ByteArray) : List Int := s.data.toList.map fun b => (b.toNat : Int)
theorem bsOf_len (s : ByteArray) : (bsOf s).length = s.size := by rw [bsOf, List.length_map, Array.length_toList]; rfl
theorem bsOf_byt (s : ByteArray) : Byt (bsOf s) := fun x hx => by
  obtain ⟨b, _, rfl⟩ := List.mem_map.1 hx
  have := b.toNat_lt
  omega
theorem bsOf_str (s : ByteArray) : strOfNums (bsOf s) = s := by
  have e : (bsOf s).map (fun n => UInt8.ofNat n.toNat) = s.data.toList := by
    rw [bsOf, List.map_map]
    conv => rhs; rw [← List.map_id s.data.toList]
    refine List.map_congr_left fun b _ => ?_
    simp
  cases s with
  | mk d => simp only [strOfNums]; simp only [bsOf] at e ⊢; rw [e]
theorem bsOf_nums {xs : List Int} (h : Byt xs) : bsOf (strOfNums xs) = xs := strOfNums_inj (bsOf_byt _) h (bsOf_str _)

/-- An address that lies at or beyond block b. -/
def FreshA (b : Nat) (A : Option Addr) : Prop := ∀ ad, A = some ad → b ≤ ad.block
theorem FreshA.none (b : Nat) : FreshA b Option.none := fun _ h => by cases h
theorem FreshA.mono {b b' : Nat} {A : Option Addr} (h : FreshA b A) (hb : b' ≤ b) : FreshA b' A := fun ad e => Nat.le_trans hb (h ad e)
theorem OwnK.fresh {e : TypeId} {k : IntKind} {w : World} {base : Nat} {A : Option Addr} {n c : Nat} {xs : List Int} (h : OwnK e k w base (.slice A n c) xs) : FreshA base A := by
  intro ad hA
  rcases h.own.2 with ⟨hv, _⟩ | ⟨g, cap, cur, hv, hg, _⟩
  · cases hv; cases hA
  · cases hv; cases hA; exact hg
/-- What the address leads to is a row of bytes. -/
def U8 (w : World) (A : Option Addr) : Prop := ∀ ad, A = some ad → ∃ cs fr, w.heap[ad.block]? = some (.cells cs 5 fr)
theorem U8.none (w : World) : U8 w Option.none := fun _ h => by cases h
theorem U8.keep {w w' : World} {A : Option Addr} (h : U8 w A) (hg : Grew w w') : U8 w' A := fun ad e => by
  obtain ⟨cs, fr, hc⟩ := h ad e
  exact ⟨cs, fr, (hg.block _ (Array.getElem?_eq_some_iff.1 hc).1).trans hc⟩
theorem OwnK.u8 {w : World} {base : Nat} {A : Option Addr} {n c : Nat} {xs : List Int} (h : Own w base (.slice A n c) xs) : U8 w A := by
  intro ad hA
  rcases h.own.2 with ⟨hv, _⟩ | ⟨g, cap, cur, hv, hg, hh, _⟩
  · cases hv; cases hA
  · cases hv; cases hA; exact ⟨_, _, hh⟩
theorem OwnK.freshv {e : TypeId} {k : IntKind} {w : World} {base : Nat} {v : Value} {xs : List Int} (h : OwnK e k w base v xs) {b : Nat} (hb : v.ownBlock = some b) : base ≤ b := h.base_le b hb
theorem clip_any (A : Option Addr) (n c : Nat) (w : World) (hn : n ≤ c) (hc : c ≤ 9223372036854775807) :
    Calls Try.prog 47 #[.slice A n c] w fun e w' => e = .returned (.slice A n n) ∧ w = w' := by
  have hcut : ∀ W : World, (Instr.slice 23 (.slice A n c) none (some (.int .i64 (n : Int))) (some (.int .i64 (n : Int)))).run Try.prog W = .ok (.slice A n n) W := fun W => by
    have hu : Try.prog.underlying 23 = some (.slice (Try.prog.elem 23)) := by rw [elem8]; exact Try.underlying23
    have ha : (A.map fun x => x.add 0) = A := by cases A <;> simp [Addr.add]
    rw [run_slice_hm W 23 A n c hu .i64 .i64 (n : Int) (n : Int) (Int.natCast_nonneg _) (by omega) (by omega), elem8]
    simp [size8, sliced, Result.andThen, ha]
  go_enter Try.func47, Try.ntmps47
  go_wp2
  go_ret
  exact ⟨rfl, rfl⟩

/-! ### Rows of cells -/
structure RdV (sz : Nat) (w : World) (A : Option Addr) (n : Nat) (vs : List Value) : Prop where
  len : vs.length = n * sz
  cells : 0 < n * sz → ∃ b o, A = some ⟨b, o, none⟩ ∧ ∀ j u, vs[j]? = some u → w.cell? ⟨b, o + j, none⟩ = some u
structure OwnV (e : TypeId) (sz : Nat) (w : World) (base : Nat) (v : Value) (n : Nat) (vs : List Value) : Prop where
  own : w.ownsRow base e sz v n vs

section
variable {e : TypeId} {sz : Nat} {w w' : World} {base : Nat} {v : Value} {n : Nat} {vs us : List Value} {A : Option Addr}
theorem RdV.nil (sz : Nat) (w : World) (A : Option Addr) : RdV sz w A 0 [] := ⟨by simp, fun h => by omega⟩
theorem RdV.keep (h : RdV sz w A n vs) (hg : Grew w w') : RdV sz w' A n vs :=
  ⟨h.len, fun hn => by
    obtain ⟨b, o, e, hc⟩ := h.cells hn
    exact ⟨b, o, e, fun j u hj => hg.ce (hc j u hj)⟩⟩
theorem OwnV.nil (e : TypeId) (sz : Nat) (w : World) (base : Nat) : OwnV e sz w base (.slice none 0 0) 0 [] := ⟨⟨by simp, .inl ⟨rfl, rfl⟩⟩⟩
theorem OwnV.lower (h : OwnV e sz w base v n vs) {base' : Nat} (hb : base' ≤ base) : OwnV e sz w base' v n vs := by
  refine ⟨h.own.1, ?_⟩
  rcases h.own.2 with h2 | ⟨g, cap, cur, hv, hg, r⟩
  · exact .inl h2
  · exact .inr ⟨g, cap, cur, hv, by omega, r⟩
theorem OwnV.kept {row : Option Nat} (h : OwnV e sz w base v n vs) (hg : w.grownBy w' row) (hr : ∀ b, row = some b → v.ownBlock ≠ some b) : OwnV e sz w' base v n vs := by
  refine ⟨h.own.kept hg ?_⟩
  cases hv : v.ownBlock with
  | none => exact .inl rfl
  | some b => exact .inr fun e => hr b e.symm hv
theorem OwnV.keep (h : OwnV e sz w base v n vs) (hg : Grew w w') : OwnV e sz w' base v n vs := h.kept (hg.gb none) (fun b hb => by cases hb)
theorem OwnV.base_le (h : OwnV e sz w base v n vs) (b : Nat) (hb : v.ownBlock = some b) : base ≤ b := by
  rcases h.own.2 with ⟨rfl, _⟩ | ⟨g, cap, cur, rfl, hg, _⟩
  · simp [Value.ownBlock] at hb
  · have : g = b := by simpa [Value.ownBlock] using hb
    omega
theorem OwnV.block (h : OwnV e sz w base v n vs) {b : Nat} (hb : v.ownBlock = some b) : ∃ cur, w.heap[b]? = some (.cells cur e (0, 0)) := by
  rcases h.own.2 with ⟨rfl, _⟩ | ⟨g, cap, cur, rfl, hg, hh, _⟩
  · simp [Value.ownBlock] at hb
  · have : g = b := by simpa [Value.ownBlock] using hb
    subst this
    exact ⟨cur, hh⟩
theorem OwnV.lt (h : OwnV e sz w base v n vs) {b : Nat} (hb : v.ownBlock = some b) : b < w.heap.size := by
  obtain ⟨cur, hc⟩ := h.block hb
  exact (Array.getElem?_eq_some_iff.1 hc).1
theorem OwnV.rd (h : OwnV e sz w base v n vs) : ∃ A c, v = .slice A n c ∧ n ≤ c ∧ c ≤ 9223372036854775807 ∧ RdV sz w A n vs := by
  rcases h.own.2 with ⟨rfl, h0⟩ | ⟨g, cap, cur, rfl, hb, hh, hn, hm, hsz, htk⟩
  · subst h0
    have : vs = [] := List.eq_nil_of_length_eq_zero (by have := h.own.1; omega)
    subst this
    exact ⟨none, 0, rfl, Nat.le_refl _, by omega, RdV.nil _ _ _⟩
  · refine ⟨some ⟨g, 0, none⟩, cap, rfl, hn, by simpa [maxLen] using hm, h.own.1, fun _ => ⟨g, 0, rfl, fun j u hj => ?_⟩⟩
    have h1 : cur.toList[j]? = some u := by
      rw [← htk] at hj
      rw [List.getElem?_take] at hj
      split at hj
      · exact hj
      · cases hj
    simpa [World.cell?, hh] using h1
end

section
variable {ops : Array Oper} {rest : List Oper} {o : Oper} {a : Act} {Q : Exit → Act → World → Prop} {W : World} {base : Nat}
/-- append(v, us...) onto a row of the call's own. -/
theorem appV {e sl : TypeId} {sz by_ : Nat} {z : Value} (hsl : Try.prog.underlying sl = some (.slice e)) (hinf : (Try.prog.info? e).map (fun i => (i.zero, i.size, i.bytes)) = some (some z, sz, by_)) (hzc : z.cells.size = sz) (hsz : 0 < sz) (hby : 0 < by_)
    (hgd : o.guard = none ∨ Region.wanted o (yielded ops a.tmps) = true) {s x : Operand} (ho : o.op = .call { callee := .builtin .append, args := #[s, x], argTypes := #[sl, sl] })
    {v : Value} {n m c : Nat} {vs us : List Value} {A : Option Addr} (hs : a.eval s = v) (hx : a.eval x = .slice A m c) (HO : OwnV e sz W base v n vs) (HR : RdV sz W A m us) (h1 : ∀ u ∈ us, u.oneCell' = true) (hb : base ≤ W.heap.size) (hl : (n + m) * by_ ≤ 140737488355328)
    (h : ∀ v1 w1, OwnV e sz w1 base v1 (n + m) (vs ++ us) → W.grownBy w1 v.ownBlock → (v1.ownBlock = v.ownBlock ∨ v1.ownBlock = some W.heap.size) → wpList Try.prog ops Q rest (a.put o.dst v1) w1) :
    wpList Try.prog ops Q (o :: rest) a W := by
  obtain ⟨i0, hi, hz0, hz1, hz2⟩ := info_parts hinf
  have hw : Region.wanted o (yielded ops a.tmps) = true := by
    rcases hgd with h | h
    · simp [Region.wanted, h]
    · exact h
  have hnm : n + m ≤ 140737488355328 := Nat.le_trans (Nat.le_mul_of_pos_right _ hby) hl
  have hrun : ∃ v1 w1, (Builtin.append_ #[sl, sl] o.type #[v, .slice A m c]).run Try.prog W = .ok v1 w1 ∧ OwnV e sz w1 base v1 (n + m) (vs ++ us) ∧ W.grownBy w1 v.ownBlock ∧ (v1.ownBlock = v.ownBlock ∨ v1.ownBlock = some W.heap.size) := by
    rcases Nat.eq_zero_or_pos m with h0 | h0
    · subst h0
      have h0' : us = [] := List.eq_nil_of_length_eq_zero (by have := HR.len; omega)
      subst h0'
      refine ⟨v, W, ?_, ⟨by simpa using HO.own⟩, ⟨rfl, rfl, rfl, Nat.le_refl _, fun _ _ _ => rfl⟩, .inl rfl⟩
      rcases HO.own.2 with ⟨rfl, h00⟩ | ⟨g, cap, cur, rfl, _, _, hnc, _⟩
      · cases A <;> simp [Builtin.append_, run_underlying hsl, sizeOf, typeInfo, hi, Builtin.lenOf, Builtin.firstCells, loadCells, loadCellsFrom]
      · cases A <;> simp [Builtin.append_, run_underlying hsl, sizeOf, typeInfo, hi, Builtin.lenOf, Builtin.firstCells, hnc, storeCells, loadCells, loadCellsFrom]
    · obtain ⟨b, o', rfl, hc⟩ := HR.cells (Nat.mul_pos h0 hsz)
      obtain ⟨v1, w1, hr, hown, hg, _, hat⟩ := run_append_own_at (P := Try.prog) W base sl o.type e i0 z sz by_ hsl hi hz0 hz1 hz2 hzc hsz v n vs HO.own ⟨b, o', none⟩ m c us HR.len (fun j u hu => by rw [add_plain]; exact hc j u hu) h1 (by simp only [maxLen]; omega) hl hb
      exact ⟨v1, w1, hr, ⟨hown⟩, hg, hat⟩
  obtain ⟨v1, w1, hr, hO1, hg, hat⟩ := hrun
  refine wpList_step fun K hK => ?_
  rw [if_pos hw]
  unfold Oper.wp execOp
  simp only [ho, resolve, invoke, builtin, Sem.run_bind, Sem.run_pure, Result.andThen_ok, List.map_toArray, List.map_cons, List.map_nil, hs, hx, hr]
  exact hK _ _ (h v1 w1 hO1 hg hat)
/-- append(v, s...): a text's bytes onto a row of bytes. -/
theorem appStr (hgd : o.guard = none) {s x : Operand} (ho : o.op = .call { callee := .builtin .append, args := #[s, x], argTypes := #[23, 9] })
    {v : Value} {xs : List Int} {t : ByteArray} (hs : a.eval s = v) (hx : a.eval x = .string t) (HO : Own W base v xs) (hb : base ≤ W.heap.size) (hl : xs.length + t.size ≤ 140737488355328)
    (h : ∀ v1 w1, Own w1 base v1 (xs ++ bsOf t) → W.grownBy w1 v.ownBlock → wpList Try.prog ops Q rest (a.put o.dst v1) w1) :
    wpList Try.prog ops Q (o :: rest) a W := by
  obtain ⟨i0, hi, hz0, hz1, hz2⟩ := info_parts infou8
  refine Go.Lib.wpList_append_own_string W hgd s x 23 9 ho base 5 i0 Try.underlying23 Try.underlying9 hi hz0 hz1 hz2 v xs.length (nums .u8 xs) hs HO.own t hx (by simp only [maxLen]; omega) hl hb ?_
  intro v1 w1 hown hg _
  refine h v1 w1 ⟨?_⟩ hg
  have e : Go.Lib.strCells t = nums .u8 (bsOf t) := by
    simp [Go.Lib.strCells, nums, bsOf]
  rw [e, ← nums_append] at hown
  rw [List.length_append, bsOf_len]
  exact hown
end
end Go.Proofs.Ytbkcpgaicoagfaa
