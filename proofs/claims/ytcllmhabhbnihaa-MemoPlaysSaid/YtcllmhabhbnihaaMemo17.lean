/- Memo's reference: what Put needs. -/
import Derived.Test.YtcllmhabhbnihaaMemo16
set_option linter.unusedVariables false
set_option linter.unusedSimpArgs false
namespace Go.Proofs.Ytcllmhabhbnihaa
open Go.RowKit

theorem rm_mk {u : World} {q m n c base : Nat} {A : Option Addr} {l : List Ask} (hc : u.heap[q]? = some (.cells #[.int .i64 (m : Int), .slice A n c] 42)) (hO : OwnA u base (.slice A n c) l) (hn : l.length = n) (hq : q < base) (hf : n ≤ m) (h1 : 1 ≤ m) (h2 : m ≤ 64) :
    RmI u q A n c m l ∧ ∀ ad, A = some ad → base ≤ ad.block := by
  obtain ⟨A', c', e, hnc, hcm, hr⟩ := hO.rd
  simp only [Value.slice.injEq] at e
  obtain ⟨rfl, _, rfl⟩ := e
  rw [hn] at hnc hr
  have hlow : ∀ ad, A = some ad → base ≤ ad.block ∧ ad.block < u.heap.size := fun ad e => ⟨hO.base_le ad.block (by rw [e]; rfl), hO.lt (by rw [e]; rfl)⟩
  refine ⟨⟨hc, hr, fun e => ?_, ⟨hnc, hcm⟩, hf, h1, h2, fun ad e h => by have := (hlow ad e).1; omega, fun ad e => (hlow ad e).2⟩, fun ad e => (hlow ad e).1⟩
  rcases hO.own.2 with ⟨hv, h0⟩ | ⟨g, cp, cur, hv, _⟩
  · simp only [Value.slice.injEq] at hv; exact ⟨by rw [← hn]; exact h0, hv.2.2⟩
  · simp only [Value.slice.injEq] at hv; rw [hv.1] at e; cases e
theorem acs_until : ∀ (l : List Ask) (i : Nat) (y : Ask) (u : Int), l[i]? = some y → acs (l.set i (y.1, y.2.1, y.2.2.1, y.2.2.2.1, y.2.2.2.2.1, u)) = (acs l).set (i * 6 + 5) (.int .i64 u)
  | [], i, y, u, h => by simp at h
  | z :: l, 0, y, u, h => by
    simp at h
    subst h
    simp [acs_cons]
  | z :: l, i + 1, y, u, h => by
    have := acs_until l i y u (by simpa using h)
    rw [List.set_cons_succ, acs_cons, acs_cons, this]
    rw [show (i + 1) * 6 + 5 = i * 6 + 5 + 1 + 1 + 1 + 1 + 1 + 1 by omega]
    simp only [List.set_cons_succ]
theorem th_until {x y : Ask} (h : thA y = thA x) : (y.1, y.2.1, y.2.2.1, y.2.2.2.1, y.2.2.2.2.1, x.2.2.2.2.2) = x := of_decide_eq_true ((until_eq x y).trans (decide_eq_true h))

section
variable {ops : Array Oper} {rest : List Oper} {o : Oper} {a : Act} {Q : Exit → Act → World → Prop} {W : World} {base : Nat}
/-- append of a row onto an empty one of no room: nothing that lay there changes. -/
theorem appE {e sl : TypeId} {sz by_ : Nat} {z : Value} (hsl : Try.prog.underlying sl = some (.slice e)) (hinf : (Try.prog.info? e).map (fun i => (i.zero, i.size, i.bytes)) = some (some z, sz, by_)) (hzc : z.cells.size = sz) (hsz : 0 < sz) (hby : 0 < by_)
    (hgd : o.guard = none ∨ Region.wanted o (yielded ops a.tmps) = true) {s x : Operand} (ho : o.op = .call { callee := .builtin .append, args := #[s, x], argTypes := #[sl, sl] })
    {g m c : Nat} {us : List Value} {A : Option Addr} (hs : a.eval s = .slice (some ⟨g, 0, none⟩) 0 0) (hx : a.eval x = .slice A m c) (HO : OwnV e sz W base (.slice (some ⟨g, 0, none⟩) 0 0) 0 []) (HR : RdV sz W A m us) (h1 : ∀ u ∈ us, u.oneCell' = true) (hb : base ≤ W.heap.size) (hl : m * by_ ≤ 140737488355328)
    (h : ∀ v1 w1, OwnV e sz w1 base v1 m us → Grew W w1 → wpList Try.prog ops Q rest (a.put o.dst v1) w1) :
    wpList Try.prog ops Q (o :: rest) a W := by
  obtain ⟨i0, hi, hz0, hz1, hz2⟩ := info_parts hinf
  have hw : Region.wanted o (yielded ops a.tmps) = true := by
    rcases hgd with h | h
    · simp [Region.wanted, h]
    · exact h
  have hnm : m ≤ 140737488355328 := Nat.le_trans (Nat.le_mul_of_pos_right _ hby) hl
  have hrun : ∃ v1 w1, (Builtin.append_ #[sl, sl] o.type #[.slice (some ⟨g, 0, none⟩) 0 0, .slice A m c]).run Try.prog W = .ok v1 w1 ∧ OwnV e sz w1 base v1 m us ∧ Grew W w1 := by
    rcases Nat.eq_zero_or_pos m with h0 | h0
    · subst h0
      have h0' : us = [] := List.eq_nil_of_length_eq_zero (by have := HR.len; omega)
      subst h0'
      refine ⟨.slice (some ⟨g, 0, none⟩) 0 0, W, ?_, HO, Grew.rf W⟩
      cases A <;> simp [Builtin.append_, run_underlying hsl, sizeOf, typeInfo, hi, Builtin.lenOf, Builtin.firstCells, storeCells, loadCells, loadCellsFrom]
    · obtain ⟨b, o', rfl, hc⟩ := HR.cells (Nat.mul_pos h0 hsz)
      obtain ⟨v1, w1, hr, hown, hg, _, hat⟩ := run_append_own_at (P := Try.prog) W base sl o.type e i0 z sz by_ hsl hi hz0 hz1 hz2 hzc hsz _ 0 [] HO.own ⟨b, o', none⟩ m c us HR.len (fun j u hu => by rw [add_plain]; exact hc j u hu) h1 (by simp only [maxLen]; omega) (by rw [Nat.zero_add]; exact hl) hb
      have hr2 := run_append_grow (P := Try.prog) W sl o.type e i0 z hsl hi hz0 ⟨g, 0, none⟩ 0 0 [] (by simp) (by intro j v hj; simp at hj) ⟨b, o', none⟩ m c us (by rw [hz1]; exact HR.len) (fun j u hu => by rw [add_plain]; exact hc j u hu) (by omega) (by omega) (growslice_fits (by omega) (by rw [hz2, Nat.zero_add]; exact hl))
      rw [hr] at hr2
      simp only [Result.ok.injEq] at hr2
      rw [Nat.zero_add, List.nil_append] at hown
      refine ⟨v1, w1, hr, ⟨hown⟩, ?_⟩
      rw [hr2.2]
      exact (Grew.rf W).dr.al _
  obtain ⟨v1, w1, hr, hO1, hg⟩ := hrun
  refine wpList_step fun K hK => ?_
  rw [if_pos hw]
  unfold Oper.wp execOp
  simp only [ho, resolve, invoke, builtin, Sem.run_bind, Sem.run_pure, Result.andThen_ok, List.map_toArray, List.map_cons, List.map_nil, hs, hx, hr]
  exact hK _ _ (h v1 w1 hO1 hg)
end

/-! ### The last region of Put: two appends, then the store -/
def GF (n0 : Nat) (u u' : World) : Prop := Chg (fun k => n0 ≤ k) u u'
def GQ (q : Nat) (u u' : World) : Prop := Chg (fun k => k = q) u u'
theorem tzR {wz : World} {q xb n0 : Nat} {o : Obj} {x : Ask} (h1 : q < n0) (h2 : xb < n0) (h0 : n0 = wz.heap.size) :
    TwoZ (GF n0) (GQ q) (fun _ => True) (fun u => u.heap[q]? = some o ∧ SixC u xb 0 x) (fun u => Chg (fun k => k = q) wz u) :=
  ⟨fun _ _ h hg => h.tr (Chg.of hg), fun _ _ h hg => h.tr (hg.mono fun k hk => .inr (by omega)), fun _ _ h hg => h.tr (hg.mono fun k hk => .inl hk), fun _ _ _ _ => trivial, fun _ _ h hg => ⟨heap_keep hg h.1, h.2.keep hg⟩, fun _ _ h hg => ⟨hg.by_ h.1 (fun e => by omega), h.2.chg hg (fun e => by omega)⟩⟩
def pxO (q n0 : Nat) (l : List Ask) : Px (GF n0) (GQ q) where
  p := fun v u => OwnA u n0 v l
  s1 := false
  s2 := false
  m0 := fun v u u' h hg => h.keep hg
  m1 := fun h => by cases h
  m2 := fun h => by cases h
def pxE (q n0 : Nat) : Px (GF n0) (GQ q) where
  p := fun v u => ∃ g, v = .slice (some ⟨g, 0, none⟩) 0 0 ∧ OwnV 32 6 u n0 (.slice (some ⟨g, 0, none⟩) 0 0) 0 []
  s1 := false
  s2 := false
  m0 := fun v u u' ⟨g, h1, h2⟩ hg => ⟨g, h1, h2.keep hg⟩
  m1 := fun h => by cases h
  m2 := fun h => by cases h
def pxL (q n0 : Nat) (x : Ask) : Px (GF n0) (GQ q) where
  p := fun v u => ∃ gb, v = .slice (some ⟨gb, 0, none⟩) 1 1 ∧ RdA u (some ⟨gb, 0, none⟩) 1 [x]
  s1 := false
  s2 := false
  m0 := fun v u u' ⟨gb, h1, h2⟩ hg => ⟨gb, h1, h2.keep hg⟩
  m1 := fun h => by cases h
  m2 := fun h => by cases h
def pxQ (q n0 m : Nat) (l : List Ask) : Px (GF n0) (GQ q) where
  p := fun _ u => ∃ A n c, RmI u q A n c m l ∧ ∀ ad, A = some ad → n0 ≤ ad.block
  s1 := false
  s2 := false
  m0 := fun v u u' ⟨A, n, c, h, h2⟩ hg => ⟨A, n, c, h.keep hg, h2⟩
  m1 := fun h => by cases h
  m2 := fun h => by cases h
theorem pxO_mk {q n0 : Nat} {w1 : World} {l : List Ask} {x : Ask} {v : Value} (h : OwnV 32 6 w1 n0 v (l.length + 1) (acs l ++ acs [x])) : (pxO q n0 (l ++ [x])).p v w1 := by
  show OwnV _ _ _ _ _ _ _
  rw [List.length_append, acs_append]
  exact h
theorem rm_set2 {u : World} {q m n c base : Nat} {v : Value} {A : Option Addr} {l : List Ask} (hc : u.heap[q]? = some (.cells #[.int .i64 (m : Int), v] 42)) (hO : OwnA u base (.slice A n c) l) (hn : l.length = n) (hq : q < base) (hf : n ≤ m) (h1 : 1 ≤ m) (h2 : m ≤ 64) (n0 : Nat) (h0 : n0 = base) :
    (pxQ q n0 m l).p undef (u.setCell ⟨q, 1, none⟩ (.slice A n c)) := by
  obtain ⟨h3, h4⟩ := rm_set hc hO hn hq hf h1 h2
  exact ⟨A, n, c, h3, by rw [h0]; exact h4⟩
end Go.Proofs.Ytcllmhabhbnihaa
