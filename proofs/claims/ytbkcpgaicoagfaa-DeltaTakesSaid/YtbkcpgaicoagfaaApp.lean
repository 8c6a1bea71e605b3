/- More words on memory: append onto a slice that is full; a tuple that a call hands back. -/
import Derived.Test.YtbkcpgaicoagfaaReg3
import Derived.Test.YtbkcpgaicoagfaaReg4
import Derived.ArgAppend
set_option linter.unusedVariables false
set_option linter.unusedSimpArgs false
namespace Go.Proofs.Ytbkcpgaicoagfaa
open Go.RowKit

section
variable {ops : Array Oper} {rest : List Oper} {o : Oper} {a : Act} {Q : Exit → Act → World → Prop} {W : World}
/-- append(s, ys...) where s has no room: what comes is new. -/
theorem apps_full (hgd : o.guard = none ∨ Region.wanted o (yielded ops a.tmps) = true) {s x : Operand} (ho : o.op = .call { callee := .builtin .append, args := #[s, x], argTypes := #[23, 23] })
    {ad : Addr} {n : Nat} {xs ys : List Int} {A : Option Addr} {m c : Nat} (hs : a.eval s = .slice (some ad) n n) (hx : a.eval x = .slice A m c)
    (HS : Rd W (some ad) n xs) (HR : Rd W A m ys) (hm : 0 < m) (hl : n + m ≤ 140737488355328)
    (h : ∀ v1 w1, Own w1 W.heap.size v1 (xs ++ ys) → Grew W w1 → wpList Try.prog ops Q rest (a.put o.dst v1) w1) :
    wpList Try.prog ops Q (o :: rest) a W := by
  obtain ⟨i0, hi, hz0, hz1, hz2⟩ := info_parts infou8
  have hw : Region.wanted o (yielded ops a.tmps) = true := by
    rcases hgd with h | h
    · simp [Region.wanted, h]
    · exact h
  have hxl := HS.len
  have hyl := HR.len
  obtain ⟨b, o', rfl, hc⟩ := HR.cells hm
  have holds : ∀ j u, (nums .u8 xs)[j]? = some u → W.cell? (ad.add j) = some u := by
    intro j u hu
    have hj : j < xs.length := by simpa [nums] using (List.getElem?_eq_some_iff.1 hu).1
    obtain ⟨b2, o2, e2, hc2⟩ := HS.at_ (j := j) (by omega)
    cases e2
    rw [nums_get _ _ _ hj] at hu
    rw [add_plain, hc2]
    exact hu
  have hnews : ∀ j u, (nums .u8 ys)[j]? = some u → W.cell? ((⟨b, o', none⟩ : Addr).add j) = some u := by
    intro j u hu
    have hj : j < ys.length := by simpa [nums] using (List.getElem?_eq_some_iff.1 hu).1
    rw [nums_get _ _ _ hj] at hu
    rw [add_plain, hc j (by omega)]
    exact hu
  obtain ⟨v1, w1, hrun, hown, hg⟩ := run_append_arg_grows (P := Try.prog) W 23 o.type 5 i0 (.int .u8 0) 1 1 Try.underlying23 hi hz0 hz1 hz2 rfl (by omega) ad n n (nums .u8 xs) (by simp [nums, hxl]) holds ⟨b, o', none⟩ m c (nums .u8 ys) (by simp [nums, hyl]) hnews (by omega) (by simp only [maxLen]; omega) (by omega)
  refine wpList_step fun K hK => ?_
  rw [if_pos hw]
  unfold Oper.wp execOp
  simp only [ho, resolve, invoke, builtin, Sem.run_bind, Sem.run_pure, Result.andThen_ok, List.map_toArray, List.map_cons, List.map_nil, hs, hx, hrun]
  exact hK _ _ (h v1 w1 ⟨by rw [List.length_append, hxl, hyl]; simpa [nums] using hown⟩ (grown_below hg))
/-- The conversion of a literal to its own type. -/
theorem conv_lit (hgd : o.guard = none) {x : Operand} (ho : o.op = .convert 23 23 x) {n : Nat} {v : Value} {xs : List Int} (hx : a.eval x = v) (hl : (Pm.lit (n := n) xs).p v W)
    (h : ∀ u, Gm n W u → (Pm.lit (n := n) xs).p v u → wpList Try.prog ops Q rest (a.put o.dst v) u) : wpList Try.prog ops Q (o :: rest) a W := by
  obtain ⟨u, hrun, hg, hl2⟩ := lit_conv hl
  refine wpList_plain hgd fun K hK => ?_
  unfold Oper.wp execOp
  simp only [ho, Sem.run_bind, Sem.run_pure, Result.andThen_ok, hx, hrun]
  exact hK _ _ (h u hg hl2)
end
/-- A slice without room. -/
def Pd.full (xs : List Int) : Pd := ⟨fun v u => ∃ ad n, v = .slice (some ad) n n ∧ Rd u (some ad) n xs, fun _ _ _ ⟨ad, n, h1, h2⟩ hg => ⟨ad, n, h1, h2.keep hg⟩⟩
/-- Bytes, a place, an error's number. -/
def Pd.tup (xs : List Int) (a b : Int) : Pd := ⟨fun v u => ∃ B m d, v = .tuple #[.slice B m d, .int .i64 a, .int .i64 b] ∧ Rd u B m xs ∧ m ≤ d ∧ d ≤ 9223372036854775807, fun _ _ _ ⟨B, m, d, h1, h2, h3⟩ hg => ⟨B, m, d, h1, h2.keep hg, h3⟩⟩
theorem OwnK.addr {e : TypeId} {k : IntKind} {w : World} {base : Nat} {v : Value} {xs : List Int} (h : OwnK e k w base v xs) (h0 : 0 < xs.length) : ∃ g c, v = .slice (some ⟨g, 0, none⟩) xs.length c ∧ base ≤ g ∧ g < w.heap.size ∧ xs.length ≤ c ∧ c ≤ 9223372036854775807 := by
  rcases h.own.2 with ⟨rfl, h2⟩ | ⟨g, cap, cur, rfl, hg, hh, hn, hm, _⟩
  · omega
  · exact ⟨g, cap, rfl, hg, (Array.getElem?_eq_some_iff.1 hh).1, hn, by simpa [maxLen] using hm⟩
end Go.Proofs.Ytbkcpgaicoagfaa
