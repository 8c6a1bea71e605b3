/- The answer's Take: its state in memory. -/
import Derived.Test.YtbkcpgaicoagfaaRb3
import Derived.Test.YtbkcpgaicoagfaaPureRt
import Derived.Test.YtbkcpgaicoagfaaEg29
import Derived.Test.YtbkcpgaicoagfaaEg32
set_option linter.unusedVariables false
set_option linter.unusedSimpArgs false
namespace Go.Proofs.Ytbkcpgaicoagfaa
open Go.RowKit

abbrev u64s (zs : List Int) : List Value := zs.map (fun z => Value.int .u64 z)
/-- What stands beside the event's box: the table; the boxes of the result and of no event; the row of the numbers. -/
structure RTo (w0 : World) (tp : Nat) (lv : Value) (qa qb xb : Nat) (AL : Option Addr) (zs : List Int) (ts : List ByteArray) (u : World) : Prop where
  tab : ∃ lv', RefI u tp lv' ts ∧ ∀ k, ftr tp lv' k → ftr tp lv k ∨ w0.heap.size ≤ k
  chg : Chg (ftr tp lv) w0 u
  abox : u.heap[qa]? = some (evO zeroE none 0 0)
  bbox : u.heap[qb]? = some (evO zeroE none 0 0)
  list : RdV 1 u AL zs.length (u64s zs)
  lblk : ∀ ad, AL = some ad → ∃ cs fr, u.heap[ad.block]? = some (.cells cs 32 fr)
  a0 : w0.heap.size ≤ qa
  x0 : w0.heap.size ≤ xb
  xa : xb ≠ qa
  xq : xb ≠ qb
section
variable {w0 : World} {tp : Nat} {lv : Value} {qa qb xb : Nat} {AL : Option Addr} {zs : List Int} {ts ts' : List ByteArray} {u u' : World} {x x' : Ev}
theorem RTo.keep (h : RTo w0 tp lv qa qb xb AL zs ts u) (hg : Grew u u') : RTo w0 tp lv qa qb xb AL zs ts u' := by
  obtain ⟨l, h1, h2⟩ := h.tab
  exact ⟨⟨l, h1.keep hg, h2⟩, h.chg.tr (Chg.of hg), heap_keep hg h.abox, heap_keep hg h.bbox, h.list.keep hg, fun ad e => by obtain ⟨cs, fr, hc⟩ := h.lblk ad e; exact ⟨cs, fr, heap_keep hg hc⟩, h.a0, h.x0, h.xa, h.xq⟩
/-- Another block of the call's own changes: a block of events that is neither of the two. -/
theorem RTo.by_ (h : RTo w0 tp lv qa qb xb AL zs ts u) {K : Nat} (hby : u.grownBy u' (some K)) {o : Array Value} {fr : Nat × Nat} (hK : u.heap[K]? = some (.cells o 34 fr)) (h0 : w0.heap.size ≤ K) (ha : K ≠ qa) (hb : K ≠ qb) : RTo w0 tp lv qa qb xb AL zs ts u' := by
  have hc := chg1 hby
  obtain ⟨l, h1, h2⟩ := h.tab
  have hne : ∀ ad, AL = some ad → ¬ (ad.block = K) := fun ad e e2 => by
    obtain ⟨cs, fr, hc2⟩ := h.lblk ad e
    rw [e2, hK] at hc2
    simp only [Option.some.injEq, Obj.cells.injEq] at hc2
    exact absurd hc2.2.1 (by decide)
  exact ⟨⟨l, h1.chg hc (fun k hk e => ftr_other h1 hK (by decide) (by decide) (e ▸ hk)), h2⟩, h.chg.tr (hc.mono (fun b e => .inr (by rw [e]; exact h0))), hc.by_ h.abox (fun e => ha e.symm), hc.by_ h.bbox (fun e => hb e.symm), h.list.chg hc (fun _ ad e => hne ad e), fun ad e => by obtain ⟨cs, fr, hc2⟩ := h.lblk ad e; exact ⟨cs, fr, hc.by_ hc2 (hne ad e)⟩, h.a0, h.x0, h.xa, h.xq⟩
/-- A text is taken. -/
theorem RTo.text (h : RTo w0 tp lv qa qb xb AL zs ts u) {l : Value} (hl : RefI u tp l ts) (hf : ∀ k, ftr tp l k → ftr tp lv k ∨ w0.heap.size ≤ k) (hQ : RTakeQ u u' tp l ts') : RTo w0 tp lv qa qb xb AL zs ts' u' := by
  obtain ⟨l2, h1, h2⟩ := hQ.tab
  have hsz := h.chg.size
  refine ⟨⟨l2, h1, fun k hk => ?_⟩, h.chg.tr (hQ.chg.mono hf), hQ.chg.by_ h.abox (ftr_other hl h.abox (by decide) (by decide)), hQ.chg.by_ h.bbox (ftr_other hl h.bbox (by decide) (by decide)), h.list.chg hQ.chg (fun _ ad e => by obtain ⟨cs, fr, hc2⟩ := h.lblk ad e; exact ftr_other hl hc2 (by decide) (by decide)), fun ad e => by obtain ⟨cs, fr, hc2⟩ := h.lblk ad e; exact ⟨cs, fr, hQ.chg.by_ hc2 (ftr_other hl hc2 (by decide) (by decide))⟩, h.a0, h.x0, h.xa, h.xq⟩
  rcases h2 k hk with h3 | h3
  · exact hf k h3
  · exact .inr (by omega)
theorem RTo.ld (h : RTo w0 tp lv qa qb xb AL zs ts u) {j : Nat} {z : Int} (hz : zs[j]? = some z) : ∃ b o, AL = some ⟨b, o, none⟩ ∧ u.cell? ⟨b, o + j, none⟩ = some (.int .u64 z) := by
  have hj := (List.getElem?_eq_some_iff.1 hz).1
  obtain ⟨b, o, hA, hcl⟩ := h.list.cells (by omega)
  exact ⟨b, o, hA, hcl j _ (by simp [u64s, hz])⟩
end
/-- .. and the event's box. -/
structure RTk (w0 : World) (tp : Nat) (lv : Value) (qa qb xb : Nat) (AL : Option Addr) (zs : List Int) (x : Ev) (ts : List ByteArray) (u : World) : Prop where
  o : RTo w0 tp lv qa qb xb AL zs ts u
  xbox : u.heap[xb]? = some (evO x none 0 0)
section
variable {w0 : World} {tp : Nat} {lv : Value} {qa qb xb : Nat} {AL : Option Addr} {zs : List Int} {ts ts' : List ByteArray} {u u' : World} {x x' : Ev}
theorem RTk.keep (h : RTk w0 tp lv qa qb xb AL zs x ts u) (hg : Grew u u') : RTk w0 tp lv qa qb xb AL zs x ts u' := ⟨h.o.keep hg, heap_keep hg h.xbox⟩
theorem RTk.stored (h : RTk w0 tp lv qa qb xb AL zs x ts u) (hby : u.grownBy u' (some xb)) (hx : u'.heap[xb]? = some (evO x' none 0 0)) : RTk w0 tp lv qa qb xb AL zs x' ts u' :=
  ⟨h.o.by_ hby h.xbox h.o.x0 h.o.xa h.o.xq, hx⟩
theorem RTk.text (h : RTk w0 tp lv qa qb xb AL zs x ts u) {l : Value} (hl : RefI u tp l ts) (hf : ∀ k, ftr tp l k → ftr tp lv k ∨ w0.heap.size ≤ k) (hQ : RTakeQ u u' tp l ts') : RTk w0 tp lv qa qb xb AL zs x ts' u' :=
  ⟨h.o.text hl hf hQ, hQ.chg.by_ h.xbox (ftr_other hl h.xbox (by decide) (by decide))⟩
end
/-- What the answer's Take leaves. -/
def RBTakeQ (w : World) (p tp : Nat) (lv LV : Value) (rows : List Lnr) (k : Nat) (z : Ev × Int × Int × PB) (e : Ending) (w' : World) : Prop :=
  ∃ H m d, e = .returned (.tuple #[evV z.1 H m d, .int .i64 z.2.1, .int .i64 z.2.2.1]) ∧ LstF w.heap.size z.1.hs (.slice H m d) w' ∧ (∃ lv' LV' rows', RBI w' p tp lv' LV' rows' (k + 2) z.2.2.2 ∧ (∀ b, ftR p tp lv' LV' b → ftR p tp lv LV b ∨ w.heap.size ≤ b) ∧ ∀ M : Nat → Prop, (∀ b, w.heap.size ≤ b → M b) → LB M rows → LB M rows') ∧ Chg (ftR p tp lv LV) w w'
theorem rtake_ret {tmps : Array Value} {W : World} {xb : Nat} {cs : Array Value} {v7 v8 : Value} (h6 : tmps.getD 6 undef = .pointer (some ⟨xb, 0, none⟩)) (h7 : tmps.getD 7 undef = v7) (h8 : tmps.getD 8 undef = v8) (hK : W.heap[xb]? = some (.cells cs 34)) (hs : cs.size = 12) :
    (results Try.f18 tmps).run Try.prog W = .ok (.tuple #[.agg cs, v7, v8]) W := by
  have hl := run_loadVar_row (P := Try.prog) W xb 34 34 cs (0, 0) _ hK Try.underlying34 rfl (by rw [hs]; kernel_rfl)
  have h6' : tmps[6]?.getD undef = .pointer (some ⟨xb, 0, none⟩) := by simpa using h6
  have h7' : tmps[7]?.getD undef = v7 := by simpa using h7
  have h8' : tmps[8]?.getD undef = v8 := by simpa using h8
  simp [results, Try.results18, h6', h7', h8', asAddr, hl]
/-- Refused: the zero event in the result's box. -/
theorem RTo.err {w : World} {p tp : Nat} {lv LV : Value} {rows : List Lnr} {k : Nat} {s : PB} {qa qb xb : Nat} {AL : Option Addr} {zs : List Int} {ts : List ByteArray} {u u' : World} {z : Ev × Int × Int × PB} {e : Int} (hB : RBI w p tp lv LV rows k s) (h : RTo w tp lv qa qb xb AL zs ts u) (hby : u.grownBy u' (some qa)) (hts : ts.length ≤ 60 * (k + 1)) (hk : k < 990) (hz : z = (zeroE, 0, e, ⟨ts, s.ti, s.L⟩)) :
    RBTakeQ w p tp lv LV rows k z (.returned (.tuple #[.agg (evA zeroE none 0 0), .int .i64 0, .int .i64 e])) u' := by
  have hc := chg1 hby
  obtain ⟨l, h1, h2⟩ := h.tab
  have h3 := h1.chg hc (fun k hk e => ftr_other h1 h.abox (by decide) (by decide) (e ▸ hk))
  have hch : Chg (ftr tp lv) w u' := h.chg.tr (hc.mono (fun b e => .inr (by rw [e]; exact h.a0)))
  subst hz
  refine ⟨none, 0, 0, rfl, LstF.nil _ _, ⟨l, LV, rows, (hB.tab2 hch h3 h2 hts (by omega)).mono (by omega) (by omega), fun b hb => ?_, fun _ _ h => h⟩, hch.mono (fun b hb => .inr (.inl hb))⟩
  rcases hb with hb | hb | hb
  · exact .inl (.inl hb)
  · exact (h2 b hb).imp (fun h => .inr (.inl h)) (fun h => h)
  · exact .inl (.inr (.inr hb))
end Go.Proofs.Ytbkcpgaicoagfaa
