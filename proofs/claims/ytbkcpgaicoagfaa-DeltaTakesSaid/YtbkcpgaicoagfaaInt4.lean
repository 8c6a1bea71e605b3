/- Intern: the walks of the answer's at and Put, and of few. -/
import Derived.Test.YtbkcpgaicoagfaaInt3
set_option linter.unusedVariables false
set_option linter.unusedSimpArgs false
namespace Go.Proofs.Ytbkcpgaicoagfaa
open Go.RowKit

theorem tx_eq {a b : ByteArray} (h : a = b) : (a.toList == b.toList) = true := by simp [h]
theorem tx_ne {a b : ByteArray} (h : ¬ a = b) : (a.toList == b.toList) = false := by
  rw [beq_eq_false_iff_ne]
  intro e
  apply h
  rw [ByteArray.toList_eq, ByteArray.toList_eq] at e
  exact ByteArray.ext (Array.toList_inj.1 e)
theorem idxT_at {ts : List ByteArray} {s : ByteArray} : ∀ {j : Nat}, ts[j]? = some s → (∀ k, k < j → ts[k]? ≠ some s) → idxT ts s = j + 1 := by
  induction ts with
  | nil => intro j h; simp at h
  | cons t r ih =>
    intro j h hk
    rw [idxT]
    cases j with
    | zero => simp at h; rw [if_pos h]
    | succ j =>
      have h0 := hk 0 (by omega)
      simp at h0
      rw [List.getElem?_cons_succ] at h
      have := ih h (fun k hlt => by have := hk (k + 1) (by omega); simpa using this)
      rw [if_neg h0, if_neg (by omega), this]
theorem idxT_none {ts : List ByteArray} {s : ByteArray} (h : ∀ k, k < ts.length → ts[k]? ≠ some s) : idxT ts s = 0 := by
  cases hz : idxT ts s with
  | zero => rfl
  | succ k =>
    have h1 := idxT_get hz
    exact absurd h1 (h k (List.getElem?_eq_some_iff.1 h1).1)

section
variable {ops : Array Oper} {rest : List Oper} {o : Oper} {a : Act} {Q : Exit → Act → World → Prop} {W : World}
/-- []byte(s). -/
theorem conv_str (hgd : o.guard = none) {x : Operand} (ho : o.op = .convert 9 23 x) {s : ByteArray} (hx : a.eval x = .string s)
    (h : ∀ B c u, Rd u B s.size (bsOf s) → Grew W u → wpList Try.prog ops Q rest (a.put o.dst (.slice B s.size c)) u) : wpList Try.prog ops Q (o :: rest) a W := by
  have hrun := Lib.run_convert_string_bytes (P := Try.prog) W 9 23 5 s Try.underlying9 Try.underlying23 Try.underlying5
  refine wpList_plain hgd fun K hK => ?_
  unfold Oper.wp execOp
  simp only [ho, Sem.run_bind, Sem.run_pure, Result.andThen_ok, hx, hrun]
  refine hK _ _ (h _ _ _ ⟨bsOf_len s, fun hn => ⟨_, 0, rfl, fun j hj => ?_⟩⟩ ⟨rfl, rfl, rfl, by rw [Lib.bytesWorld_size]; omega, fun k hk => Lib.bytesWorld_at_old _ _ _ _ hk⟩)
  rw [Nat.zero_add, Lib.bytesWorld_cell _ _ _ _ hj]
  have hjl : j < s.data.toList.length := by rw [Array.length_toList]; exact hj
  simp [bsOf, List.getD_eq_getElem?_getD, List.getElem?_eq_getElem hjl]
end
/-- The answer's table at block q. -/
structure RefI (w : World) (q : Nat) (lv : Value) (ts : List ByteArray) : Prop where
  cells : w.heap[q]? = some (.cells #[lv] 50)
  list : OwnT w 0 lv ts
  few : ts.length ≤ 1000000
  size : ∀ t ∈ ts, t.size ≤ 1000000
def ftr (q : Nat) (lv : Value) (k : Nat) : Prop := k = q ∨ lv.ownBlock = some k
theorem RefI.apart {w : World} {q : Nat} {lv : Value} {ts : List ByteArray} (h : RefI w q lv ts) : lv.ownBlock ≠ some q := fun e => by
  obtain ⟨cur, hc⟩ := h.list.block e
  rw [h.cells] at hc
  simp only [Option.some.injEq, Obj.cells.injEq] at hc
  exact absurd hc.2.1 (by decide)
theorem RefI.lt {w : World} {q : Nat} {lv : Value} {ts : List ByteArray} (h : RefI w q lv ts) {k : Nat} (hk : ftr q lv k) : k < w.heap.size := by
  rcases hk with rfl | hk
  · exact (Array.getElem?_eq_some_iff.1 h.cells).1
  · exact h.list.lt hk
theorem OwnV.chg {e : TypeId} {sz : Nat} {w w' : World} {base : Nat} {v : Value} {n : Nat} {vs : List Value} {F : Nat → Prop} (h : OwnV e sz w base v n vs) (hg : Chg F w w') (hF : ∀ k, v.ownBlock = some k → ¬ F k) : OwnV e sz w' base v n vs := by
  have hc : ∀ b, v.ownBlock = some b → w'.heap[b]? = w.heap[b]? := fun b hb => hg.block b (h.lt hb) (hF b hb)
  refine ⟨⟨h.own.1, ?_⟩⟩
  rcases h.own.2 with h2 | ⟨g, cap, cur, hv, hg2, hh, r⟩
  · exact .inl h2
  · exact .inr ⟨g, cap, cur, hv, hg2, by rw [hc g (by rw [hv]; rfl)]; exact hh, r⟩
theorem RefI.chg {w w' : World} {q : Nat} {lv : Value} {ts : List ByteArray} {F : Nat → Prop} (h : RefI w q lv ts) (hg : Chg F w w') (hF : ∀ k, ftr q lv k → ¬ F k) : RefI w' q lv ts :=
  ⟨hg.by_ h.cells (hF q (.inl rfl)), h.list.chg hg (fun k hk => hF k (.inr hk)), h.few, h.size⟩
theorem RefI.keep {w w' : World} {q : Nat} {lv : Value} {ts : List ByteArray} (h : RefI w q lv ts) (hg : Grew w w') : RefI w' q lv ts := h.chg (F := fun _ => False) (Chg.of hg) (fun _ _ h => h)
theorem ownV_lit0 (e : TypeId) (sz : Nat) (W : World) : OwnV e sz (W.alloc (.cells #[] e)) W.heap.size (.slice (some ⟨W.heap.size, 0, none⟩) 0 0) 0 [] :=
  ⟨⟨by simp, .inr ⟨W.heap.size, 0, #[], rfl, Nat.le_refl _, heap_alloc_new W _, Nat.le_refl _, Nat.zero_le _, by simp, by simp⟩⟩⟩

set_option maxRecDepth 100000 in
set_option maxHeartbeats 1600000 in
theorem rat_any (q : Nat) (lv : Value) (ts : List ByteArray) (s : ByteArray) (z : Nat) (hz : idxT ts s = z) (w : World) (hR : RefI w q lv ts) :
    Calls Try.prog 58 #[.pointer (some ⟨q, 0, none⟩), .string s] w fun e w' => e = .returned (.int .i64 (z : Int)) ∧ w = w' := by
  obtain ⟨A, c, rfl, hnc, hc, hrl⟩ := hR.list.rd
  have hc0 : w.cell? ⟨q, 0, none⟩ = some (.slice A ts.length c) := cell_of_heap (i := 0) hR.cells rfl
  have hfew := hR.few
  have HZ := Lib.hid hz
  have HRL := Lib.hid hrl
  clear hR hz hrl
  go_enter Try.func58, Try.ntmps58
  go_wp2
  go_loop [5] (fun i => ∃ j : Nat, i = .int .i64 (j : Int) ∧ j ≤ ts.length ∧ ∀ k, k < j → ts[k]? ≠ some s) (fun i => ts.length - (intOf i).toNat)
  case atStart => exact ⟨0, rfl, by omega, fun k hk => by omega⟩
  case round =>
    obtain ⟨j, rfl, hj, hk⟩ := hrel
    have HK := Lib.hid hk
    clear hk
    by_cases hlt : j < ts.length
    · obtain ⟨g, o, hA, hcl⟩ := HRL.out.cells (by omega)
      obtain ⟨t, ht⟩ : ∃ t, ts[j]? = some t := ⟨_, List.getElem?_eq_getElem hlt⟩
      have hce := hcl j (.string t) (by rw [List.getElem?_map, ht]; rfl)
      have HT := Lib.hid ht
      subst hA
      clear hcl ht
      by_cases hts : t = s
      · have hd := tx_eq hts
        have hfin := idxT_at (by rw [HT.out, hts]) HK.out
        rw [HZ.out] at hfin
        have HF := Lib.hid hfin
        clear hts hfin
        go_wp2
        go_ret
        exact ⟨ret1 (by rw [HF.out]; rfl), rfl⟩
      · have hd := tx_ne hts
        have HTS := Lib.hid hts
        clear hts
        go_wp2
        go_round
        case rel => exact ⟨j + 1, by go_num, by omega, fun k hk e => by
          by_cases h : k = j
          · subst h; rw [HT.out] at e; exact HTS.out (Option.some.inj e)
          · exact HK.out k (by omega) e⟩
        case measure => simp [intOf]; omega
    · have hje : j = ts.length := by omega
      have hfin := idxT_none (ts := ts) (s := s) (fun k hk => HK.out k (by omega))
      rw [HZ.out] at hfin
      subst hfin
      clear hje
      go_wp2
      go_ret
      exact ⟨rfl, rfl⟩
end Go.Proofs.Ytbkcpgaicoagfaa
