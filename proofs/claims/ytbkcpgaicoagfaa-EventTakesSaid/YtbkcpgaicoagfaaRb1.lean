/- The answer's Book in memory. -/
import Derived.Test.YtbkcpgaicoagfaaEg26
import Derived.Test.YtbkcpgaicoagfaaEg16
set_option linter.unusedVariables false
set_option linter.unusedSimpArgs false
namespace Go.Proofs.Ytbkcpgaicoagfaa
open Go.RowKit

/-! ### Lines: a session, whether answers, a list's slice -/
abbrev Lnr := Int × Bool × Option Addr × Nat × Nat
abbrev lnc (r : Lnr) : List Value := [.int .i64 r.1, .bool r.2.1, .slice r.2.2.1 r.2.2.2.1 r.2.2.2.2]
def lncs (l : List Lnr) : List Value := l.flatMap lnc
theorem lncs_cons (r : Lnr) (l : List Lnr) : lncs (r :: l) = .int .i64 r.1 :: .bool r.2.1 :: .slice r.2.2.1 r.2.2.2.1 r.2.2.2.2 :: lncs l := by simp [lncs, lnc]
theorem lncs_append (l m : List Lnr) : lncs (l ++ m) = lncs l ++ lncs m := by simp [lncs]
theorem lncs_len (l : List Lnr) : (lncs l).length = l.length * 3 := by
  induction l with
  | nil => rfl
  | cons x l ih => rw [lncs_cons]; simp only [List.length_cons, ih]; omega
theorem lncs_one (l : List Lnr) : ∀ u ∈ lncs l, u.oneCell' = true := by
  induction l with
  | nil => intro u hu; cases hu
  | cons x l ih =>
    intro u hu
    rw [lncs_cons] at hu
    simp only [List.mem_cons] at hu
    rcases hu with rfl | rfl | rfl | hu
    · rfl
    · rfl
    · rfl
    · exact ih u hu
theorem lncs_get : ∀ (l : List Lnr) (i : Nat) (r : Lnr), l[i]? = some r → (lncs l)[i * 3]? = some (.int .i64 r.1) ∧ (lncs l)[i * 3 + 1]? = some (.bool r.2.1) ∧ (lncs l)[i * 3 + 2]? = some (.slice r.2.2.1 r.2.2.2.1 r.2.2.2.2)
  | [], i, r, h => by simp at h
  | z :: l, 0, r, h => by
    simp at h
    subst h
    simp [lncs_cons]
  | z :: l, i + 1, r, h => by
    obtain ⟨h1, h2, h3⟩ := lncs_get l i r (by simpa using h)
    rw [lncs_cons, show (i + 1) * 3 = i * 3 + 1 + 1 + 1 by omega]
    exact ⟨by simpa using h1, by simpa using h2, by simpa using h3⟩
theorem lncs_set : ∀ (l : List Lnr) (i : Nat) (r : Lnr) (A : Option Addr) (n c : Nat), l[i]? = some r → lncs (l.set i (r.1, r.2.1, A, n, c)) = (lncs l).set (i * 3 + 2) (.slice A n c)
  | [], i, r, A, n, c, h => by simp at h
  | z :: l, 0, r, A, n, c, h => by
    simp at h
    subst h
    simp [lncs_cons]
  | z :: l, i + 1, r, A, n, c, h => by
    have := lncs_set l i r A n c (by simpa using h)
    rw [List.set_cons_succ, lncs_cons, lncs_cons, this, show (i + 1) * 3 + 2 = i * 3 + 2 + 1 + 1 + 1 by omega]
    simp only [List.set_cons_succ]
abbrev keyL (r : Lnr) (se : Int) (an : Bool) : Prop := r.1 = se ∧ r.2.1 = an
/-- The lines tell L: the first line of a stream has its list; N: the blocks that no list lies in. -/
structure LinesI (w : World) (N : Nat → Prop) (rows : List Lnr) (L : Int → Bool → List Hdr) : Prop where
  at_ : ∀ (i : Nat) (r : Lnr), rows[i]? = some r → (∀ (j : Nat) (q : Lnr), j < i → rows[j]? = some q → ¬ keyL q r.1 r.2.1) → RdH w r.2.2.1 r.2.2.2.1 (L r.1 r.2.1)
  ap : ∀ r ∈ rows, (r.2.2.2.1 ≤ 25 ∧ r.2.2.2.1 ≤ r.2.2.2.2 ∧ r.2.2.2.2 ≤ 9223372036854775807) ∧ (0 < r.2.2.2.1 → ∀ ad, r.2.2.1 = some ad → ¬ N ad.block ∧ ad.block < w.heap.size)
  no : ∀ se an, (∀ r ∈ rows, ¬ keyL r se an) → L se an = []
theorem LinesI.nil (w : World) (N : Nat → Prop) : LinesI w N [] (fun _ _ => []) := ⟨fun i r h => by simp at h, fun r h => (by cases h), fun _ _ _ => rfl⟩
theorem LinesI.chg {w w' : World} {N F : Nat → Prop} {rows : List Lnr} {L : Int → Bool → List Hdr} (h : LinesI w N rows L) (hg : Chg F w w') (hF : ∀ b, F b → N b) : LinesI w' N rows L :=
  ⟨fun i r hr hj => (h.at_ i r hr hj).chg hg (fun h0 ad e hb => ((h.ap r (List.mem_of_getElem? hr)).2 h0 ad e).1 (hF _ hb)), fun r hr => ⟨(h.ap r hr).1, fun h0 ad e => ⟨((h.ap r hr).2 h0 ad e).1, by have := ((h.ap r hr).2 h0 ad e).2; have := hg.size; omega⟩⟩, h.no⟩
theorem LinesI.keep {w w' : World} {N : Nat → Prop} {rows : List Lnr} {L : Int → Bool → List Hdr} (h : LinesI w N rows L) (hg : Grew w w') : LinesI w' N rows L := h.chg (F := fun _ => False) (Chg.of hg) (fun _ h => h.elim)
theorem LinesI.mono {w : World} {N N' : Nat → Prop} {rows : List Lnr} {L : Int → Bool → List Hdr} (h : LinesI w N rows L) (hN : ∀ b, N' b → N b ∨ w.heap.size ≤ b) : LinesI w N' rows L :=
  ⟨h.at_, fun r hr => ⟨(h.ap r hr).1, fun h0 ad e => ⟨fun hb => by
    obtain ⟨h1, h2⟩ := (h.ap r hr).2 h0 ad e
    rcases hN _ hb with h3 | h3
    · exact h1 h3
    · omega, ((h.ap r hr).2 h0 ad e).2⟩⟩, h.no⟩
theorem LinesI.set {w : World} {N : Nat → Prop} {rows : List Lnr} {L : Int → Bool → List Hdr} (h : LinesI w N rows L) {i : Nat} {r : Lnr} (hi : rows[i]? = some r) (hf : ∀ (j : Nat) (q : Lnr), j < i → rows[j]? = some q → ¬ keyL q r.1 r.2.1) {A : Option Addr} {n c : Nat} {hs : List Hdr} (hr : RdH w A n hs) (hn : n ≤ 25 ∧ n ≤ c ∧ c ≤ 9223372036854775807) (hN : 0 < n → ∀ ad, A = some ad → ¬ N ad.block ∧ ad.block < w.heap.size) : LinesI w N (rows.set i (r.1, r.2.1, A, n, c)) (setL L r.1 r.2.1 hs) := by
  have hil : i < rows.length := (List.getElem?_eq_some_iff.1 hi).1
  have hget : ∀ (j : Nat), j ≠ i → (rows.set i (r.1, r.2.1, A, n, c))[j]? = rows[j]? := fun j hj => List.getElem?_set_ne (by omega)
  have hgi : (rows.set i (r.1, r.2.1, A, n, c))[i]? = some (r.1, r.2.1, A, n, c) := List.getElem?_set_self hil
  refine ⟨fun j q hq hj => ?_, fun q hq => ?_, fun se an hno => ?_⟩
  · by_cases hji : j = i
    · subst hji
      rw [hgi] at hq
      obtain rfl := Option.some.inj hq
      simpa [setL] using hr
    · rw [hget j hji] at hq
      by_cases hk : keyL q r.1 r.2.1
      · rcases (by omega : j < i ∨ i < j) with hlt | hlt
        · exact absurd hk (hf j q hlt hq)
        · exact absurd ⟨hk.1.symm, hk.2.symm⟩ (hj i _ hlt hgi)
      · have e : setL L r.1 r.2.1 hs q.1 q.2.1 = L q.1 q.2.1 := by
          unfold setL
          rw [if_neg hk]
        rw [e]
        refine h.at_ j q hq (fun m z hm hz => ?_)
        by_cases hmi : m = i
        · subst hmi
          rw [hi] at hz
          obtain rfl := Option.some.inj hz
          exact fun h2 => hk ⟨h2.1.symm, h2.2.symm⟩
        · exact hj m z hm (by rw [hget m hmi]; exact hz)
  · rcases List.mem_or_eq_of_mem_set hq with hq | rfl
    · exact h.ap q hq
    · exact ⟨hn, hN⟩
  · have h1 : ¬ keyL (r.1, r.2.1, A, n, c) se an := hno _ (List.mem_of_getElem? hgi)
    have e : setL L r.1 r.2.1 hs se an = L se an := by
      unfold setL
      rw [if_neg (fun h2 => h1 ⟨h2.1.symm, h2.2.symm⟩)]
    rw [e]
    refine h.no se an (fun q hq => ?_)
    obtain ⟨j, hjl, hj⟩ := List.getElem_of_mem hq
    have hj2 : rows[j]? = some q := by rw [List.getElem?_eq_getElem hjl, hj]
    by_cases hji : j = i
    · subst hji
      rw [hi] at hj2
      obtain rfl := Option.some.inj hj2
      exact h1
    · exact hno q (List.mem_of_getElem? (by rw [hget j hji]; exact hj2))
theorem LinesI.push {w : World} {N : Nat → Prop} {rows : List Lnr} {L : Int → Bool → List Hdr} (h : LinesI w N rows L) {se : Int} {an : Bool} (hf : ∀ r ∈ rows, ¬ keyL r se an) {A : Option Addr} {n c : Nat} {hs : List Hdr} (hr : RdH w A n hs) (hn : n ≤ 25 ∧ n ≤ c ∧ c ≤ 9223372036854775807) (hN : 0 < n → ∀ ad, A = some ad → ¬ N ad.block ∧ ad.block < w.heap.size) : LinesI w N (rows ++ [(se, an, A, n, c)]) (setL L se an hs) := by
  refine ⟨fun j q hq hj => ?_, fun q hq => ?_, fun s2 a2 hno => ?_⟩
  · by_cases hlt : j < rows.length
    · rw [List.getElem?_append_left hlt] at hq
      have hk := hf q (List.mem_of_getElem? hq)
      have e : setL L se an hs q.1 q.2.1 = L q.1 q.2.1 := by
        unfold setL
        rw [if_neg hk]
      rw [e]
      exact h.at_ j q hq (fun m z hm hz => hj m z hm (by rw [List.getElem?_append_left (by omega)]; exact hz))
    · have : j = rows.length := by have := (List.getElem?_eq_some_iff.1 hq).1; simp at this; omega
      subst this
      simp at hq
      subst hq
      simpa [setL] using hr
  · rcases List.mem_append.1 hq with hq | hq
    · exact h.ap q hq
    · rw [List.mem_singleton] at hq; subst hq; exact ⟨hn, hN⟩
  · have h1 : ¬ keyL (se, an, A, n, c) s2 a2 := hno _ (by simp)
    have e : setL L se an hs s2 a2 = L s2 a2 := by
      unfold setL
      rw [if_neg (fun h2 => h1 ⟨h2.1.symm, h2.2.symm⟩)]
    rw [e]
    exact h.no s2 a2 (fun q hq => hno q (by simp [hq]))

/-! ### The answer's Book -/
def ftR (p tp : Nat) (lv LV : Value) (b : Nat) : Prop := b = p ∨ ftr tp lv b ∨ LV.ownBlock = some b
structure RBI (w : World) (p tp : Nat) (lv LV : Value) (rows : List Lnr) (k : Nat) (s : PB) : Prop where
  cells : w.heap[p]? = some (.cells #[.pointer (some ⟨tp, 0, none⟩), .int .i64 s.ti, LV] 87)
  tab : RefI w tp lv s.ts
  own : OwnV 138 3 w 0 LV rows.length (lncs rows)
  lines : LinesI w (ftR p tp lv LV) rows s.L
  many : rows.length ≤ k
  t0 : 0 ≤ s.ti
  t1 : s.ti ≤ 1099511627776
  few : s.ts.length ≤ 60 * k
  kk : k ≤ 1000
theorem ftr_other {w : World} {tp : Nat} {lv : Value} {ts : List ByteArray} (hT : RefI w tp lv ts) {b : Nat} {cs : Array Value} {T : TypeId} {fr : Nat × Nat} (h : w.heap[b]? = some (.cells cs T fr)) (h1 : T ≠ 50) (h2 : T ≠ 9) : ¬ ftr tp lv b := by
  rintro (e | e)
  · rw [e, hT.cells] at h
    simp only [Option.some.injEq, Obj.cells.injEq] at h
    exact h1 h.2.1.symm
  · obtain ⟨cur, hm⟩ := hT.list.block e
    rw [hm] at h
    simp only [Option.some.injEq, Obj.cells.injEq] at h
    exact h2 h.2.1.symm
/-- The kinds of blocks lie apart. -/
theorem RBI.apart {w : World} {p tp : Nat} {lv LV : Value} {rows : List Lnr} {k : Nat} {s : PB} (h : RBI w p tp lv LV rows k s) : LV.ownBlock ≠ some p ∧ ¬ ftr tp lv p ∧ ∀ b, LV.ownBlock = some b → ¬ ftr tp lv b := by
  refine ⟨fun e => ?_, ftr_other h.tab h.cells (by decide) (by decide), fun b e => ?_⟩
  · obtain ⟨cur, hm⟩ := h.own.block e
    have := h.cells
    rw [hm] at this
    simp only [Option.some.injEq, Obj.cells.injEq] at this
    exact absurd this.2.1 (by decide)
  · obtain ⟨cur, hm⟩ := h.own.block e
    exact ftr_other h.tab hm (by decide) (by decide)
theorem RBI.lt {w : World} {p tp : Nat} {lv LV : Value} {rows : List Lnr} {k : Nat} {s : PB} (h : RBI w p tp lv LV rows k s) {b : Nat} (hb : ftR p tp lv LV b) : b < w.heap.size := by
  rcases hb with rfl | hb | hb
  · exact (Array.getElem?_eq_some_iff.1 h.cells).1
  · exact h.tab.lt hb
  · exact h.own.lt hb
theorem RBI.chg {w w' : World} {p tp : Nat} {lv LV : Value} {rows : List Lnr} {k : Nat} {s : PB} {F : Nat → Prop} (h : RBI w p tp lv LV rows k s) (hg : Chg F w w') (hF : ∀ b, ftR p tp lv LV b → ¬ F b) (hL : ∀ r ∈ rows, 0 < r.2.2.2.1 → ∀ ad, r.2.2.1 = some ad → ¬ F ad.block) : RBI w' p tp lv LV rows k s :=
  ⟨hg.by_ h.cells (hF p (.inl rfl)), h.tab.chg hg (fun b hb => hF b (.inr (.inl hb))), h.own.chg hg (fun b hb => hF b (.inr (.inr hb))),
   ⟨fun i r hr hj => (h.lines.at_ i r hr hj).chg hg (hL r (List.mem_of_getElem? hr)), fun r hr => ⟨(h.lines.ap r hr).1, fun h0 ad e => ⟨((h.lines.ap r hr).2 h0 ad e).1, by have := ((h.lines.ap r hr).2 h0 ad e).2; have := hg.size; omega⟩⟩, h.lines.no⟩, h.many, h.t0, h.t1, h.few, h.kk⟩
theorem RBI.keep {w w' : World} {p tp : Nat} {lv LV : Value} {rows : List Lnr} {k : Nat} {s : PB} (h : RBI w p tp lv LV rows k s) (hg : Grew w w') : RBI w' p tp lv LV rows k s := h.chg (F := fun _ => False) (Chg.of hg) (fun _ _ h => h) (fun _ _ _ _ _ h => h)
/-- Another block of the call's own changes. -/
theorem RBI.mono {w : World} {p tp : Nat} {lv LV : Value} {rows : List Lnr} {k k' : Nat} {s : PB} (h : RBI w p tp lv LV rows k s) (hk : k ≤ k') (hk2 : k' ≤ 1000) : RBI w p tp lv LV rows k' s :=
  ⟨h.cells, h.tab, h.own, h.lines, Nat.le_trans h.many hk, h.t0, h.t1, Nat.le_trans h.few (by omega), hk2⟩
/-- The tables have grown. -/
theorem RBI.tab2 {w w' : World} {p tp : Nat} {lv LV lv' : Value} {rows : List Lnr} {k : Nat} {s : PB} {ts' : List ByteArray} (h : RBI w p tp lv LV rows k s) (hg : Chg (ftr tp lv) w w') (hT : RefI w' tp lv' ts') (hf : ∀ b, ftr tp lv' b → ftr tp lv b ∨ w.heap.size ≤ b) (hts : ts'.length ≤ 60 * (k + 1)) (hk : k < 1000) : RBI w' p tp lv' LV rows (k + 1) ⟨ts', s.ti, s.L⟩ := by
  obtain ⟨h1, h2, h3⟩ := h.apart
  have h4 := h.own.chg hg (fun b hb => h3 b hb)
  have h5 : LinesI w (ftR p tp lv' LV) rows s.L := h.lines.mono (fun b hb => by
    rcases hb with hb | hb | hb
    · exact .inl (.inl hb)
    · exact (hf b hb).imp (fun h => .inr (.inl h)) (fun h => h)
    · exact .inl (.inr (.inr hb)))
  have h6 : LinesI w' (ftR p tp lv' LV) rows s.L :=
    ⟨fun i r hr hj => (h.lines.at_ i r hr hj).chg hg (fun h0 ad e hb => ((h.lines.ap r (List.mem_of_getElem? hr)).2 h0 ad e).1 (.inr (.inl hb))), fun r hr => ⟨(h5.ap r hr).1, fun h0 ad e => ⟨((h5.ap r hr).2 h0 ad e).1, by have := ((h5.ap r hr).2 h0 ad e).2; have := hg.size; omega⟩⟩, h.lines.no⟩
  exact ⟨hg.by_ h.cells h2, hT, h4, h6, by have := h.many; omega, h.t0, h.t1, hts, by omega⟩
end Go.Proofs.Ytbkcpgaicoagfaa
