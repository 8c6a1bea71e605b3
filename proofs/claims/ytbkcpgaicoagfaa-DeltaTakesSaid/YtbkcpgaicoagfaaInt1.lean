/- Intern: the walks of tell, Len, New. -/
import Derived.Test.YtbkcpgaicoagfaaTab
import Derived.Test.YtbkcpgaicoagfaaReg6
set_option linter.unusedVariables false
set_option linter.unusedSimpArgs false
namespace Go.Proofs.Ytbkcpgaicoagfaa
open Go.RowKit

theorem cell_of_heap {w : World} {b i : Nat} {cs : Array Value} {t : TypeId} {v : Value} (h : w.heap[b]? = some (.cells cs t)) (hv : cs[i]? = some v) : w.cell? ⟨b, i, none⟩ = some v := by simp [World.cell?, h, hv]
theorem frozen_of_heap {w : World} {b i : Nat} {cs : Array Value} {t : TypeId} (h : w.heap[b]? = some (.cells cs t)) : w.frozen? ⟨b, i, none⟩ = false := by simp [World.frozen?, h]
theorem heap_keep {w w' : World} {b : Nat} {o : Obj} (hg : Grew w w') (h : w.heap[b]? = some o) : w'.heap[b]? = some o := (hg.block b (Array.getElem?_eq_some_iff.1 h).1).trans h
theorem setCell_heap_other (w : World) (p : Addr) (v : Value) {k : Nat} (h : k ≠ p.block) : (w.setCell p v).heap[k]? = w.heap[k]? := by
  simp [World.setCell, Array.getElem?_modify, Ne.symm h]
theorem setCell_heap_same {w : World} {b i : Nat} {cs : Array Value} {t : TypeId} (h : w.heap[b]? = some (.cells cs t)) (v : Value) : (w.setCell ⟨b, i, none⟩ v).heap[b]? = some (.cells (cs.setIfInBounds i v) t) := by
  simp [World.setCell, Array.getElem?_modify, h]
theorem setCell_size (w : World) (p : Addr) (v : Value) : (w.setCell p v).heap.size = w.heap.size := by simp [World.setCell]
theorem setCell_by (w : World) (p : Addr) (v : Value) : w.grownBy (w.setCell p v) (some p.block) :=
  ⟨rfl, rfl, rfl, by rw [setCell_size]; exact Nat.le_refl _, fun k _ hk => setCell_heap_other _ _ _ (fun e => hk (by rw [e]))⟩
theorem by_keep {w w' : World} {row : Option Nat} {b : Nat} {o : Obj} (hg : w.grownBy w' row) (h : w.heap[b]? = some o) (hne : row ≠ some b) : w'.heap[b]? = some o := (hg.block b (Array.getElem?_eq_some_iff.1 h).1 (fun e => hne e.symm)).trans h
theorem rdV_lit1 (W : World) (v : Value) (t : TypeId) : RdV 1 (W.alloc (.cells #[v] t)) (some ⟨W.heap.size, 0, none⟩) 1 [v] :=
  ⟨rfl, fun _ => ⟨_, 0, rfl, fun j u hj => by
    have : j = 0 := by have := (List.getElem?_eq_some_iff.1 hj).1; simp at this; exact this
    subst this
    simp at hj
    subst hj
    rw [World.cell?_alloc_new]
    rfl⟩⟩
theorem TabI.apart {w : World} {p : Nat} {lv : Value} {mb : Nat} {ts : List ByteArray} (h : TabI w p lv mb ts) : mb ≠ p ∧ lv.ownBlock ≠ some p ∧ lv.ownBlock ≠ some mb := by
  obtain ⟨es, c, hm⟩ := h.map.isMap
  refine ⟨fun e => ?_, fun e => ?_, fun e => ?_⟩
  · rw [e, h.cells] at hm; cases hm
  · obtain ⟨cur, hc⟩ := h.list.block e
    rw [h.cells] at hc
    simp only [Option.some.injEq, Obj.cells.injEq] at hc
    exact absurd hc.2.1 (by decide)
  · obtain ⟨cur, hc⟩ := h.list.block e
    rw [hm] at hc; cases hc
theorem TabI.lt {w : World} {p : Nat} {lv : Value} {mb : Nat} {ts : List ByteArray} (h : TabI w p lv mb ts) {k : Nat} (hk : ftp p lv mb k) : k < w.heap.size := by
  rcases hk with rfl | rfl | hk
  · exact (Array.getElem?_eq_some_iff.1 h.cells).1
  · exact h.map.lt
  · exact h.list.lt hk
theorem TabI.chg {w w' : World} {p : Nat} {lv : Value} {mb : Nat} {ts : List ByteArray} {F : Nat → Prop} (h : TabI w p lv mb ts) (hg : Chg F w w') (hF : ∀ k, ftp p lv mb k → ¬ F k) : TabI w' p lv mb ts := by
  refine ⟨hg.by_ h.cells (hF p (.inl rfl)), ?_, ?_, h.few, h.size⟩
  · have hc : ∀ b, lv.ownBlock = some b → w'.heap[b]? = w.heap[b]? := fun b hb => hg.block b (h.list.lt hb) (hF b (.inr (.inr hb)))
    refine ⟨⟨h.list.own.1, ?_⟩⟩
    rcases h.list.own.2 with h2 | ⟨g, cap, cur, hv, hg2, hh, r⟩
    · exact .inl h2
    · exact .inr ⟨g, cap, cur, hv, hg2, by rw [hc g (by rw [hv]; rfl)]; exact hh, r⟩
  · obtain ⟨D, n, ⟨es, clock, hb, F1, hs, hD⟩, h2⟩ := h.map
    exact ⟨D, n, ⟨es, clock, hg.by_ hb (hF mb (.inr (.inl rfl))), F1, hs, hD⟩, h2⟩
theorem TabI.keep {w w' : World} {p : Nat} {lv : Value} {mb : Nat} {ts : List ByteArray} (h : TabI w p lv mb ts) (hg : Grew w w') : TabI w' p lv mb ts := h.chg (F := fun _ => False) (Chg.of hg) (fun _ _ h => h)

set_option maxRecDepth 100000 in
set_option maxHeartbeats 1600000 in
theorem tell_any (p : Nat) (lv : Value) (mb : Nat) (ts : List ByteArray) (s : ByteArray) (w : World) (hT : TabI w p lv mb ts) (hs : s.size ≤ 1000000) (hn : ts.length < 1000000) (hz : idxT ts s = 0) :
    Calls Try.prog 57 #[.pointer (some ⟨p, 0, none⟩), .string s] w fun e w' => e = .returned (.tuple #[]) ∧ ∃ lv', TabI w' p lv' mb (ts ++ [s]) ∧ Chg (ftp p lv mb) w w' ∧ ∀ k, ftp p lv' mb k → ftp p lv mb k ∨ w.heap.size ≤ k := by
  obtain ⟨hap1, hap2, hap3⟩ := hT.apart
  have hTl := hT.list
  obtain ⟨A, c, rfl, hnc, hc, hrl⟩ := hTl.rd
  have hc0 := cell_of_heap (i := 0) hT.cells rfl
  have hpl := hT.lt (.inl rfl)
  have HT := Lib.hid hT
  clear hT
  go_enter Try.func57, Try.ntmps57
  go_wp2_with ((with_reducible refine gate_b .append #[.tmp 8, .tmp 10] _ rfl ?_); refine appV Try.underlying45 infostr rfl (by decide) (by decide) (.inl rfl) rfl rfl rfl (hTl.keep ((Grew.rf w).al (.cells #[.string s] 9))) (rdV_lit1 w (.string s) 9) (by simp [Value.oneCell']) (Nat.zero_le _) (by omega) ?_; intro v1 w1 ho1 hg1 hat1; obtain ⟨A1, c1, rfl, hn1, hm1, hr1⟩ := ho1.rd; have hcp1 := by_keep hg1 (heap_keep ((Grew.rf w).al (.cells #[.string s] 9)) HT.out.cells) hap2; have hc1 := cell_of_heap (i := 0) hcp1 rfl; have hf1 := frozen_of_heap (i := 0) hcp1)
  have hg1 : (w.alloc (.cells #[.string s] 9)).grownBy w1 (Value.slice A ts.length c).ownBlock := hg1
  have hat1 : (Value.slice A1 (ts.length + 1) c1).ownBlock = (Value.slice A ts.length c).ownBlock ∨ (Value.slice A1 (ts.length + 1) c1).ownBlock = some (w.heap.size + 1) := by
    have h := hat1
    rw [World.size_alloc] at h
    exact h
  have hcp2 := setCell_heap_same hcp1 (i := 0) (.slice A1 (ts.length + 1) c1)
  simp only [Array.setIfInBounds, List.size_toArray] at hcp2
  have hap4 : (Value.slice A1 (ts.length + 1) c1).ownBlock ≠ some p := fun e => by
    rcases hat1 with h | h
    · rw [h] at e; exact hap2 e
    · rw [h] at e; cases e; omega
  have hmb := HT.out.map.lt
  have hM1 : MapT w1 mb ts := (HT.out.map.keep ((Grew.rf w).al _)).kept hg1 (fun e => hap3 e.symm)
  have hM2 : MapT (w1.setCell ⟨p, 0, none⟩ (.slice A1 (ts.length + 1) c1)) mb ts := hM1.kept (setCell_by _ _ _) (by simp; exact hap1)
  have hO2 : OwnV 9 1 (w1.setCell ⟨p, 0, none⟩ (.slice A1 (ts.length + 1) c1)) 0 (.slice A1 (ts.length + 1) c1) (ts.length + 1) (ts.map Value.string ++ [Value.string s]) := ho1.kept (setCell_by _ _ _) (fun b hb he => by cases hb; exact hap4 he)
  have hC2 : Chg (ftp p (.slice A ts.length c) mb) w (w1.setCell ⟨p, 0, none⟩ (.slice A1 (ts.length + 1) c1)) :=
    Chg.tr (Chg.tr (Chg.of ((Grew.rf w).al (.cells #[.string s] 9))) (Chg.ofBy hg1 (fun b hb => .inl (.inr (.inr hb))))) (Chg.ofBy (setCell_by _ _ _) (fun b hb => by cases hb; exact .inl (.inl rfl)))
  have hF2 : ∀ k, ftp p (.slice A1 (ts.length + 1) c1) mb k → ftp p (.slice A ts.length c) mb k ∨ w.heap.size ≤ k := by
    rintro k (rfl | rfl | hk)
    · exact .inl (.inl rfl)
    · exact .inl (.inr (.inl rfl))
    · rcases hat1 with h | h
      · rw [h] at hk; exact .inl (.inr (.inr hk))
      · rw [h] at hk; cases hk; exact .inr (by omega)
  have hs2 : w.heap.size + 1 ≤ (w1.setCell ⟨p, 0, none⟩ (.slice A1 (ts.length + 1) c1)).heap.size := by rw [setCell_size]; have := hg1.size; simp at this; exact this
  obtain ⟨w2, hw2⟩ : ∃ w2, w1.setCell ⟨p, 0, none⟩ (.slice A1 (ts.length + 1) c1) = w2 := ⟨_, rfl⟩
  rw [hw2] at hcp2 hM2 hO2 hC2 hs2 ⊢
  have hcpa : w2.heap[p]? = some (.cells #[.slice A1 (ts.length + 1) c1, .map (some mb)] 117) := hcp2
  have hca := cell_of_heap (i := 0) hcpa rfl
  have hcb := cell_of_heap (i := 1) hcpa rfl
  simp only [List.getElem_toArray, List.getElem_cons_zero, List.getElem_cons_succ] at hca hcb
  have hln : ts.length ≤ 1000000 := by omega
  clear hw2 hcp2 hcp1 hc0 hc1 hf1 hM1 hrl hr1 ho1 hTl hg1 hat1
  refine region_split 11 [[], [(0, 14)], [(1, 15)], [(2, 16)], [], [], [(5, 19)], [(6, 20)], [(7, 21)], [(8, 22)], [(9, 23)], [(0, 14), (1, 15), (2, 16), (3, 17), (4, 18), (5, 19), (6, 20), (7, 21), (8, 22), (9, 23), (10, 24)]] [(0, 14), (1, 15), (2, 16), (3, 17), (4, 18), (5, 19), (6, 20), (7, 21), (8, 22), (9, 23), (10, 24)] (fun
    | 0 => .eqv (.pointer (some ⟨p, 0, none⟩)) | 1 => .eqv (.pointer (some ⟨p, 0, none⟩)) | 2 => .eqv (.pointer (some ⟨p, 1, none⟩)) | 3 => .eqv (.map (some mb)) | 4 => .eqv (.string s) | 5 => .eqv (.pointer (some ⟨p, 0, none⟩)) | 6 => .eqv (.pointer (some ⟨p, 0, none⟩)) | 7 => .eqv (.pointer (some ⟨p, 0, none⟩)) | 8 => .eqv (.slice A1 (ts.length + 1) c1) | 9 => .eqv (.int .i64 ((ts.length : Int) + 1)) | 10 => .eqv (.int .u64 ((ts.length : Int) + 1)) | _ => .any) (by kernel_rfl) ?_ ?_
  · refine ⟨fun u hu => ?_, fun u hu => ?_, fun u hu => ?_, fun u hu => ?_, fun u hu => ?_, fun u hu => ?_, fun u hu => ?_, fun u hu => ?_, fun u hu => ?_, fun u hu => ?_, fun u hu => ?_, trivial⟩
    · refine StepGoal.nil ?_
      go_wp2
      exact ⟨rfl, rfl, Grew.rf _, rfl⟩
    · rintro _ rfl
      refine StepGoal.nil ?_
      simp only [Act.put, List.setIfInBounds_toArray, List.set_cons_zero, List.set_cons_succ]
      go_wp2
      exact ⟨rfl, rfl, Grew.rf _, rfl⟩
    · rintro _ rfl
      refine StepGoal.nil ?_
      simp only [Act.put, List.setIfInBounds_toArray, List.set_cons_zero, List.set_cons_succ]
      go_wp2
      exact ⟨rfl, rfl, Grew.rf _, rfl⟩
    · rintro _ rfl
      have hcb' := hu.ce hcb
      refine StepGoal.nil ?_
      simp only [Act.put, List.setIfInBounds_toArray, List.set_cons_zero, List.set_cons_succ]
      go_wp2
      exact ⟨rfl, rfl, Grew.rf _, rfl⟩
    · refine StepGoal.nil ?_
      go_wp2
      exact ⟨rfl, rfl, Grew.rf _, rfl⟩
    · refine StepGoal.nil ?_
      go_wp2
      exact ⟨rfl, rfl, Grew.rf _, rfl⟩
    · rintro _ rfl
      refine StepGoal.nil ?_
      simp only [Act.put, List.setIfInBounds_toArray, List.set_cons_zero, List.set_cons_succ]
      go_wp2
      exact ⟨rfl, rfl, Grew.rf _, rfl⟩
    · rintro _ rfl
      refine StepGoal.nil ?_
      simp only [Act.put, List.setIfInBounds_toArray, List.set_cons_zero, List.set_cons_succ]
      go_wp2
      exact ⟨rfl, rfl, Grew.rf _, rfl⟩
    · rintro _ rfl
      have hca' := hu.ce hca
      refine StepGoal.nil ?_
      simp only [Act.put, List.setIfInBounds_toArray, List.set_cons_zero, List.set_cons_succ]
      go_wp2
      exact ⟨rfl, rfl, Grew.rf _, rfl⟩
    · rintro _ rfl
      refine StepGoal.nil ?_
      simp only [Act.put, List.setIfInBounds_toArray, List.set_cons_zero, List.set_cons_succ]
      go_wp2
      exact ⟨rfl, rfl, Grew.rf _, rfl⟩
    · rintro _ rfl
      refine StepGoal.nil ?_
      simp only [Act.put, List.setIfInBounds_toArray, List.set_cons_zero, List.set_cons_succ]
      go_wp2
      exact ⟨rfl, rfl, Grew.rf _, rfl⟩
  · intro u hu
    rintro _ rfl _ rfl _ rfl _ rfl _ rfl _ rfl _ rfl _ rfl _ rfl _ rfl _ rfl
    refine StepGoal.nil ?_
    simp only [Act.put, List.setIfInBounds_toArray, List.set_cons_zero, List.set_cons_succ]; simp only [List.drop_succ_cons, List.drop_zero]
    have hMu := hM2.keep hu
    have hC3 : Chg (ftp p (.slice A ts.length c) mb) w u := hC2.tr (Chg.of hu)
    have hOu := hO2.keep hu
    have hpu := heap_keep hu hcpa
    refine upd_num rfl rfl rfl rfl rfl (by omega) (by omega) hMu hz ?_
    intro w3 hM3 hg3
    go_wp2
    go_end0
    have hap5 : (Value.slice A1 (ts.length + 1) c1).ownBlock ≠ some mb := fun e => by
      rcases hF2 mb (.inr (.inr e)) with h | h
      · obtain ⟨es, cl, hm⟩ := hMu.isMap
        obtain ⟨cur, hc⟩ := hOu.block e
        rw [hm] at hc; cases hc
      · omega
    refine ⟨rfl, _, ⟨by_keep hg3 hpu (by simp; exact hap1), ?_, hM3, by simp; omega, ?_⟩, hC3.tr (Chg.ofBy hg3 (fun b hb => by cases hb; exact .inl (.inr (.inl rfl)))), hF2⟩
    · have := hOu.kept hg3 (fun b hb he => by cases hb; exact hap5 he)
      show OwnV _ 1 w3 0 _ (ts ++ [s]).length ((ts ++ [s]).map Value.string)
      rw [List.map_append, List.length_append]
      exact this
    · intro t ht
      rcases List.mem_append.1 ht with h | h
      · exact HT.out.size t h
      · rw [List.mem_singleton] at h; subst h; exact hs

theorem tlen_any (p : Nat) (lv : Value) (mb : Nat) (ts : List ByteArray) (w : World) (hT : TabI w p lv mb ts) :
    Calls Try.prog 25 #[.pointer (some ⟨p, 0, none⟩)] w fun e w' => e = .returned (.int .i64 (ts.length : Int)) ∧ w = w' := by
  obtain ⟨A, c, rfl, hnc, hc, hrl⟩ := hT.list.rd
  have hc0 : w.cell? ⟨p, 0, none⟩ = some (.slice A ts.length c) := cell_of_heap (i := 0) hT.cells rfl
  clear hT
  go_enter Try.func25, Try.ntmps25
  go_wp2
  go_ret
  exact ⟨rfl, rfl⟩
theorem tlen_none (w : World) : Calls Try.prog 25 #[.pointer none] w fun e w' => e = .returned (.int .i64 0) ∧ w = w' := by
  go_enter Try.func25, Try.ntmps25
  go_wp2
  go_ret
  exact ⟨rfl, rfl⟩
theorem tnew_any (w : World) : Calls Try.prog 21 #[] w fun e w' => ∃ p mb, e = .returned (.pointer (some ⟨p, 0, none⟩)) ∧ TabI w' p (.slice none 0 0) mb [] ∧ Grew w w' ∧ w.heap.size ≤ p ∧ w.heap.size ≤ mb := by
  have hmk := fun w => run_makeMap (P := Try.prog) 115 w
  go_enter Try.func21, Try.ntmps21
  go_wp2
  go_ret
  refine ⟨_, _, rfl, ⟨?_, OwnV.nil _ _ _ _, (MapT.made w).keep ((Grew.rf _).al _), by simp, by simp⟩, ((Grew.rf w).al _).al _, by simp, Nat.le_refl _⟩
  have h := heap_alloc_new (w.alloc (.map #[] 0)) (.cells #[.slice none 0 0, .map (some w.heap.size)] 117)
  rw [World.size_alloc] at h
  exact h
end Go.Proofs.Ytbkcpgaicoagfaa
