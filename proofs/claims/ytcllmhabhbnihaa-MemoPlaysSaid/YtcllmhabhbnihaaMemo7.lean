/- Memo: slices.Delete of the first entry; Clone; New, List, Has, Drop. -/
import Derived.Test.YtcllmhabhbnihaaMemo6
import Derived.Test.YtcllmhabhbnihaaReg6
set_option linter.unusedVariables false
set_option linter.unusedSimpArgs false
namespace Go.Proofs.Ytcllmhabhbnihaa
open Go.RowKit

section
variable {ops : Array Oper} {rest : List Oper} {o : Oper} {a : Act} {Q : Exit → Act → World → Prop} {W : World} {base : Nat}
/-- append(v, us...) within the row's room. -/
theorem appFit {e sl : TypeId} {sz by_ : Nat} {z : Value} (hsl : Try.prog.underlying sl = some (.slice e)) (hinf : (Try.prog.info? e).map (fun i => (i.zero, i.size, i.bytes)) = some (some z, sz, by_)) (hsz : 0 < sz)
    (hgd : o.guard = none ∨ Region.wanted o (yielded ops a.tmps) = true) {s x : Operand} (ho : o.op = .call { callee := .builtin .append, args := #[s, x], argTypes := #[sl, sl] })
    {g n m c d : Nat} {vs us : List Value} {A : Option Addr} (hs : a.eval s = .slice (some ⟨g, 0, none⟩) n c) (hx : a.eval x = .slice A m d) (HO : OwnV e sz W base (.slice (some ⟨g, 0, none⟩) n c) n vs) (HR : RdV sz W A m us) (h1 : ∀ u ∈ us, u.oneCell' = true) (hl : n + m ≤ c)
    (h : ∀ w1, OwnV e sz w1 base (.slice (some ⟨g, 0, none⟩) (n + m) c) (n + m) (vs ++ us) → W.grownBy w1 (some g) → wpList Try.prog ops Q rest (a.put o.dst (.slice (some ⟨g, 0, none⟩) (n + m) c)) w1) :
    wpList Try.prog ops Q (o :: rest) a W := by
  obtain ⟨i0, hi, hz0, hz1, hz2⟩ := info_parts hinf
  have hw : Region.wanted o (yielded ops a.tmps) = true := by
    rcases hgd with h | h
    · simp [Region.wanted, h]
    · exact h
  have hrun : ∃ w1, (Builtin.append_ #[sl, sl] o.type #[.slice (some ⟨g, 0, none⟩) n c, .slice A m d]).run Try.prog W = .ok (.slice (some ⟨g, 0, none⟩) (n + m) c) w1 ∧ OwnV e sz w1 base (.slice (some ⟨g, 0, none⟩) (n + m) c) (n + m) (vs ++ us) ∧ W.grownBy w1 (some g) := by
    rcases Nat.eq_zero_or_pos m with h0 | h0
    · subst h0
      have h0' : us = [] := List.eq_nil_of_length_eq_zero (by have := HR.len; omega)
      subst h0'
      refine ⟨W, ?_, ⟨by simpa using HO.own⟩, ⟨rfl, rfl, rfl, Nat.le_refl _, fun _ _ _ => rfl⟩⟩
      have hnc : n ≤ c := by omega
      cases A <;> simp [Builtin.append_, run_underlying hsl, sizeOf, typeInfo, hi, Builtin.lenOf, Builtin.firstCells, hnc, storeCells, loadCells, loadCellsFrom]
    · obtain ⟨b, o', rfl, hc⟩ := HR.cells (Nat.mul_pos h0 hsz)
      obtain ⟨w1, hr, hown, hg⟩ := run_append_fits (P := Try.prog) W base sl o.type e i0 sz hsl hi hz1 g n c vs HO.own ⟨b, o', none⟩ m d us HR.len (fun j u hu => by rw [add_plain]; exact hc j u hu) h1 hl
      exact ⟨w1, hr, ⟨hown⟩, hg⟩
  obtain ⟨w1, hr, hO1, hg⟩ := hrun
  refine wpList_step fun K hK => ?_
  rw [if_pos hw]
  unfold Oper.wp execOp
  simp only [ho, resolve, invoke, builtin, Sem.run_bind, Sem.run_pure, Result.andThen_ok, List.map_toArray, List.map_cons, List.map_nil, hs, hx, hr]
  exact hK _ _ (h w1 hO1 hg)
end

set_option maxRecDepth 100000 in
set_option maxHeartbeats 3200000 in
theorem delete1_any (g n c : Nat) (base : Nat) (l : List Ask) (w : World) (hn : l.length = n + 1) (hO : OwnV 32 6 w base (.slice (some ⟨g, 0, none⟩) (n + 1) c) (n + 1) (acs l)) :
    Calls Try.prog 26 #[.slice (some ⟨g, 0, none⟩) (n + 1) c, .int .i64 0, .int .i64 1] w fun e w' => e = .returned (.slice (some ⟨g, 0, none⟩) n c) ∧ OwnV 32 6 w' base (.slice (some ⟨g, 0, none⟩) n c) n (acs (l.drop 1)) ∧ w.grownBy w' (some g) := by
  obtain ⟨A, c', e, hnc, hc, hr⟩ := hO.rd
  cases e
  have hs0 : OwnV 32 6 w base (.slice (some ⟨g, 0, none⟩) 0 c) 0 [] := by
    have := hO.shrink (Nat.zero_le _)
    simpa using this
  have hr1 := RdV.dropA (c := c) hr (i := 1) (by omega) hnc
  rw [show n + 1 - 1 = n by omega] at hr1
  have hcut0 := cutA_hi (kh := .i64) (some ⟨g, 0, none⟩) (n + 1) c 0 (by omega)
  have hcut1 := cutA_lo (kl := .i64) (some ⟨g, 0, none⟩) (n + 1) c 1 (by omega) hnc
  rw [show n + 1 - 1 = n by omega] at hcut1
  have hcut2 := cutA_lh (kl := .i64) (kh := .i64) (some ⟨g, 0, none⟩) n c n (n + 1) (by omega) (by omega)
  rw [show n + 1 - n = 1 by omega] at hcut2
  obtain ⟨A1, hA1⟩ : ∃ A1, (if c = 1 then (some ⟨g, 0, none⟩ : Option Addr) else (some ⟨g, 0, none⟩ : Option Addr).map (·.add (1 * 6))) = A1 := ⟨_, rfl⟩
  obtain ⟨A2, hA2⟩ : ∃ A2, (if c = n then (some ⟨g, 0, none⟩ : Option Addr) else (some ⟨g, 0, none⟩ : Option Addr).map (·.add (n * 6))) = A2 := ⟨_, rfl⟩
  have hA20 : A2 = some ⟨g, n * 6, none⟩ := by rw [← hA2, if_neg (by omega)]; simp [add_plain]
  rw [hA1] at hr1 hcut1
  rw [hA2] at hcut2
  have HR1 := Lib.hid hr1
  have HS0 := Lib.hid hs0
  have HA20 := Lib.hid hA20
  clear hr1 hs0 hA1 hA2 hA20 hO hr hn
  simp only [show ((0 : Nat) : Int) = 0 from rfl] at hcut0
  simp only [show ((1 : Nat) : Int) = 1 from rfl] at hcut1
  simp only [show ((n + 1 : Nat) : Int) = (n : Int) + 1 by omega] at hcut2
  go_enter Try.func26, Try.ntmps26
  go_wp2_with fail
  refine region_split 6 [[], [], [(0, 20), (1, 21)], [], [], [(3, 23), (4, 24)], [(0, 20), (1, 21), (2, 22), (3, 23), (4, 24), (5, 25)], [(0, 20), (1, 21), (2, 22), (3, 23), (4, 24), (5, 25), (6, 26)]] [(0, 20), (1, 21), (2, 22), (3, 23), (4, 24), (5, 25)] (fun
    | 0 => .eqv (.slice (some ⟨g, 0, none⟩) (n + 1) c) | 1 => .eqv (.int .i64 0) | 2 => .eqv (.slice (some ⟨g, 0, none⟩) 0 c) | 3 => .eqv (.slice (some ⟨g, 0, none⟩) (n + 1) c) | 4 => .eqv (.int .i64 1) | 5 => .eqv (.slice A1 n (c - 1)) | _ => .any) (by kernel_rfl) ?_ ?_
  · refine ⟨fun u hu => ?_, fun u hu => ?_, fun u hu => ?_, fun u hu => ?_, fun u hu => ?_, fun u hu => ?_, trivial⟩
    · refine StepGoal.nil ?_
      go_wp2
      exact ⟨rfl, rfl, Grew.rf _, rfl⟩
    · refine StepGoal.nil ?_
      go_wp2
      exact ⟨rfl, rfl, Grew.rf _, rfl⟩
    · rintro _ rfl _ rfl
      refine StepGoal.nil ?_
      simp only [Act.put, List.setIfInBounds_toArray, List.set_cons_zero, List.set_cons_succ]
      go_wp2
      exact ⟨rfl, rfl, Grew.rf _, rfl⟩
    · refine StepGoal.nil ?_
      go_wp2
      exact ⟨rfl, rfl, Grew.rf _, rfl⟩
    · refine StepGoal.nil ?_
      go_wp2
      exact ⟨rfl, rfl, Grew.rf _, rfl⟩
    · rintro _ rfl _ rfl
      refine StepGoal.nil ?_
      simp only [Act.put, List.setIfInBounds_toArray, List.set_cons_zero, List.set_cons_succ]
      go_wp2
      exact ⟨rfl, rfl, Grew.rf _, rfl⟩
  · intro u hu
    rintro _ rfl _ rfl _ rfl _ rfl _ rfl _ rfl
    refine StepGoal.nil ?_
    simp only [Act.put, List.setIfInBounds_toArray, List.set_cons_zero, List.set_cons_succ]; simp only [List.drop_succ_cons, List.drop_zero]
    refine appFit Try.underlying39 infoA (by decide) (.inl rfl) rfl rfl rfl (HS0.out.keep hu) (HR1.out.keep hu) (acs_one _) (by omega) ?_
    intro w1 ho1 hg1
    rw [Nat.zero_add, List.nil_append] at ho1
    rw [Nat.zero_add]
    obtain ⟨W', hcl, hO', hg'⟩ := clear_row ho1 n (Nat.le_refl _) A2 1 (c - n) (fun _ => HA20.out) (by omega)
    have HO' := Lib.hid hO'
    have HG' := Lib.hid hg'
    have HG1 := Lib.hid hg1
    have HU := Lib.hid hu
    clear hO' hg' hg1 hu ho1 hcut0 hcut1
    go_wp2
    go_ret
    have hll := HR1.out.lenA
    refine ⟨rfl, by have := HO'.out; rw [List.take_of_length_le (by omega)] at this; exact this, ?_⟩
    exact ⟨HG'.out.os.trans (HG1.out.os.trans HU.out.os), HG'.out.tape.trans (HG1.out.tape.trans HU.out.tape), HG'.out.output.trans (HG1.out.output.trans HU.out.output), Nat.le_trans HU.out.size (Nat.le_trans HG1.out.size HG'.out.size), fun k hk hne => (HG'.out.block k (Nat.lt_of_lt_of_le hk (Nat.le_trans HU.out.size HG1.out.size)) hne).trans ((HG1.out.block k (Nat.lt_of_lt_of_le hk HU.out.size) hne).trans (HU.out.block k hk))⟩

/-! ### Clone; the memo in memory -/
theorem clone_any (A : Option Addr) (n c : Nat) (l : List Ask) (w : World) (hr : RdA w A n l) (hA : A = none → n = 0 ∧ c = 0) (hn : n ≤ 1000) :
    Calls Try.prog 29 #[.slice A n c] w fun e w' => ∃ v, e = .returned v ∧ OwnA w' w.heap.size v l ∧ Grew w w' := by
  have hl := hr.lenA
  have HR := Lib.hid hr
  have HL := Lib.hid hl
  have q39 : ∀ (w : World) (a : Option Addr) (n c : Nat), (binOp .eql 39 (.slice a n c) (.slice none 0 0)).run Try.prog w = .ok (.bool a.isNone) w := fun w a n c => Lib.run_eql_slice_nil w _ _ a n c 0 0 Try.underlying39
  clear hr hl
  cases A with
  | none =>
    obtain ⟨rfl, rfl⟩ := hA rfl
    have HL0 : RowKit.Hid (l = []) := List.eq_nil_of_length_eq_zero HL.out
    go_enter Try.func29, Try.ntmps29
    go_wp2
    go_ret
    exact ⟨_, rfl, by rw [HL0.out]; exact OwnV.nil _ _ _ _, Grew.rf w⟩
  | some ad =>
    clear hA
    go_enter Try.func29, Try.ntmps29
    go_wp2_with ((with_reducible refine gate_b .append #[.tmp 5, .tmp 6] _ rfl ?_); refine appV Try.underlying39 infoA zero_ask (by decide) (by decide) (.inl rfl) rfl rfl rfl (ownV_lit0 32 6 w) (HR.out.keep ((Grew.rf w).al (.cells #[] 32))) (acs_one _) (by simp) (by omega) ?_; intro v1 w1 ho1 hg1 hat1; simp only [Nat.zero_add, List.nil_append] at ho1)
    go_ret
    refine ⟨_, rfl, ?_, ((Grew.rf w).al (.cells #[] 32)).grown hg1 (by simp) (fun k e => by cases e; exact Nat.le_refl _)⟩
    show OwnV _ _ _ _ _ _ _
    rw [HL.out]
    exact ho1
/-- The memo at block p. -/
structure MemoI (w : World) (p : Nat) (lv : Value) (most : Nat) (l : List Ask) : Prop where
  cells : w.heap[p]? = some (.cells #[.int .i64 (most : Int), lv] 47)
  list : OwnA w 0 lv l
  few : l.length ≤ most
  pos : 1 ≤ most
  most : most ≤ 64
def ftm (p : Nat) (lv : Value) (k : Nat) : Prop := k = p ∨ lv.ownBlock = some k
theorem MemoI.apart {w : World} {p : Nat} {lv : Value} {m : Nat} {l : List Ask} (h : MemoI w p lv m l) : lv.ownBlock ≠ some p := fun e => by
  obtain ⟨cur, hc⟩ := h.list.block e
  rw [h.cells] at hc
  simp only [Option.some.injEq, Obj.cells.injEq] at hc
  exact absurd hc.2.1 (by decide)
theorem MemoI.lt {w : World} {p : Nat} {lv : Value} {m : Nat} {l : List Ask} (h : MemoI w p lv m l) {k : Nat} (hk : ftm p lv k) : k < w.heap.size := by
  rcases hk with rfl | hk
  · exact (Array.getElem?_eq_some_iff.1 h.cells).1
  · exact h.list.lt hk
theorem MemoI.chg {w w' : World} {p : Nat} {lv : Value} {m : Nat} {l : List Ask} {F : Nat → Prop} (h : MemoI w p lv m l) (hg : Chg F w w') (hF : ∀ k, ftm p lv k → ¬ F k) : MemoI w' p lv m l :=
  ⟨hg.by_ h.cells (hF p (.inl rfl)), h.list.chg hg (fun k hk => hF k (.inr hk)), h.few, h.pos, h.most⟩
theorem MemoI.keep {w w' : World} {p : Nat} {lv : Value} {m : Nat} {l : List Ask} (h : MemoI w p lv m l) (hg : Grew w w') : MemoI w' p lv m l := h.chg (F := fun _ => False) (Chg.of hg) (fun _ _ h => h)
theorem mnew_any (most : Nat) (w : World) (h1 : 1 ≤ most) (h2 : most ≤ 64) : Calls Try.prog 6 #[.int .i64 (most : Int)] w fun e w' => ∃ p, e = .returned (.tuple #[.pointer (some ⟨p, 0, none⟩), .int .i64 0]) ∧ MemoI w' p (.slice none 0 0) most [] ∧ Grew w w' ∧ w.heap.size ≤ p := by
  go_enter Try.func6, Try.ntmps6
  go_wp2
  go_ret2
  exact ⟨_, rfl, ⟨heap_alloc_new w _, OwnV.nil _ _ _ _, by simp, h1, h2⟩, (Grew.rf w).al _, Nat.le_refl _⟩
theorem mnew_none (most : Int) (w : World) (h1 : most < 1 ∨ 64 < most) : Calls Try.prog 6 #[.int .i64 most] w fun e w' => e = .returned (.tuple #[.pointer none, .int .i64 1]) ∧ w = w' := by
  rcases h1 with h1 | h1
  · go_enter Try.func6, Try.ntmps6
    go_wp2
    go_ret2
    exact ⟨rfl, rfl⟩
  · have h2 : ¬ most < 1 := by omega
    go_enter Try.func6, Try.ntmps6
    go_wp2
    go_ret2
    exact ⟨rfl, rfl⟩
theorem mlist_any (p : Nat) (lv : Value) (m : Nat) (l : List Ask) (w : World) (hM : MemoI w p lv m l) :
    Calls Try.prog 16 #[.pointer (some ⟨p, 0, none⟩)] w fun e w' => ∃ B c, e = .returned (.slice B l.length l.length) ∧ OwnV 32 6 w' w.heap.size (.slice B l.length c) l.length (acs l) ∧ Grew w w' := by
  have hO := hM.list
  have hfew := hM.few
  have hmm := hM.most
  obtain ⟨A, c, rfl, hnc, hc, hr⟩ := hO.rd
  have hAn : A = none → l.length = 0 ∧ c = 0 := fun e => by
    rcases hO.own.2 with ⟨hv, h0⟩ | ⟨g, cp, cur, hv, _⟩
    · simp only [Value.slice.injEq] at hv; exact ⟨h0, hv.2.2⟩
    · simp only [Value.slice.injEq] at hv; rw [hv.1] at e; cases e
  have hce := cell_of_heap (i := 1) hM.cells rfl
  simp only [List.getElem_toArray, List.getElem_cons_zero, List.getElem_cons_succ] at hce
  have hcl := clone_any A l.length c l w hr hAn (by omega)
  have HCL := Lib.hid hcl
  obtain ⟨n, hn⟩ : ∃ n, l.length = n := ⟨_, rfl⟩
  rw [hn] at HCL hce ⊢
  have HN := Lib.hid hn
  clear hcl hAn hr hO hM hn hnc
  go_enter Try.func16, Try.ntmps16
  go_wp2_with (first | (go_at_call 29; refine Calls.mono HCL.out ?_; rintro e w1 ⟨v1, rfl, ho1, hg1⟩; obtain ⟨A1, c1, rfl, hn1, hm1, hr1⟩ := ho1.rd; rw [HN.out] at hn1 hr1 ⊢) | (go_at_call 28; refine Calls.mono (clipA_any _ _ _ _ hn1 hm1) ?_; rintro e w' ⟨rfl, rfl⟩))
  go_ret
  have ho2 : OwnV _ _ _ _ _ _ _ := ho1
  rw [HN.out] at ho2
  exact ⟨_, _, rfl, ho2, hg1⟩
theorem mlist_none (w : World) : Calls Try.prog 16 #[.pointer none] w fun e w' => e = .returned (.slice none 0 0) ∧ w = w' := by
  go_enter Try.func16, Try.ntmps16
  go_wp2
  go_ret
  exact ⟨rfl, rfl⟩
end Go.Proofs.Ytcllmhabhbnihaa
