/- The Book in memory; told. -/
import Derived.Test.YtbkcpgaicoagfaaEg22
import Derived.Test.YtbkcpgaicoagfaaEg25
import Derived.Test.YtbkcpgaicoagfaaEg21
import Derived.Test.YtbkcpgaicoagfaaEg15
set_option linter.unusedVariables false
set_option linter.unusedSimpArgs false
namespace Go.Proofs.Ytbkcpgaicoagfaa
open Go.RowKit

/-- What a Book was told. -/
structure PB where
  ts : List ByteArray
  ti : Int
  L : Int → Bool → List Hdr
def isL (k : Int) : Bool := decide (k = 1) || (decide (k = 2) || decide (k = 3))
def toldB (s : PB) (ts : List ByteArray) (x : Ev) : PB := ⟨ts, x.ti, if isL x.ki then setL s.L x.se (decide (x.ki = 3)) x.hs else s.L⟩
structure BookI (w : World) (p tp : Nat) (lv : Value) (mb lb k : Nat) (s : PB) : Prop where
  cells : w.heap[p]? = some (.cells #[.pointer (some ⟨tp, 0, none⟩), .int .i64 s.ti, .map (some lb)] 84)
  tab : TabI w tp lv mb s.ts
  map : MapL w lb k s.L
  ne : lb ≠ mb
  t0 : 0 ≤ s.ti
  t1 : s.ti ≤ 1099511627776
  few : s.ts.length ≤ 60 * k
  kk : k ≤ 1000
/-- What a Book holds. -/
def ftb (p tp : Nat) (lv : Value) (mb lb : Nat) (x : Nat) : Prop := x = p ∨ x = lb ∨ ftp tp lv mb x
theorem ftp_nobook {w : World} {tp : Nat} {lv : Value} {mb : Nat} {ts : List ByteArray} (hT : TabI w tp lv mb ts) {b : Nat} {cs : Array Value} {T : TypeId} {fr : Nat × Nat} (h : w.heap[b]? = some (.cells cs T fr)) (h1 : T ≠ 117) (h2 : T ≠ 9) : ¬ ftp tp lv mb b := by
  rintro (e | e | e)
  · rw [e, hT.cells] at h
    simp only [Option.some.injEq, Obj.cells.injEq] at h
    exact h1 h.2.1.symm
  · obtain ⟨es, c, hm⟩ := hT.map.isMap
    rw [e, hm] at h
    simp at h
  · obtain ⟨cur, hm⟩ := hT.list.block e
    rw [hm] at h
    simp only [Option.some.injEq, Obj.cells.injEq] at h
    exact h2 h.2.1.symm
theorem ftp_nomap {w : World} {tp : Nat} {lv : Value} {mb : Nat} {ts : List ByteArray} (hT : TabI w tp lv mb ts) {b : Nat} {es : Array MapEntry} {c : Nat} (h : w.heap[b]? = some (.map es c)) (hne : b ≠ mb) : ¬ ftp tp lv mb b := by
  rintro (e | e | e)
  · rw [e, hT.cells] at h; simp at h
  · exact hne e
  · obtain ⟨cur, hm⟩ := hT.list.block e
    rw [hm] at h; simp at h
theorem BookI.keep {w w' : World} {p tp : Nat} {lv : Value} {mb lb k : Nat} {s : PB} (h : BookI w p tp lv mb lb k s) (hg : Grew w w') : BookI w' p tp lv mb lb k s :=
  ⟨heap_keep hg h.cells, h.tab.keep hg, h.map.keep hg, h.ne, h.t0, h.t1, h.few, h.kk⟩
theorem BookI.chg {w w' : World} {p tp : Nat} {lv : Value} {mb lb k : Nat} {s : PB} {F : Nat → Prop} (h : BookI w p tp lv mb lb k s) (hg : Chg F w w') (hF : ∀ b, ftb p tp lv mb lb b → ¬ F b) (hH : ∀ k cs fr, w.heap[k]? = some (.cells cs 124 fr) → ¬ F k) : BookI w' p tp lv mb lb k s :=
  ⟨hg.by_ h.cells (hF _ (.inl rfl)), h.tab.chg hg (fun k hk => hF k (.inr (.inr hk))), h.map.chg hg (hF _ (.inr (.inl rfl))) hH, h.ne, h.t0, h.t1, h.few, h.kk⟩
theorem BookI.lt {w : World} {p tp : Nat} {lv : Value} {mb lb k : Nat} {s : PB} (h : BookI w p tp lv mb lb k s) {b : Nat} (hb : ftb p tp lv mb lb b) : b < w.heap.size := by
  rcases hb with rfl | rfl | hb
  · exact (Array.getElem?_eq_some_iff.1 h.cells).1
  · exact h.map.lt
  · exact h.tab.lt hb
/-- The three kinds of blocks lie apart. -/
theorem BookI.apart {w : World} {p tp : Nat} {lv : Value} {mb lb k : Nat} {s : PB} (h : BookI w p tp lv mb lb k s) : p ≠ lb ∧ ¬ ftp tp lv mb p ∧ ¬ ftp tp lv mb lb := by
  obtain ⟨es, c, hm⟩ := h.map.isMap
  refine ⟨fun e => ?_, ftp_nobook h.tab h.cells (by decide) (by decide), ftp_nomap h.tab hm h.ne⟩
  have := h.cells
  rw [e, hm] at this
  simp at this

theorem bnew_any (w : World) : Calls Try.prog 12 #[] w fun e w' => ∃ p tp mb lb, e = .returned (.pointer (some ⟨p, 0, none⟩)) ∧ BookI w' p tp (.slice none 0 0) mb lb 0 ⟨[], 0, fun _ _ => []⟩ ∧ Grew w w' ∧ (∀ b, ftb p tp (.slice none 0 0) mb lb b → w.heap.size ≤ b) := by
  have hn := tnew_any w
  have hmm := @run_makeMap Try.prog
  go_enter Try.func12, Try.ntmps12
  go_wp2_with (go_at_call 21; refine Calls.mono hn ?_; rintro e w2 ⟨tp, mb, rfl, hT, hg, ht, hm⟩)
  go_ret
  have h1 := MapL.made w2
  have hgm : Grew w2 (w2.alloc (.map #[] 0)) := (Grew.rf w2).al _
  have hg2 : Grew (w2.alloc (.map #[] 0)) ((w2.alloc (.map #[] 0)).alloc (.cells #[.pointer (some ⟨tp, 0, none⟩), .int .i64 0, .map (some w2.heap.size)] 84)) := (Grew.rf _).al _
  have hmlt := hT.map.lt
  have hc := heap_alloc_new (w2.alloc (.map #[] 0)) (.cells #[.pointer (some ⟨tp, 0, none⟩), .int .i64 0, .map (some w2.heap.size)] 84)
  rw [World.size_alloc] at hc
  have hsz := hg.size
  refine ⟨w2.heap.size + 1, tp, mb, w2.heap.size, rfl, ⟨hc, hT.keep (hgm.tr hg2), h1.keep hg2, by omega, by simp, by simp, by simp, by simp⟩, hg.tr (hgm.tr hg2), fun b hb => ?_⟩
  rcases hb with rfl | rfl | rfl | rfl | hb
  · omega
  · exact hsz
  · exact ht
  · exact hm
  · cases hb
end Go.Proofs.Ytbkcpgaicoagfaa
/- told. -/
set_option linter.unusedVariables false
set_option linter.unusedSimpArgs false
namespace Go.Proofs.Ytbkcpgaicoagfaa
open Go.RowKit

def ftd (p lb : Nat) (b : Nat) : Prop := b = p ∨ b = lb
/-- Behind told: the Book, and what it may have touched. -/
structure ToldQ (w : World) (p tp : Nat) (lv : Value) (mb lb k : Nat) (s : PB) (w' : World) : Prop where
  book : BookI w' p tp lv mb lb (k + 1) s
  chg : Chg (ftd p lb) w w'
theorem setC_chg (w : World) (p j : Nat) (v : Value) : Chg (fun b => b = p) w (w.setCell ⟨p, j, none⟩ v) := Chg.ofBy (setCell_by w ⟨p, j, none⟩ v) (fun b e => by cases e; rfl)
set_option maxRecDepth 100000 in
set_option maxHeartbeats 3200000 in
theorem told_any (p tp : Nat) (lv : Value) (mb lb k : Nat) (s : PB) (x : Ev) (A : Option Addr) (n c : Nat) (w : World) (hB : BookI w p tp lv mb lb k s) (hr : RdH w A n x.hs) (hA : A = none → n = 0 ∧ c = 0) (hn : n ≤ 25) (hs0 : 0 ≤ x.se) (hs1 : x.se ≤ 1048576) (ht0 : 0 ≤ x.ti) (ht1 : x.ti ≤ 1099511627776) (hAf : 0 < n → ∀ ad, A = some ad → ¬ ftb p tp lv mb lb ad.block) (hk : k < 1000) :
    Calls Try.prog 46 #[.pointer (some ⟨p, 0, none⟩), evV x A n c] w fun e w' => e = .returned (.tuple #[]) ∧ ToldQ w p tp lv mb lb k (toldB s s.ts x) w' := by
  obtain ⟨ki, se, ti, me, ur, hs, bo, st, co, cr, no, nn⟩ := x
  dsimp only at hr hs0 hs1 ht0 ht1
  obtain ⟨ap1, ap2, ap3⟩ := hB.apart
  have hplt := hB.lt (.inl rfl)
  -- the Book once the tick is stored
  have hcl := fun (u : World) (hu : RdH u A n hs) => cloneH_any A n c hs u hu hA (by omega)
  have HL := Lib.hid hr.lenH
  have HCL := Lib.hid hcl
  have HB := Lib.hid hB
  have HR := Lib.hid hr
  clear hcl hA
  go_enter Try.func46, Try.ntmps46
  go_upto_region 1 with fail
  have hq0 := heap_alloc_new w (.cells #[.int .i64 ki, .int .i64 se, .int .i64 ti, .string me, .string ur, .slice A n c, .string bo, .int .i64 st, .int .i64 co, .bool cr, .string no, .int .u64 nn] 34)
  have hgW : Grew w (w.alloc (.cells #[.int .i64 ki, .int .i64 se, .int .i64 ti, .string me, .string ur, .slice A n c, .string bo, .int .i64 st, .int .i64 co, .bool cr, .string no, .int .u64 nn] 34)) := (Grew.rf w).al _
  generalize w.alloc (.cells #[.int .i64 ki, .int .i64 se, .int .i64 ti, .string me, .string ur, .slice A n c, .string bo, .int .i64 st, .int .i64 co, .bool cr, .string no, .int .u64 nn] 34) = W at *
  obtain ⟨hb, hhb⟩ : ∃ hb, w.heap.size = hb := ⟨_, rfl⟩
  rw [hhb] at hq0 hplt ⊢
  have hB1 := HB.out.keep hgW
  have c2 : W.cell? ⟨hb, 2, none⟩ = some (.int .i64 ti) := cell_of_heap hq0 rfl
  have k1 : W.cell? ⟨p, 1, none⟩ = some (.int .i64 s.ti) := cell_of_heap hB1.cells rfl
  have f1 : W.frozen? ⟨p, 1, none⟩ = false := frozen_of_heap hB1.cells
  have hne : hb ≠ p := by omega
  have hx0 := (setCell_heap_other W ⟨p, 1, none⟩ (.int .i64 ti) hne).trans hq0
  have hb0 : (W.setCell ⟨p, 1, none⟩ (.int .i64 ti)).heap[p]? = some (.cells #[.pointer (some ⟨tp, 0, none⟩), .int .i64 ti, .map (some lb)] 84) := by have := setCell_heap_same hB1.cells (i := 1) (.int .i64 ti); simpa using this
  have hch := setC_chg W p 1 (.int .i64 ti)
  have hnoH : ∀ k cs fr, W.heap[k]? = some (.cells cs 124 fr) → ¬ (k = p) := fun k cs fr h e => by
    rw [e, hB1.cells] at h
    simp only [Option.some.injEq, Obj.cells.injEq] at h
    exact absurd h.2.1 (by decide)
  have hT2 := hB1.tab.chg hch (fun k hk e => ap2 (e ▸ hk))
  have hM2 := hB1.map.chg hch (fun e => ap1 e.symm) hnoH
  have hr2 : RdH (W.setCell ⟨p, 1, none⟩ (.int .i64 ti)) A n hs := (HR.out.keep hgW).chg hch (fun h0 ad e e2 => hAf h0 ad e (.inl e2))
  have hB2 : BookI (W.setCell ⟨p, 1, none⟩ (.int .i64 ti)) p tp lv mb lb k ⟨s.ts, ti, s.L⟩ := ⟨hb0, hT2, hM2, HB.out.ne, ht0, ht1, HB.out.few, HB.out.kk⟩
  have hC2 : Chg (ftd p lb) w (W.setCell ⟨p, 1, none⟩ (.int .i64 ti)) := (Chg.of hgW).tr (hch.mono (fun b e => .inl (.inl e)))
  have HX0 := Lib.hid hx0
  have HB2 := Lib.hid hB2
  have HC2 := Lib.hid hC2
  have HR2 := Lib.hid hr2
  clear hq0 hgW hB1 hx0 hb0 hch hnoH hT2 hM2 hr2 hB2 hC2 ht0 ht1
  go_upto_region 2 with fail
  generalize W.setCell ⟨p, 1, none⟩ (.int .i64 ti) = W2 at *
  clear c2 k1 f1
  have c0 : W2.cell? ⟨hb, 0, none⟩ = some (.int .i64 ki) := cell_of_heap HX0.out rfl
  by_cases hkL : isL ki = true
  case neg =>
    have hk0 : isL ki = false := by simpa using hkL
    have h3 : ki ≠ 1 ∧ ki ≠ 2 ∧ ki ≠ 3 := by simpa [isL] using hk0
    obtain ⟨h1, h2, h3⟩ := h3
    have d1 : (ki == 1) = false := by simpa using h1
    have d2 : (ki == 2) = false := by simpa using h2
    have d3 : (ki == 3) = false := by simpa using h3
    have e1 : decide (ki = 1) = false := by simpa using h1
    have e2 : decide (ki = 2) = false := by simpa using h2
    have e3 : decide (ki = 3) = false := by simpa using h3
    clear hkL
    go_wp2_with fail
    refine bodyPost_end (results_none rfl _ _ _) rfl ⟨rfl, ?_, HC2.out⟩
    have ht : toldB s s.ts ⟨ki, se, ti, me, ur, hs, bo, st, co, cr, no, nn⟩ = ⟨s.ts, ti, s.L⟩ := by simp [toldB, hk0]
    rw [ht]
    exact ⟨HB2.out.cells, HB2.out.tab, HB2.out.map.mono (by omega), HB2.out.ne, HB2.out.t0, HB2.out.t1, Nat.le_trans HB2.out.few (by omega), by omega⟩
  case pos =>
  have h123 : ki = 1 ∨ ki = 2 ∨ ki = 3 := by simpa [isL] using hkL
  have htb : toldB s s.ts ⟨ki, se, ti, me, ur, hs, bo, st, co, cr, no, nn⟩ = ⟨s.ts, ti, setL s.L se (decide (ki = 3)) hs⟩ := by simp [toldB, hkL]
  have hof := fun (u : World) => of_any ⟨ki, se, ti, me, ur, hs, bo, st, co, cr, no, nn⟩ A n c u
  dsimp only at hof
  obtain ⟨b3, hb3⟩ : ∃ b3, decide (ki = 3) = b3 := ⟨_, rfl⟩
  rw [hb3] at htb
  have HTB := Lib.hid htb
  simp only [hb3] at hof
  have hce5 : W2.cell? ⟨hb, 5, none⟩ = some (.slice A n c) := cell_of_heap HX0.out rfl
  obtain ⟨xc, hxc⟩ : ∃ xc : Array Value, #[.int .i64 ki, .int .i64 se, .int .i64 ti, .string me, .string ur, .slice A n c, .string bo, .int .i64 st, .int .i64 co, .bool cr, .string no, .int .u64 nn] = xc := ⟨_, rfl⟩
  have hxs : xc.size = 12 := by rw [← hxc]; rfl
  simp only [evV, evA, hxc] at hof
  have hx0 := HX0.out
  rw [hxc] at hx0
  have HOF := Lib.hid hof
  have HX := Lib.hid hx0
  have c8 : W2.cell? ⟨p, 2, none⟩ = some (.map (some lb)) := cell_of_heap HB2.out.cells rfl
  clear htb hb3 hxc hx0 hkL HX0 hof
  rcases h123 with rfl | rfl | rfl
  all_goals
    go_upto_region 6 with fail
    clear c0
    refine region_split 9 [[], [(0, 15)], [(1, 16)], [(2, 17)], [], [(4, 19)], [], [(6, 21)], [(7, 22)], [(0, 15), (1, 16), (2, 17), (3, 18), (4, 19), (5, 20), (6, 21), (7, 22), (8, 23)]] [(0, 15), (1, 16), (2, 17), (3, 18), (4, 19), (5, 20), (6, 21), (7, 22), (8, 23)] (fun
      | 0 => .eqv (.pointer (some ⟨p, 0, none⟩)) | 1 => .eqv (.pointer (some ⟨p, 0, none⟩)) | 2 => .eqv (.pointer (some ⟨p, 2, none⟩)) | 3 => .eqv (.map (some lb)) | 4 => .eqv (.agg xc) | 5 => .eqv (skV se b3) | 6 => .eqv (.pointer (some ⟨hb, 5, none⟩)) | 7 => .eqv (.slice A n c) | 8 => .clonedH n hs | _ => .any) (by kernel_rfl) ?_ ?_
    · refine ⟨fun u hu => ?_, fun u hu => ?_, fun u hu => ?_, fun u hu => ?_, fun u hu => ?_, fun u hu => ?_, fun u hu => ?_, fun u hu => ?_, fun u hu => ?_, trivial⟩
      · refine StepGoal.nil ?_
        go_wp2
        exact ⟨rfl, rfl, Grew.rf _, rfl⟩
      · rintro _ rfl
        refine StepGoal.nil ?_
        simp only [Act.put, List.setIfInBounds_toArray, List.set_cons_zero, List.set_cons_succ]
        go_wp2
        exact ⟨rfl, rfl, Grew.rf _, rfl⟩
      · rintro _ rfl
        refine StepGoal.nil ?_
        simp only [Act.put, List.setIfInBounds_toArray, List.set_cons_zero, List.set_cons_succ]
        go_wp2
        exact ⟨rfl, rfl, Grew.rf _, rfl⟩
      · rintro _ rfl
        have hce := hu.ce c8
        refine StepGoal.nil ?_
        simp only [Act.put, List.setIfInBounds_toArray, List.set_cons_zero, List.set_cons_succ]
        go_wp2
        exact ⟨rfl, rfl, Grew.rf _, rfl⟩
      · have hx9 := heap_keep hu HX.out
        refine StepGoal.nil ?_
        go_wp2_with (refine ld_row (.inl rfl) rfl rfl hx9 rfl Try.underlying34 (by rw [hxs]; kernel_rfl) ?_)
        exact ⟨rfl, rfl, Grew.rf _, rfl⟩
      · rintro _ rfl
        refine StepGoal.nil ?_
        simp only [Act.put, List.setIfInBounds_toArray, List.set_cons_zero, List.set_cons_succ]
        go_wp2_with (go_at_call 45; refine Calls.mono (HOF.out _) ?_; rintro e w3 ⟨rfl, hg3⟩)
        exact ⟨rfl, rfl, hg3, rfl⟩
      · refine StepGoal.nil ?_
        go_wp2
        exact ⟨rfl, rfl, Grew.rf _, rfl⟩
      · rintro _ rfl
        have hce := hu.ce hce5
        refine StepGoal.nil ?_
        simp only [Act.put, List.setIfInBounds_toArray, List.set_cons_zero, List.set_cons_succ]
        go_wp2
        exact ⟨rfl, rfl, Grew.rf _, rfl⟩
      · rintro _ rfl
        refine StepGoal.nil ?_
        simp only [Act.put, List.setIfInBounds_toArray, List.set_cons_zero, List.set_cons_succ]
        go_wp2_with (go_at_call 68; refine Calls.mono (HCL.out _ (HR2.out.keep hu)) ?_; rintro e w2 ⟨v2, rfl, ho2, hg2⟩)
        obtain ⟨B, d, rfl, hd1, hd2, hrd⟩ := ho2.rd; have hbk := ho2.hdB; rw [HL.out] at hd1 hrd ⊢; exact ⟨rfl, rfl, hg2, B, d, rfl, hd1, hd2, hrd, hbk⟩
    · intro u hu
      rintro _ rfl _ rfl _ rfl _ rfl _ rfl _ rfl _ rfl _ rfl v23 h23
      refine StepGoal.nil ?_
      simp only [Act.put, List.setIfInBounds_toArray, List.set_cons_zero, List.set_cons_succ]; simp only [List.drop_succ_cons, List.drop_zero]
      obtain ⟨B, d, rfl, hd1, hd2, hrd, hbk⟩ : (Pd.clonedH n hs).p v23 u := h23
      have hMu := HB2.out.map.keep hu
      refine upd_list rfl rfl rfl rfl rfl (by omega) (by omega) (by omega) hMu ⟨hrd, hd1, hd2, hn, hbk⟩ ?_
      intro w3 hM3 hg3
      have hBu := HB2.out.keep hu
      have hch3 := chg1 hg3
      have hcell := hch3.by_ hBu.cells ap1
      have htab := hBu.tab.chg hch3 (fun k hk e => ap3 (e ▸ hk))
      have hC3 : Chg (ftd p lb) w w3 := (HC2.out.tr (Chg.of hu)).tr (hch3.mono (fun b e => .inl (.inr e)))
      have HBK : RowKit.Hid (BookI w3 p tp lv mb lb (k + 1) ⟨s.ts, ti, setL s.L se b3 hs⟩) := ⟨hcell, htab, hM3, hBu.ne, hBu.t0, hBu.t1, Nat.le_trans hBu.few (by omega), by omega⟩
      clear hcell htab hM3 hBu hch3 hg3 hMu hrd hbk hu
      go_wp2_with fail
      exact bodyPost_end (results_none rfl _ _ _) rfl ⟨rfl, by rw [HTB.out]; exact HBK.out, hC3⟩
end Go.Proofs.Ytbkcpgaicoagfaa
/- The reader: number, small. -/
set_option linter.unusedVariables false
set_option linter.unusedSimpArgs false
namespace Go.Proofs.Ytbkcpgaicoagfaa
open Go.RowKit

/-- The reader's box. -/
abbrev rdC (A : Option Addr) (n c : Nat) (at_ er : Int) : Array Value := #[.slice A n c, .int .i64 at_, .int .i64 er]
structure RdI (w : World) (rb : Nat) (A : Option Addr) (n c : Nat) (bs : List Int) (at_ er : Int) : Prop where
  box : w.heap[rb]? = some (.cells (rdC A n c at_ er) 106)
  rd : Rd w A n bs
  byt : Byt bs
  le : n ≤ c
  cap : c ≤ 9223372036854775807
  few : n ≤ 5000000
  ap : 0 < n → ∀ ad, A = some ad → ad.block ≠ rb
  a0 : -9223372036854775808 ≤ at_
  a1 : at_ ≤ 9223372036854775807
/-- What reading a number comes to: the number, the place behind, the error. -/
def numR (bs : List Int) (at_ er : Int) : Int × Int × Int := if er = 0 then lebTake bs at_ else (0, at_, er)
/-- Behind it. -/
structure RdQ (w : World) (rb : Nat) (A : Option Addr) (n c : Nat) (bs : List Int) (at_ er : Int) (w' : World) : Prop where
  rdr : RdI w' rb A n c bs at_ er
  chg : Chg (fun b => b = rb) w w'

set_option maxRecDepth 100000 in
set_option maxHeartbeats 3200000 in
theorem number_any (rb : Nat) (A : Option Addr) (n c : Nat) (bs : List Int) (at_ er v nx e : Int) (w : World) (hR : RdI w rb A n c bs at_ er) (he : numR bs at_ er = (v, nx, e)) (hn0 : -9223372036854775808 ≤ nx) (hn1 : nx ≤ 9223372036854775807) :
    Calls Try.prog 53 #[.pointer (some ⟨rb, 0, none⟩)] w fun e' w' => e' = .returned (.int .u64 v) ∧ RdQ w rb A n c bs nx e w' := by
  have c2 : w.cell? ⟨rb, 2, none⟩ = some (.int .i64 er) := cell_of_heap hR.box rfl
  have HR := Lib.hid hR
  clear hR
  by_cases h0 : er = 0
  · subst h0
    have he' : lebTake bs at_ = (v, nx, e) := by simpa [numR] using he
    have htk := fun (u : World) (hr : Rd u A n bs) => take_to4 A n c bs at_ v nx e he' u hr HR.out.byt HR.out.le (by have := HR.out.few; omega) HR.out.a0 HR.out.a1
    have hch : ∀ u, Chg (fun b => b = rb) w u → Rd u A n bs := fun u hu => HR.out.rd.chg hu (fun h ad e => HR.out.ap h ad e)
    have HTK := Lib.hid htk
    have HCH := Lib.hid hch
    have hbox := HR.out.box
    have HBOX := Lib.hid hbox
    clear he he' htk hch hbox
    go_enter Try.func53, Try.ntmps53
    go_upto_region 2 with fail
    clear c2
    refine region_box0 rb 106 (rdC A n c at_ 0) [(18, 1, (.int .i64 nx)), (21, 2, (.int .i64 e))] [(9, 1)] (fun u => Chg (fun b => b = rb) w u) (fun u u' h hg => h.tr (Chg.of hg)) (fun u j x h => h.tr ((setC_chg u rb j x).mono (fun b e => .inl e))) (Chg.of (Grew.rf w)) HBOX.out [[], [], [], [(2, 11)], [(3, 12)], [(4, 13)], [], [(6, 15)], [(7, 16)], [(8, 17)], [(5, 14), (9, 18)], [(10, 19)], [(11, 8)], [(11, 8)], [(11, 8)], [(12, 20)], [(0, 9)], [(16, 23)], [(13, 21), (17, 24)], [(1, 10)], [(19, 25)], [(14, 22), (20, 26)]] [(0, 9), (1, 10), (2, 11), (3, 12), (4, 13), (5, 14), (6, 15), (7, 16), (8, 17), (9, 18), (10, 19), (11, 8), (12, 20), (13, 21), (14, 22), (15, 2), (16, 23), (17, 24), (19, 25), (20, 26)] (fun
      | 0 => .eqv (.pointer (some ⟨rb, 0, none⟩)) | 1 => .eqv (.pointer (some ⟨rb, 0, none⟩)) | 2 => .eqv (.pointer (some ⟨rb, 0, none⟩)) | 3 => .eqv (.pointer (some ⟨rb, 0, none⟩)) | 4 => .eqv (.pointer (some ⟨rb, 0, none⟩)) | 5 => .eqv (.slice A n c) | 6 => .eqv (.pointer (some ⟨rb, 0, none⟩)) | 7 => .eqv (.pointer (some ⟨rb, 0, none⟩)) | 8 => .eqv (.pointer (some ⟨rb, 1, none⟩)) | 9 => .eqv (.int .i64 at_) | 10 => .eqv (.tuple #[.int .u64 v, .int .i64 nx, .int .i64 e]) | 11 => .eqv (.tuple #[.int .u64 v, .int .i64 nx, .int .i64 e]) | 12 => .eqv (.int .u64 v) | 13 => .eqv (.int .i64 nx) | 14 => .eqv (.int .i64 e) | 15 => .eqv (.int .u64 v) | 16 => .eqv (.pointer (some ⟨rb, 0, none⟩)) | 17 => .eqv (.pointer (some ⟨rb, 1, none⟩)) | 18 => .cel 1 (.int .i64 nx) | 19 => .eqv (.pointer (some ⟨rb, 0, none⟩)) | 20 => .eqv (.pointer (some ⟨rb, 2, none⟩)) | 21 => .cel 2 (.int .i64 e) | _ => .any) (by kernel_rfl) (by kernel_rfl) (by kernel_rfl) ?hlf ?hsteps ?hend
    case hlf => intro p hp v u h; simp only [List.mem_cons, List.not_mem_nil, or_false] at hp; rcases hp with rfl | rfl <;> exact h
    case hsteps =>
      refine ⟨fun u hu hx => ?_, fun u hu hx => ?_, fun u hu hx => ?_, fun u hu hx => ?_, fun u hu hx => ?_, fun u hu hx => ?_, fun u hu hx => ?_, fun u hu hx => ?_, fun u hu hx => ?_, fun u hu hx => ?_, fun u hu hx => ?_, fun u hu hx => ?_, fun u hu hx => ?_, fun u hu hx => ?_, fun u hu hx => ?_, fun u hu hx => ?_, fun u hu hx => ?_, fun u hu hx => ?_, fun u hu hx => ?_, fun u hu hx => ?_, fun u hu hx => ?_, fun u hu hx => ?_, trivial⟩
      · refine StepGoal.nil ?_
        go_wp2
        exact ⟨rfl, rfl, Grew.rf _, rfl⟩
      · refine StepGoal.nil ?_
        go_wp2
        exact ⟨rfl, rfl, Grew.rf _, rfl⟩
      · refine StepGoal.nil ?_
        go_wp2
        exact ⟨rfl, rfl, Grew.rf _, rfl⟩
      · rintro _ rfl
        refine StepGoal.nil ?_
        simp only [Act.put, List.setIfInBounds_toArray, List.set_cons_zero, List.set_cons_succ]
        go_wp2
        exact ⟨rfl, rfl, Grew.rf _, rfl⟩
      · rintro _ rfl
        refine StepGoal.nil ?_
        simp only [Act.put, List.setIfInBounds_toArray, List.set_cons_zero, List.set_cons_succ]
        go_wp2
        exact ⟨rfl, rfl, Grew.rf _, rfl⟩
      · rintro _ rfl
        have hce := hx.1.cell (j := 0) (.inr (by simp)) rfl
        refine StepGoal.nil ?_
        simp only [Act.put, List.setIfInBounds_toArray, List.set_cons_zero, List.set_cons_succ]
        go_wp2
        exact ⟨rfl, rfl, Grew.rf _, rfl⟩
      · refine StepGoal.nil ?_
        go_wp2
        exact ⟨rfl, rfl, Grew.rf _, rfl⟩
      · rintro _ rfl
        refine StepGoal.nil ?_
        simp only [Act.put, List.setIfInBounds_toArray, List.set_cons_zero, List.set_cons_succ]
        go_wp2
        exact ⟨rfl, rfl, Grew.rf _, rfl⟩
      · rintro _ rfl
        refine StepGoal.nil ?_
        simp only [Act.put, List.setIfInBounds_toArray, List.set_cons_zero, List.set_cons_succ]
        go_wp2
        exact ⟨rfl, rfl, Grew.rf _, rfl⟩
      · rintro _ rfl
        have hce := hx.1.cell (j := 1) (.inl (by decide)) rfl
        refine StepGoal.nil ?_
        simp only [Act.put, List.setIfInBounds_toArray, List.set_cons_zero, List.set_cons_succ]
        go_wp2
        exact ⟨rfl, rfl, Grew.rf _, rfl⟩
      · rintro _ rfl _ rfl
        refine StepGoal.nil ?_
        simp only [Act.put, List.setIfInBounds_toArray, List.set_cons_zero, List.set_cons_succ]
        go_wp2_with (go_at_call 59; refine Calls.mono (HTK.out _ (HCH.out _ hu)) ?_; rintro e' w3 ⟨rfl, rfl⟩)
        exact ⟨rfl, rfl, Grew.rf _, rfl⟩
      · rintro _ rfl
        refine StepGoal.nil ?_
        simp only [Act.put, List.setIfInBounds_toArray, List.set_cons_zero, List.set_cons_succ]
        go_wp2
        exact ⟨rfl, rfl, Grew.rf _, rfl⟩
      · rintro _ rfl
        refine StepGoal.nil ?_
        simp only [Act.put, List.setIfInBounds_toArray, List.set_cons_zero, List.set_cons_succ]
        go_wp2
        exact ⟨rfl, rfl, Grew.rf _, rfl⟩
      · rintro _ rfl
        refine StepGoal.nil ?_
        simp only [Act.put, List.setIfInBounds_toArray, List.set_cons_zero, List.set_cons_succ]
        go_wp2
        exact ⟨rfl, rfl, Grew.rf _, rfl⟩
      · rintro _ rfl
        refine StepGoal.nil ?_
        simp only [Act.put, List.setIfInBounds_toArray, List.set_cons_zero, List.set_cons_succ]
        go_wp2
        exact ⟨rfl, rfl, Grew.rf _, rfl⟩
      · rintro _ rfl
        refine StepGoal.nil ?_
        simp only [Act.put, List.setIfInBounds_toArray, List.set_cons_zero, List.set_cons_succ]
        go_wp2
        exact ⟨rfl, rfl, Grew.rf _, rfl⟩
      · rintro _ rfl
        refine StepGoal.nil ?_
        simp only [Act.put, List.setIfInBounds_toArray, List.set_cons_zero, List.set_cons_succ]
        go_wp2
        exact ⟨rfl, rfl, Grew.rf _, rfl⟩
      · rintro _ rfl
        refine StepGoal.nil ?_
        simp only [Act.put, List.setIfInBounds_toArray, List.set_cons_zero, List.set_cons_succ]
        go_wp2
        exact ⟨rfl, rfl, Grew.rf _, rfl⟩
      · rintro _ rfl _ rfl
        obtain ⟨y, hy, hz⟩ := hx.1.some (j := 1) (by simp)
        refine StepGoal.nil ?_
        simp only [Act.put, List.setIfInBounds_toArray, List.set_cons_zero, List.set_cons_succ]
        go_wp2
        exact ⟨rfl, rfl, rfl, World.cell?_setCell_same _ _ _ hy⟩
      · rintro _ rfl
        refine StepGoal.nil ?_
        simp only [Act.put, List.setIfInBounds_toArray, List.set_cons_zero, List.set_cons_succ]
        go_wp2
        exact ⟨rfl, rfl, Grew.rf _, rfl⟩
      · rintro _ rfl
        refine StepGoal.nil ?_
        simp only [Act.put, List.setIfInBounds_toArray, List.set_cons_zero, List.set_cons_succ]
        go_wp2
        exact ⟨rfl, rfl, Grew.rf _, rfl⟩
      · rintro _ rfl _ rfl
        obtain ⟨y, hy, hz⟩ := hx.1.some (j := 2) (by simp)
        refine StepGoal.nil ?_
        simp only [Act.put, List.setIfInBounds_toArray, List.set_cons_zero, List.set_cons_succ]
        go_wp2
        exact ⟨rfl, rfl, rfl, World.cell?_setCell_same _ _ _ hy⟩
    case hend =>
      intro u hu hbx hall
      rintro _ rfl _ rfl _ rfl _ rfl _ rfl _ rfl _ rfl _ rfl _ rfl _ rfl _ rfl _ rfl _ rfl _ rfl _ rfl _ rfl _ rfl _ rfl _ rfl _ rfl
      refine StepGoal.nil ?_
      simp only [Act.put, List.setIfInBounds_toArray, List.set_cons_zero, List.set_cons_succ]
      have hb2 : u.heap[rb]? = some (.cells (rdC A n c nx e) 106) := by simpa [setAll] using hbx
      have hu' := hu
      clear hall hbx
      have HU := Lib.hid hu'
      have HB2 := Lib.hid hb2
      clear hu hu' hb2
      go_wp2_with fail
      go_ret
      exact ⟨rfl, ⟨HB2.out, HCH.out _ HU.out, HR.out.byt, HR.out.le, HR.out.cap, HR.out.few, HR.out.ap, hn0, hn1⟩, HU.out⟩
  · have hn : numR bs at_ er = (0, at_, er) := by simp [numR, h0]
    rw [hn] at he
    simp only [Prod.mk.injEq] at he
    obtain ⟨rfl, rfl, rfl⟩ := he
    have d0 : (er == 0) = false := by simpa using h0
    have dd0 : decide (er = 0) = false := by simpa using h0
    clear hn
    go_enter Try.func53, Try.ntmps53
    go_wp2_with fail
    go_ret
    exact ⟨rfl, HR.out, Chg.of (Grew.rf w)⟩
def smallV (v : Int) : Int := if 1125899906842624 < v then -1 else v
set_option maxRecDepth 100000 in
set_option maxHeartbeats 3200000 in
theorem small_any (rb : Nat) (A : Option Addr) (n c : Nat) (bs : List Int) (at_ er v nx e : Int) (w : World) (hR : RdI w rb A n c bs at_ er) (he : numR bs at_ er = (v, nx, e)) (hn0 : -9223372036854775808 ≤ nx) (hn1 : nx ≤ 9223372036854775807) (hv : 0 ≤ v) :
    Calls Try.prog 51 #[.pointer (some ⟨rb, 0, none⟩)] w fun e' w' => e' = .returned (.int .i64 (smallV v)) ∧ RdQ w rb A n c bs nx e w' := by
  have hnu := number_any rb A n c bs at_ er v nx e w hR he hn0 hn1
  have HNU := Lib.hid hnu
  clear hnu hR he
  unfold smallV
  by_cases hb : 1125899906842624 < v
  · rw [if_pos hb]
    go_enter Try.func51, Try.ntmps51
    go_wp2_with (go_at_call 53; refine Calls.mono HNU.out ?_; rintro e' w2 ⟨rfl, hQ⟩)
    go_ret
    exact ⟨rfl, hQ⟩
  · rw [if_neg hb]
    go_enter Try.func51, Try.ntmps51
    go_wp2_with (go_at_call 53; refine Calls.mono HNU.out ?_; rintro e' w2 ⟨rfl, hQ⟩)
    go_ret
    exact ⟨rfl, hQ⟩
end Go.Proofs.Ytbkcpgaicoagfaa
/- The reader: text, headers. Printed by wip/mkBk6.py. -/
set_option linter.unusedVariables false
set_option linter.unusedSimpArgs false
namespace Go.Proofs.Ytbkcpgaicoagfaa
open Go.RowKit

/-- A table that has gone on from w0. -/
def TbS (w0 : World) (tp : Nat) (lv : Value) (mb : Nat) (ts : List ByteArray) (u : World) : Prop := ∃ lv', TabI u tp lv' mb ts ∧ ∀ k, ftp tp lv' mb k → ftp tp lv mb k ∨ w0.heap.size ≤ k
theorem TbS.keep {w0 : World} {tp : Nat} {lv : Value} {mb : Nat} {ts : List ByteArray} {u u' : World} (h : TbS w0 tp lv mb ts u) (hg : Grew u u') : TbS w0 tp lv mb ts u' := by
  obtain ⟨l, h1, h2⟩ := h
  exact ⟨l, h1.keep hg, h2⟩
theorem TbS.set {w0 : World} {tp : Nat} {lv : Value} {mb : Nat} {ts : List ByteArray} {u : World} (h : TbS w0 tp lv mb ts u) {rb : Nat} (hrb : ¬ ftp tp lv mb rb) (hlt : rb < w0.heap.size) (j : Nat) (x : Value) : TbS w0 tp lv mb ts (u.setCell ⟨rb, j, none⟩ x) := by
  obtain ⟨l, h1, h2⟩ := h
  refine ⟨l, h1.chg (setC_chg u rb j x) (fun k hk e => ?_), h2⟩
  subst e
  rcases h2 _ hk with h | h
  · exact hrb h
  · omega
/-- The call changes the table alone. -/
def GT6 (rb tp : Nat) (lv : Value) (mb : Nat) (u u' : World) : Prop := Chg (ftp tp lv mb) u u' ∧ u'.heap[rb]? = u.heap[rb]?
/-- The call has answered v0. -/
def Pb.tab {rb tp : Nat} {lv : Value} {mb : Nat} (w0 : World) (ts : List ByteArray) (q : Value → World → Prop) (hq : ∀ v u u', q v u → Grew u u' → q v u') (hqs : ∀ v u j x, q v u → q v (u.setCell ⟨rb, j, none⟩ x)) (hrb : ¬ ftp tp lv mb rb) (hlt : rb < w0.heap.size) : Pb rb (GT6 rb tp lv mb) :=
  ⟨fun v u => q v u ∧ TbS w0 tp lv mb ts u, none, false, fun _ _ _ ⟨h1, h2⟩ hg => ⟨hq _ _ _ h1 hg, h2.keep hg⟩, fun h => (by cases h), fun j x _ v u ⟨h1, h2⟩ => ⟨hqs _ _ _ _ h1, h2.set hrb hlt j x⟩⟩
def textR (ts : List ByteArray) (bs : List Int) (at_ er : Int) : ByteArray × Int × Int × List ByteArray := if er = 0 then takeT ts bs at_ else (ByteArray.empty, at_, er, ts)
structure TxQ (w : World) (rb : Nat) (A : Option Addr) (n c : Nat) (bs : List Int) (at_ er : Int) (tp : Nat) (lv : Value) (mb : Nat) (ts : List ByteArray) (w' : World) : Prop where
  rdr : RdI w' rb A n c bs at_ er
  tab : TbS w tp lv mb ts w'
  chg : Chg (fun b => b = rb ∨ ftp tp lv mb b) w w'

set_option maxRecDepth 100000 in
set_option maxHeartbeats 3200000 in
theorem text_any (rb : Nat) (A : Option Addr) (n c : Nat) (bs : List Int) (at_ er nx e : Int) (s : ByteArray) (tp : Nat) (lv : Value) (mb : Nat) (ts ts' : List ByteArray) (w : World) (hR : RdI w rb A n c bs at_ er) (hT : TabI w tp lv mb ts) (hrb : ¬ ftp tp lv mb rb) (hAt : 0 < n → ∀ ad, A = some ad → ¬ ftp tp lv mb ad.block) (hf : ts.length < 1000000) (he : textR ts bs at_ er = (s, nx, e, ts')) (hn0 : -9223372036854775808 ≤ nx) (hn1 : nx ≤ 9223372036854775807) :
    Calls Try.prog 54 #[.pointer (some ⟨rb, 0, none⟩), .pointer (some ⟨tp, 0, none⟩)] w fun e' w' => e' = .returned (.string s) ∧ TxQ w rb A n c bs nx e tp lv mb ts' w' := by
  have c2 : w.cell? ⟨rb, 2, none⟩ = some (.int .i64 er) := cell_of_heap hR.box rfl
  have hlt : rb < w.heap.size := (Array.getElem?_eq_some_iff.1 hR.box).1
  have HR := Lib.hid hR
  have HT := Lib.hid hT
  clear hR hT
  by_cases h0 : er = 0
  · subst h0
    have he' : takeT ts bs at_ = (s, nx, e, ts') := by simpa [textR] using he
    have hch : ∀ u, Chg (fun b => b = rb ∨ ftp tp lv mb b) w u → Rd u A n bs := fun u hu => HR.out.rd.chg hu (fun h ad e hk => hk.elim (HR.out.ap h ad e) (hAt h ad e))
    have htk := fun (u : World) (hr : Rd u A n bs) (ht : TabI u tp lv mb ts) => ttake_any tp lv mb ts A n c bs at_ u ht hr HR.out.byt HR.out.le HR.out.cap (by have := HR.out.few; omega) hf HR.out.a0 HR.out.a1
    rw [he'] at htk
    have HTK := Lib.hid htk
    have HCH := Lib.hid hch
    have hbox := HR.out.box
    have HBOX := Lib.hid hbox
    clear he he' htk hch hbox
    go_enter Try.func54, Try.ntmps54
    go_upto_region 2 with fail
    clear c2
    refine region_box rb 106 (rdC A n c at_ 0) [(19, 1, (.int .i64 nx)), (22, 2, (.int .i64 e))] [(10, 1)] 11 (GT6 rb tp lv mb) (fun u => TabI u tp lv mb ts) (fun u => Chg (fun b => b = rb ∨ ftp tp lv mb b) w u) (fun u u' h hg => h.tr (Chg.of hg)) (fun u u' h hg => h.tr (hg.1.mono (fun b e => .inl (.inr e)))) (fun u j x h => h.tr ((setC_chg u rb j x).mono (fun b e => .inl (.inl e)))) (fun u u' h => h.2) (fun u u' h hg => h.keep hg) (Chg.of (Grew.rf w)) HBOX.out HT.out [[], [], [], [], [(3, 14)], [(4, 15)], [(5, 16)], [], [(7, 18)], [(8, 19)], [(9, 20)], [(2, 13), (6, 17), (10, 21)], [(11, 22)], [(12, 10)], [(12, 10)], [(12, 10)], [(13, 23)], [(0, 11)], [(17, 26)], [(14, 24), (18, 27)], [(1, 12)], [(20, 28)], [(15, 25), (21, 29)]] [(0, 11), (1, 12), (2, 13), (3, 14), (4, 15), (5, 16), (6, 17), (7, 18), (8, 19), (9, 20), (10, 21), (11, 22), (12, 10), (13, 23), (14, 24), (15, 25), (16, 4), (17, 26), (18, 27), (20, 28), (21, 29)] (fun
      | 0 => .eqv (.pointer (some ⟨rb, 0, none⟩)) | 1 => .eqv (.pointer (some ⟨rb, 0, none⟩)) | 2 => .eqv (.pointer (some ⟨tp, 0, none⟩)) | 3 => .eqv (.pointer (some ⟨rb, 0, none⟩)) | 4 => .eqv (.pointer (some ⟨rb, 0, none⟩)) | 5 => .eqv (.pointer (some ⟨rb, 0, none⟩)) | 6 => .eqv (.slice A n c) | 7 => .eqv (.pointer (some ⟨rb, 0, none⟩)) | 8 => .eqv (.pointer (some ⟨rb, 0, none⟩)) | 9 => .eqv (.pointer (some ⟨rb, 1, none⟩)) | 10 => .eqv (.int .i64 at_) | 11 => .tab w ts' (fun v _ => v = .tuple #[.string s, .int .i64 nx, .int .i64 e]) (fun _ _ _ h _ => h) (fun _ _ _ _ h => h) hrb hlt | 12 => .eqv (.tuple #[.string s, .int .i64 nx, .int .i64 e]) | 13 => .eqv (.string s) | 14 => .eqv (.int .i64 nx) | 15 => .eqv (.int .i64 e) | 16 => .eqv (.string s) | 17 => .eqv (.pointer (some ⟨rb, 0, none⟩)) | 18 => .eqv (.pointer (some ⟨rb, 1, none⟩)) | 19 => .cel 1 (.int .i64 nx) | 20 => .eqv (.pointer (some ⟨rb, 0, none⟩)) | 21 => .eqv (.pointer (some ⟨rb, 2, none⟩)) | 22 => .cel 2 (.int .i64 e) | _ => .any) (by kernel_rfl) (by kernel_rfl) (by kernel_rfl) ?hlf ?hsteps ?hend
    case hlf => intro p hp v u h; simp only [List.mem_cons, List.not_mem_nil, or_false] at hp; rcases hp with rfl | rfl <;> exact h
    case hsteps =>
      refine ⟨fun u hu hx => ?_, fun u hu hx => ?_, fun u hu hx => ?_, fun u hu hx => ?_, fun u hu hx => ?_, fun u hu hx => ?_, fun u hu hx => ?_, fun u hu hx => ?_, fun u hu hx => ?_, fun u hu hx => ?_, fun u hu hx => ?_, fun u hu hx => ?_, fun u hu hx => ?_, fun u hu hx => ?_, fun u hu hx => ?_, fun u hu hx => ?_, fun u hu hx => ?_, fun u hu hx => ?_, fun u hu hx => ?_, fun u hu hx => ?_, fun u hu hx => ?_, fun u hu hx => ?_, fun u hu hx => ?_, trivial⟩
      · refine StepGoal.nil ?_
        go_wp2
        exact ⟨rfl, rfl, Grew.rf _, rfl⟩
      · refine StepGoal.nil ?_
        go_wp2
        exact ⟨rfl, rfl, Grew.rf _, rfl⟩
      · refine StepGoal.nil ?_
        go_wp2
        exact ⟨rfl, rfl, Grew.rf _, rfl⟩
      · refine StepGoal.nil ?_
        go_wp2
        exact ⟨rfl, rfl, Grew.rf _, rfl⟩
      · rintro _ rfl
        refine StepGoal.nil ?_
        simp only [Act.put, List.setIfInBounds_toArray, List.set_cons_zero, List.set_cons_succ]
        go_wp2
        exact ⟨rfl, rfl, Grew.rf _, rfl⟩
      · rintro _ rfl
        refine StepGoal.nil ?_
        simp only [Act.put, List.setIfInBounds_toArray, List.set_cons_zero, List.set_cons_succ]
        go_wp2
        exact ⟨rfl, rfl, Grew.rf _, rfl⟩
      · rintro _ rfl
        have hce := hx.1.cell (j := 0) (.inr (by simp)) rfl
        refine StepGoal.nil ?_
        simp only [Act.put, List.setIfInBounds_toArray, List.set_cons_zero, List.set_cons_succ]
        go_wp2
        exact ⟨rfl, rfl, Grew.rf _, rfl⟩
      · refine StepGoal.nil ?_
        go_wp2
        exact ⟨rfl, rfl, Grew.rf _, rfl⟩
      · rintro _ rfl
        refine StepGoal.nil ?_
        simp only [Act.put, List.setIfInBounds_toArray, List.set_cons_zero, List.set_cons_succ]
        go_wp2
        exact ⟨rfl, rfl, Grew.rf _, rfl⟩
      · rintro _ rfl
        refine StepGoal.nil ?_
        simp only [Act.put, List.setIfInBounds_toArray, List.set_cons_zero, List.set_cons_succ]
        go_wp2
        exact ⟨rfl, rfl, Grew.rf _, rfl⟩
      · rintro _ rfl
        have hce := hx.1.cell (j := 1) (.inl (by decide)) rfl
        refine StepGoal.nil ?_
        simp only [Act.put, List.setIfInBounds_toArray, List.set_cons_zero, List.set_cons_succ]
        go_wp2
        exact ⟨rfl, rfl, Grew.rf _, rfl⟩
      · rintro _ rfl _ rfl _ rfl
        obtain ⟨csx, hbu, _⟩ := hx.1; have hx2 : TabI u tp lv mb ts := hx.2
        refine StepGoal.nil ?_
        simp only [Act.put, List.setIfInBounds_toArray, List.set_cons_zero, List.set_cons_succ]
        go_wp2_with (go_at_call 27; refine Calls.mono (HTK.out _ (HCH.out _ hu) hx2) ?_; rintro e' w3 ⟨rfl, hQ⟩)
        obtain ⟨l3, hT3, hf3⟩ := hQ.tab; exact ⟨rfl, rfl, ⟨hQ.chg, hQ.chg.block rb (Array.getElem?_eq_some_iff.1 hbu).1 hrb⟩, rfl, l3, hT3, fun k hk => (hf3 k hk).imp (fun h => h) (fun h => Nat.le_trans hu.size h)⟩
      · rintro v22 h22
        obtain ⟨rfl, -⟩ := h22
        refine StepGoal.nil ?_
        simp only [Act.put, List.setIfInBounds_toArray, List.set_cons_zero, List.set_cons_succ]
        go_wp2
        exact ⟨rfl, rfl, Grew.rf _, rfl⟩
      · rintro _ rfl
        refine StepGoal.nil ?_
        simp only [Act.put, List.setIfInBounds_toArray, List.set_cons_zero, List.set_cons_succ]
        go_wp2
        exact ⟨rfl, rfl, Grew.rf _, rfl⟩
      · rintro _ rfl
        refine StepGoal.nil ?_
        simp only [Act.put, List.setIfInBounds_toArray, List.set_cons_zero, List.set_cons_succ]
        go_wp2
        exact ⟨rfl, rfl, Grew.rf _, rfl⟩
      · rintro _ rfl
        refine StepGoal.nil ?_
        simp only [Act.put, List.setIfInBounds_toArray, List.set_cons_zero, List.set_cons_succ]
        go_wp2
        exact ⟨rfl, rfl, Grew.rf _, rfl⟩
      · rintro _ rfl
        refine StepGoal.nil ?_
        simp only [Act.put, List.setIfInBounds_toArray, List.set_cons_zero, List.set_cons_succ]
        go_wp2
        exact ⟨rfl, rfl, Grew.rf _, rfl⟩
      · rintro _ rfl
        refine StepGoal.nil ?_
        simp only [Act.put, List.setIfInBounds_toArray, List.set_cons_zero, List.set_cons_succ]
        go_wp2
        exact ⟨rfl, rfl, Grew.rf _, rfl⟩
      · rintro _ rfl
        refine StepGoal.nil ?_
        simp only [Act.put, List.setIfInBounds_toArray, List.set_cons_zero, List.set_cons_succ]
        go_wp2
        exact ⟨rfl, rfl, Grew.rf _, rfl⟩
      · rintro _ rfl _ rfl
        obtain ⟨y, hy, hz⟩ := hx.1.some (j := 1) (by simp)
        refine StepGoal.nil ?_
        simp only [Act.put, List.setIfInBounds_toArray, List.set_cons_zero, List.set_cons_succ]
        go_wp2
        exact ⟨rfl, rfl, rfl, World.cell?_setCell_same _ _ _ hy⟩
      · rintro _ rfl
        refine StepGoal.nil ?_
        simp only [Act.put, List.setIfInBounds_toArray, List.set_cons_zero, List.set_cons_succ]
        go_wp2
        exact ⟨rfl, rfl, Grew.rf _, rfl⟩
      · rintro _ rfl
        refine StepGoal.nil ?_
        simp only [Act.put, List.setIfInBounds_toArray, List.set_cons_zero, List.set_cons_succ]
        go_wp2
        exact ⟨rfl, rfl, Grew.rf _, rfl⟩
      · rintro _ rfl _ rfl
        obtain ⟨y, hy, hz⟩ := hx.1.some (j := 2) (by simp)
        refine StepGoal.nil ?_
        simp only [Act.put, List.setIfInBounds_toArray, List.set_cons_zero, List.set_cons_succ]
        go_wp2
        exact ⟨rfl, rfl, rfl, World.cell?_setCell_same _ _ _ hy⟩
    case hend =>
      intro u hu hbx hall
      rintro _ rfl _ rfl _ rfl _ rfl _ rfl _ rfl _ rfl _ rfl _ rfl _ rfl _ rfl v22 h22 _ rfl _ rfl _ rfl _ rfl _ rfl _ rfl _ rfl _ rfl _ rfl
      refine StepGoal.nil ?_
      simp only [Act.put, List.setIfInBounds_toArray, List.set_cons_zero, List.set_cons_succ]
      have hb2 : u.heap[rb]? = some (.cells (rdC A n c nx e) 106) := by simpa [setAll] using hbx
      have hu' := hu
      have hTB : TbS w tp lv mb ts' u := h22.2
      clear hall hbx
      have HU := Lib.hid hu'
      have HB2 := Lib.hid hb2
      have HTB := Lib.hid hTB
      clear hu hu' hb2 h22 hTB
      go_wp2_with fail
      go_ret
      exact ⟨rfl, ⟨HB2.out, HCH.out _ HU.out, HR.out.byt, HR.out.le, HR.out.cap, HR.out.few, HR.out.ap, hn0, hn1⟩, HTB.out, HU.out⟩
  · have hn : textR ts bs at_ er = (ByteArray.empty, at_, er, ts) := by simp [textR, h0]
    rw [hn] at he
    simp only [Prod.mk.injEq] at he
    obtain ⟨rfl, rfl, rfl, rfl⟩ := he
    have d0 : (er == 0) = false := by simpa using h0
    have dd0 : decide (er = 0) = false := by simpa using h0
    clear hn
    go_enter Try.func54, Try.ntmps54
    go_wp2_with fail
    go_ret
    exact ⟨rfl, HR.out, ⟨lv, HT.out, fun k hk => .inl hk⟩, Chg.of (Grew.rf w)⟩

def headR (ts : List ByteArray) (bs : List Int) (at_ er : Int) (was : List Hdr) : List Hdr × Int × Int × List ByteArray := if er = 0 then takeD ts bs at_ was else ([], at_, er, ts)
/-- A list that the call hands back. -/
def LstQ (l : List Hdr) (v : Value) (u : World) : Prop := ∃ A n c, v = .slice A n c ∧ RdH u A n l ∧ n ≤ c ∧ c ≤ 9223372036854775807 ∧ HdB u A ∧ (A = none → n = 0 ∧ c = 0)
theorem LstQ.chg {l : List Hdr} {v : Value} {u u' : World} {F : Nat → Prop} (h : LstQ l v u) (hg : Chg F u u') (hF : ∀ k cs fr, u.heap[k]? = some (.cells cs 124 fr) → ¬ F k) : LstQ l v u' := by
  obtain ⟨A, n, c, h1, h2, h3, h4, h5, h6⟩ := h
  have hb : ∀ ad, A = some ad → ¬ F ad.block := fun ad e => by
    obtain ⟨cs, fr, hc⟩ := h5 ad e
    exact hF _ _ _ hc
  exact ⟨A, n, c, h1, h2.chg hg (fun _ => hb), h3, h4, h5.chg hg hb, h6⟩
theorem LstQ.keep {l : List Hdr} {v : Value} {u u' : World} (h : LstQ l v u) (hg : Grew u u') : LstQ l v u' := h.chg (F := fun _ => False) (Chg.of hg) (fun _ _ _ _ h => h)
end Go.Proofs.Ytbkcpgaicoagfaa
