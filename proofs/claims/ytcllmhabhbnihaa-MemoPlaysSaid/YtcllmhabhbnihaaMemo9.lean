/- Memo: the walk of Put. -/
import Derived.Test.YtcllmhabhbnihaaMemo8
set_option linter.unusedVariables false
set_option linter.unusedSimpArgs false
namespace Go.Proofs.Ytcllmhabhbnihaa
open Go.RowKit

/-- Room for one more. -/
def room1 (m : Nat) (l : List Ask) (now : Int) : List Ask := if l.length = m then l.filter (fun y => !decide (y.2.2.2.2.2 ≤ now)) else l
def room2 (m : Nat) (l : List Ask) : List Ask := if l.length = m then l.drop 1 else l
def sameA (x y : Ask) : Bool := decide (thA x = thA y)
/-- Put. -/
def putM (m : Nat) (l : List Ask) (x : Ask) (now : Int) : List Ask :=
  if l.findIdx (sameA x) < l.length then l.set (l.findIdx (sameA x)) x else room2 m (room1 m l now) ++ [x]
theorem room1_le (m : Nat) (l : List Ask) (now : Int) (h : l.length ≤ m) : (room1 m l now).length ≤ m := by
  unfold room1
  split
  · exact Nat.le_trans (List.length_filter_le _ _) h
  · exact h
theorem room2_lt (m : Nat) (l : List Ask) (h : l.length ≤ m) (h1 : 1 ≤ m) : (room2 m l).length < m := by
  unfold room2
  split
  · rw [List.length_drop]; omega
  · omega
theorem MemoQ.keep {w w1 w2 : World} {p : Nat} {lv : Value} {m : Nat} {l : List Ask} (h : MemoQ w w1 p lv m l) (hg : Grew w1 w2) : MemoQ w w2 p lv m l := by
  obtain ⟨⟨l1, h1, h2⟩, h3⟩ := h
  exact ⟨⟨l1, h1.keep hg, h2⟩, h3.tr (Chg.of hg)⟩
theorem MemoQ.step {w w1 w2 : World} {p : Nat} {lv lv1 : Value} {m : Nat} {l : List Ask} (h : Chg (ftm p lv) w w1) (hF : ∀ k, ftm p lv1 k → ftm p lv k ∨ w.heap.size ≤ k) (h2 : MemoQ w1 w2 p lv1 m l) : MemoQ w w2 p lv m l := by
  obtain ⟨⟨l2, h3, h4⟩, h5⟩ := h2
  exact ⟨⟨l2, h3, fun k hk => (h4 k hk).elim (hF k) (fun h' => .inr (Nat.le_trans h.size h'))⟩, h.tr (h5.mono hF)⟩
/-- A new row for the memo's list. -/
theorem MemoQ.set {w w1 : World} {p : Nat} {lv v1 : Value} {m : Nat} {l l' : List Ask} (hM : MemoI w p lv m l) (hC : Chg (fun k => lv.ownBlock = some k) w w1) (hO : OwnA w1 0 v1 l') (hB : v1.ownBlock = lv.ownBlock ∨ ∀ k, v1.ownBlock = some k → w.heap.size ≤ k) (hf : l'.length ≤ m) : MemoQ w (w1.setCell ⟨p, 1, none⟩ v1) p lv m l' := by
  have hne : v1.ownBlock ≠ some p := fun e => by
    rcases hB with h | h
    · rw [h] at e; exact hM.apart e
    · have := h p e; have := hM.lt (.inl rfl); omega
  refine ⟨⟨v1, memo_set (hC.by_ hM.cells (fun h => hM.apart h)) hO hne hf hM.pos hM.most, fun k hk => ?_⟩, (hC.mono fun k hk => .inr hk).tr (Chg.ofBy (setCell_by w1 _ _) (fun b hb => by cases hb; exact .inl (.inl rfl)))⟩
  rcases hk with rfl | hk
  · exact .inl (.inl rfl)
  · rcases hB with h | h
    · exact .inl (.inr (h ▸ hk))
    · exact .inr (h k hk)

theorem MemoQ.set5 {w u : World} {p : Nat} {lv v1 : Value} {m : Nat} {l l' : List Ask} (hM : MemoI w p lv m l) (hu : Chg (ftm p lv) w u) (hc : u.heap[p]? = some (.cells #[.int .i64 (m : Int), lv] 47)) (hO : OwnA u 0 v1 l') (hB : v1.ownBlock = lv.ownBlock ∨ ∀ k, v1.ownBlock = some k → w.heap.size ≤ k) (hf : l'.length ≤ m) : MemoQ w (u.setCell ⟨p, 1, none⟩ v1) p lv m l' := by
  have hne : v1.ownBlock ≠ some p := fun e => by
    rcases hB with h | h
    · rw [h] at e; exact hM.apart e
    · have := h p e; have := hM.lt (.inl rfl); omega
  refine ⟨⟨v1, memo_set hc hO hne hf hM.pos hM.most, fun k hk => ?_⟩, hu.tr (Chg.ofBy (setCell_by u _ _) (fun b hb => by cases hb; exact .inl (.inl rfl)))⟩
  rcases hk with rfl | hk
  · exact .inl (.inl rfl)
  · rcases hB with h | h
    · exact .inl (.inr (h ▸ hk))
    · exact .inr (h k hk)
theorem MemoQ.put {w W w1 u : World} {p : Nat} {lv : Value} {m : Nat} {l l' : List Ask} (hM : MemoI W p lv m l) (h1 : Grew w W) (h2 : Grew W w1) (hf : l'.length ≤ m) (hO : OwnA u 0 lv l') (hC : Chg (fun k => lv.ownBlock = some k) w1 u) : MemoQ w u p lv m l' :=
  ⟨⟨lv, ⟨hC.by_ (hM.keep h2).cells (fun h => hM.apart h), hO, hf, hM.pos, hM.most⟩, fun k hk => .inl hk⟩, (Chg.of (h1.tr h2)).tr (hC.mono fun k hk => .inl (.inr hk))⟩
/-! ### The last region of Put: append and store -/
def GA (lv : Value) (u u' : World) : Prop := Chg (fun k => lv.ownBlock = some k) u u'
def GS (p : Nat) (u u' : World) : Prop := Chg (fun k => k = p) u u'
theorem tzM {wz : World} {p xb m : Nat} {lv : Value} {l : List Ask} {x : Ask} (h1 : lv.ownBlock ≠ some p) (h2 : lv.ownBlock ≠ some xb) :
    TwoZ (GA lv) (GS p) (fun u => OwnA u 0 lv l) (fun u => u.heap[p]? = some (.cells #[.int .i64 (m : Int), lv] 47) ∧ SixC u xb 0 x) (fun u => Chg (ftm p lv) wz u) :=
  ⟨fun _ _ h hg => h.tr (Chg.of hg), fun _ _ h hg => h.tr (hg.mono fun k hk => .inl (.inr hk)), fun _ _ h hg => h.tr (hg.mono fun k hk => .inl (.inl hk)), fun _ _ h hg => h.keep hg, fun _ _ h hg => ⟨heap_keep hg h.1, h.2.keep hg⟩, fun _ _ h hg => ⟨hg.by_ h.1 (fun e => h1 e), h.2.chg hg (fun e => h2 e)⟩⟩
def pxA1 (lv : Value) (p : Nat) (x : Ask) : Px (GA lv) (GS p) where
  p := fun v u => ∃ gb, v = .slice (some ⟨gb, 0, none⟩) 1 1 ∧ RdA u (some ⟨gb, 0, none⟩) 1 [x]
  s1 := false
  s2 := false
  m0 := fun v u u' ⟨gb, h1, h2⟩ hg => ⟨gb, h1, h2.keep hg⟩
  m1 := fun h => by cases h
  m2 := fun h => by cases h
def pxA2 (lv : Value) (p : Nat) (wz : World) (l : List Ask) : Px (GA lv) (GS p) where
  p := fun v u => OwnA u 0 v l ∧ (v.ownBlock = lv.ownBlock ∨ ∀ k, v.ownBlock = some k → wz.heap.size ≤ k)
  s1 := false
  s2 := false
  m0 := fun v u u' h hg => ⟨h.1.keep hg, h.2⟩
  m1 := fun h => by cases h
  m2 := fun h => by cases h
def pxA3 (lv : Value) (p : Nat) (wz : World) (m : Nat) (l : List Ask) : Px (GA lv) (GS p) where
  p := fun _ u => MemoQ wz u p lv m l
  s1 := false
  s2 := false
  m0 := fun v u u' h hg => h.keep hg
  m1 := fun h => by cases h
  m2 := fun h => by cases h
theorem pxA2_mk {lv : Value} {p : Nat} {wz u w1 : World} {l : List Ask} {x : Ask} {v : Value} (h : OwnV 32 6 w1 0 v (l.length + 1) (acs l ++ acs [x])) (hat : v.ownBlock = lv.ownBlock ∨ v.ownBlock = some u.heap.size) (hs : wz.heap.size ≤ u.heap.size) : (pxA2 lv p wz (l ++ [x])).p v w1 :=
  ⟨by show OwnV _ _ _ _ _ _ _; rw [List.length_append, acs_append]; exact h, hat.imp id (fun e k hk => by rw [e] at hk; cases hk; exact hs)⟩
theorem rdA_new (w : World) (x : Ask) (t : TypeId) : RdA (w.alloc (.cells #[.string x.1, .string x.2.1, .bool x.2.2.1, .string x.2.2.2.1, .string x.2.2.2.2.1, .int .i64 x.2.2.2.2.2] t)) (some ⟨w.heap.size, 0, none⟩) 1 [x] :=
  ⟨rfl, fun _ => ⟨_, _, rfl, fun j u hj => by rw [Nat.zero_add]; exact cell_of_heap (heap_alloc_new w _) (by simpa [acs, av] using hj)⟩⟩

set_option maxRecDepth 100000 in
set_option maxHeartbeats 3200000 in
theorem mput_any (p : Nat) (lv : Value) (m : Nat) (l : List Ask) (x : Ask) (now : Int) (w : World) (hM : MemoI w p lv m l) :
    Calls Try.prog 13 #[.pointer (some ⟨p, 0, none⟩), aV x, .int .i64 now] w fun e w' => e = .returned (.tuple #[]) ∧ MemoQ w w' p lv m (putM m l x now) := by
  obtain ⟨W, hW⟩ : ∃ W, (w.alloc (.cells #[.string x.1, .string x.2.1, .bool x.2.2.1, .string x.2.2.2.1, .string x.2.2.2.2.1, .int .i64 x.2.2.2.2.2] 32)).alloc (.cells #[.int .i64 now] 3) = W := ⟨_, rfl⟩
  have hg : Grew w W := by rw [← hW]; exact ((Grew.rf w).al _).al _
  have h6 : SixC W w.heap.size 0 x := by rw [← hW]; exact (six_new w x _).keep ((Grew.rf _).al _)
  have hn : W.cell? ⟨w.heap.size + 1, 0, none⟩ = some (.int .i64 now) := by
    rw [← hW]
    have := cell_alloc_new (w.alloc (.cells #[.string x.1, .string x.2.1, .bool x.2.2.1, .string x.2.2.2.1, .string x.2.2.2.2.1, .int .i64 x.2.2.2.2.2] 32)) (.int .i64 now) 3
    rw [World.size_alloc] at this
    exact this
  have hMW := hM.keep hg
  have hlt : ∀ k, ftm p lv k → k < w.heap.size := fun k hk => hM.lt hk
  have hp1 : PredOk 23 #[.pointer (some ⟨w.heap.size, 0, none⟩)] (sameA x) (fun _ => False) W := fun u hu y =>
    put1_any _ x y u (h6.chg hu (fun h => h))
  have hp2 : PredOk 25 #[.pointer (some ⟨w.heap.size + 1, 0, none⟩)] (fun y => decide (y.2.2.2.2.2 ≤ now)) (ftm p lv) W := fun u hC y =>
    put2_any _ now y u ((World.cell?_of_block (hC.block _ (lt_of_cell hn) (fun h => by have := hlt _ h; dsimp only at this; omega))).trans hn)
  have eg1 : ∀ args w, (callFunc 23 args).run Try.prog w = .ok (.enter 23 args) w := enters_of Try.func23 (by kernel_rfl) rfl
  have eg2 : ∀ args w, (callFunc 25 args).run Try.prog w = .ok (.enter 25 args) w := enters_of Try.func25 (by kernel_rfl) rfl
  obtain ⟨A, c, rfl, hnc, hc, hr⟩ := hMW.list.rd
  have hfew := hMW.few
  have hmm := hMW.most
  have hix := idx_any A l.length c l _ _ _ _ W eg1 hr (by omega) hp1
  have hce := cell_of_heap (i := 1) hMW.cells rfl
  simp only [List.getElem_toArray, List.getElem_cons_zero, List.getElem_cons_succ] at hce
  have h60 : ∀ k, ftm p (.slice A l.length c) k → w.heap.size ≠ k := fun k hk e => by have := hlt k hk; omega
  obtain ⟨xb, hxb⟩ : ∃ xb, w.heap.size = xb := ⟨_, rfl⟩
  rw [hxb] at h6 hp1 hix h60
  rw [hxb] at hn hp2
  obtain ⟨n, hn2⟩ : ∃ n, l.length = n := ⟨_, rfl⟩
  rw [hn2] at hfew hce hnc hr hix hMW h60 hp2
  rw [hn2]
  have HIX := Lib.hid hix
  have HG := Lib.hid hg
  have HW := Lib.hid hW
  have HM := Lib.hid hMW
  have H6 := Lib.hid h6
  have H60 := Lib.hid h60
  have HP2 := Lib.hid hp2
  have HR := Lib.hid hr
  have HN2 := Lib.hid hn2
  have HEG2 := Lib.hid eg2
  have HXB := Lib.hid hxb
  clear hp1 hp2 eg1 eg2 hix hn hW hg hMW hlt h6 h60 hr hn2 hM hxb
  by_cases hf : l.findIdx (sameA x) < l.length
  · have hi : idxA (sameA x) l = (l.findIdx (sameA x) : Int) := by unfold idxA; rw [if_pos hf]
    have hq : putM m l x now = l.set (l.findIdx (sameA x)) x := by unfold putM; rw [if_pos hf]
    rw [hq]
    rw [hi] at HIX
    obtain ⟨i, hi2⟩ : ∃ i, l.findIdx (sameA x) = i := ⟨_, rfl⟩
    rw [hi2] at hf HIX ⊢
    rw [HN2.out] at hf
    clear hi hq hi2
    have hA : ∃ gb, A = some ⟨gb, 0, none⟩ := by
      rcases HM.out.list.own.2 with ⟨hv, h0⟩ | ⟨gb, cp, cur, hv, _⟩
      · rw [HN2.out] at h0; omega
      · simp only [Value.slice.injEq] at hv; exact ⟨gb, hv.1⟩
    obtain ⟨gb, rfl⟩ := hA
    go_enter Try.func13, Try.ntmps13
    go_upto_region 1 with fail
    rw [HW.out, HXB.out]
    go_wp2_with (go_at_call 22; refine Calls.mono HIX.out ?_; rintro e w1 ⟨rfl, hg1⟩; have HG1 := Lib.hid hg1; clear hg1 hce; have hc1 := cell_of_heap (i := 1) (HM.out.keep HG1.out).cells rfl; simp only [List.getElem_toArray, List.getElem_cons_zero, List.getElem_cons_succ] at hc1)
    have HM1 := Lib.hid (HM.out.keep HG1.out)
    have H61 := Lib.hid (H6.out.keep HG1.out)
    have hO1 : OwnV 32 6 w1 0 (.slice (some ⟨gb, 0, none⟩) n c) l.length (acs l) := HM1.out.list
    rw [HN2.out] at hO1
    have HO1 := Lib.hid hO1
    clear hO1
    refine region_split 7 [[], [(0, 17)], [(1, 18)], [(2, 19)], [], [], [(3, 20), (4, 21)], [(0, 17), (1, 18), (2, 19), (3, 20), (4, 21), (5, 22), (6, 23)]] [(0, 17), (1, 18), (2, 19), (3, 20), (4, 21), (5, 22), (6, 23)] (fun
      | 0 => .eqv (.pointer (some ⟨p, 0, none⟩)) | 1 => .eqv (.pointer (some ⟨p, 0, none⟩)) | 2 => .eqv (.pointer (some ⟨p, 1, none⟩)) | 3 => .eqv (.slice (some ⟨gb, 0, none⟩) n c) | 4 => .eqv (.int .i64 (i : Int)) | 5 => .eqv (aV x) | 6 => .eqv (.pointer (some ⟨gb, i * 6, none⟩)) | _ => .any) (by kernel_rfl) ?_ ?_
    · refine ⟨fun u hu => ?_, fun u hu => ?_, fun u hu => ?_, fun u hu => ?_, fun u hu => ?_, fun u hu => ?_, fun u hu => ?_, trivial⟩
      · refine StepGoal.nil ?_
        go_wp2
        exact ⟨rfl, rfl, Grew.rf _, rfl⟩
      · rintro _ rfl
        refine StepGoal.nil ?_
        simp only [Act.put, List.setIfInBounds_toArray, List.set_cons_zero, List.set_cons_succ]
        go_wp2
        exact ⟨rfl, rfl, Grew.rf _, rfl⟩
      · rintro _ rfl
        refine StepGoal.nil ?_
        simp only [Act.put, List.setIfInBounds_toArray, List.set_cons_zero, List.set_cons_succ]
        go_wp2
        exact ⟨rfl, rfl, Grew.rf _, rfl⟩
      · rintro _ rfl
        have hce := hu.ce hc1
        refine StepGoal.nil ?_
        simp only [Act.put, List.setIfInBounds_toArray, List.set_cons_zero, List.set_cons_succ]
        go_wp2
        exact ⟨rfl, rfl, Grew.rf _, rfl⟩
      · refine StepGoal.nil ?_
        go_wp2
        exact ⟨rfl, rfl, Grew.rf _, rfl⟩
      · obtain ⟨c0, c1, c2, c3, c4, c5⟩ := H61.out.keep hu
        refine StepGoal.nil ?_
        go_wp2
        exact ⟨rfl, rfl, Grew.rf _, rfl⟩
      · rintro _ rfl _ rfl
        refine StepGoal.nil ?_
        simp only [Act.put, List.setIfInBounds_toArray, List.set_cons_zero, List.set_cons_succ]
        go_wp2
        exact ⟨rfl, rfl, Grew.rf _, rfl⟩
    · intro u hu
      rintro _ rfl _ rfl _ rfl _ rfl _ rfl _ rfl _ rfl
      refine StepGoal.nil ?_
      simp only [Act.put, List.setIfInBounds_toArray, List.set_cons_zero, List.set_cons_succ]; simp only [List.drop_succ_cons, List.drop_zero]
      have hO2 := HO1.out.keep hu
      obtain ⟨y, y0, y1, y2, y3, y4, y5⟩ := hO2.sixA HN2.out hf
      obtain ⟨cur, hcur⟩ := hO2.block rfl
      have f0 := frozen_of_heap (i := i * 6) hcur
      have f1 := frozen_of_heap (i := i * 6 + 1) hcur
      have f2 := frozen_of_heap (i := i * 6 + 2) hcur
      have f3 := frozen_of_heap (i := i * 6 + 3) hcur
      have f4 := frozen_of_heap (i := i * 6 + 4) hcur
      have f5 := frozen_of_heap (i := i * 6 + 5) hcur
      have HO2 := Lib.hid hO2
      have HU := Lib.hid hu
      clear hO2 hu hcur hc1
      go_wp2
      refine bodyPost_ret (results_none rfl _ _ _) rfl ⟨rfl, ?_⟩
      have hst := (((((HO2.out.stored (i * 6) (.string x.1)).stored (i * 6 + 1) (.string x.2.1)).stored (i * 6 + 2) (.bool x.2.2.1)).stored (i * 6 + 3) (.string x.2.2.2.1)).stored (i * 6 + 4) (.string x.2.2.2.2.1)).stored (i * 6 + 5) (.int .i64 x.2.2.2.2.2)
      rw [← acs_set l i x (by rw [HN2.out]; exact hf)] at hst
      have hln : (l.set i x).length = n := by rw [List.length_set]; exact HN2.out
      have hset : ∀ (u0 u : World) (a : Nat) (v : Value), Chg (fun k => (Value.slice (some ⟨gb, 0, none⟩) n c).ownBlock = some k) u0 u → Chg (fun k => (Value.slice (some ⟨gb, 0, none⟩) n c).ownBlock = some k) u0 (u.setCell ⟨gb, a, none⟩ v) :=
        fun u0 u a v h => h.tr (Chg.ofBy (setCell_by u ⟨gb, a, none⟩ v) (fun b hb => by cases hb; exact .inl rfl))
      have hch := hset w1 _ (i * 6 + 5) (.int .i64 x.2.2.2.2.2) (hset w1 _ (i * 6 + 4) (.string x.2.2.2.2.1) (hset w1 _ (i * 6 + 3) (.string x.2.2.2.1) (hset w1 _ (i * 6 + 2) (.bool x.2.2.1) (hset w1 _ (i * 6 + 1) (.string x.2.1) (hset w1 _ (i * 6) (.string x.1) (Chg.of HU.out))))))
      exact MemoQ.put HM.out HG.out HG1.out (by rw [hln]; exact hfew) (by show OwnV _ _ _ _ _ _ _; rw [hln]; exact hst) hch
  · have hi : idxA (sameA x) l = -1 := by unfold idxA; rw [if_neg hf]
    have hq : putM m l x now = room2 m (room1 m l now) ++ [x] := by unfold putM; rw [if_neg hf]
    rw [hq]
    rw [hi] at HIX
    clear hi hq hf
    go_enter Try.func13, Try.ntmps13
    go_upto_region 1 with fail
    rw [HW.out, HXB.out]
    go_wp2_with (go_at_call 22; refine Calls.mono HIX.out ?_; rintro e w1 ⟨rfl, hg1⟩; have HG1 := Lib.hid hg1; clear hg1 hce; have hc0 := cell_of_heap (i := 0) (HM.out.keep HG1.out).cells rfl; have hc1 := cell_of_heap (i := 1) (HM.out.keep HG1.out).cells rfl; simp only [List.getElem_toArray, List.getElem_cons_zero, List.getElem_cons_succ] at hc0 hc1)
    have hQ0 : MemoQ W w1 p (.slice A n c) m l := ⟨⟨_, HM.out.keep HG1.out, fun k hk => .inl hk⟩, Chg.of HG1.out⟩
    have HQ0 := Lib.hid hQ0
    clear hQ0
    go_cut [33] from 24 to 33 (fun f wx => f = .bool ((n : Int) == (m : Int)) ∧ Grew w1 wx)
    case first =>
      refine region_grew [[], [(0, 24)], [(1, 25)], [(2, 26)], [(3, 27)], [], [(5, 29)], [(6, 30)], [(7, 31)], [(4, 28), (8, 32)]] [(0, 24), (1, 25), (2, 26), (3, 27), (4, 28), (5, 29), (6, 30), (7, 31), (8, 32), (9, 33)] (fun
        | 0 => .eqv (.pointer (some ⟨p, 0, none⟩)) | 1 => .eqv (.pointer (some ⟨p, 0, none⟩)) | 2 => .eqv (.pointer (some ⟨p, 1, none⟩)) | 3 => .eqv (.slice A n c) | 4 => .eqv (.int .i64 (n : Int)) | 5 => .eqv (.pointer (some ⟨p, 0, none⟩)) | 6 => .eqv (.pointer (some ⟨p, 0, none⟩)) | 7 => .eqv (.pointer (some ⟨p, 0, none⟩)) | 8 => .eqv (.int .i64 (m : Int)) | 9 => .eqv (.bool ((n : Int) == (m : Int))) | _ => .any) (by kernel_rfl) ?_ ?_
      · refine ⟨fun u hu => ?_, fun u hu => ?_, fun u hu => ?_, fun u hu => ?_, fun u hu => ?_, fun u hu => ?_, fun u hu => ?_, fun u hu => ?_, fun u hu => ?_, fun u hu => ?_, trivial⟩
        · refine StepGoal.nil ?_
          go_wp2
          exact ⟨rfl, rfl, Grew.rf _, rfl⟩
        · rintro _ rfl
          refine StepGoal.nil ?_
          simp only [Act.put, List.setIfInBounds_toArray, List.set_cons_zero, List.set_cons_succ]
          go_wp2
          exact ⟨rfl, rfl, Grew.rf _, rfl⟩
        · rintro _ rfl
          refine StepGoal.nil ?_
          simp only [Act.put, List.setIfInBounds_toArray, List.set_cons_zero, List.set_cons_succ]
          go_wp2
          exact ⟨rfl, rfl, Grew.rf _, rfl⟩
        · rintro _ rfl
          have hce := hu.ce hc1
          refine StepGoal.nil ?_
          simp only [Act.put, List.setIfInBounds_toArray, List.set_cons_zero, List.set_cons_succ]
          go_wp2
          exact ⟨rfl, rfl, Grew.rf _, rfl⟩
        · rintro _ rfl
          refine StepGoal.nil ?_
          simp only [Act.put, List.setIfInBounds_toArray, List.set_cons_zero, List.set_cons_succ]
          go_wp2
          exact ⟨rfl, rfl, Grew.rf _, rfl⟩
        · refine StepGoal.nil ?_
          go_wp2
          exact ⟨rfl, rfl, Grew.rf _, rfl⟩
        · rintro _ rfl
          refine StepGoal.nil ?_
          simp only [Act.put, List.setIfInBounds_toArray, List.set_cons_zero, List.set_cons_succ]
          go_wp2
          exact ⟨rfl, rfl, Grew.rf _, rfl⟩
        · rintro _ rfl
          refine StepGoal.nil ?_
          simp only [Act.put, List.setIfInBounds_toArray, List.set_cons_zero, List.set_cons_succ]
          go_wp2
          exact ⟨rfl, rfl, Grew.rf _, rfl⟩
        · rintro _ rfl
          have hce := hu.ce hc0
          refine StepGoal.nil ?_
          simp only [Act.put, List.setIfInBounds_toArray, List.set_cons_zero, List.set_cons_succ]
          go_wp2
          exact ⟨rfl, rfl, Grew.rf _, rfl⟩
        · rintro _ rfl _ rfl
          refine StepGoal.nil ?_
          simp only [Act.put, List.setIfInBounds_toArray, List.set_cons_zero, List.set_cons_succ]
          go_wp2
          exact ⟨rfl, rfl, Grew.rf _, rfl⟩
      · intro u hu
        rintro _ rfl _ rfl _ rfl _ rfl _ rfl _ rfl _ rfl _ rfl _ rfl _ rfl
        refine StepGoal.nil ?_
        simp only [Act.put, List.setIfInBounds_toArray, List.set_cons_zero, List.set_cons_succ]
        go_wp2_with fail
        go_meet
        exact ⟨rfl, hu⟩
    case rest =>
      obtain ⟨rfl, hgc⟩ := hcut
      have HG2 := Lib.hid (HG1.out.tr hgc)
      have HQ2 := Lib.hid (HQ0.out.keep hgc)
      have hc2 := hgc.ce hc1
      clear hc0 hc1 hgc HQ0
      go_upto_if 33 with fail
      go_cut [] from 33 to 42 (fun wx => MemoQ W wx p (.slice A n c) m (room1 m l now))
      case first =>
        by_cases hnm : n = m
        · have hdl := del_any (.slice A n c) 0 l _ _ (fun y => decide (y.2.2.2.2.2 ≤ now)) wc HEG2.out (HM.out.keep HG2.out).list (fun u' hC y => HP2.out u' ((Chg.of HG2.out).tr (hC.mono fun k hk => .inl (.inr hk))) y)
          have HDL := Lib.hid hdl
          have hmb : ((n : Int) == (m : Int)) = true := by simp [hnm]
          have HNM := Lib.hid hnm
          have hM1 := HM.out.keep HG2.out
          have HM1 := Lib.hid hM1
          clear hdl hnm hM1
          go_wp2_with (go_at_call 17; refine Calls.mono HDL.out ?_; rintro e w2 ⟨v2, rfl, hO2, hC2, hB2⟩; obtain ⟨A2, c2, rfl, hn2, hm2, hr2⟩ := hO2.rd; have hcs2 := hC2.by_ HM1.out.cells (fun h => HM1.out.apart h); have hce2 := cell_of_heap (i := 1) hcs2 rfl; have hfz2 := frozen_of_heap (i := 1) hcs2; have HO2 := Lib.hid hO2; clear hO2 hr2 hcs2)
          go_meet
          have hrq : room1 m l now = l.filter (fun y => !decide (y.2.2.2.2.2 ≤ now)) := by unfold room1; rw [HN2.out, if_pos HNM.out]
          rw [hrq]
          exact MemoQ.step HQ2.out.chg (fun k hk => .inl hk) (MemoQ.set HM1.out hC2 HO2.out (.inl hB2) (Nat.le_trans (List.length_filter_le _ _) HM1.out.few))
        · have hq : room1 m l now = l := by unfold room1; rw [HN2.out, if_neg hnm]
          have HQ := Lib.hid hq
          have hmb : ((n : Int) == (m : Int)) = false := by simp; omega
          clear hq
          go_wp2
          go_meet
          rw [HQ.out]; exact HQ2.out
      case rest =>
        obtain ⟨⟨lv2, hM2, hF2⟩, hCh2⟩ := hcut
        obtain ⟨wd, rfl⟩ : ∃ wd, wd = wc := ⟨_, rfl⟩
        obtain ⟨A2, c2, rfl, hn2, hm2, hr2⟩ := hM2.list.rd
        have hf2 := hM2.few
        have hc20 := cell_of_heap (i := 0) hM2.cells rfl
        have hc21 := cell_of_heap (i := 1) hM2.cells rfl
        simp only [List.getElem_toArray, List.getElem_cons_zero, List.getElem_cons_succ] at hc20 hc21
        obtain ⟨l2, hl2⟩ : ∃ l2, room1 m l now = l2 := ⟨_, rfl⟩
        rw [hl2] at hM2 hn2 hr2 hf2 hc21 hF2
        have h62 : SixC wd xb 0 x := H6.out.chg hCh2 (fun h => H60.out _ h rfl)
        obtain ⟨n2, hn3⟩ : ∃ n2, l2.length = n2 := ⟨_, rfl⟩
        rw [hn3] at hM2 hn2 hr2 hf2 hc21 hF2
        have hxf : ∀ k, ftm p (.slice A2 n2 c2) k → xb ≠ k := fun k hk e => by
          rcases hF2 k hk with h | h
          · exact H60.out k h e
          · have := lt_of_cell H6.out.c0; dsimp only at this; omega
        have HM2 := Lib.hid hM2
        have HF2 := Lib.hid hF2
        have HCH2 := Lib.hid hCh2
        have HL2 := Lib.hid hl2
        have HR2 := Lib.hid hr2
        have H62 := Lib.hid h62
        have HN3 := Lib.hid hn3
        have HXF := Lib.hid hxf
        clear hM2 hF2 hCh2 hl2 hr2 h62 hn3 hxf hc2 HQ2
        go_upto_region 7 with fail
        go_cut [52] from 43 to 52 (fun f wx => f = .bool ((n2 : Int) == (m : Int)) ∧ Grew wd wx)
        case first =>
          refine region_grew [[], [(0, 43)], [(1, 44)], [(2, 45)], [(3, 46)], [], [(5, 48)], [(6, 49)], [(7, 50)], [(4, 47), (8, 51)]] [(0, 43), (1, 44), (2, 45), (3, 46), (4, 47), (5, 48), (6, 49), (7, 50), (8, 51), (9, 52)] (fun
            | 0 => .eqv (.pointer (some ⟨p, 0, none⟩)) | 1 => .eqv (.pointer (some ⟨p, 0, none⟩)) | 2 => .eqv (.pointer (some ⟨p, 1, none⟩)) | 3 => .eqv (.slice A2 n2 c2) | 4 => .eqv (.int .i64 (n2 : Int)) | 5 => .eqv (.pointer (some ⟨p, 0, none⟩)) | 6 => .eqv (.pointer (some ⟨p, 0, none⟩)) | 7 => .eqv (.pointer (some ⟨p, 0, none⟩)) | 8 => .eqv (.int .i64 (m : Int)) | 9 => .eqv (.bool ((n2 : Int) == (m : Int))) | _ => .any) (by kernel_rfl) ?_ ?_
          · refine ⟨fun u hu => ?_, fun u hu => ?_, fun u hu => ?_, fun u hu => ?_, fun u hu => ?_, fun u hu => ?_, fun u hu => ?_, fun u hu => ?_, fun u hu => ?_, fun u hu => ?_, trivial⟩
            · refine StepGoal.nil ?_
              go_wp2
              exact ⟨rfl, rfl, Grew.rf _, rfl⟩
            · rintro _ rfl
              refine StepGoal.nil ?_
              simp only [Act.put, List.setIfInBounds_toArray, List.set_cons_zero, List.set_cons_succ]
              go_wp2
              exact ⟨rfl, rfl, Grew.rf _, rfl⟩
            · rintro _ rfl
              refine StepGoal.nil ?_
              simp only [Act.put, List.setIfInBounds_toArray, List.set_cons_zero, List.set_cons_succ]
              go_wp2
              exact ⟨rfl, rfl, Grew.rf _, rfl⟩
            · rintro _ rfl
              have hce := hu.ce hc21
              refine StepGoal.nil ?_
              simp only [Act.put, List.setIfInBounds_toArray, List.set_cons_zero, List.set_cons_succ]
              go_wp2
              exact ⟨rfl, rfl, Grew.rf _, rfl⟩
            · rintro _ rfl
              refine StepGoal.nil ?_
              simp only [Act.put, List.setIfInBounds_toArray, List.set_cons_zero, List.set_cons_succ]
              go_wp2
              exact ⟨rfl, rfl, Grew.rf _, rfl⟩
            · refine StepGoal.nil ?_
              go_wp2
              exact ⟨rfl, rfl, Grew.rf _, rfl⟩
            · rintro _ rfl
              refine StepGoal.nil ?_
              simp only [Act.put, List.setIfInBounds_toArray, List.set_cons_zero, List.set_cons_succ]
              go_wp2
              exact ⟨rfl, rfl, Grew.rf _, rfl⟩
            · rintro _ rfl
              refine StepGoal.nil ?_
              simp only [Act.put, List.setIfInBounds_toArray, List.set_cons_zero, List.set_cons_succ]
              go_wp2
              exact ⟨rfl, rfl, Grew.rf _, rfl⟩
            · rintro _ rfl
              have hce := hu.ce hc20
              refine StepGoal.nil ?_
              simp only [Act.put, List.setIfInBounds_toArray, List.set_cons_zero, List.set_cons_succ]
              go_wp2
              exact ⟨rfl, rfl, Grew.rf _, rfl⟩
            · rintro _ rfl _ rfl
              refine StepGoal.nil ?_
              simp only [Act.put, List.setIfInBounds_toArray, List.set_cons_zero, List.set_cons_succ]
              go_wp2
              exact ⟨rfl, rfl, Grew.rf _, rfl⟩
          · intro u hu
            rintro _ rfl _ rfl _ rfl _ rfl _ rfl _ rfl _ rfl _ rfl _ rfl _ rfl
            refine StepGoal.nil ?_
            simp only [Act.put, List.setIfInBounds_toArray, List.set_cons_zero, List.set_cons_succ]
            go_wp2_with fail
            go_meet
            exact ⟨rfl, hu⟩
        case rest =>
          obtain ⟨rfl, hgc⟩ := hcut
          obtain ⟨we, rfl⟩ : ∃ we, we = wc := ⟨_, rfl⟩
          have hM3 := HM2.out.keep hgc
          have hc31 := hgc.ce hc21
          have HQ3 : RowKit.Hid (MemoQ wd _ p (.slice A2 n2 c2) m l2) := ⟨⟨_, hM3, fun k hk => .inl hk⟩, Chg.of hgc⟩
          have HM3 := Lib.hid hM3
          clear hc20 hc21 hgc hM3
          go_upto_if 52 with fail
          go_cut [] from 52 to 60 (fun wx => MemoQ wd wx p (.slice A2 n2 c2) m (room2 m l2))
          case first =>
            by_cases hnm : n2 = m
            · have hmb : ((n2 : Int) == (m : Int)) = true := by simp [hnm]
              have hp1 := HM.out.pos
              obtain ⟨n3, rfl⟩ : ∃ n3, n2 = n3 + 1 := ⟨n2 - 1, by omega⟩
              have hA : ∃ gb, A2 = some ⟨gb, 0, none⟩ := by
                rcases HM3.out.list.own.2 with ⟨hv, h0⟩ | ⟨gb, cp, cur, hv, _⟩
                · rw [HN3.out] at h0; omega
                · simp only [Value.slice.injEq] at hv; exact ⟨gb, hv.1⟩
              obtain ⟨gb, rfl⟩ := hA
              have hO3 : OwnV 32 6 we 0 (.slice (some ⟨gb, 0, none⟩) (n3 + 1) c2) l2.length (acs l2) := HM3.out.list
              rw [HN3.out] at hO3
              have hdl := delete1_any gb n3 c2 0 l2 we HN3.out hO3
              have HDL := Lib.hid hdl
              have HNM := Lib.hid hnm
              clear hdl hnm hO3
              go_wp2_with (go_at_call 26; refine Calls.mono HDL.out ?_; rintro e w2 ⟨rfl, hO2, hb2⟩; have hC2 := Chg.ofBy (F := fun k => (Value.slice (some ⟨gb, 0, none⟩) (n3 + 1) c2).ownBlock = some k) hb2 (fun b hb => hb); have hcs2 := hC2.by_ HM3.out.cells (fun h => HM3.out.apart h); have hce2 := cell_of_heap (i := 1) hcs2 rfl; have hfz2 := frozen_of_heap (i := 1) hcs2; have HO2 := Lib.hid hO2; have HC2 := Lib.hid hC2; clear hO2 hC2 hcs2 hb2)
              go_meet
              have hrq : room2 m l2 = l2.drop 1 := by unfold room2; rw [HN3.out, if_pos HNM.out]
              have hO4 : OwnV 32 6 w2 0 (.slice (some ⟨gb, 0, none⟩) n3 c2) n3 (acs (l2.drop 1)) := HO2.out
              have hln : (l2.drop 1).length = n3 := by rw [List.length_drop, HN3.out]; omega
              have hO5 : OwnA w2 0 (.slice (some ⟨gb, 0, none⟩) n3 c2) (l2.drop 1) := by
                show OwnV _ _ _ _ _ _ _
                rw [hln]; exact hO4
              rw [hrq]
              exact MemoQ.step HQ3.out.chg (fun k hk => .inl hk) (MemoQ.set HM3.out HC2.out hO5 (.inl rfl) (by rw [hln]; have := HNM.out; omega))
            · have hq : room2 m l2 = l2 := by unfold room2; rw [HN3.out, if_neg hnm]
              have HQ := Lib.hid hq
              have hmb : ((n2 : Int) == (m : Int)) = false := by simp; omega
              clear hq
              go_wp2
              go_meet
              rw [HQ.out]; exact HQ3.out
          case rest =>
            obtain ⟨⟨lv4, hM4, hF4⟩, hCh4⟩ := hcut
            obtain ⟨wz, rfl⟩ : ∃ wz, wz = wc := ⟨_, rfl⟩
            obtain ⟨l4, hl4⟩ : ∃ l4, room2 m l2 = l4 := ⟨_, rfl⟩
            have hlt4 : l4.length < m := by rw [← hl4]; exact room2_lt m l2 (by rw [HN3.out]; exact hf2) HM.out.pos
            rw [hl4] at hM4
            obtain ⟨A4, c4, rfl, -, -, -⟩ := hM4.list.rd
            have h64 : SixC wz xb 0 x := H62.out.chg hCh4 (fun h => HXF.out _ h rfl)
            have hxf4 : ∀ k, ftm p (.slice A4 l4.length c4) k → xb ≠ k := fun k hk e => by
              rcases hF4 k hk with h | h
              · exact HXF.out k h e
              · have := lt_of_cell H62.out.c0; dsimp only at this; omega
            have hend : ∀ u, MemoQ wz u p (.slice A4 l4.length c4) m (l4 ++ [x]) → MemoQ w u p (.slice A n c) m (room2 m (room1 m l now) ++ [x]) := fun u hq => by
              rw [HL2.out, hl4]
              exact MemoQ.step (Chg.of HG.out) (fun k hk => .inl hk) (MemoQ.step HCH2.out HF2.out (MemoQ.step hCh4 hF4 hq))
            have HEND := Lib.hid hend
            have HM4 := Lib.hid hM4
            clear hend hl4 hF4 hCh4 hc31 HQ3 hM4
            go_upto_region 9 with fail
            have hS : TwoZ (GA (.slice A4 l4.length c4)) (GS p) (fun u => OwnA u 0 (.slice A4 l4.length c4) l4) (fun u => u.heap[p]? = some (.cells #[.int .i64 (m : Int), (.slice A4 l4.length c4)] 47) ∧ SixC u xb 0 x) (fun u => Chg (ftm p (.slice A4 l4.length c4)) wz u) := tzM HM4.out.apart (fun h => hxf4 _ (.inr h) rfl)
            have hX0 : OwnA wz 0 (.slice A4 l4.length c4) l4 := HM4.out.list
            have hZ0 : wz.heap[p]? = some (.cells #[.int .i64 (m : Int), (.slice A4 l4.length c4)] 47) ∧ SixC wz xb 0 x := ⟨HM4.out.cells, h64⟩
            clear h64 hxf4
            refine region_twoz 7 10 hS (Chg.of (Grew.rf wz)) hX0 hZ0 [(7, 6), (10, 6), (10, 7)] [[], [], [(1, 62)], [(2, 63)], [(3, 64)], [], [(5, 66)], [(4, 65), (6, 67)], [(0, 61)], [(8, 69)], [(7, 68), (9, 70)]] [(0, 61), (1, 62), (2, 63), (3, 64), (4, 65), (5, 66), (6, 67), (7, 68), (8, 69), (9, 70)] (fun
              | 0 => .eqv (.pointer (some ⟨p, 0, none⟩)) | 1 => .eqv (.pointer (some ⟨p, 0, none⟩)) | 2 => .eqv (.pointer (some ⟨p, 0, none⟩)) | 3 => .eqv (.pointer (some ⟨p, 1, none⟩)) | 4 => .eqv (.slice A4 l4.length c4) | 5 => .eqv (aV x) | 6 => pxA1 (.slice A4 l4.length c4) p x | 7 => pxA2 (.slice A4 l4.length c4) p wz (l4 ++ [x]) | 8 => .eqv (.pointer (some ⟨p, 0, none⟩)) | 9 => .eqv (.pointer (some ⟨p, 1, none⟩)) | 10 => pxA3 (.slice A4 l4.length c4) p wz m (l4 ++ [x]) | _ => .any) rfl (by kernel_rfl) (by kernel_rfl) ?_ ?_
            · refine ⟨fun u hu hx => ?_, fun u hu hx => ?_, fun u hu hx => ?_, fun u hu hx => ?_, fun u hu hx => ?_, fun u hu hx => ?_, fun u hu hx => ?_, fun u hu hx => ?_, fun u hu hx => ?_, fun u hu hx => ?_, fun u hu hx => ?_, trivial⟩
              · refine StepGoal.nil ?_
                go_wp2
                exact ⟨rfl, rfl, Grew.rf _, rfl⟩
              · refine StepGoal.nil ?_
                go_wp2
                exact ⟨rfl, rfl, Grew.rf _, rfl⟩
              · rintro _ rfl
                refine StepGoal.nil ?_
                simp only [Act.put, List.setIfInBounds_toArray, List.set_cons_zero, List.set_cons_succ]
                go_wp2
                exact ⟨rfl, rfl, Grew.rf _, rfl⟩
              · rintro _ rfl
                refine StepGoal.nil ?_
                simp only [Act.put, List.setIfInBounds_toArray, List.set_cons_zero, List.set_cons_succ]
                go_wp2
                exact ⟨rfl, rfl, Grew.rf _, rfl⟩
              · rintro _ rfl
                have hz : u.heap[p]? = some (.cells #[.int .i64 (m : Int), (.slice A4 l4.length c4)] 47) ∧ SixC u xb 0 x := hx; have hce := cell_of_heap (i := 1) hz.1 rfl; simp only [List.getElem_toArray, List.getElem_cons_zero, List.getElem_cons_succ] at hce; clear hz hx
                refine StepGoal.nil ?_
                simp only [Act.put, List.setIfInBounds_toArray, List.set_cons_zero, List.set_cons_succ]
                go_wp2
                exact ⟨rfl, rfl, Grew.rf _, rfl⟩
              · have hz : u.heap[p]? = some (.cells #[.int .i64 (m : Int), (.slice A4 l4.length c4)] 47) ∧ SixC u xb 0 x := hx; obtain ⟨c0, c1, c2, c3, c4, c5⟩ := hz.2
                refine StepGoal.nil ?_
                go_wp2
                exact ⟨rfl, rfl, Grew.rf _, rfl⟩
              · rintro _ rfl
                refine StepGoal.nil ?_
                simp only [Act.put, List.setIfInBounds_toArray, List.set_cons_zero, List.set_cons_succ]
                go_wp2
                exact ⟨rfl, rfl, (Grew.rf u).al _, ⟨_, rfl, rdA_new u x _⟩⟩
              · rintro _ rfl v67 h67
                have hz : OwnA u 0 (.slice A4 l4.length c4) l4 ∧ (u.heap[p]? = some (.cells #[.int .i64 (m : Int), (.slice A4 l4.length c4)] 47) ∧ SixC u xb 0 x) := hx; obtain ⟨gb, rfl, hr67⟩ : ∃ gb, v67 = .slice (some ⟨gb, 0, none⟩) 1 1 ∧ RdA u (some ⟨gb, 0, none⟩) 1 [x] := h67
                refine StepGoal.nil ?_
                simp only [Act.put, List.setIfInBounds_toArray, List.set_cons_zero, List.set_cons_succ]
                refine appV Try.underlying39 infoA zero_ask (by decide) (by decide) (.inl rfl) rfl rfl rfl hz.1 hr67 (acs_one _) (Nat.zero_le _) (by omega) ?_; intro v1 w1 ho1 hg1 hat1; go_wp2
                exact ⟨rfl, rfl, Chg.ofBy hg1 (fun b hb => hb), pxA2_mk ho1 hat1 hu.size⟩
              · rintro _ rfl
                refine StepGoal.nil ?_
                simp only [Act.put, List.setIfInBounds_toArray, List.set_cons_zero, List.set_cons_succ]
                go_wp2
                exact ⟨rfl, rfl, Grew.rf _, rfl⟩
              · rintro _ rfl
                refine StepGoal.nil ?_
                simp only [Act.put, List.setIfInBounds_toArray, List.set_cons_zero, List.set_cons_succ]
                go_wp2
                exact ⟨rfl, rfl, Grew.rf _, rfl⟩
              · rintro v68 h68 _ rfl
                have hz : u.heap[p]? = some (.cells #[.int .i64 (m : Int), .slice A4 l4.length c4] 47) ∧ SixC u xb 0 x := hx; have h68' : OwnA u 0 v68 (l4 ++ [x]) ∧ (v68.ownBlock = (Value.slice A4 l4.length c4).ownBlock ∨ ∀ k, v68.ownBlock = some k → wz.heap.size ≤ k) := h68; obtain ⟨hO5, hB5⟩ := h68'; obtain ⟨A5, c5, rfl, -, -, -⟩ := hO5.rd; have hce5 := cell_of_heap (i := 1) hz.1 rfl; have hfz5 := frozen_of_heap (i := 1) hz.1; have HZ := Lib.hid hz; have HO5 := Lib.hid hO5; clear hz hO5 hx h68
                refine StepGoal.nil ?_
                simp only [Act.put, List.setIfInBounds_toArray, List.set_cons_zero, List.set_cons_succ]
                go_wp2
                exact ⟨rfl, rfl, Chg.ofBy (setCell_by u _ _) (fun b hb => by cases hb; rfl), by have h5 := MemoQ.set5 HM4.out hu HZ.out.1 HO5.out hB5 (by rw [List.length_append]; exact hlt4); rw [List.length_append] at h5; exact h5⟩
            · intro u hu hall
              rintro _ rfl _ rfl _ rfl _ rfl _ rfl _ rfl v67 _ v68 _ _ rfl _ rfl
              refine StepGoal.nil ?_
              simp only [Act.put, List.setIfInBounds_toArray, List.set_cons_zero, List.set_cons_succ]
              obtain ⟨v10, h10⟩ := hall 10 (by decide)
              have hq : MemoQ wz u p (.slice A4 l4.length c4) m (l4 ++ [x]) := h10
              have HQ := Lib.hid hq
              clear hq h10 hall hS hX0 hZ0 hu
              go_wp2
              refine bodyPost_end (results_none rfl _ _ _) rfl ⟨rfl, ?_⟩
              exact HEND.out _ HQ.out
theorem mput_none (x : Ask) (now : Int) (w : World) :
    Calls Try.prog 13 #[.pointer none, aV x, .int .i64 now] w fun e w' => e = .returned (.tuple #[]) ∧ Grew w w' := by
  go_enter Try.func13, Try.ntmps13
  go_wp2
  exact bodyPost_ret (results_none rfl _ _ _) rfl ⟨rfl, ((Grew.rf w).al _).al _⟩
theorem mdrop_none (fr ur : ByteArray) (w : World) :
    Calls Try.prog 9 #[.pointer none, .string fr, .string ur] w fun e w' => e = .returned (.tuple #[]) ∧ Grew w w' := by
  go_enter Try.func9, Try.ntmps9
  go_wp2
  exact bodyPost_end (results_none rfl _ _ _) rfl ⟨rfl, ((Grew.rf w).al _).al _⟩
end Go.Proofs.Ytcllmhabhbnihaa
