/- Memo: the walks of Has and Drop. -/
import Derived.Test.YtcllmhabhbnihaaMemo7
import Derived.Shelf.Abstract
set_option linter.unusedVariables false
set_option linter.unusedSimpArgs false
namespace Go.Proofs.Ytcllmhabhbnihaa
open Go.RowKit

/-- What a deed leaves of the memo. -/
structure MemoQ (w w' : World) (p : Nat) (lv : Value) (most : Nat) (l' : List Ask) : Prop where
  memo : ∃ lv', MemoI w' p lv' most l' ∧ ∀ k, ftm p lv' k → ftm p lv k ∨ w.heap.size ≤ k
  chg : Chg (ftm p lv) w w'
theorem cell_alloc_new (w : World) (v : Value) (t : TypeId) : (w.alloc (.cells #[v] t)).cell? ⟨w.heap.size, 0, none⟩ = some v := cell_of_heap (heap_alloc_new w _) rfl

theorem memo_set {w1 : World} {p m : Nat} {lv v1 : Value} {l' : List Ask} (hc : w1.heap[p]? = some (.cells #[.int .i64 (m : Int), lv] 47)) (hO : OwnA w1 0 v1 l') (hv : v1.ownBlock ≠ some p) (hf : l'.length ≤ m) (h1 : 1 ≤ m) (h2 : m ≤ 64) : MemoI (w1.setCell ⟨p, 1, none⟩ v1) p v1 m l' :=
  ⟨by rw [setCell_heap_same hc]; rfl, hO.chg (F := fun k => k = p) (Chg.ofBy (setCell_by _ _ _) (fun b hb => by cases hb; rfl)) (fun k hk h => hv (h ▸ hk)), hf, h1, h2⟩

set_option maxRecDepth 100000 in
set_option maxHeartbeats 1600000 in
theorem mhas_any (p : Nat) (lv : Value) (m : Nat) (l : List Ask) (x : Ask) (now : Int) (w : World) (hM : MemoI w p lv m l) :
    Calls Try.prog 11 #[.pointer (some ⟨p, 0, none⟩), aV x, .int .i64 now] w fun e w' => e = .returned (.bool (l.any (hasP x now))) ∧ Grew w w' := by
  obtain ⟨A, c, rfl, hnc, hc, hr⟩ := hM.list.rd
  have hfew := hM.few
  have hmm := hM.most
  obtain ⟨W, hW⟩ : ∃ W, (w.alloc (.cells #[.string x.1, .string x.2.1, .bool x.2.2.1, .string x.2.2.2.1, .string x.2.2.2.2.1, .int .i64 x.2.2.2.2.2] 32)).alloc (.cells #[.int .i64 now] 3) = W := ⟨_, rfl⟩
  have hg : Grew w W := by rw [← hW]; exact ((Grew.rf w).al _).al _
  have h6 : SixC W w.heap.size 0 x := by rw [← hW]; exact (six_new w x _).keep ((Grew.rf _).al _)
  have hn : W.cell? ⟨w.heap.size + 1, 0, none⟩ = some (.int .i64 now) := by
    rw [← hW]
    have := cell_alloc_new (w.alloc (.cells #[.string x.1, .string x.2.1, .bool x.2.2.1, .string x.2.2.2.1, .string x.2.2.2.2.1, .int .i64 x.2.2.2.2.2] 32)) (.int .i64 now) 3
    rw [World.size_alloc] at this
    exact this
  have hp : PredOk 20 #[.pointer (some ⟨w.heap.size, 0, none⟩), .pointer (some ⟨w.heap.size + 1, 0, none⟩)] (hasP x now) (fun _ => False) W := fun u hu y =>
    has1_any _ _ x now y u (h6.chg hu (fun h => h)) ((World.cell?_of_block (hu.block _ (lt_of_cell hn) (fun h => h))).trans hn)
  have eg : ∀ args w, (callFunc 20 args).run Try.prog w = .ok (.enter 20 args) w := enters_of Try.func20 (by kernel_rfl) rfl
  have hct := cont_any A l.length c l _ _ _ _ W eg (hr.keep hg) (by omega) hp
  have hce := hg.ce (cell_of_heap (i := 1) hM.cells rfl)
  simp only [List.getElem_toArray, List.getElem_cons_zero, List.getElem_cons_succ] at hce
  obtain ⟨n, hn2⟩ : ∃ n, l.length = n := ⟨_, rfl⟩
  rw [hn2] at hct hce
  have HCT := Lib.hid hct
  have HG := Lib.hid hg
  have HW := Lib.hid hW
  have HCE := Lib.hid hce
  clear hp eg hct hr hM hfew hn2 hnc h6 hn hW hg hce
  go_enter Try.func11, Try.ntmps11
  go_upto_region 1 with fail
  rw [HW.out]
  have hce := HCE.out
  go_wp2_with (go_at_call 19; refine Calls.mono HCT.out ?_; rintro e w1 ⟨rfl, hg1⟩)
  go_ret
  exact ⟨rfl, HG.out.tr hg1⟩
theorem mhas_none (x : Ask) (now : Int) (w : World) :
    Calls Try.prog 11 #[.pointer none, aV x, .int .i64 now] w fun e w' => e = .returned (.bool false) ∧ Grew w w' := by
  go_enter Try.func11, Try.ntmps11
  go_wp2
  go_ret
  exact ⟨rfl, ((Grew.rf w).al _).al _⟩

set_option maxRecDepth 100000 in
set_option maxHeartbeats 1600000 in
theorem mdrop_any (p : Nat) (lv : Value) (m : Nat) (l : List Ask) (fr ur : ByteArray) (w : World) (hM : MemoI w p lv m l) :
    Calls Try.prog 9 #[.pointer (some ⟨p, 0, none⟩), .string fr, .string ur] w fun e w' => e = .returned (.tuple #[]) ∧ MemoQ w w' p lv m (l.filter fun y => !decide (y.1 = fr ∧ y.2.1 = ur)) := by
  obtain ⟨W, hW⟩ : ∃ W, (w.alloc (.cells #[.string fr] 9)).alloc (.cells #[.string ur] 9) = W := ⟨_, rfl⟩
  have hg : Grew w W := by rw [← hW]; exact ((Grew.rf w).al _).al _
  have hf : W.cell? ⟨w.heap.size, 0, none⟩ = some (.string fr) := by rw [← hW]; exact ((Grew.rf _).al _).ce (cell_alloc_new w _ _)
  have hu : W.cell? ⟨w.heap.size + 1, 0, none⟩ = some (.string ur) := by
    rw [← hW]
    have := cell_alloc_new (w.alloc (.cells #[.string fr] 9)) (.string ur) 9
    rw [World.size_alloc] at this
    exact this
  have hMW := hM.keep hg
  have hlt : ∀ k, ftm p lv k → k < w.heap.size := fun k hk => hM.lt hk
  have hp : PredOk 18 #[.pointer (some ⟨w.heap.size, 0, none⟩), .pointer (some ⟨w.heap.size + 1, 0, none⟩)] (fun y => decide (y.1 = fr ∧ y.2.1 = ur)) (fun k => lv.ownBlock = some k) W := fun u hC y =>
    drop1_any _ _ fr ur y u ((World.cell?_of_block (hC.block _ (lt_of_cell hf) (fun h => by have := hlt _ (.inr h); dsimp only at this; omega))).trans hf) ((World.cell?_of_block (hC.block _ (lt_of_cell hu) (fun h => by have := hlt _ (.inr h); dsimp only at this; omega))).trans hu)
  have eg : ∀ args w, (callFunc 18 args).run Try.prog w = .ok (.enter 18 args) w := enters_of Try.func18 (by kernel_rfl) rfl
  have hdl := del_any lv 0 l _ _ _ W eg hMW.list hp
  have hce := cell_of_heap (i := 1) hMW.cells rfl
  simp only [List.getElem_toArray, List.getElem_cons_zero, List.getElem_cons_succ] at hce
  obtain ⟨l', hl'⟩ : ∃ l', (l.filter fun y => !decide (y.1 = fr ∧ y.2.1 = ur)) = l' := ⟨_, rfl⟩
  rw [hl'] at hdl ⊢
  have HL : RowKit.Hid (l' = l.filter fun y => !decide (y.1 = fr ∧ y.2.1 = ur)) := hl'.symm
  clear hl'
  have HDL := Lib.hid hdl
  have HG := Lib.hid hg
  have HW := Lib.hid hW
  have HM := Lib.hid hMW
  have HLT := Lib.hid hlt
  clear hp eg hdl hM hf hu hW hg hMW hlt
  go_enter Try.func9, Try.ntmps9
  go_upto_region 1 with fail
  rw [HW.out]
  go_wp2_with (go_at_call 17; refine Calls.mono HDL.out ?_; rintro e w1 ⟨v1, rfl, hO1, hC1, hB1⟩; obtain ⟨A1, c1, rfl, hn1, hm1, hr1⟩ := hO1.rd; have hc1 := hC1.by_ HM.out.cells (fun h => HM.out.apart h); have hce1 := cell_of_heap (i := 1) hc1 rfl; have hfz1 := frozen_of_heap (i := 1) hc1; have HC1 := Lib.hid hc1; have HO1 := Lib.hid hO1; clear hO1 hr1)
  refine bodyPost_end (results_none rfl _ _ _) rfl ?_
  refine ⟨rfl, ⟨_, memo_set HC1.out HO1.out (by rw [hB1]; exact HM.out.apart) (by rw [HL.out]; exact Nat.le_trans (List.length_filter_le _ _) HM.out.few) HM.out.pos HM.out.most, fun k hk => ?_⟩, ?_⟩
  · rcases hk with rfl | hk
    · exact .inl (.inl rfl)
    · exact .inl (.inr (hB1 ▸ hk))
  · exact (Chg.of HG.out).tr (((hC1.mono fun k hk => .inl (.inr hk))).tr (Chg.ofBy (setCell_by w1 _ _) (fun b hb => by cases hb; exact .inl (.inl (.inl rfl)))))
end Go.Proofs.Ytcllmhabhbnihaa
