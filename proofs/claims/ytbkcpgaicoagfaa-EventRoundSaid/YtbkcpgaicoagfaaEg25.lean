/- event.Good of kinds 1, 2, 3; all kinds. Printed by wip/mkEv10.py. -/
import Derived.Test.YtbkcpgaicoagfaaEg24
import Derived.Test.YtbkcpgaicoagfaaEg18
import Derived.Test.YtbkcpgaicoagfaaEg21
set_option linter.unusedVariables false
set_option linter.unusedSimpArgs false
namespace Go.Proofs.Ytbkcpgaicoagfaa
open Go.RowKit

set_option maxRecDepth 100000 in
set_option maxHeartbeats 6400000 in
theorem good_3 (se ti : Int) (me ur : ByteArray) (hs : List Hdr) (bo : ByteArray) (st co : Int) (cr : Bool) (no : ByteArray) (nn : Int) (A : Option Addr) (n c : Nat) (w : World) (hsz : sizedB ⟨3, se, ti, me, ur, hs, bo, st, co, cr, no, nn⟩ = true) (hr : RdH w A n hs) (hA : A = none → n = 0 ∧ c = 0) (hn : n ≤ 1000) : GoodC ⟨3, se, ti, me, ur, hs, bo, st, co, cr, no, nn⟩ A n c w := by
  have hg : goodE ⟨3, se, ti, me, ur, hs, bo, st, co, cr, no, nn⟩ = (decide (me = noT ∧ ur = noT ∧ co = 0 ∧ cr = false ∧ no = noT ∧ nn = 0) && decide (100 ≤ st ∧ st ≤ 599)) := by
    unfold goodE
    rw [hsz]
    rfl
  have HG := Lib.hid hg
  have hsd := fun (u : World) (hu : Grew w u) => sized_any ⟨3, se, ti, me, ur, hs, bo, st, co, cr, no, nn⟩ A n c u (hr.keep hu) (by omega)
  rw [hsz] at hsd
  have HSD := Lib.hid hsd
  have HR := Lib.hid hr
  have HAN := Lib.hid hA
  clear hg hsd hsz hr hA
  show Calls _ _ _ _ _
  go_enter Try.func38, Try.ntmps38
  go_upto_region 4 with (go_at_call 70; refine Calls.mono (HSD.out _ ((Grew.rf w).al _)) ?_; rintro e w2 ⟨rfl, hg2⟩; have hp2 := heap_keep hg2 (heap_alloc_new w (evO ⟨3, se, ti, me, ur, hs, bo, st, co, cr, no, nn⟩ A n c)); have c5 : w2.cell? ⟨w.heap.size, 5, none⟩ = some (.slice A n c) := cell_of_heap hp2 rfl; have c6 : w2.cell? ⟨w.heap.size, 6, none⟩ = some (.string bo) := cell_of_heap hp2 rfl)
  have hq0 := heap_keep ((Grew.rf _).al (.cells #[.int .i64 0, .int .i64 0, .int .i64 0, .string { data := #[] }, .string { data := #[] }, .slice A n c, .string bo, .int .i64 0, .int .i64 0, .bool false, .string { data := #[] }, .int .u64 0] 34)) hp2
  have hq1 := heap_alloc_new w2 (.cells #[.int .i64 0, .int .i64 0, .int .i64 0, .string { data := #[] }, .string { data := #[] }, .slice A n c, .string bo, .int .i64 0, .int .i64 0, .bool false, .string { data := #[] }, .int .u64 0] 34)
  have hgW : Grew w (w2.alloc (.cells #[.int .i64 0, .int .i64 0, .int .i64 0, .string { data := #[] }, .string { data := #[] }, .slice A n c, .string bo, .int .i64 0, .int .i64 0, .bool false, .string { data := #[] }, .int .u64 0] 34)) := (((Grew.rf w).al _).tr hg2).al _
  have hlt : w.heap.size < w2.heap.size := by have := hg2.size; rw [World.size_alloc] at this; omega
  clear hp2 c5 c6 hg2
  generalize w2.alloc (.cells #[.int .i64 0, .int .i64 0, .int .i64 0, .string { data := #[] }, .string { data := #[] }, .slice A n c, .string bo, .int .i64 0, .int .i64 0, .bool false, .string { data := #[] }, .int .u64 0] 34) = W at *
  obtain ⟨hb, hhb⟩ : ∃ hb, w.heap.size = hb := ⟨_, rfl⟩
  obtain ⟨kb, hkb⟩ : ∃ kb, w2.heap.size = kb := ⟨_, rfl⟩
  rw [hhb] at hq0 hlt ⊢
  rw [hkb] at hq1 hlt ⊢
  have HHB := Lib.hid hhb
  have HLT := Lib.hid hlt
  have HQ0 : RowKit.Hid (W.heap[hb]? = some (.cells #[.int .i64 3, .int .i64 se, .int .i64 ti, .string me, .string ur, .slice A n c, .string bo, .int .i64 st, .int .i64 co, .bool cr, .string no, .int .u64 nn] 34)) := hq0
  have HQ1 : RowKit.Hid (W.heap[kb]? = some (.cells #[.int .i64 0, .int .i64 0, .int .i64 0, .string { data := #[] }, .string { data := #[] }, .slice A n c, .string bo, .int .i64 0, .int .i64 0, .bool false, .string { data := #[] }, .int .u64 0] 34)) := hq1
  have HGW := Lib.hid hgW
  clear hhb hkb hlt hq0 hq1 hgW
  have c0 : W.cell? ⟨hb, 0, none⟩ = some (.int .i64 3) := cell_of_heap HQ0.out rfl
  have hba := fun (u : World) (hu : Grew w u) => bare_b ⟨3, se, ti, me, ur, hs, bo, st, co, cr, no, nn⟩ A n c ⟨0, 0, 0, noT, noT, hs, bo, st, 0, false, noT, 0⟩ A n c u (HR.out.keep hu) (HR.out.keep hu) (by omega) (by omega) (decide (me = noT ∧ ur = noT ∧ co = 0 ∧ cr = false ∧ no = noT ∧ nn = 0)) (by simp [sameE])
  generalize decide (me = noT ∧ ur = noT ∧ co = 0 ∧ cr = false ∧ no = noT ∧ nn = 0) = bb at hba HG
  have HBA := Lib.hid hba
  clear hba
  have c7 : W.cell? ⟨hb, 7, none⟩ = some (.int .i64 st) := cell_of_heap HQ0.out rfl
  have hq0 := HQ0.out
  have hq1 := HQ1.out
  have hne : hb ≠ kb := by have := HLT.out; omega
  have hkb : w.heap.size ≤ kb := by rw [HHB.out]; have := HLT.out; omega
  have k7 : W.cell? ⟨kb, 7, none⟩ = some (.int .i64 0) := cell_of_heap hq1 rfl
  have f7 := frozen_of_heap (i := 7) hq1
  have hp0 : (W.setCell ⟨kb, 7, none⟩ (.int .i64 st)).heap[hb]? = _ := (setCell_heap_other W _ _ hne).trans hq0
  have hp1 : (W.setCell ⟨kb, 7, none⟩ (.int .i64 st)).heap[kb]? = some (.cells #[.int .i64 0, .int .i64 0, .int .i64 0, .string { data := #[] }, .string { data := #[] }, .slice A n c, .string bo, .int .i64 st, .int .i64 0, .bool false, .string { data := #[] }, .int .u64 0] 34) := by have := setCell_heap_same hq1 (i := 7) (.int .i64 st); simpa using this
  have hgu : Grew w (W.setCell ⟨kb, 7, none⟩ (.int .i64 st)) := HGW.out.st (p := ⟨kb, 7, none⟩) hkb _
  have HP0 := Lib.hid hp0
  have HP1 := Lib.hid hp1
  have HGU := Lib.hid hgu
  clear hp0 hp1 hgu hq0 hq1
  cases bb <;> (
  go_wp2_with (first | (refine ld_row (.inl rfl) rfl rfl HP0.out rfl Try.underlying34 (by kernel_rfl) ?_) | (refine ld_row (.inl rfl) rfl rfl HP1.out rfl Try.underlying34 (by kernel_rfl) ?_) | (go_at_call 71; refine Calls.mono (HBA.out _ HGU.out) ?_; rintro e w3 ⟨rfl, hg3⟩; have hq3 := heap_keep hg3 HP0.out; have e7 : w3.cell? ⟨hb, 7, none⟩ = some (.int .i64 st) := cell_of_heap hq3 rfl) | (go_at_call 52; refine Calls.mono (ewithin_any _ _ _ _) ?_; rintro e w4 ⟨rfl, rfl⟩))
  all_goals
    go_ret
    refine ⟨congrArg (fun b => Ending.returned (Value.bool b)) ?_, ?_⟩
    · rw [HG.out]
      clear HG HSD HR HBA
      first | (simp [*]; done) | (rw [Bool.eq_iff_iff]; simp [*]; done) | (rw [Bool.eq_iff_iff]; simp [*]; omega)
    · exact HGU.out.tr hg3)
set_option maxRecDepth 100000 in
set_option maxHeartbeats 6400000 in
theorem good_2 (se ti : Int) (me ur : ByteArray) (hs : List Hdr) (bo : ByteArray) (st co : Int) (cr : Bool) (no : ByteArray) (nn : Int) (A : Option Addr) (n c : Nat) (w : World) (hsz : sizedB ⟨2, se, ti, me, ur, hs, bo, st, co, cr, no, nn⟩ = true) (hr : RdH w A n hs) (hA : A = none → n = 0 ∧ c = 0) (hn : n ≤ 1000) : GoodC ⟨2, se, ti, me, ur, hs, bo, st, co, cr, no, nn⟩ A n c w := by
  have hg : goodE ⟨2, se, ti, me, ur, hs, bo, st, co, cr, no, nn⟩ = (decide (st = 0 ∧ no = noT) && decide (1 ≤ co ∧ co ≤ 2)) := by
    unfold goodE
    rw [hsz]
    rfl
  have HG := Lib.hid hg
  have hsd := fun (u : World) (hu : Grew w u) => sized_any ⟨2, se, ti, me, ur, hs, bo, st, co, cr, no, nn⟩ A n c u (hr.keep hu) (by omega)
  rw [hsz] at hsd
  have HSD := Lib.hid hsd
  have HR := Lib.hid hr
  have HAN := Lib.hid hA
  clear hg hsd hsz hr hA
  show Calls _ _ _ _ _
  go_enter Try.func38, Try.ntmps38
  go_upto_region 4 with (go_at_call 70; refine Calls.mono (HSD.out _ ((Grew.rf w).al _)) ?_; rintro e w2 ⟨rfl, hg2⟩; have hp2 := heap_keep hg2 (heap_alloc_new w (evO ⟨2, se, ti, me, ur, hs, bo, st, co, cr, no, nn⟩ A n c)); have c5 : w2.cell? ⟨w.heap.size, 5, none⟩ = some (.slice A n c) := cell_of_heap hp2 rfl; have c6 : w2.cell? ⟨w.heap.size, 6, none⟩ = some (.string bo) := cell_of_heap hp2 rfl)
  have hq0 := heap_keep ((Grew.rf _).al (.cells #[.int .i64 0, .int .i64 0, .int .i64 0, .string { data := #[] }, .string { data := #[] }, .slice A n c, .string bo, .int .i64 0, .int .i64 0, .bool false, .string { data := #[] }, .int .u64 0] 34)) hp2
  have hq1 := heap_alloc_new w2 (.cells #[.int .i64 0, .int .i64 0, .int .i64 0, .string { data := #[] }, .string { data := #[] }, .slice A n c, .string bo, .int .i64 0, .int .i64 0, .bool false, .string { data := #[] }, .int .u64 0] 34)
  have hgW : Grew w (w2.alloc (.cells #[.int .i64 0, .int .i64 0, .int .i64 0, .string { data := #[] }, .string { data := #[] }, .slice A n c, .string bo, .int .i64 0, .int .i64 0, .bool false, .string { data := #[] }, .int .u64 0] 34)) := (((Grew.rf w).al _).tr hg2).al _
  have hlt : w.heap.size < w2.heap.size := by have := hg2.size; rw [World.size_alloc] at this; omega
  clear hp2 c5 c6 hg2
  generalize w2.alloc (.cells #[.int .i64 0, .int .i64 0, .int .i64 0, .string { data := #[] }, .string { data := #[] }, .slice A n c, .string bo, .int .i64 0, .int .i64 0, .bool false, .string { data := #[] }, .int .u64 0] 34) = W at *
  obtain ⟨hb, hhb⟩ : ∃ hb, w.heap.size = hb := ⟨_, rfl⟩
  obtain ⟨kb, hkb⟩ : ∃ kb, w2.heap.size = kb := ⟨_, rfl⟩
  rw [hhb] at hq0 hlt ⊢
  rw [hkb] at hq1 hlt ⊢
  have HHB := Lib.hid hhb
  have HLT := Lib.hid hlt
  have HQ0 : RowKit.Hid (W.heap[hb]? = some (.cells #[.int .i64 2, .int .i64 se, .int .i64 ti, .string me, .string ur, .slice A n c, .string bo, .int .i64 st, .int .i64 co, .bool cr, .string no, .int .u64 nn] 34)) := hq0
  have HQ1 : RowKit.Hid (W.heap[kb]? = some (.cells #[.int .i64 0, .int .i64 0, .int .i64 0, .string { data := #[] }, .string { data := #[] }, .slice A n c, .string bo, .int .i64 0, .int .i64 0, .bool false, .string { data := #[] }, .int .u64 0] 34)) := hq1
  have HGW := Lib.hid hgW
  clear hhb hkb hlt hq0 hq1 hgW
  have c0 : W.cell? ⟨hb, 0, none⟩ = some (.int .i64 2) := cell_of_heap HQ0.out rfl
  have hba := fun (u : World) (hu : Grew w u) => bare_b ⟨2, se, ti, me, ur, hs, bo, st, co, cr, no, nn⟩ A n c ⟨0, 0, 0, me, ur, hs, bo, 0, co, cr, noT, nn⟩ A n c u (HR.out.keep hu) (HR.out.keep hu) (by omega) (by omega) (decide (st = 0 ∧ no = noT)) (by simp [sameE])
  generalize decide (st = 0 ∧ no = noT) = bb at hba HG
  have HBA := Lib.hid hba
  clear hba
  have hne : hb ≠ kb := by have := HLT.out; omega
  have hkb : w.heap.size ≤ kb := by rw [HHB.out]; have := HLT.out; omega
  cases bb <;> (
  go_upto_region 9 with fail
  refine region_box0 kb 34 #[.int .i64 0, .int .i64 0, .int .i64 0, .string { data := #[] }, .string { data := #[] }, .slice A n c, .string bo, .int .i64 0, .int .i64 0, .bool false, .string { data := #[] }, .int .u64 0] [(11, 8, (.int .i64 co)), (13, 3, (.string me)), (15, 4, (.string ur)), (17, 9, (.bool cr)), (19, 11, (.int .u64 nn))] [] (fun u => Grew w u ∧ u.heap[hb]? = some (.cells #[.int .i64 2, .int .i64 se, .int .i64 ti, .string me, .string ur, .slice A n c, .string bo, .int .i64 st, .int .i64 co, .bool cr, .string no, .int .u64 nn] 34)) (fun u u' h hg => ⟨h.1.tr hg, heap_keep hg h.2⟩) (fun u j x h => ⟨h.1.st (by show w.heap.size ≤ kb; exact hkb) x, (setCell_heap_other _ _ _ hne).trans h.2⟩) ⟨HGW.out, HQ0.out⟩ HQ1.out [[], [(0, 37)], [], [(2, 39)], [], [(4, 41)], [], [(6, 43)], [], [(8, 45)], [], [(1, 38), (10, 47)], [], [(3, 40), (12, 48)], [], [(5, 42), (14, 49)], [], [(7, 44), (16, 50)], [], [(9, 46), (18, 51)]] [(0, 37), (1, 38), (2, 39), (3, 40), (4, 41), (5, 42), (6, 43), (7, 44), (8, 45), (9, 46), (10, 47), (12, 48), (14, 49), (16, 50), (18, 51)] (fun
    | 0 => .eqv (.pointer (some ⟨hb, 8, none⟩)) | 1 => .eqv (.int .i64 co) | 2 => .eqv (.pointer (some ⟨hb, 3, none⟩)) | 3 => .eqv (.string me) | 4 => .eqv (.pointer (some ⟨hb, 4, none⟩)) | 5 => .eqv (.string ur) | 6 => .eqv (.pointer (some ⟨hb, 9, none⟩)) | 7 => .eqv (.bool cr) | 8 => .eqv (.pointer (some ⟨hb, 11, none⟩)) | 9 => .eqv (.int .u64 nn) | 10 => .eqv (.pointer (some ⟨kb, 8, none⟩)) | 11 => .cel 8 (.int .i64 co) | 12 => .eqv (.pointer (some ⟨kb, 3, none⟩)) | 13 => .cel 3 (.string me) | 14 => .eqv (.pointer (some ⟨kb, 4, none⟩)) | 15 => .cel 4 (.string ur) | 16 => .eqv (.pointer (some ⟨kb, 9, none⟩)) | 17 => .cel 9 (.bool cr) | 18 => .eqv (.pointer (some ⟨kb, 11, none⟩)) | 19 => .cel 11 (.int .u64 nn) | _ => .any) (by kernel_rfl) (by kernel_rfl) (by kernel_rfl) ?hlf ?hsteps ?hend
  case hlf => intro p hp v u h; simp only [List.mem_cons, List.not_mem_nil, or_false] at hp; rcases hp with rfl | rfl | rfl | rfl | rfl <;> exact h
  case hsteps =>
    refine ⟨fun u hu hx => ?_, fun u hu hx => ?_, fun u hu hx => ?_, fun u hu hx => ?_, fun u hu hx => ?_, fun u hu hx => ?_, fun u hu hx => ?_, fun u hu hx => ?_, fun u hu hx => ?_, fun u hu hx => ?_, fun u hu hx => ?_, fun u hu hx => ?_, fun u hu hx => ?_, fun u hu hx => ?_, fun u hu hx => ?_, fun u hu hx => ?_, fun u hu hx => ?_, fun u hu hx => ?_, fun u hu hx => ?_, fun u hu hx => ?_, trivial⟩
    · refine StepGoal.nil ?_
      go_wp2
      exact ⟨rfl, rfl, Grew.rf _, rfl⟩
    · rintro _ rfl
      have hce : u.cell? ⟨hb, 8, none⟩ = some (.int .i64 co) := cell_of_heap hu.2 rfl
      refine StepGoal.nil ?_
      simp only [Act.put, List.setIfInBounds_toArray, List.set_cons_zero, List.set_cons_succ]
      go_wp2
      exact ⟨rfl, rfl, Grew.rf _, rfl⟩
    · refine StepGoal.nil ?_
      go_wp2
      exact ⟨rfl, rfl, Grew.rf _, rfl⟩
    · rintro _ rfl
      have hce : u.cell? ⟨hb, 3, none⟩ = some (.string me) := cell_of_heap hu.2 rfl
      refine StepGoal.nil ?_
      simp only [Act.put, List.setIfInBounds_toArray, List.set_cons_zero, List.set_cons_succ]
      go_wp2
      exact ⟨rfl, rfl, Grew.rf _, rfl⟩
    · refine StepGoal.nil ?_
      go_wp2
      exact ⟨rfl, rfl, Grew.rf _, rfl⟩
    · rintro _ rfl
      have hce : u.cell? ⟨hb, 4, none⟩ = some (.string ur) := cell_of_heap hu.2 rfl
      refine StepGoal.nil ?_
      simp only [Act.put, List.setIfInBounds_toArray, List.set_cons_zero, List.set_cons_succ]
      go_wp2
      exact ⟨rfl, rfl, Grew.rf _, rfl⟩
    · refine StepGoal.nil ?_
      go_wp2
      exact ⟨rfl, rfl, Grew.rf _, rfl⟩
    · rintro _ rfl
      have hce : u.cell? ⟨hb, 9, none⟩ = some (.bool cr) := cell_of_heap hu.2 rfl
      refine StepGoal.nil ?_
      simp only [Act.put, List.setIfInBounds_toArray, List.set_cons_zero, List.set_cons_succ]
      go_wp2
      exact ⟨rfl, rfl, Grew.rf _, rfl⟩
    · refine StepGoal.nil ?_
      go_wp2
      exact ⟨rfl, rfl, Grew.rf _, rfl⟩
    · rintro _ rfl
      have hce : u.cell? ⟨hb, 11, none⟩ = some (.int .u64 nn) := cell_of_heap hu.2 rfl
      refine StepGoal.nil ?_
      simp only [Act.put, List.setIfInBounds_toArray, List.set_cons_zero, List.set_cons_succ]
      go_wp2
      exact ⟨rfl, rfl, Grew.rf _, rfl⟩
    · refine StepGoal.nil ?_
      go_wp2
      exact ⟨rfl, rfl, Grew.rf _, rfl⟩
    · rintro _ rfl _ rfl
      obtain ⟨y, hy, hz⟩ := hx.1.some (j := 8) (by simp)
      refine StepGoal.nil ?_
      simp only [Act.put, List.setIfInBounds_toArray, List.set_cons_zero, List.set_cons_succ]
      go_wp2
      exact ⟨rfl, rfl, rfl, World.cell?_setCell_same _ _ _ hy⟩
    · refine StepGoal.nil ?_
      go_wp2
      exact ⟨rfl, rfl, Grew.rf _, rfl⟩
    · rintro _ rfl _ rfl
      obtain ⟨y, hy, hz⟩ := hx.1.some (j := 3) (by simp)
      refine StepGoal.nil ?_
      simp only [Act.put, List.setIfInBounds_toArray, List.set_cons_zero, List.set_cons_succ]
      go_wp2
      exact ⟨rfl, rfl, rfl, World.cell?_setCell_same _ _ _ hy⟩
    · refine StepGoal.nil ?_
      go_wp2
      exact ⟨rfl, rfl, Grew.rf _, rfl⟩
    · rintro _ rfl _ rfl
      obtain ⟨y, hy, hz⟩ := hx.1.some (j := 4) (by simp)
      refine StepGoal.nil ?_
      simp only [Act.put, List.setIfInBounds_toArray, List.set_cons_zero, List.set_cons_succ]
      go_wp2
      exact ⟨rfl, rfl, rfl, World.cell?_setCell_same _ _ _ hy⟩
    · refine StepGoal.nil ?_
      go_wp2
      exact ⟨rfl, rfl, Grew.rf _, rfl⟩
    · rintro _ rfl _ rfl
      obtain ⟨y, hy, hz⟩ := hx.1.some (j := 9) (by simp)
      refine StepGoal.nil ?_
      simp only [Act.put, List.setIfInBounds_toArray, List.set_cons_zero, List.set_cons_succ]
      go_wp2
      exact ⟨rfl, rfl, rfl, World.cell?_setCell_same _ _ _ hy⟩
    · refine StepGoal.nil ?_
      go_wp2
      exact ⟨rfl, rfl, Grew.rf _, rfl⟩
    · rintro _ rfl _ rfl
      obtain ⟨y, hy, hz⟩ := hx.1.some (j := 11) (by simp)
      refine StepGoal.nil ?_
      simp only [Act.put, List.setIfInBounds_toArray, List.set_cons_zero, List.set_cons_succ]
      go_wp2
      exact ⟨rfl, rfl, rfl, World.cell?_setCell_same _ _ _ hy⟩
  case hend =>
    intro u hu hbx hall
    rintro _ rfl _ rfl _ rfl _ rfl _ rfl _ rfl _ rfl _ rfl _ rfl _ rfl _ rfl _ rfl _ rfl _ rfl _ rfl
    refine StepGoal.nil ?_
    simp only [Act.put, List.setIfInBounds_toArray, List.set_cons_zero, List.set_cons_succ]
    clear hall
    obtain ⟨hgu, hp0⟩ := hu
    have hp1 : u.heap[kb]? = some (.cells #[.int .i64 0, .int .i64 0, .int .i64 0, .string me, .string ur, .slice A n c, .string bo, .int .i64 0, .int .i64 co, .bool cr, .string { data := #[] }, .int .u64 nn] 34) := by simpa [setAll] using hbx
    clear hbx
    go_wp2_with (first | (refine ld_row (.inl rfl) rfl rfl hp0 rfl Try.underlying34 (by kernel_rfl) ?_) | (refine ld_row (.inl rfl) rfl rfl hp1 rfl Try.underlying34 (by kernel_rfl) ?_) | (go_at_call 71; refine Calls.mono (HBA.out _ hgu) ?_; rintro e w3 ⟨rfl, hg3⟩; have hq3 := heap_keep hg3 hp0; have e8 : w3.cell? ⟨hb, 8, none⟩ = some (.int .i64 co) := cell_of_heap hq3 rfl) | (go_at_call 52; refine Calls.mono (ewithin_any _ _ _ _) ?_; rintro e w4 ⟨rfl, rfl⟩))
    all_goals
        go_ret
        refine ⟨congrArg (fun b => Ending.returned (Value.bool b)) ?_, ?_⟩
        · rw [HG.out]
          clear HG HSD HR HBA
          first | (simp [*]; done) | (rw [Bool.eq_iff_iff]; simp [*]; done) | (rw [Bool.eq_iff_iff]; simp [*]; omega)
        · first | exact (hgu.tr hg3).tr hg5 | exact hgu.tr hg3
  )
set_option maxRecDepth 100000 in
set_option maxHeartbeats 6400000 in
theorem good_1 (se ti : Int) (me ur : ByteArray) (hs : List Hdr) (bo : ByteArray) (st co : Int) (cr : Bool) (no : ByteArray) (nn : Int) (A : Option Addr) (n c : Nat) (w : World) (hsz : sizedB ⟨1, se, ti, me, ur, hs, bo, st, co, cr, no, nn⟩ = true) (hr : RdH w A n hs) (hA : A = none → n = 0 ∧ c = 0) (hn : n ≤ 1000) : GoodC ⟨1, se, ti, me, ur, hs, bo, st, co, cr, no, nn⟩ A n c w := by
  have hg : goodE ⟨1, se, ti, me, ur, hs, bo, st, co, cr, no, nn⟩ = (decide (st = 0 ∧ cr = false ∧ nn = 0) && modesB co) := by
    unfold goodE
    rw [hsz]
    rfl
  have HG := Lib.hid hg
  have hsd := fun (u : World) (hu : Grew w u) => sized_any ⟨1, se, ti, me, ur, hs, bo, st, co, cr, no, nn⟩ A n c u (hr.keep hu) (by omega)
  rw [hsz] at hsd
  have HSD := Lib.hid hsd
  have HR := Lib.hid hr
  have HAN := Lib.hid hA
  clear hg hsd hsz hr hA
  show Calls _ _ _ _ _
  go_enter Try.func38, Try.ntmps38
  go_upto_region 4 with (go_at_call 70; refine Calls.mono (HSD.out _ ((Grew.rf w).al _)) ?_; rintro e w2 ⟨rfl, hg2⟩; have hp2 := heap_keep hg2 (heap_alloc_new w (evO ⟨1, se, ti, me, ur, hs, bo, st, co, cr, no, nn⟩ A n c)); have c5 : w2.cell? ⟨w.heap.size, 5, none⟩ = some (.slice A n c) := cell_of_heap hp2 rfl; have c6 : w2.cell? ⟨w.heap.size, 6, none⟩ = some (.string bo) := cell_of_heap hp2 rfl)
  have hq0 := heap_keep ((Grew.rf _).al (.cells #[.int .i64 0, .int .i64 0, .int .i64 0, .string { data := #[] }, .string { data := #[] }, .slice A n c, .string bo, .int .i64 0, .int .i64 0, .bool false, .string { data := #[] }, .int .u64 0] 34)) hp2
  have hq1 := heap_alloc_new w2 (.cells #[.int .i64 0, .int .i64 0, .int .i64 0, .string { data := #[] }, .string { data := #[] }, .slice A n c, .string bo, .int .i64 0, .int .i64 0, .bool false, .string { data := #[] }, .int .u64 0] 34)
  have hgW : Grew w (w2.alloc (.cells #[.int .i64 0, .int .i64 0, .int .i64 0, .string { data := #[] }, .string { data := #[] }, .slice A n c, .string bo, .int .i64 0, .int .i64 0, .bool false, .string { data := #[] }, .int .u64 0] 34)) := (((Grew.rf w).al _).tr hg2).al _
  have hlt : w.heap.size < w2.heap.size := by have := hg2.size; rw [World.size_alloc] at this; omega
  clear hp2 c5 c6 hg2
  generalize w2.alloc (.cells #[.int .i64 0, .int .i64 0, .int .i64 0, .string { data := #[] }, .string { data := #[] }, .slice A n c, .string bo, .int .i64 0, .int .i64 0, .bool false, .string { data := #[] }, .int .u64 0] 34) = W at *
  obtain ⟨hb, hhb⟩ : ∃ hb, w.heap.size = hb := ⟨_, rfl⟩
  obtain ⟨kb, hkb⟩ : ∃ kb, w2.heap.size = kb := ⟨_, rfl⟩
  rw [hhb] at hq0 hlt ⊢
  rw [hkb] at hq1 hlt ⊢
  have HHB := Lib.hid hhb
  have HLT := Lib.hid hlt
  have HQ0 : RowKit.Hid (W.heap[hb]? = some (.cells #[.int .i64 1, .int .i64 se, .int .i64 ti, .string me, .string ur, .slice A n c, .string bo, .int .i64 st, .int .i64 co, .bool cr, .string no, .int .u64 nn] 34)) := hq0
  have HQ1 : RowKit.Hid (W.heap[kb]? = some (.cells #[.int .i64 0, .int .i64 0, .int .i64 0, .string { data := #[] }, .string { data := #[] }, .slice A n c, .string bo, .int .i64 0, .int .i64 0, .bool false, .string { data := #[] }, .int .u64 0] 34)) := hq1
  have HGW := Lib.hid hgW
  clear hhb hkb hlt hq0 hq1 hgW
  have c0 : W.cell? ⟨hb, 0, none⟩ = some (.int .i64 1) := cell_of_heap HQ0.out rfl
  have hba := fun (u : World) (hu : Grew w u) => bare_b ⟨1, se, ti, me, ur, hs, bo, st, co, cr, no, nn⟩ A n c ⟨0, 0, 0, me, ur, hs, bo, 0, co, false, no, 0⟩ A n c u (HR.out.keep hu) (HR.out.keep hu) (by omega) (by omega) (decide (st = 0 ∧ cr = false ∧ nn = 0)) (by simp [sameE])
  generalize decide (st = 0 ∧ cr = false ∧ nn = 0) = bb at hba HG
  have HBA := Lib.hid hba
  clear hba
  have hmo := fun (u : World) (hu : Grew w u) => modes_any ⟨1, se, ti, me, ur, hs, bo, st, co, cr, no, nn⟩ A n c u (HR.out.keep hu) HAN.out (by omega)
  have HMO := Lib.hid hmo
  clear hmo
  have hne : hb ≠ kb := by have := HLT.out; omega
  have hkb : w.heap.size ≤ kb := by rw [HHB.out]; have := HLT.out; omega
  cases bb <;> (
  go_upto_region 6 with fail
  refine region_box0 kb 34 #[.int .i64 0, .int .i64 0, .int .i64 0, .string { data := #[] }, .string { data := #[] }, .slice A n c, .string bo, .int .i64 0, .int .i64 0, .bool false, .string { data := #[] }, .int .u64 0] [(9, 8, (.int .i64 co)), (11, 3, (.string me)), (13, 4, (.string ur)), (15, 10, (.string no))] [] (fun u => Grew w u ∧ u.heap[hb]? = some (.cells #[.int .i64 1, .int .i64 se, .int .i64 ti, .string me, .string ur, .slice A n c, .string bo, .int .i64 st, .int .i64 co, .bool cr, .string no, .int .u64 nn] 34)) (fun u u' h hg => ⟨h.1.tr hg, heap_keep hg h.2⟩) (fun u j x h => ⟨h.1.st (by show w.heap.size ≤ kb; exact hkb) x, (setCell_heap_other _ _ _ hne).trans h.2⟩) ⟨HGW.out, HQ0.out⟩ HQ1.out [[], [(0, 16)], [], [(2, 18)], [], [(4, 20)], [], [(6, 22)], [], [(1, 17), (8, 24)], [], [(3, 19), (10, 25)], [], [(5, 21), (12, 26)], [], [(7, 23), (14, 27)]] [(0, 16), (1, 17), (2, 18), (3, 19), (4, 20), (5, 21), (6, 22), (7, 23), (8, 24), (10, 25), (12, 26), (14, 27)] (fun
    | 0 => .eqv (.pointer (some ⟨hb, 8, none⟩)) | 1 => .eqv (.int .i64 co) | 2 => .eqv (.pointer (some ⟨hb, 3, none⟩)) | 3 => .eqv (.string me) | 4 => .eqv (.pointer (some ⟨hb, 4, none⟩)) | 5 => .eqv (.string ur) | 6 => .eqv (.pointer (some ⟨hb, 10, none⟩)) | 7 => .eqv (.string no) | 8 => .eqv (.pointer (some ⟨kb, 8, none⟩)) | 9 => .cel 8 (.int .i64 co) | 10 => .eqv (.pointer (some ⟨kb, 3, none⟩)) | 11 => .cel 3 (.string me) | 12 => .eqv (.pointer (some ⟨kb, 4, none⟩)) | 13 => .cel 4 (.string ur) | 14 => .eqv (.pointer (some ⟨kb, 10, none⟩)) | 15 => .cel 10 (.string no) | _ => .any) (by kernel_rfl) (by kernel_rfl) (by kernel_rfl) ?hlf ?hsteps ?hend
  case hlf => intro p hp v u h; simp only [List.mem_cons, List.not_mem_nil, or_false] at hp; rcases hp with rfl | rfl | rfl | rfl <;> exact h
  case hsteps =>
    refine ⟨fun u hu hx => ?_, fun u hu hx => ?_, fun u hu hx => ?_, fun u hu hx => ?_, fun u hu hx => ?_, fun u hu hx => ?_, fun u hu hx => ?_, fun u hu hx => ?_, fun u hu hx => ?_, fun u hu hx => ?_, fun u hu hx => ?_, fun u hu hx => ?_, fun u hu hx => ?_, fun u hu hx => ?_, fun u hu hx => ?_, fun u hu hx => ?_, trivial⟩
    · refine StepGoal.nil ?_
      go_wp2
      exact ⟨rfl, rfl, Grew.rf _, rfl⟩
    · rintro _ rfl
      have hce : u.cell? ⟨hb, 8, none⟩ = some (.int .i64 co) := cell_of_heap hu.2 rfl
      refine StepGoal.nil ?_
      simp only [Act.put, List.setIfInBounds_toArray, List.set_cons_zero, List.set_cons_succ]
      go_wp2
      exact ⟨rfl, rfl, Grew.rf _, rfl⟩
    · refine StepGoal.nil ?_
      go_wp2
      exact ⟨rfl, rfl, Grew.rf _, rfl⟩
    · rintro _ rfl
      have hce : u.cell? ⟨hb, 3, none⟩ = some (.string me) := cell_of_heap hu.2 rfl
      refine StepGoal.nil ?_
      simp only [Act.put, List.setIfInBounds_toArray, List.set_cons_zero, List.set_cons_succ]
      go_wp2
      exact ⟨rfl, rfl, Grew.rf _, rfl⟩
    · refine StepGoal.nil ?_
      go_wp2
      exact ⟨rfl, rfl, Grew.rf _, rfl⟩
    · rintro _ rfl
      have hce : u.cell? ⟨hb, 4, none⟩ = some (.string ur) := cell_of_heap hu.2 rfl
      refine StepGoal.nil ?_
      simp only [Act.put, List.setIfInBounds_toArray, List.set_cons_zero, List.set_cons_succ]
      go_wp2
      exact ⟨rfl, rfl, Grew.rf _, rfl⟩
    · refine StepGoal.nil ?_
      go_wp2
      exact ⟨rfl, rfl, Grew.rf _, rfl⟩
    · rintro _ rfl
      have hce : u.cell? ⟨hb, 10, none⟩ = some (.string no) := cell_of_heap hu.2 rfl
      refine StepGoal.nil ?_
      simp only [Act.put, List.setIfInBounds_toArray, List.set_cons_zero, List.set_cons_succ]
      go_wp2
      exact ⟨rfl, rfl, Grew.rf _, rfl⟩
    · refine StepGoal.nil ?_
      go_wp2
      exact ⟨rfl, rfl, Grew.rf _, rfl⟩
    · rintro _ rfl _ rfl
      obtain ⟨y, hy, hz⟩ := hx.1.some (j := 8) (by simp)
      refine StepGoal.nil ?_
      simp only [Act.put, List.setIfInBounds_toArray, List.set_cons_zero, List.set_cons_succ]
      go_wp2
      exact ⟨rfl, rfl, rfl, World.cell?_setCell_same _ _ _ hy⟩
    · refine StepGoal.nil ?_
      go_wp2
      exact ⟨rfl, rfl, Grew.rf _, rfl⟩
    · rintro _ rfl _ rfl
      obtain ⟨y, hy, hz⟩ := hx.1.some (j := 3) (by simp)
      refine StepGoal.nil ?_
      simp only [Act.put, List.setIfInBounds_toArray, List.set_cons_zero, List.set_cons_succ]
      go_wp2
      exact ⟨rfl, rfl, rfl, World.cell?_setCell_same _ _ _ hy⟩
    · refine StepGoal.nil ?_
      go_wp2
      exact ⟨rfl, rfl, Grew.rf _, rfl⟩
    · rintro _ rfl _ rfl
      obtain ⟨y, hy, hz⟩ := hx.1.some (j := 4) (by simp)
      refine StepGoal.nil ?_
      simp only [Act.put, List.setIfInBounds_toArray, List.set_cons_zero, List.set_cons_succ]
      go_wp2
      exact ⟨rfl, rfl, rfl, World.cell?_setCell_same _ _ _ hy⟩
    · refine StepGoal.nil ?_
      go_wp2
      exact ⟨rfl, rfl, Grew.rf _, rfl⟩
    · rintro _ rfl _ rfl
      obtain ⟨y, hy, hz⟩ := hx.1.some (j := 10) (by simp)
      refine StepGoal.nil ?_
      simp only [Act.put, List.setIfInBounds_toArray, List.set_cons_zero, List.set_cons_succ]
      go_wp2
      exact ⟨rfl, rfl, rfl, World.cell?_setCell_same _ _ _ hy⟩
  case hend =>
    intro u hu hbx hall
    rintro _ rfl _ rfl _ rfl _ rfl _ rfl _ rfl _ rfl _ rfl _ rfl _ rfl _ rfl _ rfl
    refine StepGoal.nil ?_
    simp only [Act.put, List.setIfInBounds_toArray, List.set_cons_zero, List.set_cons_succ]
    clear hall
    obtain ⟨hgu, hp0⟩ := hu
    have hp1 : u.heap[kb]? = some (.cells #[.int .i64 0, .int .i64 0, .int .i64 0, .string me, .string ur, .slice A n c, .string bo, .int .i64 0, .int .i64 co, .bool false, .string no, .int .u64 0] 34) := by simpa [setAll] using hbx
    clear hbx
    go_wp2_with (first | (refine ld_row (.inl rfl) rfl rfl hp0 rfl Try.underlying34 (by kernel_rfl) ?_) | (refine ld_row (.inl rfl) rfl rfl hp1 rfl Try.underlying34 (by kernel_rfl) ?_) | (go_at_call 71; refine Calls.mono (HBA.out _ hgu) ?_; rintro e w3 ⟨rfl, hg3⟩; have hq3 := heap_keep hg3 hp0) | (refine ld_row (.inr rfl) rfl rfl hq3 rfl Try.underlying34 (by kernel_rfl) ?_) | (go_at_call 72; refine Calls.mono (HMO.out _ (hgu.tr hg3)) ?_; rintro e w5 ⟨rfl, hg5⟩))
    all_goals
        go_ret
        refine ⟨congrArg (fun b => Ending.returned (Value.bool b)) ?_, ?_⟩
        · rw [HG.out]
          clear HG HSD HR HBA
          first | (simp [*]; done) | (rw [Bool.eq_iff_iff]; simp [*]; done) | (rw [Bool.eq_iff_iff]; simp [*]; omega)
        · first | exact (hgu.tr hg3).tr hg5 | exact hgu.tr hg3
  )
/-- event.Good. -/
theorem egood_any (x : Ev) (A : Option Addr) (n c : Nat) (w : World) (hr : RdH w A n x.hs) (hA : A = none → n = 0 ∧ c = 0) (hn : n ≤ 1000) : GoodC x A n c w := by
  obtain ⟨ki, se, ti, me, ur, hs, bo, st, co, cr, no, nn⟩ := x
  cases hsz : sizedB ⟨ki, se, ti, me, ur, hs, bo, st, co, cr, no, nn⟩ with
  | false => exact good_un ki se ti me ur hs bo st co cr no nn A n c w hsz hr hA hn
  | true =>
    by_cases h1 : ki = 1
    · subst h1; exact good_1 se ti me ur hs bo st co cr no nn A n c w hsz hr hA hn
    by_cases h2 : ki = 2
    · subst h2; exact good_2 se ti me ur hs bo st co cr no nn A n c w hsz hr hA hn
    by_cases h3 : ki = 3
    · subst h3; exact good_3 se ti me ur hs bo st co cr no nn A n c w hsz hr hA hn
    by_cases h4 : ki = 4
    · subst h4; exact good_4 se ti me ur hs bo st co cr no nn A n c w hsz hr hA hn
    by_cases h5 : ki = 5
    · subst h5; exact good_5 se ti me ur hs bo st co cr no nn A n c w hsz hr hA hn
    by_cases h6 : ki = 6
    · subst h6; exact good_6 se ti me ur hs bo st co cr no nn A n c w hsz hr hA hn
    by_cases h7 : ki = 7
    · subst h7; exact good_7 se ti me ur hs bo st co cr no nn A n c w hsz hr hA hn
    exact good_no ki se ti me ur hs bo st co cr no nn A n c w h1 h2 h3 h4 h5 h6 h7 hsz hr hA hn
end Go.Proofs.Ytbkcpgaicoagfaa
/- numbers, words, bit, of. -/
set_option linter.unusedVariables false
set_option linter.unusedSimpArgs false
namespace Go.Proofs.Ytbkcpgaicoagfaa
open Go.RowKit

theorem heap_keep' {w w' : World} {b : Nat} {o : Obj} (hg : Grew w w') (h : w.heap[b]? = some o) : w'.heap[b]? = some o := (hg.block b (Array.getElem?_eq_some_iff.1 h).1).trans h
theorem rdV_lit (W : World) (vs : List Value) (t : TypeId) : RdV 1 (W.alloc (.cells vs.toArray t)) (some ⟨W.heap.size, 0, none⟩) vs.length vs :=
  ⟨by simp, fun _ => ⟨W.heap.size, 0, rfl, fun j u hj => cell_of_heap (i := 0 + j) (heap_alloc_new W _) (by simpa using hj)⟩⟩
def Pd.row (vs : List Value) : Pd := ⟨fun v u => ∃ B, v = .slice (some ⟨B, 0, none⟩) vs.length vs.length ∧ RdV 1 u (some ⟨B, 0, none⟩) vs.length vs ∧ (∃ cs T fr, u.heap[B]? = some (.cells cs T fr) ∧ T ≠ 117 ∧ T ≠ 9), fun v u u' ⟨B, h1, h2, ⟨cs, T, fr, h3, h4⟩⟩ hg => ⟨B, h1, h2.keep hg, ⟨cs, T, fr, heap_keep' hg h3, h4⟩⟩⟩
def numF (k : Int) : List Nat := if k = 1 ∨ k = 2 then [8] else if k = 3 then [7] else if k = 7 then [8, 7] else []
def worF (k : Int) : List Nat := if k = 1 then [3, 4, 10, 6] else if k = 2 then [3, 4, 6] else if k = 3 then [6] else []
abbrev ptrs (xb : Nat) (l : List Nat) : List Value := l.map fun f => .pointer (some ⟨xb, f, none⟩)
/-- A slice of pointers into a box. -/
def PtrsQ (xb : Nat) (l : List Nat) (w : World) (e : Ending) (w' : World) : Prop := ∃ B, e = .returned (.slice B l.length l.length) ∧ RdV 1 w' B l.length (ptrs xb l) ∧ (∀ ad, B = some ad → ∃ cs T fr, w'.heap[ad.block]? = some (.cells cs T fr) ∧ T ≠ 117 ∧ T ≠ 9) ∧ Grew w w'

theorem bit_any (b : Bool) (w : World) : Calls Try.prog 43 #[.bool b] w fun e w' => e = .returned (.int .u64 (if b then 1 else 0)) ∧ w = w' := by
  cases b <;> (
    go_enter Try.func43, Try.ntmps43
    go_wp2
    go_ret
    exact ⟨rfl, rfl⟩)
set_option maxRecDepth 100000 in
set_option maxHeartbeats 3200000 in
theorem enumbers_any (k : Int) (xb : Nat) (w : World) (c0 : w.cell? ⟨xb, 0, none⟩ = some (.int .i64 k)) :
    Calls Try.prog 42 #[.pointer (some ⟨xb, 0, none⟩)] w (PtrsQ xb (numF k) w) := by
  have hone : ∀ f : Nat, PtrsQ xb [f] w (.returned (.slice (some ⟨w.heap.size, 0, none⟩) 1 1)) (w.alloc (.cells #[.pointer (some ⟨xb, f, none⟩)] 92)) := fun f => ⟨_, rfl, rdV_lit w [.pointer (some ⟨xb, f, none⟩)] _, (fun ad e => by cases e; exact ⟨_, _, _, heap_alloc_new w _, by decide, by decide⟩), (Grew.rf w).al _⟩
  by_cases h1 : k = 1
  · subst h1
    go_enter Try.func42, Try.ntmps42
    go_wp2
    go_ret
    exact hone 8
  by_cases h2 : k = 2
  · subst h2
    go_enter Try.func42, Try.ntmps42
    go_wp2
    go_ret
    exact hone 8
  by_cases h3 : k = 3
  · subst h3
    go_enter Try.func42, Try.ntmps42
    go_wp2
    go_ret
    exact hone 7
  by_cases h7 : k = 7
  · subst h7
    go_enter Try.func42, Try.ntmps42
    go_upto_region 8 with fail
    refine region_grew [[], [(0, 22)], [(1, 23)], [], [(3, 25)], [(4, 26)], [(2, 24), (5, 27)], [(6, 28)]] [(0, 22), (1, 23), (2, 24), (3, 25), (4, 26), (5, 27), (6, 28), (7, 2)] (fun
      | 0 => .eqv (.pointer (some ⟨xb, 0, none⟩)) | 1 => .eqv (.pointer (some ⟨xb, 0, none⟩)) | 2 => .eqv (.pointer (some ⟨xb, 8, none⟩)) | 3 => .eqv (.pointer (some ⟨xb, 0, none⟩)) | 4 => .eqv (.pointer (some ⟨xb, 0, none⟩)) | 5 => .eqv (.pointer (some ⟨xb, 7, none⟩)) | 6 => .row (ptrs xb [8, 7]) | 7 => .row (ptrs xb [8, 7]) | _ => .any) (by kernel_rfl) ?_ ?_
    · refine ⟨fun u hu => ?_, fun u hu => ?_, fun u hu => ?_, fun u hu => ?_, fun u hu => ?_, fun u hu => ?_, fun u hu => ?_, fun u hu => ?_, trivial⟩
      · refine StepGoal.nil ?_
        go_wp2
        exact ⟨rfl, rfl, Grew.rf _, rfl⟩
      · rintro _ rfl
        refine StepGoal.nil ?_
        simp only [Act.put, List.setIfInBounds_toArray, List.set_cons_zero, List.set_cons_succ]
        go_wp2
        exact ⟨rfl, rfl, Grew.rf _, rfl⟩
      · rintro _ rfl
        refine StepGoal.nil ?_
        simp only [Act.put, List.setIfInBounds_toArray, List.set_cons_zero, List.set_cons_succ]
        go_wp2
        exact ⟨rfl, rfl, Grew.rf _, rfl⟩
      · refine StepGoal.nil ?_
        go_wp2
        exact ⟨rfl, rfl, Grew.rf _, rfl⟩
      · rintro _ rfl
        refine StepGoal.nil ?_
        simp only [Act.put, List.setIfInBounds_toArray, List.set_cons_zero, List.set_cons_succ]
        go_wp2
        exact ⟨rfl, rfl, Grew.rf _, rfl⟩
      · rintro _ rfl
        refine StepGoal.nil ?_
        simp only [Act.put, List.setIfInBounds_toArray, List.set_cons_zero, List.set_cons_succ]
        go_wp2
        exact ⟨rfl, rfl, Grew.rf _, rfl⟩
      · rintro _ rfl _ rfl
        refine StepGoal.nil ?_
        simp only [Act.put, List.setIfInBounds_toArray, List.set_cons_zero, List.set_cons_succ]
        go_wp2
        exact ⟨rfl, rfl, (Grew.rf _).al _, _, rfl, rdV_lit u [.pointer (some ⟨xb, 8, none⟩), .pointer (some ⟨xb, 7, none⟩)] _, _, _, _, heap_alloc_new u _, by decide, by decide⟩
      · rintro v28 h28
        refine StepGoal.nil ?_
        simp only [Act.put, List.setIfInBounds_toArray, List.set_cons_zero, List.set_cons_succ]
        go_wp2
        exact ⟨rfl, rfl, Grew.rf _, h28⟩
    · intro u hu
      rintro _ rfl _ rfl _ rfl _ rfl _ rfl _ rfl v28 h28 v2 h2
      refine StepGoal.nil ?_
      simp only [Act.put, List.setIfInBounds_toArray, List.set_cons_zero, List.set_cons_succ]
      obtain ⟨B, rfl, hr, hty⟩ : (Pd.row (ptrs xb [8, 7])).p v2 u := h2
      clear h28
      go_wp2_with fail
      go_ret
      exact ⟨_, rfl, hr, (fun ad e => by cases e; exact hty), hu⟩
  have d1 : (k == 1) = false := by simpa using h1
  have d2 : (k == 2) = false := by simpa using h2
  have d3 : (k == 3) = false := by simpa using h3
  have d7 : (k == 7) = false := by simpa using h7
  have e1 : decide (k = 1) = false := by simpa using h1
  have e2 : decide (k = 2) = false := by simpa using h2
  have e3 : decide (k = 3) = false := by simpa using h3
  have e7 : decide (k = 7) = false := by simpa using h7
  have hn : numF k = [] := by simp [numF, h1, h2, h3, h7]
  rw [hn]
  go_enter Try.func42, Try.ntmps42
  go_wp2
  go_ret
  exact ⟨none, rfl, RdV.nil _ _ _, (fun ad e => by cases e), Grew.rf w⟩
set_option maxRecDepth 100000 in
set_option maxHeartbeats 3200000 in
theorem ewords_any (k : Int) (xb : Nat) (w : World) (c0 : w.cell? ⟨xb, 0, none⟩ = some (.int .i64 k)) :
    Calls Try.prog 44 #[.pointer (some ⟨xb, 0, none⟩)] w (PtrsQ xb (worF k) w) := by
  by_cases h1 : k = 1
  · subst h1
    go_enter Try.func44, Try.ntmps44
    go_upto_region 3 with fail
    refine region_grew [[], [(0, 9)], [(1, 10)], [], [(3, 12)], [(4, 13)], [], [(6, 15)], [(7, 16)], [], [(9, 18)], [(10, 19)], [(2, 11), (5, 14), (8, 17), (11, 20)], [(12, 21)]] [(0, 9), (1, 10), (2, 11), (3, 12), (4, 13), (5, 14), (6, 15), (7, 16), (8, 17), (9, 18), (10, 19), (11, 20), (12, 21), (13, 2)] (fun
      | 0 => .eqv (.pointer (some ⟨xb, 0, none⟩)) | 1 => .eqv (.pointer (some ⟨xb, 0, none⟩)) | 2 => .eqv (.pointer (some ⟨xb, 3, none⟩)) | 3 => .eqv (.pointer (some ⟨xb, 0, none⟩)) | 4 => .eqv (.pointer (some ⟨xb, 0, none⟩)) | 5 => .eqv (.pointer (some ⟨xb, 4, none⟩)) | 6 => .eqv (.pointer (some ⟨xb, 0, none⟩)) | 7 => .eqv (.pointer (some ⟨xb, 0, none⟩)) | 8 => .eqv (.pointer (some ⟨xb, 10, none⟩)) | 9 => .eqv (.pointer (some ⟨xb, 0, none⟩)) | 10 => .eqv (.pointer (some ⟨xb, 0, none⟩)) | 11 => .eqv (.pointer (some ⟨xb, 6, none⟩)) | 12 => .row (ptrs xb [3, 4, 10, 6]) | 13 => .row (ptrs xb [3, 4, 10, 6]) | _ => .any) (by kernel_rfl) ?_ ?_
    · refine ⟨fun u hu => ?_, fun u hu => ?_, fun u hu => ?_, fun u hu => ?_, fun u hu => ?_, fun u hu => ?_, fun u hu => ?_, fun u hu => ?_, fun u hu => ?_, fun u hu => ?_, fun u hu => ?_, fun u hu => ?_, fun u hu => ?_, fun u hu => ?_, trivial⟩
      · refine StepGoal.nil ?_
        go_wp2
        exact ⟨rfl, rfl, Grew.rf _, rfl⟩
      · rintro _ rfl
        refine StepGoal.nil ?_
        simp only [Act.put, List.setIfInBounds_toArray, List.set_cons_zero, List.set_cons_succ]
        go_wp2
        exact ⟨rfl, rfl, Grew.rf _, rfl⟩
      · rintro _ rfl
        refine StepGoal.nil ?_
        simp only [Act.put, List.setIfInBounds_toArray, List.set_cons_zero, List.set_cons_succ]
        go_wp2
        exact ⟨rfl, rfl, Grew.rf _, rfl⟩
      · refine StepGoal.nil ?_
        go_wp2
        exact ⟨rfl, rfl, Grew.rf _, rfl⟩
      · rintro _ rfl
        refine StepGoal.nil ?_
        simp only [Act.put, List.setIfInBounds_toArray, List.set_cons_zero, List.set_cons_succ]
        go_wp2
        exact ⟨rfl, rfl, Grew.rf _, rfl⟩
      · rintro _ rfl
        refine StepGoal.nil ?_
        simp only [Act.put, List.setIfInBounds_toArray, List.set_cons_zero, List.set_cons_succ]
        go_wp2
        exact ⟨rfl, rfl, Grew.rf _, rfl⟩
      · refine StepGoal.nil ?_
        go_wp2
        exact ⟨rfl, rfl, Grew.rf _, rfl⟩
      · rintro _ rfl
        refine StepGoal.nil ?_
        simp only [Act.put, List.setIfInBounds_toArray, List.set_cons_zero, List.set_cons_succ]
        go_wp2
        exact ⟨rfl, rfl, Grew.rf _, rfl⟩
      · rintro _ rfl
        refine StepGoal.nil ?_
        simp only [Act.put, List.setIfInBounds_toArray, List.set_cons_zero, List.set_cons_succ]
        go_wp2
        exact ⟨rfl, rfl, Grew.rf _, rfl⟩
      · refine StepGoal.nil ?_
        go_wp2
        exact ⟨rfl, rfl, Grew.rf _, rfl⟩
      · rintro _ rfl
        refine StepGoal.nil ?_
        simp only [Act.put, List.setIfInBounds_toArray, List.set_cons_zero, List.set_cons_succ]
        go_wp2
        exact ⟨rfl, rfl, Grew.rf _, rfl⟩
      · rintro _ rfl
        refine StepGoal.nil ?_
        simp only [Act.put, List.setIfInBounds_toArray, List.set_cons_zero, List.set_cons_succ]
        go_wp2
        exact ⟨rfl, rfl, Grew.rf _, rfl⟩
      · rintro _ rfl _ rfl _ rfl _ rfl
        refine StepGoal.nil ?_
        simp only [Act.put, List.setIfInBounds_toArray, List.set_cons_zero, List.set_cons_succ]
        go_wp2
        exact ⟨rfl, rfl, (Grew.rf _).al _, _, rfl, rdV_lit u [.pointer (some ⟨xb, 3, none⟩), .pointer (some ⟨xb, 4, none⟩), .pointer (some ⟨xb, 10, none⟩), .pointer (some ⟨xb, 6, none⟩)] _, _, _, _, heap_alloc_new u _, by decide, by decide⟩
      · rintro v21 h21
        refine StepGoal.nil ?_
        simp only [Act.put, List.setIfInBounds_toArray, List.set_cons_zero, List.set_cons_succ]
        go_wp2
        exact ⟨rfl, rfl, Grew.rf _, h21⟩
    · intro u hu
      rintro _ rfl _ rfl _ rfl _ rfl _ rfl _ rfl _ rfl _ rfl _ rfl _ rfl _ rfl _ rfl v21 h21 v2 h2
      refine StepGoal.nil ?_
      simp only [Act.put, List.setIfInBounds_toArray, List.set_cons_zero, List.set_cons_succ]
      obtain ⟨B, rfl, hr, hty⟩ : (Pd.row (ptrs xb [3, 4, 10, 6])).p v2 u := h2
      clear h21
      go_wp2_with fail
      go_ret
      exact ⟨_, rfl, hr, (fun ad e => by cases e; exact hty), hu⟩
  by_cases h2 : k = 2
  · subst h2
    go_enter Try.func44, Try.ntmps44
    go_upto_region 5 with fail
    refine region_grew [[], [(0, 24)], [(1, 25)], [], [(3, 27)], [(4, 28)], [], [(6, 30)], [(7, 31)], [(2, 26), (5, 29), (8, 32)], [(9, 33)]] [(0, 24), (1, 25), (2, 26), (3, 27), (4, 28), (5, 29), (6, 30), (7, 31), (8, 32), (9, 33), (10, 2)] (fun
      | 0 => .eqv (.pointer (some ⟨xb, 0, none⟩)) | 1 => .eqv (.pointer (some ⟨xb, 0, none⟩)) | 2 => .eqv (.pointer (some ⟨xb, 3, none⟩)) | 3 => .eqv (.pointer (some ⟨xb, 0, none⟩)) | 4 => .eqv (.pointer (some ⟨xb, 0, none⟩)) | 5 => .eqv (.pointer (some ⟨xb, 4, none⟩)) | 6 => .eqv (.pointer (some ⟨xb, 0, none⟩)) | 7 => .eqv (.pointer (some ⟨xb, 0, none⟩)) | 8 => .eqv (.pointer (some ⟨xb, 6, none⟩)) | 9 => .row (ptrs xb [3, 4, 6]) | 10 => .row (ptrs xb [3, 4, 6]) | _ => .any) (by kernel_rfl) ?_ ?_
    · refine ⟨fun u hu => ?_, fun u hu => ?_, fun u hu => ?_, fun u hu => ?_, fun u hu => ?_, fun u hu => ?_, fun u hu => ?_, fun u hu => ?_, fun u hu => ?_, fun u hu => ?_, fun u hu => ?_, trivial⟩
      · refine StepGoal.nil ?_
        go_wp2
        exact ⟨rfl, rfl, Grew.rf _, rfl⟩
      · rintro _ rfl
        refine StepGoal.nil ?_
        simp only [Act.put, List.setIfInBounds_toArray, List.set_cons_zero, List.set_cons_succ]
        go_wp2
        exact ⟨rfl, rfl, Grew.rf _, rfl⟩
      · rintro _ rfl
        refine StepGoal.nil ?_
        simp only [Act.put, List.setIfInBounds_toArray, List.set_cons_zero, List.set_cons_succ]
        go_wp2
        exact ⟨rfl, rfl, Grew.rf _, rfl⟩
      · refine StepGoal.nil ?_
        go_wp2
        exact ⟨rfl, rfl, Grew.rf _, rfl⟩
      · rintro _ rfl
        refine StepGoal.nil ?_
        simp only [Act.put, List.setIfInBounds_toArray, List.set_cons_zero, List.set_cons_succ]
        go_wp2
        exact ⟨rfl, rfl, Grew.rf _, rfl⟩
      · rintro _ rfl
        refine StepGoal.nil ?_
        simp only [Act.put, List.setIfInBounds_toArray, List.set_cons_zero, List.set_cons_succ]
        go_wp2
        exact ⟨rfl, rfl, Grew.rf _, rfl⟩
      · refine StepGoal.nil ?_
        go_wp2
        exact ⟨rfl, rfl, Grew.rf _, rfl⟩
      · rintro _ rfl
        refine StepGoal.nil ?_
        simp only [Act.put, List.setIfInBounds_toArray, List.set_cons_zero, List.set_cons_succ]
        go_wp2
        exact ⟨rfl, rfl, Grew.rf _, rfl⟩
      · rintro _ rfl
        refine StepGoal.nil ?_
        simp only [Act.put, List.setIfInBounds_toArray, List.set_cons_zero, List.set_cons_succ]
        go_wp2
        exact ⟨rfl, rfl, Grew.rf _, rfl⟩
      · rintro _ rfl _ rfl _ rfl
        refine StepGoal.nil ?_
        simp only [Act.put, List.setIfInBounds_toArray, List.set_cons_zero, List.set_cons_succ]
        go_wp2
        exact ⟨rfl, rfl, (Grew.rf _).al _, _, rfl, rdV_lit u [.pointer (some ⟨xb, 3, none⟩), .pointer (some ⟨xb, 4, none⟩), .pointer (some ⟨xb, 6, none⟩)] _, _, _, _, heap_alloc_new u _, by decide, by decide⟩
      · rintro v33 h33
        refine StepGoal.nil ?_
        simp only [Act.put, List.setIfInBounds_toArray, List.set_cons_zero, List.set_cons_succ]
        go_wp2
        exact ⟨rfl, rfl, Grew.rf _, h33⟩
    · intro u hu
      rintro _ rfl _ rfl _ rfl _ rfl _ rfl _ rfl _ rfl _ rfl _ rfl v33 h33 v2 h2
      refine StepGoal.nil ?_
      simp only [Act.put, List.setIfInBounds_toArray, List.set_cons_zero, List.set_cons_succ]
      obtain ⟨B, rfl, hr, hty⟩ : (Pd.row (ptrs xb [3, 4, 6])).p v2 u := h2
      clear h33
      go_wp2_with fail
      go_ret
      exact ⟨_, rfl, hr, (fun ad e => by cases e; exact hty), hu⟩
  by_cases h3 : k = 3
  · subst h3
    go_enter Try.func44, Try.ntmps44
    go_wp2
    go_ret
    exact ⟨_, rfl, rdV_lit w [.pointer (some ⟨xb, 6, none⟩)] _, (fun ad e => by cases e; exact ⟨_, _, _, heap_alloc_new w _, by decide, by decide⟩), (Grew.rf w).al _⟩
  have d1 : (k == 1) = false := by simpa using h1
  have d2 : (k == 2) = false := by simpa using h2
  have d3 : (k == 3) = false := by simpa using h3
  have e1 : decide (k = 1) = false := by simpa using h1
  have e2 : decide (k = 2) = false := by simpa using h2
  have e3 : decide (k = 3) = false := by simpa using h3
  have hn : worF k = [] := by simp [worF, h1, h2, h3]
  rw [hn]
  go_enter Try.func44, Try.ntmps44
  go_wp2
  go_ret
  exact ⟨none, rfl, RdV.nil _ _ _, (fun ad e => by cases e), Grew.rf w⟩
/-- The stream of an event. -/
theorem of_any (x : Ev) (A : Option Addr) (n c : Nat) (w : World) : Calls Try.prog 45 #[evV x A n c] w fun e w' => e = .returned (skV x.se (decide (x.ki = 3))) ∧ Grew w w' := by
  obtain ⟨ki, se, ti, me, ur, hs, bo, st, co, cr, no, nn⟩ := x
  go_enter Try.func45, Try.ntmps45
  go_wp2
  have h1 := heap_alloc_new (w.alloc (.cells #[.int .i64 ki, .int .i64 se, .int .i64 ti, .string me, .string ur, .slice A n c, .string bo, .int .i64 st, .int .i64 co, .bool cr, .string no, .int .u64 nn] 34)) (.cells #[.int .i64 se, .bool (decide (ki = 3))] 98)
  rw [World.size_alloc] at h1
  refine bodyPost_ret (v := skV se (decide (ki = 3))) (results_cell_row rfl _ _ (w.heap.size + 1) _ _ _ _ rfl h1 Try.underlying98 rfl (by kernel_rfl)) rfl ?_
  exact ⟨rfl, ((Grew.rf w).al _).al _⟩
end Go.Proofs.Ytbkcpgaicoagfaa
