/- event.same. -/
import Derived.Test.YtbkcpgaicoagfaaEg19
set_option linter.unusedVariables false
set_option linter.unusedSimpArgs false
namespace Go.Proofs.Ytbkcpgaicoagfaa
open Go.RowKit

set_option maxRecDepth 100000 in
set_option maxHeartbeats 6400000 in
theorem esame_any (x : Ev) (A : Option Addr) (n c : Nat) (y : Ev) (B : Option Addr) (m d : Nat) (w : World) (hA : RdH w A n x.hs) (hB : RdH w B m y.hs) (hn : n ≤ 9223372036854775807) (hm : m ≤ 9223372036854775807) :
    Calls Try.prog 78 #[evV x A n c, evV y B m d] w fun e w' => e = .returned (.bool (sameE x y)) ∧ Grew w w' := by
  have HD := Lib.hid (sameE_eq x y)
  obtain ⟨ki1, se1, ti1, me1, ur1, hs1, bo1, st1, co1, cr1, no1, nn1⟩ := x
  obtain ⟨ki2, se2, ti2, me2, ur2, hs2, bo2, st2, co2, cr2, no2, nn2⟩ := y
  dsimp only at hA hB HD
  have hsm := fun (u : World) (hu : Grew w u) => equalH_any A n c hs1 B m d hs2 u (hA.keep hu) (hB.keep hu) hn hm
  generalize decide (hs1 = hs2) = b5 at HD hsm
  have HSM := Lib.hid hsm
  clear hA hB hsm hn hm
  go_enter Try.func78, Try.ntmps78
  go_upto_region 1 with fail
  have hp0 := heap_keep ((Grew.rf _).al (.cells #[.int .i64 ki2, .int .i64 se2, .int .i64 ti2, .string me2, .string ur2, .slice B m d, .string bo2, .int .i64 st2, .int .i64 co2, .bool cr2, .string no2, .int .u64 nn2] 34)) (heap_alloc_new w (.cells #[.int .i64 ki1, .int .i64 se1, .int .i64 ti1, .string me1, .string ur1, .slice A n c, .string bo1, .int .i64 st1, .int .i64 co1, .bool cr1, .string no1, .int .u64 nn1] 34))
  have hp1 := heap_alloc_new (w.alloc (.cells #[.int .i64 ki1, .int .i64 se1, .int .i64 ti1, .string me1, .string ur1, .slice A n c, .string bo1, .int .i64 st1, .int .i64 co1, .bool cr1, .string no1, .int .u64 nn1] 34)) (.cells #[.int .i64 ki2, .int .i64 se2, .int .i64 ti2, .string me2, .string ur2, .slice B m d, .string bo2, .int .i64 st2, .int .i64 co2, .bool cr2, .string no2, .int .u64 nn2] 34)
  obtain ⟨W, hW⟩ : ∃ W, (w.alloc (.cells #[.int .i64 ki1, .int .i64 se1, .int .i64 ti1, .string me1, .string ur1, .slice A n c, .string bo1, .int .i64 st1, .int .i64 co1, .bool cr1, .string no1, .int .u64 nn1] 34)).alloc (.cells #[.int .i64 ki2, .int .i64 se2, .int .i64 ti2, .string me2, .string ur2, .slice B m d, .string bo2, .int .i64 st2, .int .i64 co2, .bool cr2, .string no2, .int .u64 nn2] 34) = W := ⟨_, rfl⟩
  have hgW : Grew w W := by rw [← hW]; exact ((Grew.rf w).al _).al _
  rw [World.size_alloc] at hp1
  rw [hW] at hp0 hp1 ⊢
  obtain ⟨hb, hhb⟩ : ∃ hb, w.heap.size = hb := ⟨_, rfl⟩
  rw [hhb] at hp0 hp1 ⊢
  have HP0 := Lib.hid hp0
  have HP1 := Lib.hid hp1
  have HGW := Lib.hid hgW
  have HHB := Lib.hid hhb
  clear hp0 hp1 hW hgW hhb
  go_cut [5, 6] from 5 to 10 (fun f g wx => f = .slice A n c ∧ g = .slice B m d ∧ Grew W wx)
  case first =>
    refine region_grew [[], [(0, 7)], [], [(2, 9)], [(1, 8)], [(3, 10)]] [(0, 7), (1, 8), (2, 9), (3, 10), (4, 5), (5, 6)] (fun
      | 0 => .eqv (.pointer (some ⟨hb, 5, none⟩)) | 1 => .eqv (.slice A n c) | 2 => .eqv (.pointer (some ⟨hb + 1, 5, none⟩)) | 3 => .eqv (.slice B m d) | 4 => .eqv (.slice A n c) | 5 => .eqv (.slice B m d) | _ => .any) (by kernel_rfl) ?_ ?_
    · refine ⟨fun u hu => ?_, fun u hu => ?_, fun u hu => ?_, fun u hu => ?_, fun u hu => ?_, fun u hu => ?_, trivial⟩
      · refine StepGoal.nil ?_
        go_wp2
        exact ⟨rfl, rfl, Grew.rf _, rfl⟩
      · rintro _ rfl
        have hce : u.cell? ⟨hb, 5, none⟩ = some (.slice A n c) := hu.ce (cell_of_heap HP0.out rfl)
        refine StepGoal.nil ?_
        simp only [Act.put, List.setIfInBounds_toArray, List.set_cons_zero, List.set_cons_succ]
        go_wp2
        exact ⟨rfl, rfl, Grew.rf _, rfl⟩
      · refine StepGoal.nil ?_
        go_wp2
        exact ⟨rfl, rfl, Grew.rf _, rfl⟩
      · rintro _ rfl
        have hce : u.cell? ⟨hb + 1, 5, none⟩ = some (.slice B m d) := hu.ce (cell_of_heap HP1.out rfl)
        refine StepGoal.nil ?_
        simp only [Act.put, List.setIfInBounds_toArray, List.set_cons_zero, List.set_cons_succ]
        go_wp2
        exact ⟨rfl, rfl, Grew.rf _, rfl⟩
      · rintro _ rfl
        refine StepGoal.nil ?_
        simp only [Act.put, List.setIfInBounds_toArray, List.set_cons_zero, List.set_cons_succ]
        go_wp2
        exact ⟨rfl, rfl, Grew.rf _, rfl⟩
      · rintro _ rfl
        refine StepGoal.nil ?_
        simp only [Act.put, List.setIfInBounds_toArray, List.set_cons_zero, List.set_cons_succ]
        go_wp2
        exact ⟨rfl, rfl, Grew.rf _, rfl⟩
    · intro u hu
      rintro _ rfl _ rfl _ rfl _ rfl _ rfl _ rfl
      refine StepGoal.nil ?_
      simp only [Act.put, List.setIfInBounds_toArray, List.set_cons_zero, List.set_cons_succ]
      go_wp2_with fail
      go_meet
      exact ⟨rfl, rfl, hu⟩
  case rest =>
    obtain ⟨rfl, rfl, hgc⟩ := hcut
    have hp0 : wc.heap[hb]? = some (.cells #[.int .i64 ki1, .int .i64 se1, .int .i64 ti1, .string me1, .string ur1, .slice A n c, .string bo1, .int .i64 st1, .int .i64 co1, .bool cr1, .string no1, .int .u64 nn1] 34) := heap_keep hgc HP0.out
    have hp1 : wc.heap[hb + 1]? = some (.cells #[.int .i64 ki2, .int .i64 se2, .int .i64 ti2, .string me2, .string ur2, .slice B m d, .string bo2, .int .i64 st2, .int .i64 co2, .bool cr2, .string no2, .int .u64 nn2] 34) := heap_keep hgc HP1.out
    have hce0 : wc.cell? ⟨hb, 5, none⟩ = some (.slice A n c) := cell_of_heap hp0 rfl
    have hfz0 := frozen_of_heap (i := 5) hp0
    have hq0 := setCell_heap_same hp0 (i := 5) (.slice none 0 0)
    have hq1 : (wc.setCell ⟨hb, 5, none⟩ (.slice none 0 0)).heap[hb + 1]? = _ := (setCell_heap_other wc _ _ (by simp)).trans hp1
    have hce1 : (wc.setCell ⟨hb, 5, none⟩ (.slice none 0 0)).cell? ⟨hb + 1, 5, none⟩ = some (.slice B m d) := cell_of_heap hq1 rfl
    have hfz1 := frozen_of_heap (i := 5) hq1
    have hr1 := setCell_heap_same hq1 (i := 5) (.slice none 0 0)
    have hr0 := (setCell_heap_other (wc.setCell ⟨hb, 5, none⟩ (.slice none 0 0)) ⟨hb + 1, 5, none⟩ (.slice none 0 0) (by simp)).trans hq0
    have hgs : Grew w ((wc.setCell ⟨hb, 5, none⟩ (.slice none 0 0)).setCell ⟨hb + 1, 5, none⟩ (.slice none 0 0)) := ((HGW.out.tr hgc).st (by have := HHB.out; simp only; omega) _).st (by have := HHB.out; simp only; omega) _
    have HR0 := Lib.hid hr0
    have HR1 := Lib.hid hr1
    have HGS := Lib.hid hgs
    clear hp0 hp1 hq0 hq1 hr0 hr1 hgs hgc
    go_upto_region 3 with fail
    obtain ⟨Wz, hWz⟩ : ∃ Wz, (wc.setCell ⟨hb, 5, none⟩ (.slice none 0 0)).setCell ⟨hb + 1, 5, none⟩ (.slice none 0 0) = Wz := ⟨_, rfl⟩
    rw [hWz] at HR0 HR1 HGS ⊢
    clear hWz hce0 hfz0 hce1 hfz1 HP0 HP1 HGW HHB
    have c0 : Wz.cell? ⟨hb, 0, none⟩ = some (.int .i64 ki1) := cell_of_heap HR0.out rfl
    have d0 : Wz.cell? ⟨hb + 1, 0, none⟩ = some (.int .i64 ki2) := cell_of_heap HR1.out rfl
    have c1 : Wz.cell? ⟨hb, 1, none⟩ = some (.int .i64 se1) := cell_of_heap HR0.out rfl
    have d1 : Wz.cell? ⟨hb + 1, 1, none⟩ = some (.int .i64 se2) := cell_of_heap HR1.out rfl
    have c2 : Wz.cell? ⟨hb, 2, none⟩ = some (.int .i64 ti1) := cell_of_heap HR0.out rfl
    have d2 : Wz.cell? ⟨hb + 1, 2, none⟩ = some (.int .i64 ti2) := cell_of_heap HR1.out rfl
    have c3 : Wz.cell? ⟨hb, 3, none⟩ = some (.string me1) := cell_of_heap HR0.out rfl
    have d3 : Wz.cell? ⟨hb + 1, 3, none⟩ = some (.string me2) := cell_of_heap HR1.out rfl
    have c4 : Wz.cell? ⟨hb, 4, none⟩ = some (.string ur1) := cell_of_heap HR0.out rfl
    have d4 : Wz.cell? ⟨hb + 1, 4, none⟩ = some (.string ur2) := cell_of_heap HR1.out rfl
    have c6 : Wz.cell? ⟨hb, 6, none⟩ = some (.string bo1) := cell_of_heap HR0.out rfl
    have d6 : Wz.cell? ⟨hb + 1, 6, none⟩ = some (.string bo2) := cell_of_heap HR1.out rfl
    have c7 : Wz.cell? ⟨hb, 7, none⟩ = some (.int .i64 st1) := cell_of_heap HR0.out rfl
    have d7 : Wz.cell? ⟨hb + 1, 7, none⟩ = some (.int .i64 st2) := cell_of_heap HR1.out rfl
    have c8 : Wz.cell? ⟨hb, 8, none⟩ = some (.int .i64 co1) := cell_of_heap HR0.out rfl
    have d8 : Wz.cell? ⟨hb + 1, 8, none⟩ = some (.int .i64 co2) := cell_of_heap HR1.out rfl
    have c9 : Wz.cell? ⟨hb, 9, none⟩ = some (.bool cr1) := cell_of_heap HR0.out rfl
    have d9 : Wz.cell? ⟨hb + 1, 9, none⟩ = some (.bool cr2) := cell_of_heap HR1.out rfl
    have c10 : Wz.cell? ⟨hb, 10, none⟩ = some (.string no1) := cell_of_heap HR0.out rfl
    have d10 : Wz.cell? ⟨hb + 1, 10, none⟩ = some (.string no2) := cell_of_heap HR1.out rfl
    have c11 : Wz.cell? ⟨hb, 11, none⟩ = some (.int .u64 nn1) := cell_of_heap HR0.out rfl
    have d11 : Wz.cell? ⟨hb + 1, 11, none⟩ = some (.int .u64 nn2) := cell_of_heap HR1.out rfl
    obtain ⟨b0, e0⟩ : ∃ b, (ki1 == ki2) = b := ⟨_, rfl⟩
    rw [e0] at HD
    obtain ⟨b1, e1⟩ : ∃ b, (se1 == se2) = b := ⟨_, rfl⟩
    rw [e1] at HD
    obtain ⟨b2, e2⟩ : ∃ b, (ti1 == ti2) = b := ⟨_, rfl⟩
    rw [e2] at HD
    obtain ⟨b3, e3⟩ : ∃ b, (me1.toList == me2.toList) = b := ⟨_, rfl⟩
    rw [e3] at HD
    obtain ⟨b4, e4⟩ : ∃ b, (ur1.toList == ur2.toList) = b := ⟨_, rfl⟩
    rw [e4] at HD
    obtain ⟨b6, e6⟩ : ∃ b, (bo1.toList == bo2.toList) = b := ⟨_, rfl⟩
    rw [e6] at HD
    obtain ⟨b7, e7⟩ : ∃ b, (st1 == st2) = b := ⟨_, rfl⟩
    rw [e7] at HD
    obtain ⟨b8, e8⟩ : ∃ b, (co1 == co2) = b := ⟨_, rfl⟩
    rw [e8] at HD
    obtain ⟨b9, e9⟩ : ∃ b, (cr1 == cr2) = b := ⟨_, rfl⟩
    rw [e9] at HD
    obtain ⟨b10, e10⟩ : ∃ b, (no1.toList == no2.toList) = b := ⟨_, rfl⟩
    rw [e10] at HD
    obtain ⟨b11, e11⟩ : ∃ b, (nn1 == nn2) = b := ⟨_, rfl⟩
    rw [e11] at HD
    have hsm2 := HSM.out _ HGS.out
    have HSM2 := Lib.hid hsm2
    clear hsm2
    go_wp2_with (go_at_call 82; refine Calls.mono HSM2.out ?_; rintro e w2 ⟨rfl, hg2⟩; have HG2 := Lib.hid (HGS.out.tr hg2); clear hg2)
    all_goals first
      | (go_ret; refine ⟨congrArg (fun b => Ending.returned (Value.bool b)) ?_, HG2.out⟩; rw [HD.out]; simp [*]; done)
      | (go_ret; refine ⟨congrArg (fun b => Ending.returned (Value.bool b)) ?_, HGS.out⟩; rw [HD.out]; simp [*]; done)
end Go.Proofs.Ytbkcpgaicoagfaa
