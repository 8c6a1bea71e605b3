/- Memo: awake. -/
import Derived.Test.YtcllmhabhbnihaaMemo9
set_option linter.unusedVariables false
set_option linter.unusedSimpArgs false
namespace Go.Proofs.Ytcllmhabhbnihaa
open Go.RowKit

def aw1 : Ask := (⟨#[97]⟩, ⟨#[117]⟩, false, ⟨#[80, 85, 84]⟩, ⟨#[]⟩, 9)
def aw2 : Ask := (⟨#[98]⟩, ⟨#[117]⟩, false, ⟨#[]⟩, ⟨#[42]⟩, 9)
def aw3 : Ask := (⟨#[98]⟩, ⟨#[117]⟩, false, ⟨#[]⟩, ⟨#[120]⟩, 0)
theorem aw_p1 : putM 1 [] aw1 0 = [aw1] := by decide +kernel
theorem aw_p2 : putM 1 [aw1] aw2 0 = [aw2] := by decide +kernel
theorem aw_h1 : [aw1].any (hasP aw1 8) = true := by decide +kernel
theorem aw_h2 : [aw1].any (hasP aw1 9) = false := by decide +kernel
theorem aw_h3 : [aw2].any (hasP aw1 8) = false := by decide +kernel
theorem aw_h4 : [aw2].any (hasP aw3 0) = true := by decide +kernel

set_option maxRecDepth 100000 in
set_option maxHeartbeats 3200000 in
theorem awake15_any (w : World) : Calls Try.prog 8 #[] w fun e w' => e = .returned (.bool true) ∧ Grew w w' := by
  have hnew := fun (u : World) => mnew_any 1 u (by decide) (by decide)
  have hnew2 := fun (u : World) => mnew_none 65 u (.inr (by decide))
  have HNEW := Lib.hid hnew
  have HNEW2 := Lib.hid hnew2
  clear hnew hnew2
  go_enter Try.func8, Try.ntmps8
  go_upto_region 4 with (go_at_call 6; refine Calls.mono (HNEW.out _) ?_; rintro e w1 ⟨p, rfl, hM1, hg1, hwp⟩; have HM1 := Lib.hid hM1; have HG1 := Lib.hid hg1; clear hM1 hg1)
  go_upto_region 5 with fail
  have hx := six_new w1 aw1 32
  obtain ⟨hb, hhb⟩ : ∃ hb, w1.heap.size = hb := ⟨_, rfl⟩
  have hg2 : Grew w (w1.alloc (.cells #[.string aw1.1, .string aw1.2.1, .bool aw1.2.2.1, .string aw1.2.2.2.1, .string aw1.2.2.2.2.1, .int .i64 aw1.2.2.2.2.2] 32)) := HG1.out.al _
  have hM2 := HM1.out.keep ((Grew.rf w1).al (.cells #[.string aw1.1, .string aw1.2.1, .bool aw1.2.2.1, .string aw1.2.2.2.1, .string aw1.2.2.2.2.1, .int .i64 aw1.2.2.2.2.2] 32))
  have hpb : p < hb := by rw [← hhb]; exact HM1.out.lt (.inl rfl)
  have hwb : w.heap.size ≤ hb := by rw [← hhb]; exact HG1.out.size
  obtain ⟨W2, hW2⟩ : ∃ W2, w1.alloc (.cells #[.string aw1.1, .string aw1.2.1, .bool aw1.2.2.1, .string aw1.2.2.2.1, .string aw1.2.2.2.2.1, .int .i64 aw1.2.2.2.2.2] 32) = W2 := ⟨_, rfl⟩
  rw [hhb, hW2] at hx
  rw [hW2] at hg2 hM2
  rw [hhb, show w1.alloc (.cells #[.string ⟨#[97]⟩, .string ⟨#[117]⟩, .bool false, .string ⟨#[80, 85, 84]⟩, .string ⟨#[]⟩, .int .i64 9] 32) = W2 from hW2]
  have HX := Lib.hid hx
  have HG2 := Lib.hid hg2
  have HM2 := Lib.hid hM2
  clear hx hg2 hM2 hW2 hhb HM1 HG1
  obtain ⟨c0, c1, c2, c3, c4, c5⟩ := HX.out
  simp only [aw1] at c0 c1 c2 c3 c4 c5
  go_upto_region 6 with (go_at_call 13; refine Calls.mono (mput_any p _ 1 [] aw1 0 _ HM2.out) ?_; rintro e w3 ⟨rfl, ⟨⟨lv3, hM3, hF3⟩, hC3⟩⟩; rw [aw_p1] at hM3; have HM3 := Lib.hid hM3; have HF3 := Lib.hid hF3; have HC3 := Lib.hid hC3; clear c0 c1 c2 c3 c4 c5 hM3 hF3 hC3)
  have hX3 : SixC w3 hb 0 aw1 := HX.out.chg HC3.out (fun h => by rcases h with h | h; omega; cases h)
  have hhas1 := fun (u : World) (hu : Grew w3 u) => mhas_any p lv3 1 [aw1] aw1 8 u (HM3.out.keep hu)
  have hhas2 := fun (u : World) (hu : Grew w3 u) => mhas_any p lv3 1 [aw1] aw1 9 u (HM3.out.keep hu)
  rw [aw_h1] at hhas1
  rw [aw_h2] at hhas2
  have HX3 := Lib.hid hX3
  have HH1 := Lib.hid hhas1
  have HH2 := Lib.hid hhas2
  clear hX3 hhas1 hhas2
  have hxb2 : hb < W2.heap.size := lt_of_cell HX.out.c0
  refine region_grew [[], [], [(0, 18), (1, 19)], [], [], [(3, 21), (4, 22)], [(2, 20)], [(5, 23)]] [(0, 18), (1, 19), (2, 20), (3, 21), (4, 22), (5, 23), (6, 4), (7, 5)] (fun
    | 0 => .eqv (.pointer (some ⟨p, 0, none⟩)) | 1 => .eqv (aV aw1) | 2 => .eqv (.bool true) | 3 => .eqv (.pointer (some ⟨p, 0, none⟩)) | 4 => .eqv (aV aw1) | 5 => .eqv (.bool false) | 6 => .eqv (.bool true) | 7 => .eqv (.bool false) | _ => .any) (by kernel_rfl) ?_ ?_
  · refine ⟨fun u hu => ?_, fun u hu => ?_, fun u hu => ?_, fun u hu => ?_, fun u hu => ?_, fun u hu => ?_, fun u hu => ?_, fun u hu => ?_, trivial⟩
    · refine StepGoal.nil ?_
      go_wp2
      exact ⟨rfl, rfl, Grew.rf _, rfl⟩
    · have h6 := HX3.out.keep hu; obtain ⟨c0, c1, c2, c3, c4, c5⟩ := h6
      refine StepGoal.nil ?_
      go_wp2
      exact ⟨rfl, rfl, Grew.rf _, rfl⟩
    · rintro _ rfl _ rfl
      refine StepGoal.nil ?_
      simp only [Act.put, List.setIfInBounds_toArray, List.set_cons_zero, List.set_cons_succ]
      go_wp2_with (go_at_call 11; refine Calls.mono (HH1.out u hu) ?_; rintro e w' ⟨rfl, hg⟩)
      exact ⟨rfl, rfl, hg, rfl⟩
    · refine StepGoal.nil ?_
      go_wp2
      exact ⟨rfl, rfl, Grew.rf _, rfl⟩
    · have h6 := HX3.out.keep hu; obtain ⟨c0, c1, c2, c3, c4, c5⟩ := h6
      refine StepGoal.nil ?_
      go_wp2
      exact ⟨rfl, rfl, Grew.rf _, rfl⟩
    · rintro _ rfl _ rfl
      refine StepGoal.nil ?_
      simp only [Act.put, List.setIfInBounds_toArray, List.set_cons_zero, List.set_cons_succ]
      go_wp2_with (go_at_call 11; refine Calls.mono (HH2.out u hu) ?_; rintro e w' ⟨rfl, hg⟩)
      exact ⟨rfl, rfl, hg, rfl⟩
    · rintro _ rfl
      refine StepGoal.nil ?_
      simp only [Act.put, List.setIfInBounds_toArray, List.set_cons_zero, List.set_cons_succ]
      go_wp2
      exact ⟨rfl, rfl, Grew.rf _, rfl⟩
    · rintro _ rfl
      refine StepGoal.nil ?_
      simp only [Act.put, List.setIfInBounds_toArray, List.set_cons_zero, List.set_cons_succ]
      go_wp2
      exact ⟨rfl, rfl, Grew.rf _, rfl⟩
  · intro u hu
    rintro _ rfl _ rfl _ rfl _ rfl _ rfl _ rfl _ rfl _ rfl
    refine StepGoal.nil ?_
    simp only [Act.put, List.setIfInBounds_toArray, List.set_cons_zero, List.set_cons_succ]
    have HM4 := Lib.hid (HM3.out.keep hu)
    have HX4 := Lib.hid (HX3.out.keep hu)
    have hw3 : Grew w w3 := grew_chg HG2.out HC3.out (fun k hk => by rcases hk with h | h; omega; cases h)
    have hwu : Grew w u := hw3.tr hu
    have HWU := Lib.hid hwu
    have hsz : W2.heap.size ≤ u.heap.size := Nat.le_trans HC3.out.size hu.size
    clear hwu hu hw3
    go_upto_region 8 with (go_at_call 13; refine Calls.mono (mput_any p _ 1 [aw1] aw2 0 _ HM4.out) ?_; rintro e w5 ⟨rfl, ⟨⟨lv5, hM5, hF5⟩, hC5⟩⟩; rw [aw_p2] at hM5; have HM5 := Lib.hid hM5; have HF5 := Lib.hid hF5; have HC5 := Lib.hid hC5; clear hM5 hF5 hC5)
    have hF3' : ∀ k, ftm p lv3 k → w.heap.size ≤ k ∧ k ≠ hb := fun k hk => by
      rcases HF3.out k hk with (h | h) | h
      · omega
      · cases h
      · have := HG2.out.size; omega
    have hw5 : Grew w w5 := grew_chg HWU.out HC5.out (fun k hk => (hF3' k hk).1)
    have hx5 : SixC w5 hb 0 aw1 := HX4.out.chg HC5.out (fun h => (hF3' _ h).2 rfl)
    have HW5 := Lib.hid hw5
    have HX5 := Lib.hid hx5
    clear hw5 hx5 hF3'
    go_upto_region 9 with (go_at_call 6; refine Calls.mono (HNEW2.out _) ?_; rintro e w' ⟨rfl, rfl⟩)
    obtain ⟨c0, c1, c2, c3, c4, c5⟩ := HX5.out
    simp only [aw1] at c0 c1 c2 c3 c4 c5
    have hh3 := fun (u : World) (hu : Grew w5 u) => mhas_any p lv5 1 [aw2] aw1 8 u (HM5.out.keep hu)
    have hh4 := fun (u : World) (hu : Grew w5 u) => mhas_any p lv5 1 [aw2] aw3 0 u (HM5.out.keep hu)
    have hli := fun (u : World) (hu : Grew w5 u) => mlist_any p lv5 1 [aw2] u (HM5.out.keep hu)
    rw [aw_h3] at hh3
    rw [aw_h4] at hh4
    simp only [aw1] at hh3
    simp only [aw3] at hh4
    have HH3 := Lib.hid hh3
    have HH4 := Lib.hid hh4
    have HLI := Lib.hid hli
    clear hh3 hh4 hli
    go_wp2_with (first | (have HG6' := HG6; go_at_call 11; refine Calls.mono (HH4.out _ HG6'.out) ?_; rintro e w7 ⟨rfl, hg7⟩; have HG7 := Lib.hid (HG6.out.tr hg7); clear hg7) | (go_at_call 11; refine Calls.mono (HH3.out _ (Grew.rf _)) ?_; rintro e w6 ⟨rfl, hg6⟩; have HG6 := Lib.hid hg6; clear hg6) | (go_at_call 16; refine Calls.mono (HLI.out _ HG7.out) ?_; rintro e w8 ⟨B, c, rfl, -, hg8⟩; have HG8 := Lib.hid (HG7.out.tr hg8); clear hg8))
    go_ret
    exact ⟨rfl, HW5.out.tr HG8.out⟩
end Go.Proofs.Ytcllmhabhbnihaa
