/- Memo: the walk of MemoNobody. -/
import Derived.Test.YtcllmhabhbnihaaMemo10
set_option linter.unusedVariables false
set_option linter.unusedSimpArgs false
namespace Go.Proofs.Ytcllmhabhbnihaa
open Go.RowKit

set_option maxRecDepth 100000 in
set_option maxHeartbeats 1600000 in
theorem nobody_any (x : Ask) (now most : Int) (w : World) : Calls Try.prog 5 #[aV x, .int .i64 now, .int .i64 most] w fun e w' => e = .returned (.bool true) ∧ Below w.heap.size w w' := by
  have hx := six_new w x 32
  obtain ⟨hb, hhb⟩ : ∃ hb, w.heap.size = hb := ⟨_, rfl⟩
  obtain ⟨W, hW⟩ : ∃ W, w.alloc (.cells #[.string x.1, .string x.2.1, .bool x.2.2.1, .string x.2.2.2.1, .string x.2.2.2.2.1, .int .i64 x.2.2.2.2.2] 32) = W := ⟨_, rfl⟩
  have hg : Grew w W := by rw [← hW]; exact (Grew.rf w).al _
  rw [hhb, hW] at hx
  have HX := Lib.hid hx
  have HG := Lib.hid hg
  have HHB := Lib.hid hhb
  have HW := Lib.hid hW
  clear hx hg hhb hW
  by_cases hm : 1 ≤ most ∧ most ≤ 64
  · obtain ⟨k, rfl⟩ : ∃ k : Nat, most = (k : Int) := ⟨most.toNat, by omega⟩
    obtain ⟨h1, h2⟩ := hm
    have hnew := fun (u : World) => mnew_any k u (by omega) (by omega)
    have HNEW := Lib.hid hnew
    clear hnew
    go_enter Try.func5, Try.ntmps5
    go_upto_region 1 with fail
    rw [HW.out, HHB.out]
    obtain ⟨c0, c1, c2, c3, c4, c5⟩ := HX.out
    go_upto_region 3 with (go_at_call 13; refine Calls.mono (mput_none _ _ _) ?_; rintro e w1 ⟨rfl, hg1⟩; have HG1 := Lib.hid hg1; clear hg1 c0 c1 c2 c3 c4 c5)
    obtain ⟨c0, c1, c2, c3, c4, c5⟩ := HX.out.keep HG1.out
    go_upto_region 4 with (go_at_call 9; refine Calls.mono (mdrop_none _ _ _) ?_; rintro e w2 ⟨rfl, hg2⟩; have HG2 := Lib.hid (HG1.out.tr hg2); clear hg2 c0 c1 c2 c3 c4 c5)
    go_upto_region 6 with (go_at_call 6; refine Calls.mono (HNEW.out _) ?_; rintro e w3 ⟨p, rfl, hM3, hg3, hwp⟩; have HM3 := Lib.hid hM3; have HG3 := Lib.hid (HG2.out.tr hg3); clear hM3 hg3)
    have hli := fun (u : World) (hu : Grew w3 u) => mlist_any p _ k [] u (HM3.out.keep hu)
    simp only [List.length_nil] at hli
    have HLI := Lib.hid hli
    clear hli
    go_wp2_with (first | (go_at_call 8; refine Calls.mono (awake15_any _) ?_; rintro e w4 ⟨rfl, hg4⟩; obtain ⟨c0, c1, c2, c3, c4, c5⟩ := HX.out.keep (HG3.out.tr hg4); have HG4 := Lib.hid hg4; clear hg4) | (go_at_call 11; refine Calls.mono (mhas_none x now _) ?_; rintro e w5 ⟨rfl, hg5⟩; have HG5 := Lib.hid (HG4.out.tr hg5); clear hg5) | (have HL' := HLN; go_at_call 16; refine Calls.mono (HLI.out _ HG5.out) ?_; rintro e w6 ⟨B, c, rfl, -, hg6⟩; have HG6 := Lib.hid (HG5.out.tr hg6); clear hg6) | (go_at_call 16; refine Calls.mono (mlist_none _) ?_; rintro e w6 ⟨rfl, rfl⟩; have HLN := Lib.hid True.intro))
    go_ret
    exact ⟨rfl, HG.out.tr (HG3.out.tr HG6.out)⟩
  · have hnew := fun (u : World) => mnew_none most u (by omega)
    have HNEW := Lib.hid hnew
    clear hnew
    by_cases h1 : 1 ≤ most
    · have h2 : ¬ most ≤ 64 := fun h => hm ⟨h1, h⟩
      clear hm
      go_enter Try.func5, Try.ntmps5
      go_upto_region 1 with fail
      rw [HW.out, HHB.out]
      obtain ⟨c0, c1, c2, c3, c4, c5⟩ := HX.out
      go_upto_region 3 with (go_at_call 13; refine Calls.mono (mput_none _ _ _) ?_; rintro e w1 ⟨rfl, hg1⟩; have HG1 := Lib.hid hg1; clear hg1 c0 c1 c2 c3 c4 c5)
      obtain ⟨c0, c1, c2, c3, c4, c5⟩ := HX.out.keep HG1.out
      go_upto_region 4 with (go_at_call 9; refine Calls.mono (mdrop_none _ _ _) ?_; rintro e w2 ⟨rfl, hg2⟩; have HG2 := Lib.hid (HG1.out.tr hg2); clear hg2 c0 c1 c2 c3 c4 c5)
      go_upto_region 6 with (go_at_call 6; refine Calls.mono (HNEW.out _) ?_; rintro e w3 ⟨rfl, rfl⟩)
      go_wp2_with (first | (go_at_call 8; refine Calls.mono (awake15_any _) ?_; rintro e w4 ⟨rfl, hg4⟩; obtain ⟨c0, c1, c2, c3, c4, c5⟩ := HX.out.keep (HG2.out.tr hg4); have HG4 := Lib.hid hg4; clear hg4) | (go_at_call 11; refine Calls.mono (mhas_none x now _) ?_; rintro e w5 ⟨rfl, hg5⟩; have HG5 := Lib.hid (HG4.out.tr hg5); clear hg5) | (go_at_call 16; refine Calls.mono (mlist_none _) ?_; rintro e w6 ⟨rfl, rfl⟩))
      go_ret
      first | exact ⟨rfl, HG.out.tr (HG2.out.tr HG5.out)⟩ | exact ⟨by show Ending.returned (.bool (!decide (most ≤ 64))) = _; rw [decide_eq_false (p := most ≤ 64) (by omega)]; rfl, HG.out.tr (HG2.out.tr HG5.out)⟩
    · clear hm
      go_enter Try.func5, Try.ntmps5
      go_upto_region 1 with fail
      rw [HW.out, HHB.out]
      obtain ⟨c0, c1, c2, c3, c4, c5⟩ := HX.out
      go_upto_region 3 with (go_at_call 13; refine Calls.mono (mput_none _ _ _) ?_; rintro e w1 ⟨rfl, hg1⟩; have HG1 := Lib.hid hg1; clear hg1 c0 c1 c2 c3 c4 c5)
      obtain ⟨c0, c1, c2, c3, c4, c5⟩ := HX.out.keep HG1.out
      go_upto_region 4 with (go_at_call 9; refine Calls.mono (mdrop_none _ _ _) ?_; rintro e w2 ⟨rfl, hg2⟩; have HG2 := Lib.hid (HG1.out.tr hg2); clear hg2 c0 c1 c2 c3 c4 c5)
      go_upto_region 6 with (go_at_call 6; refine Calls.mono (HNEW.out _) ?_; rintro e w3 ⟨rfl, rfl⟩)
      go_wp2_with (first | (go_at_call 8; refine Calls.mono (awake15_any _) ?_; rintro e w4 ⟨rfl, hg4⟩; obtain ⟨c0, c1, c2, c3, c4, c5⟩ := HX.out.keep (HG2.out.tr hg4); have HG4 := Lib.hid hg4; clear hg4) | (go_at_call 11; refine Calls.mono (mhas_none x now _) ?_; rintro e w5 ⟨rfl, hg5⟩; have HG5 := Lib.hid (HG4.out.tr hg5); clear hg5) | (go_at_call 16; refine Calls.mono (mlist_none _) ?_; rintro e w6 ⟨rfl, rfl⟩))
      go_ret
      first | exact ⟨rfl, HG.out.tr (HG2.out.tr HG5.out)⟩ | exact ⟨by show Ending.returned (.bool (!decide (most ≤ 64))) = _; rw [decide_eq_false (p := most ≤ 64) (by omega)]; rfl, HG.out.tr (HG2.out.tr HG5.out)⟩
end Go.Proofs.Ytcllmhabhbnihaa
