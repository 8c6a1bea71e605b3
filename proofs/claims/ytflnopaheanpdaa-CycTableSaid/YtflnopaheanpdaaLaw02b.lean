import Derived.Test.YtflnopaheanpdaaLaw02
set_option linter.unusedVariables false
set_option linter.unusedSimpArgs false
namespace Go.Proofs.Ytflnopaheanpdaa
open Go.RowKit

set_option maxRecDepth 100000 in
set_option maxHeartbeats 1600000 in
theorem cycTable_walk (x : Int) (w : World) (h0 : 0 ≤ x) (h1 : x ≤ 255) :
    Calls Try.prog 3 #[.int .u8 x] w fun e w' => e = .returned (.bool true) ∧ Grew w w' := by
  obtain ⟨c, rfl⟩ := Int.eq_ofNat_of_zero_le h0
  have hc : c < 256 := by omega
  go_enter Try.func3, Try.ntmps3
  go_wp2
  go_loop [3, 4] (fun s k => ∃ (i q : Nat), k = .int .i64 i ∧ i ≤ 8 ∧ s = .int .u32 (q : Int) ∧ q < 4294967296 ∧ cIt i c = q) (fun _ k => 8 - (intOf k).toNat)
  case atStart => exact ⟨0, c, rfl, by omega, by simp, by omega, rfl⟩
  case round =>
    obtain ⟨i, q, rfl, hi, rfl, hq, hI⟩ := hrel
    by_cases h8 : i < 8
    · have hI2 : cIt (i + 1) c = cStep q := by rw [cIt_succ, hI]
      have hq2 := cStep_lt hq
      have HC := fun w => step_any q w hq
      generalize cStep q = q2 at *
      have HCC := Lib.hid HC
      have HI := Lib.hid hI
      have HI2 := Lib.hid hI2
      clear HC hI hI2
      go_wp2_with (go_at_call 15; refine Calls.mono (HCC.out _) ?_; rintro e w' ⟨rfl, rfl⟩)
      go_round
      case rel => exact ⟨i + 1, q2, by go_num, by omega, rfl, hq2, HI2.out⟩
      case measure => simp [intOf]; omega
    · have hi8 : i = 8 := by omega
      subst hi8
      rw [← c8_eq] at hI
      have HI := Lib.hid hI
      clear hI
      go_wp2_with (first | (go_at_call 16; refine Calls.mono (table_any _) ?_; rintro e w1 ⟨rfl, hg1⟩) | (refine tab_alloc rfl rfl ?_; intro HT) | (refine tab_store rfl rfl rfl rfl HT cTab_len ?_; intro HF) | (go_at_call 17; refine Calls.mono (awake2_any _) ?_; rintro e w2 ⟨rfl, hg2⟩; have hce := (HF.keep hg2).cell hc; rw [cTab_get hc, HI.out] at hce))
      go_ret
      refine ⟨rfl, Below.trans (below_setRow (hg1.al _) hg1.size _) (hg2.mono ?_)⟩
      have := hg1.size
      simp [World.setRow]
      omega
end Go.Proofs.Ytflnopaheanpdaa
