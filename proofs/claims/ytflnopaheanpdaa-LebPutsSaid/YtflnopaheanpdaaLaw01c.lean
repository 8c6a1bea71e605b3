import Derived.Test.YtflnopaheanpdaaLaw01b
import Derived.Test.YtflnopaheanpdaaReg3
set_option linter.unusedVariables false
set_option linter.unusedSimpArgs false
namespace Go.Proofs.Ytflnopaheanpdaa
open Go.RowKit

set_option maxHeartbeats 1600000 in
theorem lebPuts_walk (A0 : Option Addr) (n0 c0 : Nat) (bs0 : List Int) (v : Int) (w : World) (hr0 : Rd w A0 n0 bs0) (hb0 : Byt bs0) (hnc0 : n0 ≤ c0) (hc0 : c0 ≤ 9223372036854775807) (v0 : 0 ≤ v) (v1 : v < 18446744073709551616) :
    Calls Try.prog 7 #[.slice A0 n0 c0, .int .u64 v] w fun e w' => e = .returned (.bool true) ∧ Grew w w' := by
  have ra := hr0.take (i := min n0 200) (by omega)
  have hs0 := fun w1 (hg : Grew w w1) => short_cut A0 n0 c0 w1 bs0 (hr0.keep hg) hnc0 hc0
  have HS0 := Lib.hid hs0
  clear hs0
  have hk0 : min n0 200 ≤ 200 := by omega
  have hkc0 : min n0 200 ≤ c0 := by omega
  generalize min n0 200 = k0 at *
  generalize bs0.take k0 = ys at *
  have hL := leb_len v0
  have hll : ∀ w1, Calls Try.prog 28 #[.int .u64 v] w1 fun e w' => e = .returned (.int .i64 (leb v).length) ∧ w1 = w' := fun w1 => size_any v w1 v0 v1
  have hby : ∀ w1, Calls Try.prog 27 #[.int .u64 v] w1 fun e w' => ∃ u, e = .returned u ∧ Own w' w1.heap.size u (leb v) ∧ Grew w1 w' := fun w1 => bytes_any v w1 v0 v1
  have hput := fun w1 (hg : Grew w w1) => put_any A0 k0 c0 ys v w1 (ra.keep hg) (by omega) v0 v1
  have hyl := ra.len
  have HLL := Lib.hid hll
  have HBY := Lib.hid hby
  have HPUT := Lib.hid hput
  have HYL := Lib.hid hyl
  clear hll hby hput hyl
  generalize leb v = lv at *
  go_enter Try.func7, Try.ntmps7
  go_wp2_with fail
  refine region_ow (w0 := w) [[], [(0, 5)], [(1, 6)], [(1, 6), (2, 7)], [(1, 6)], [(1, 6), (3, 8), (4, 9)], [(1, 6), (5, 10)], [(1, 6)], [(1, 6)], [(1, 6), (8, 13)], [(1, 6), (7, 12), (9, 14)], [(1, 6)], [(1, 6), (11, 16)], [(1, 6), (10, 15), (12, 17)], [(1, 6), (13, 18)], [(1, 6), (6, 11), (14, 19)], [(1, 6), (15, 20)], [(16, 21)], [(17, 22)], [(17, 22), (18, 23)], [(17, 22)], [(17, 22), (20, 25)], [(17, 22), (21, 26)], [(17, 22), (19, 24), (22, 27)], [(17, 22), (23, 28)], [(24, 29)]] [(0, 5), (1, 6), (2, 7), (3, 8), (4, 9), (5, 10), (6, 11), (7, 12), (8, 13), (9, 14), (10, 15), (11, 16), (12, 17), (13, 18), (14, 19), (15, 20), (16, 21), (17, 22), (18, 23), (19, 24), (20, 25), (21, 26), (22, 27), (23, 28), (24, 29), (25, 4)] [(10, 7), (13, 10)] [none, none, none, none, none, none, none, none, none, none, some 12, none, none, some 15, none, none, none, none, none, none, none, none, none, none, none, none] [5, 7, 10, 12, 13, 21] (fun
    | 0 => .eqv (.bool true) | 1 => .eqv (.bool true) | 2 => .eqv (.slice A0 n0 c0) | 3 => .eqv (.slice A0 k0 c0) | 4 => .eqv (.int .u64 v) | 5 => .ow (ys ++ lv) | 6 => .eqv (.string (strOfNums (ys ++ lv))) | 7 => .ow [] | 8 => .eqv (.slice A0 n0 c0) | 9 => .eqv (.slice A0 k0 c0) | 10 => .ow ([] ++ ys) | 11 => .eqv (.int .u64 v) | 12 => .ow lv | 13 => .ow (([] ++ ys) ++ lv) | 14 => .eqv (.string (strOfNums (ys ++ lv))) | 15 => .eqv (.bool true) | 16 => .eqv (.bool true) | 17 => .eqv (.bool true) | 18 => .eqv (.int .u64 v) | 19 => .eqv (.int .i64 lv.length) | 20 => .eqv (.int .u64 v) | 21 => .ow lv | 22 => .eqv (.int .i64 lv.length) | 23 => .eqv (.bool true) | 24 => .eqv (.bool true) | 25 => .eqv (.bool true) | _ => .any) (by kernel_rfl) (by kernel_rfl) (by kernel_rfl) (Below.refl _ _) ?_ ?_
  · refine ⟨fun u hu => ?_, fun u hu => ?_, fun u hu => ?_, fun u hu => ?_, fun u hu => ?_, fun u hu => ?_, fun u hu => ?_, fun u hu => ?_, fun u hu => ?_, fun u hu => ?_, fun u hu => ?_, fun u hu => ?_, fun u hu => ?_, fun u hu => ?_, fun u hu => ?_, fun u hu => ?_, fun u hu => ?_, fun u hu => ?_, fun u hu => ?_, fun u hu => ?_, fun u hu => ?_, fun u hu => ?_, fun u hu => ?_, fun u hu => ?_, fun u hu => ?_, fun u hu => ?_, trivial⟩
    · refine StepGoal.nil ?_
      intro hrow
      go_wp2_with (go_at_call 24; refine Calls.mono (awake_any _) ?_; rintro e w1 ⟨rfl, hg⟩)
      exact ⟨rfl, rfl, hg.gb _, rfl, fun h => absurd h (by decide)⟩
    · rintro _ rfl
      refine StepGoal.nil ?_
      intro hrow
      simp only [Act.put, List.setIfInBounds_toArray, List.set_cons_zero, List.set_cons_succ]
      go_wp2
      exact ⟨rfl, rfl, gb_rf _, rfl, fun h => absurd h (by decide)⟩
    · rintro _ rfl
      refine StepGoal.nil ?_
      intro hrow
      simp only [Act.put, List.setIfInBounds_toArray, List.set_cons_zero, List.set_cons_succ]
      go_wp2
      exact ⟨rfl, rfl, gb_rf _, rfl, fun h => absurd h (by decide)⟩
    · rintro _ rfl _ rfl
      refine StepGoal.nil ?_
      intro hrow
      simp only [Act.put, List.setIfInBounds_toArray, List.set_cons_zero, List.set_cons_succ]
      go_wp2_with (go_at_call 26; refine Calls.mono (HS0.out _ hu) ?_; rintro e w' ⟨rfl, rfl⟩)
      exact ⟨rfl, rfl, gb_rf _, rfl, fun h => absurd h (by decide)⟩
    · rintro _ rfl
      refine StepGoal.nil ?_
      intro hrow
      simp only [Act.put, List.setIfInBounds_toArray, List.set_cons_zero, List.set_cons_succ]
      go_wp2
      exact ⟨rfl, rfl, gb_rf _, rfl, fun h => absurd h (by decide)⟩
    · rintro _ rfl _ rfl _ rfl
      refine StepGoal.nil ?_
      intro hrow
      simp only [Act.put, List.setIfInBounds_toArray, List.set_cons_zero, List.set_cons_succ]
      go_wp2_with (go_at_call 25; refine Calls.mono (HPUT.out _ hu) ?_; rintro e w1 ⟨x, rfl, ho, hg⟩)
      exact ⟨rfl, rfl, hg.gb _, ho.lower hu.size, fun _ => own_fresh ho rfl⟩
    · rintro _ rfl v10 h10
      have hs := OwnK.str h10
      refine StepGoal.nil ?_
      intro hrow
      simp only [Act.put, List.setIfInBounds_toArray, List.set_cons_zero, List.set_cons_succ]
      go_wp2
      exact ⟨rfl, rfl, gb_rf _, rfl, fun h => absurd h (by decide)⟩
    · rintro _ rfl
      refine StepGoal.nil ?_
      intro hrow
      simp only [Act.put, List.setIfInBounds_toArray, List.set_cons_zero, List.set_cons_succ]
      go_wp2
      exact ⟨rfl, rfl, ((Grew.rf u).al _).gb _, (own_lit0 u).lower hu.size, fun _ => own_fresh (own_lit0 u) rfl⟩
    · rintro _ rfl
      refine StepGoal.nil ?_
      intro hrow
      simp only [Act.put, List.setIfInBounds_toArray, List.set_cons_zero, List.set_cons_succ]
      go_wp2
      exact ⟨rfl, rfl, gb_rf _, rfl, fun h => absurd h (by decide)⟩
    · rintro _ rfl _ rfl
      refine StepGoal.nil ?_
      intro hrow
      simp only [Act.put, List.setIfInBounds_toArray, List.set_cons_zero, List.set_cons_succ]
      go_wp2_with (go_at_call 26; refine Calls.mono (HS0.out _ hu) ?_; rintro e w' ⟨rfl, rfl⟩)
      exact ⟨rfl, rfl, gb_rf _, rfl, fun h => absurd h (by decide)⟩
    · rintro _ rfl v12 h12 _ rfl
      refine StepGoal.nil ?_
      intro hrow
      simp only [Act.put, List.setIfInBounds_toArray, List.set_cons_zero, List.set_cons_succ]
      go_wp2_with (at_builtin; refine apps2 (.inr rfl) rfl rfl rfl h12 (ra.keep hu) hu.size (by simp; omega) ?_; intro v3 w3 ho3 hg3 hat3)
      exact ⟨rfl, rfl, hg3, ho3, fun _ => hat3⟩
    · rintro _ rfl
      refine StepGoal.nil ?_
      intro hrow
      simp only [Act.put, List.setIfInBounds_toArray, List.set_cons_zero, List.set_cons_succ]
      go_wp2
      exact ⟨rfl, rfl, gb_rf _, rfl, fun h => absurd h (by decide)⟩
    · rintro _ rfl _ rfl
      refine StepGoal.nil ?_
      intro hrow
      simp only [Act.put, List.setIfInBounds_toArray, List.set_cons_zero, List.set_cons_succ]
      go_wp2_with (go_at_call 27; refine Calls.mono (HBY.out _) ?_; rintro e w1 ⟨x, rfl, ho, hg⟩)
      exact ⟨rfl, rfl, hg.gb _, ho.lower hu.size, fun _ => own_fresh ho rfl⟩
    · rintro _ rfl v15 h15 v17 h17
      obtain ⟨A7, c7, rfl, _, _, hr7⟩ := h17.rd
      refine StepGoal.nil ?_
      intro hrow
      simp only [Act.put, List.setIfInBounds_toArray, List.set_cons_zero, List.set_cons_succ]
      go_wp2_with (at_builtin; refine apps2 (.inr rfl) rfl rfl rfl h15 hr7 hu.size (by simp; rw [HYL.out]; omega) ?_; intro v3 w3 ho3 hg3 hat3)
      exact ⟨rfl, rfl, hg3, ho3, fun _ => hat3⟩
    · rintro _ rfl v18 h18
      have hs := OwnK.str h18
      refine StepGoal.nil ?_
      intro hrow
      simp only [Act.put, List.setIfInBounds_toArray, List.set_cons_zero, List.set_cons_succ]
      go_wp2
      exact ⟨rfl, rfl, gb_rf _, rfl, fun h => absurd h (by decide)⟩
    · rintro _ rfl _ rfl _ rfl
      refine StepGoal.nil ?_
      intro hrow
      simp only [Act.put, List.setIfInBounds_toArray, List.set_cons_zero, List.set_cons_succ]
      go_wp2
      exact ⟨rfl, rfl, gb_rf _, rfl, fun h => absurd h (by decide)⟩
    · rintro _ rfl _ rfl
      refine StepGoal.nil ?_
      intro hrow
      simp only [Act.put, List.setIfInBounds_toArray, List.set_cons_zero, List.set_cons_succ]
      go_wp2
      exact ⟨rfl, rfl, gb_rf _, rfl, fun h => absurd h (by decide)⟩
    · rintro _ rfl
      refine StepGoal.nil ?_
      intro hrow
      simp only [Act.put, List.setIfInBounds_toArray, List.set_cons_zero, List.set_cons_succ]
      go_wp2
      exact ⟨rfl, rfl, gb_rf _, rfl, fun h => absurd h (by decide)⟩
    · rintro _ rfl
      refine StepGoal.nil ?_
      intro hrow
      simp only [Act.put, List.setIfInBounds_toArray, List.set_cons_zero, List.set_cons_succ]
      go_wp2
      exact ⟨rfl, rfl, gb_rf _, rfl, fun h => absurd h (by decide)⟩
    · rintro _ rfl _ rfl
      refine StepGoal.nil ?_
      intro hrow
      simp only [Act.put, List.setIfInBounds_toArray, List.set_cons_zero, List.set_cons_succ]
      go_wp2_with (go_at_call 28; refine Calls.mono (HLL.out _) ?_; rintro e w' ⟨rfl, rfl⟩)
      exact ⟨rfl, rfl, gb_rf _, rfl, fun h => absurd h (by decide)⟩
    · rintro _ rfl
      refine StepGoal.nil ?_
      intro hrow
      simp only [Act.put, List.setIfInBounds_toArray, List.set_cons_zero, List.set_cons_succ]
      go_wp2
      exact ⟨rfl, rfl, gb_rf _, rfl, fun h => absurd h (by decide)⟩
    · rintro _ rfl _ rfl
      refine StepGoal.nil ?_
      intro hrow
      simp only [Act.put, List.setIfInBounds_toArray, List.set_cons_zero, List.set_cons_succ]
      go_wp2_with (go_at_call 27; refine Calls.mono (HBY.out _) ?_; rintro e w1 ⟨x, rfl, ho, hg⟩)
      exact ⟨rfl, rfl, hg.gb _, ho.lower hu.size, fun _ => own_fresh ho rfl⟩
    · rintro _ rfl v26 h26
      obtain ⟨A7, c7, rfl, _, _, hr7⟩ := h26.rd
      refine StepGoal.nil ?_
      intro hrow
      simp only [Act.put, List.setIfInBounds_toArray, List.set_cons_zero, List.set_cons_succ]
      go_wp2
      exact ⟨rfl, rfl, gb_rf _, rfl, fun h => absurd h (by decide)⟩
    · rintro _ rfl _ rfl _ rfl
      refine StepGoal.nil ?_
      intro hrow
      simp only [Act.put, List.setIfInBounds_toArray, List.set_cons_zero, List.set_cons_succ]
      go_wp2
      exact ⟨rfl, rfl, gb_rf _, rfl, fun h => absurd h (by decide)⟩
    · rintro _ rfl _ rfl
      refine StepGoal.nil ?_
      intro hrow
      simp only [Act.put, List.setIfInBounds_toArray, List.set_cons_zero, List.set_cons_succ]
      go_wp2
      exact ⟨rfl, rfl, gb_rf _, rfl, fun h => absurd h (by decide)⟩
    · rintro _ rfl
      refine StepGoal.nil ?_
      intro hrow
      simp only [Act.put, List.setIfInBounds_toArray, List.set_cons_zero, List.set_cons_succ]
      go_wp2
      exact ⟨rfl, rfl, gb_rf _, rfl, fun h => absurd h (by decide)⟩
  · intro u hu
    rintro _ rfl _ rfl _ rfl _ rfl _ rfl v10 h10 _ rfl v12 _ _ rfl _ rfl v15 _ _ rfl v17 h17 v18 h18 _ rfl _ rfl _ rfl _ rfl _ rfl _ rfl _ rfl v26 h26 _ rfl _ rfl _ rfl _ rfl
    refine StepGoal.nil ?_
    simp only [Act.put, List.setIfInBounds_toArray, List.set_cons_zero, List.set_cons_succ]
    go_wp2
    go_ret
    exact ⟨rfl, hu⟩
end Go.Proofs.Ytflnopaheanpdaa
