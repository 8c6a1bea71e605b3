import Derived.Test.YtflnopaheanpdaaLaw01
import Derived.Test.YtflnopaheanpdaaPureLeb3
set_option linter.unusedVariables false
set_option linter.unusedSimpArgs false
namespace Go.Proofs.Ytflnopaheanpdaa
open Go.RowKit

theorem Byt.take {xs : List Int} (h : Byt xs) (k : Nat) : Byt (xs.take k) := fun x hx => h x (List.mem_of_mem_take hx)
theorem Byt.drop {xs : List Int} (h : Byt xs) (k : Nat) : Byt (xs.drop k) := fun x hx => h x (List.mem_of_mem_drop hx)
theorem Byt.app {xs ys : List Int} (h : Byt xs) (k : Byt ys) : Byt (xs ++ ys) := fun x hx => (List.mem_append.1 hx).elim (h x) (k x)

set_option maxHeartbeats 1600000 in
theorem lebRound_walk (A0 : Option Addr) (n0 c0 : Nat) (as0 : List Int) (A1 : Option Addr) (n1 c1 : Nat) (bs0 : List Int) (v : Int) (w : World) (hr0 : Rd w A0 n0 as0) (hb0 : Byt as0) (hnc0 : n0 ≤ c0) (hc0 : c0 ≤ 9223372036854775807)
    (hr1 : Rd w A1 n1 bs0) (hb1 : Byt bs0) (hnc1 : n1 ≤ c1) (hc1 : c1 ≤ 9223372036854775807) (v0 : 0 ≤ v) (v1 : v < 18446744073709551616) :
    Calls Try.prog 9 #[.slice A0 n0 c0, .slice A1 n1 c1, .int .u64 v] w fun e w' => e = .returned (.bool true) ∧ Grew w w' := by
  have ra := hr0.take (i := min n0 200) (by omega)
  have rb := hr1.take (i := min n1 200) (by omega)
  have ba : Byt (as0.take (min n0 200)) := hb0.take _
  have bb : Byt (bs0.take (min n1 200)) := hb1.take _
  have hs0 := fun w1 (hg : Grew w w1) => short_cut A0 n0 c0 w1 as0 (hr0.keep hg) hnc0 hc0
  have hs1 := fun w1 (hg : Grew w w1) => short_cut A1 n1 c1 w1 bs0 (hr1.keep hg) hnc1 hc1
  have HS0 := Lib.hid hs0
  have HS1 := Lib.hid hs1
  clear hs0 hs1
  have hk0 : min n0 200 ≤ 200 := by omega
  have hk1 : min n1 200 ≤ 200 := by omega
  have hkc0 : min n0 200 ≤ c0 := by omega
  have hkc1 : min n1 200 ≤ c1 := by omega
  generalize min n0 200 = k0 at *
  generalize min n1 200 = k1 at *
  generalize as0.take k0 = ys at *
  generalize bs0.take k1 = bs at *
  have hL := leb_len v0
  obtain ⟨nx, hnx⟩ : ∃ nx, k0 + (leb v).length = nx := ⟨_, rfl⟩
  have hla := ra.len
  have hlb := rb.len
  have hT1 : lebTake ((ys ++ leb v) ++ bs) (k0 : Int) = (v, (nx : Int), 0) := by
    have := lebTake_round (ys := ys) (r := bs) v0 v1 bb
    rw [hla] at this
    rw [this, ← hnx]
    simp
  have hT2 : lebTake ((ys ++ leb v).take (nx - 1)) (k0 : Int) = (0, 0, 7) := by
    have := lebTake_short (ys := ys) v0 v1
    rw [hla, hnx] at this
    exact this
  have hlx : (ys ++ leb v).length = nx := by rw [List.length_append, hla, hnx]
  have bx : Byt (ys ++ leb v) := ba.app (leb_byte v0)
  have hnx1 : 1 ≤ nx := by omega
  have hnx2 : nx ≤ 210 := by omega
  have HT1 := Lib.hid hT1
  have HT2 := Lib.hid hT2
  have HLX := Lib.hid hlx
  have HLB := Lib.hid hlb
  clear hT1 hT2 hlx hnx hla hL hlb
  have hput := fun w1 (hg : Grew w w1) => put_any A0 k0 c0 ys v w1 (ra.keep hg) (by omega) v0 v1
  have HPUT := Lib.hid hput
  clear hput
  generalize ys ++ leb v = xs at *
  obtain ⟨⟨r1, r2, r3⟩, hq⟩ : ∃ r, lebTake bs 0 = r := ⟨_, rfl⟩
  have HQ := Lib.hid hq
  clear hq
  go_enter Try.func9, Try.ntmps9
  go_wp2_with fail
  refine Calls.mono (HS0.out _ (Grew.rf w)) ?_
  rintro e w' ⟨rfl, rfl⟩
  go_wp2_with fail
  refine Calls.mono (HPUT.out _ (Grew.rf w)) ?_
  rintro e w1 ⟨u, rfl, ho, hg1⟩
  obtain ⟨AX, cX, rfl, hcX, _, hrX⟩ := ho.rd' HLX.out
  have hsz := hg1.size
  go_wp2_with (at_builtin; refine apps rfl rfl rfl rfl (own_lit0 w1) (hrX.al _) ((Grew.rf w1).al _) (by simp) (by simp; omega) ?_; intro v2 w2 ho2 hg2 hb2)
  rw [List.nil_append] at ho2
  refine Calls.mono (HS1.out _ (hg1.tr hg2)) ?_
  rintro e w' ⟨rfl, rfl⟩
  go_wp2_with (at_builtin; refine apps rfl rfl rfl rfl ho2 (rb.keep (hg1.tr hg2)) hg2 hb2 (by rw [HLX.out]; omega) ?_; intro v3 w3 ho3 hg3 hb3)
  obtain ⟨AY, cY, rfl, hcY, hcY2, hrY⟩ := ho3.rd' (n := nx + k1) (by rw [List.length_append, HLX.out, HLB.out])
  refine Calls.mono (HS0.out _ (hg1.tr hg3)) ?_
  rintro e w' ⟨rfl, rfl⟩
  go_wp2_with fail
  refine Calls.mono (take_to AY _ cY _ _ _ HT1.out _ hrY (bx.app bb) hcY (by omega) (by omega) (by omega)) ?_
  rintro e w' ⟨rfl, rfl⟩
  have hcut := cut_hi (kh := .i64) AX nx cX (nx - 1) (by omega)
  rw [show (((nx - 1 : Nat)) : Int) = (nx : Int) - 1 by omega] at hcut
  have hrX2 := (hrX.keep hg3).take (i := nx - 1) (by omega)
  go_wp2_with fail
  refine region_grew [[], [], [(1, 57)], [(2, 58)], [(0, 56), (3, 59)], [], [(5, 61)], [(6, 62)], [(4, 60), (7, 63)], [(8, 64)], [(9, 55)], [(9, 55)], [(9, 55)], [(10, 65)], [(11, 66)], [(12, 67)]] [(0, 56), (1, 57), (2, 58), (3, 59), (4, 60), (5, 61), (6, 62), (7, 63), (8, 64), (9, 55), (10, 65), (11, 66), (12, 67), (13, 12), (14, 13), (15, 14)] (fun
    | 0 => .eqv (.slice AX nx cX) | 1 => .eqv (.slice AX nx cX) | 2 => .eqv (.int .i64 nx) | 3 => .eqv (.int .i64 ((nx : Int) - 1)) | 4 => .eqv (.slice AX (nx - 1) cX) | 5 => .eqv (.slice A0 n0 c0) | 6 => .eqv (.slice A0 k0 c0) | 7 => .eqv (.int .i64 k0) | 8 => .eqv (.tuple #[.int .u64 0, .int .i64 0, .int .i64 7]) | 9 => .eqv (.tuple #[.int .u64 0, .int .i64 0, .int .i64 7]) | 10 => .eqv (.int .u64 0) | 11 => .eqv (.int .i64 0) | 12 => .eqv (.int .i64 7) | 13 => .eqv (.int .u64 0) | 14 => .eqv (.int .i64 0) | 15 => .eqv (.int .i64 7) | _ => .any) (by kernel_rfl) ?_ ?_
  · refine ⟨fun u hu => ?_, fun u hu => ?_, fun u hu => ?_, fun u hu => ?_, fun u hu => ?_, fun u hu => ?_, fun u hu => ?_, fun u hu => ?_, fun u hu => ?_, fun u hu => ?_, fun u hu => ?_, fun u hu => ?_, fun u hu => ?_, fun u hu => ?_, fun u hu => ?_, fun u hu => ?_, trivial⟩
    · refine StepGoal.nil ?_
      go_wp2
      exact ⟨rfl, rfl, Grew.rf _, rfl⟩
    · refine StepGoal.nil ?_
      go_wp2
      exact ⟨rfl, rfl, Grew.rf _, rfl⟩
    · rintro _ rfl
      refine StepGoal.nil ?_
      simp only [Act.put, List.setIfInBounds_toArray, List.set_cons_zero, List.set_cons_succ]
      go_wp2
      exact ⟨rfl, rfl, Grew.rf _, rfl⟩
    · rintro _ rfl
      refine StepGoal.nil ?_
      simp only [Act.put, List.setIfInBounds_toArray, List.set_cons_zero, List.set_cons_succ]
      go_wp2
      exact ⟨rfl, rfl, Grew.rf _, rfl⟩
    · rintro _ rfl _ rfl
      refine StepGoal.nil ?_
      simp only [Act.put, List.setIfInBounds_toArray, List.set_cons_zero, List.set_cons_succ]
      go_wp2
      exact ⟨rfl, rfl, Grew.rf _, rfl⟩
    · refine StepGoal.nil ?_
      go_wp2
      exact ⟨rfl, rfl, Grew.rf _, rfl⟩
    · rintro _ rfl
      refine StepGoal.nil ?_
      simp only [Act.put, List.setIfInBounds_toArray, List.set_cons_zero, List.set_cons_succ]
      go_wp2_with (go_at_call 26; refine Calls.mono (HS0.out _ ((hg1.tr hg3).tr hu)) ?_; rintro e w' ⟨rfl, rfl⟩)
      exact ⟨rfl, rfl, Grew.rf _, rfl⟩
    · rintro _ rfl
      refine StepGoal.nil ?_
      simp only [Act.put, List.setIfInBounds_toArray, List.set_cons_zero, List.set_cons_succ]
      go_wp2
      exact ⟨rfl, rfl, Grew.rf _, rfl⟩
    · rintro _ rfl _ rfl
      refine StepGoal.nil ?_
      simp only [Act.put, List.setIfInBounds_toArray, List.set_cons_zero, List.set_cons_succ]
      go_wp2_with (go_at_call 29; refine Calls.mono (take_to AX _ cX _ _ _ HT2.out _ (hrX2.keep hu) (bx.take _) (by omega) (by omega) (by omega) (by omega)) ?_; rintro e w' ⟨rfl, rfl⟩)
      exact ⟨rfl, rfl, Grew.rf _, rfl⟩
    · rintro _ rfl
      refine StepGoal.nil ?_
      simp only [Act.put, List.setIfInBounds_toArray, List.set_cons_zero, List.set_cons_succ]
      go_wp2
      exact ⟨rfl, rfl, Grew.rf _, rfl⟩
    · rintro _ rfl
      refine StepGoal.nil ?_
      simp only [Act.put, List.setIfInBounds_toArray, List.set_cons_zero, List.set_cons_succ]
      go_wp2
      exact ⟨rfl, rfl, Grew.rf _, rfl⟩
    · rintro _ rfl
      refine StepGoal.nil ?_
      simp only [Act.put, List.setIfInBounds_toArray, List.set_cons_zero, List.set_cons_succ]
      go_wp2
      exact ⟨rfl, rfl, Grew.rf _, rfl⟩
    · rintro _ rfl
      refine StepGoal.nil ?_
      simp only [Act.put, List.setIfInBounds_toArray, List.set_cons_zero, List.set_cons_succ]
      go_wp2
      exact ⟨rfl, rfl, Grew.rf _, rfl⟩
    · rintro _ rfl
      refine StepGoal.nil ?_
      simp only [Act.put, List.setIfInBounds_toArray, List.set_cons_zero, List.set_cons_succ]
      go_wp2
      exact ⟨rfl, rfl, Grew.rf _, rfl⟩
    · rintro _ rfl
      refine StepGoal.nil ?_
      simp only [Act.put, List.setIfInBounds_toArray, List.set_cons_zero, List.set_cons_succ]
      go_wp2
      exact ⟨rfl, rfl, Grew.rf _, rfl⟩
    · rintro _ rfl
      refine StepGoal.nil ?_
      simp only [Act.put, List.setIfInBounds_toArray, List.set_cons_zero, List.set_cons_succ]
      go_wp2
      exact ⟨rfl, rfl, Grew.rf _, rfl⟩
  · intro u hu
    rintro _ rfl _ rfl _ rfl _ rfl _ rfl _ rfl _ rfl _ rfl _ rfl _ rfl _ rfl _ rfl _ rfl _ rfl _ rfl _ rfl
    refine StepGoal.nil ?_
    simp only [Act.put, List.setIfInBounds_toArray, List.set_cons_zero, List.set_cons_succ]
    have HG := (hg1.tr hg3).tr hu
    clear hu
    go_wp2_with fail
    refine Calls.mono (HS1.out _ HG) ?_
    rintro e w' ⟨rfl, rfl⟩
    go_wp2_with fail
    refine Calls.mono (take_to A1 _ c1 _ _ _ HQ.out _ (rb.keep HG) bb (by omega) (by omega) (by omega) (by omega)) ?_
    rintro e w' ⟨rfl, rfl⟩
    by_cases c3 : r3 = 0
    · subst c3
      obtain ⟨_, q0, q1, q2, q3, q4⟩ := lebTake_exact bb HQ.out
      rw [HLB.out] at q1
      obtain ⟨m, rfl⟩ := Int.eq_ofNat_of_zero_le (by omega : 0 ≤ r2)
      rw [Int.toNat_natCast] at q2
      simp only [Int.toNat_zero, List.drop_zero] at q2
      have hcut2 := cut_hi (kh := .i64) A1 k1 c1 m (by omega)
      have Q2 := Lib.hid q2
      go_wp2_with fail
      refine region_grew [[], [(0, 75)], [(1, 76)], [(2, 77)], [(2, 77)], [(2, 77), (4, 79)], [(2, 77), (5, 80)], [(2, 77), (3, 78), (6, 81)], [(2, 77), (7, 82)], [(8, 83)], [(8, 83), (9, 84)], [(8, 83), (10, 85)], [(8, 83)], [(8, 83), (12, 87)], [(8, 83)], [(8, 83), (13, 88), (14, 89)], [(8, 83), (15, 90)], [(8, 83), (11, 86), (16, 91)], [(2, 77), (8, 83), (17, 92)], [(2, 77), (18, 93)]] [(0, 75), (1, 76), (2, 77), (3, 78), (4, 79), (5, 80), (6, 81), (7, 82), (8, 83), (9, 84), (10, 85), (11, 86), (12, 87), (13, 88), (14, 89), (15, 90), (16, 91), (17, 92), (18, 93), (19, 94)] (fun
        | 0 => .eqv (.int .i64 0) | 1 => .eqv (.bool true) | 2 => .eqv (.bool true) | 3 => .eqv (.int .i64 m) | 4 => .eqv (.slice A1 n1 c1) | 5 => .eqv (.slice A1 k1 c1) | 6 => .eqv (.int .i64 k1) | 7 => .eqv (.bool false) | 8 => .eqv (.bool false) | 9 => .eqv (.int .u64 r1) | 10 => .own 0 (leb r1) | 11 => .eqv (.string (strOfNums (leb r1))) | 12 => .eqv (.slice A1 n1 c1) | 13 => .eqv (.slice A1 k1 c1) | 14 => .eqv (.int .i64 m) | 15 => .eqv (.slice A1 m c1) | 16 => .eqv (.string (strOfNums (bs.take m))) | 17 => .eqv (.bool false) | 18 => .eqv (.bool false) | 19 => .eqv (.bool false) | _ => .any) (by kernel_rfl) ?_ ?_
      · refine ⟨fun u hu => ?_, fun u hu => ?_, fun u hu => ?_, fun u hu => ?_, fun u hu => ?_, fun u hu => ?_, fun u hu => ?_, fun u hu => ?_, fun u hu => ?_, fun u hu => ?_, fun u hu => ?_, fun u hu => ?_, fun u hu => ?_, fun u hu => ?_, fun u hu => ?_, fun u hu => ?_, fun u hu => ?_, fun u hu => ?_, fun u hu => ?_, fun u hu => ?_, trivial⟩
        · refine StepGoal.nil ?_
          go_wp2
          exact ⟨rfl, rfl, Grew.rf _, rfl⟩
        · rintro _ rfl
          refine StepGoal.nil ?_
          simp only [Act.put, List.setIfInBounds_toArray, List.set_cons_zero, List.set_cons_succ]
          go_wp2
          exact ⟨rfl, rfl, Grew.rf _, rfl⟩
        · rintro _ rfl
          refine StepGoal.nil ?_
          simp only [Act.put, List.setIfInBounds_toArray, List.set_cons_zero, List.set_cons_succ]
          go_wp2
          exact ⟨rfl, rfl, Grew.rf _, rfl⟩
        · rintro _ rfl
          refine StepGoal.nil ?_
          simp only [Act.put, List.setIfInBounds_toArray, List.set_cons_zero, List.set_cons_succ]
          go_wp2
          exact ⟨rfl, rfl, Grew.rf _, rfl⟩
        · rintro _ rfl
          refine StepGoal.nil ?_
          simp only [Act.put, List.setIfInBounds_toArray, List.set_cons_zero, List.set_cons_succ]
          go_wp2
          exact ⟨rfl, rfl, Grew.rf _, rfl⟩
        · rintro _ rfl _ rfl
          refine StepGoal.nil ?_
          simp only [Act.put, List.setIfInBounds_toArray, List.set_cons_zero, List.set_cons_succ]
          go_wp2_with (go_at_call 26; refine Calls.mono (HS1.out _ (HG.tr hu)) ?_; rintro e w' ⟨rfl, rfl⟩)
          exact ⟨rfl, rfl, Grew.rf _, rfl⟩
        · rintro _ rfl _ rfl
          refine StepGoal.nil ?_
          simp only [Act.put, List.setIfInBounds_toArray, List.set_cons_zero, List.set_cons_succ]
          go_wp2
          exact ⟨rfl, rfl, Grew.rf _, rfl⟩
        · rintro _ rfl _ rfl _ rfl
          refine StepGoal.nil ?_
          simp only [Act.put, List.setIfInBounds_toArray, List.set_cons_zero, List.set_cons_succ]
          go_wp2
          exact ⟨rfl, rfl, Grew.rf _, congrArg Value.bool (by simp; omega)⟩
        · rintro _ rfl _ rfl
          refine StepGoal.nil ?_
          simp only [Act.put, List.setIfInBounds_toArray, List.set_cons_zero, List.set_cons_succ]
          go_wp2
          exact ⟨rfl, rfl, Grew.rf _, rfl⟩
        · rintro _ rfl
          refine StepGoal.nil ?_
          simp only [Act.put, List.setIfInBounds_toArray, List.set_cons_zero, List.set_cons_succ]
          go_wp2
          exact ⟨rfl, rfl, Grew.rf _, rfl⟩
        · rintro _ rfl _ rfl
          refine StepGoal.nil ?_
          simp only [Act.put, List.setIfInBounds_toArray, List.set_cons_zero, List.set_cons_succ]
          go_wp2_with (go_at_call 25; refine Calls.mono (put_any _ _ _ [] r1 _ (RdK.nil _ _ _) (by omega) q3 q4) ?_; rintro e w5 ⟨u5, rfl, ho5, hg5⟩)
          exact ⟨rfl, rfl, hg5, (ho5.lower (Nat.zero_le _))⟩
        · rintro _ rfl v85 h85
          have hs := OwnK.str h85
          refine StepGoal.nil ?_
          simp only [Act.put, List.setIfInBounds_toArray, List.set_cons_zero, List.set_cons_succ]
          go_wp2
          exact ⟨rfl, rfl, Grew.rf _, rfl⟩
        · rintro _ rfl
          refine StepGoal.nil ?_
          simp only [Act.put, List.setIfInBounds_toArray, List.set_cons_zero, List.set_cons_succ]
          go_wp2
          exact ⟨rfl, rfl, Grew.rf _, rfl⟩
        · rintro _ rfl _ rfl
          refine StepGoal.nil ?_
          simp only [Act.put, List.setIfInBounds_toArray, List.set_cons_zero, List.set_cons_succ]
          go_wp2_with (go_at_call 26; refine Calls.mono (HS1.out _ (HG.tr hu)) ?_; rintro e w' ⟨rfl, rfl⟩)
          exact ⟨rfl, rfl, Grew.rf _, rfl⟩
        · rintro _ rfl
          refine StepGoal.nil ?_
          simp only [Act.put, List.setIfInBounds_toArray, List.set_cons_zero, List.set_cons_succ]
          go_wp2
          exact ⟨rfl, rfl, Grew.rf _, rfl⟩
        · rintro _ rfl _ rfl _ rfl
          refine StepGoal.nil ?_
          simp only [Act.put, List.setIfInBounds_toArray, List.set_cons_zero, List.set_cons_succ]
          go_wp2
          exact ⟨rfl, rfl, Grew.rf _, rfl⟩
        · rintro _ rfl _ rfl
          have hs := RdK.str (c := c1) ((rb.take (i := m) (by omega)).keep (HG.tr hu))
          refine StepGoal.nil ?_
          simp only [Act.put, List.setIfInBounds_toArray, List.set_cons_zero, List.set_cons_succ]
          go_wp2
          exact ⟨rfl, rfl, Grew.rf _, rfl⟩
        · rintro _ rfl _ rfl _ rfl
          have hs := str_eq' Q2.out
          refine StepGoal.nil ?_
          simp only [Act.put, List.setIfInBounds_toArray, List.set_cons_zero, List.set_cons_succ]
          go_wp2
          exact ⟨rfl, rfl, Grew.rf _, rfl⟩
        · rintro _ rfl _ rfl _ rfl
          refine StepGoal.nil ?_
          simp only [Act.put, List.setIfInBounds_toArray, List.set_cons_zero, List.set_cons_succ]
          go_wp2
          exact ⟨rfl, rfl, Grew.rf _, rfl⟩
        · rintro _ rfl _ rfl
          refine StepGoal.nil ?_
          simp only [Act.put, List.setIfInBounds_toArray, List.set_cons_zero, List.set_cons_succ]
          go_wp2
          exact ⟨rfl, rfl, Grew.rf _, rfl⟩
      · intro u hu
        rintro _ rfl _ rfl _ rfl _ rfl _ rfl _ rfl _ rfl _ rfl _ rfl _ rfl v85 h85 _ rfl _ rfl _ rfl _ rfl _ rfl _ rfl _ rfl _ rfl _ rfl
        refine StepGoal.nil ?_
        simp only [Act.put, List.setIfInBounds_toArray, List.set_cons_zero, List.set_cons_succ]
        go_wp2_with (go_at_call 24; refine Calls.mono (awake_any _) ?_; rintro e w6 ⟨rfl, hg6⟩)
        go_ret
        exact ⟨rfl, (HG.tr hu).tr hg6⟩
    · have hb3 : (r3 == 0) = false := by simp [c3]
      go_wp2_with fail
      refine region_grew [[], [(0, 75)], [(1, 76)], [(2, 77)], [(2, 77)], [(2, 77), (4, 79)], [(2, 77), (5, 80)], [(2, 77), (3, 78), (6, 81)], [(2, 77), (7, 82)], [(8, 83)], [(8, 83), (9, 84)], [(8, 83), (10, 85)], [(8, 83)], [(8, 83), (12, 87)], [(8, 83)], [(8, 83), (13, 88), (14, 89)], [(8, 83), (15, 90)], [(8, 83), (11, 86), (16, 91)], [(2, 77), (8, 83), (17, 92)], [(2, 77), (18, 93)]] [(0, 75), (1, 76), (2, 77), (3, 78), (4, 79), (5, 80), (6, 81), (7, 82), (8, 83), (9, 84), (10, 85), (11, 86), (12, 87), (13, 88), (14, 89), (15, 90), (16, 91), (17, 92), (18, 93), (19, 94)] (fun
        | 0 => .eqv (.int .i64 r3) | 1 => .eqv (.bool false) | 2 => .eqv (.bool false) | 3 => .eqv undef | 4 => .eqv undef | 5 => .eqv undef | 6 => .eqv undef | 7 => .eqv undef | 8 => .eqv undef | 9 => .eqv undef | 10 => .eqv undef | 11 => .eqv undef | 12 => .eqv undef | 13 => .eqv undef | 14 => .eqv undef | 15 => .eqv undef | 16 => .eqv undef | 17 => .eqv undef | 18 => .eqv undef | 19 => .eqv (.bool false) | _ => .any) (by kernel_rfl) ?_ ?_
      · refine ⟨fun u hu => ?_, fun u hu => ?_, fun u hu => ?_, fun u hu => ?_, fun u hu => ?_, fun u hu => ?_, fun u hu => ?_, fun u hu => ?_, fun u hu => ?_, fun u hu => ?_, fun u hu => ?_, fun u hu => ?_, fun u hu => ?_, fun u hu => ?_, fun u hu => ?_, fun u hu => ?_, fun u hu => ?_, fun u hu => ?_, fun u hu => ?_, fun u hu => ?_, trivial⟩
        · refine StepGoal.nil ?_
          go_wp2
          exact ⟨rfl, rfl, Grew.rf _, rfl⟩
        · rintro _ rfl
          refine StepGoal.nil ?_
          simp only [Act.put, List.setIfInBounds_toArray, List.set_cons_zero, List.set_cons_succ]
          go_wp2
          exact ⟨rfl, rfl, Grew.rf _, rfl⟩
        · rintro _ rfl
          refine StepGoal.nil ?_
          simp only [Act.put, List.setIfInBounds_toArray, List.set_cons_zero, List.set_cons_succ]
          go_wp2
          exact ⟨rfl, rfl, Grew.rf _, rfl⟩
        · rintro _ rfl
          refine StepGoal.nil ?_
          simp only [Act.put, List.setIfInBounds_toArray, List.set_cons_zero, List.set_cons_succ]
          go_wp2
          exact ⟨rfl, rfl, Grew.rf _, rfl⟩
        · rintro _ rfl
          refine StepGoal.nil ?_
          simp only [Act.put, List.setIfInBounds_toArray, List.set_cons_zero, List.set_cons_succ]
          go_wp2
          exact ⟨rfl, rfl, Grew.rf _, rfl⟩
        · rintro _ rfl _ rfl
          refine StepGoal.nil ?_
          simp only [Act.put, List.setIfInBounds_toArray, List.set_cons_zero, List.set_cons_succ]
          go_wp2
          exact ⟨rfl, rfl, Grew.rf _, rfl⟩
        · rintro _ rfl _ rfl
          refine StepGoal.nil ?_
          simp only [Act.put, List.setIfInBounds_toArray, List.set_cons_zero, List.set_cons_succ]
          go_wp2
          exact ⟨rfl, rfl, Grew.rf _, rfl⟩
        · rintro _ rfl _ rfl _ rfl
          refine StepGoal.nil ?_
          simp only [Act.put, List.setIfInBounds_toArray, List.set_cons_zero, List.set_cons_succ]
          go_wp2
          exact ⟨rfl, rfl, Grew.rf _, rfl⟩
        · rintro _ rfl _ rfl
          refine StepGoal.nil ?_
          simp only [Act.put, List.setIfInBounds_toArray, List.set_cons_zero, List.set_cons_succ]
          go_wp2
          exact ⟨rfl, rfl, Grew.rf _, rfl⟩
        · rintro _ rfl
          refine StepGoal.nil ?_
          simp only [Act.put, List.setIfInBounds_toArray, List.set_cons_zero, List.set_cons_succ]
          go_wp2
          exact ⟨rfl, rfl, Grew.rf _, rfl⟩
        · rintro _ rfl _ rfl
          refine StepGoal.nil ?_
          simp only [Act.put, List.setIfInBounds_toArray, List.set_cons_zero, List.set_cons_succ]
          go_wp2
          exact ⟨rfl, rfl, Grew.rf _, rfl⟩
        · rintro _ rfl _ rfl
          refine StepGoal.nil ?_
          simp only [Act.put, List.setIfInBounds_toArray, List.set_cons_zero, List.set_cons_succ]
          go_wp2
          exact ⟨rfl, rfl, Grew.rf _, rfl⟩
        · rintro _ rfl
          refine StepGoal.nil ?_
          simp only [Act.put, List.setIfInBounds_toArray, List.set_cons_zero, List.set_cons_succ]
          go_wp2
          exact ⟨rfl, rfl, Grew.rf _, rfl⟩
        · rintro _ rfl _ rfl
          refine StepGoal.nil ?_
          simp only [Act.put, List.setIfInBounds_toArray, List.set_cons_zero, List.set_cons_succ]
          go_wp2
          exact ⟨rfl, rfl, Grew.rf _, rfl⟩
        · rintro _ rfl
          refine StepGoal.nil ?_
          simp only [Act.put, List.setIfInBounds_toArray, List.set_cons_zero, List.set_cons_succ]
          go_wp2
          exact ⟨rfl, rfl, Grew.rf _, rfl⟩
        · rintro _ rfl _ rfl _ rfl
          refine StepGoal.nil ?_
          simp only [Act.put, List.setIfInBounds_toArray, List.set_cons_zero, List.set_cons_succ]
          go_wp2
          exact ⟨rfl, rfl, Grew.rf _, rfl⟩
        · rintro _ rfl _ rfl
          refine StepGoal.nil ?_
          simp only [Act.put, List.setIfInBounds_toArray, List.set_cons_zero, List.set_cons_succ]
          go_wp2
          exact ⟨rfl, rfl, Grew.rf _, rfl⟩
        · rintro _ rfl _ rfl _ rfl
          refine StepGoal.nil ?_
          simp only [Act.put, List.setIfInBounds_toArray, List.set_cons_zero, List.set_cons_succ]
          go_wp2
          exact ⟨rfl, rfl, Grew.rf _, rfl⟩
        · rintro _ rfl _ rfl _ rfl
          refine StepGoal.nil ?_
          simp only [Act.put, List.setIfInBounds_toArray, List.set_cons_zero, List.set_cons_succ]
          go_wp2
          exact ⟨rfl, rfl, Grew.rf _, rfl⟩
        · rintro _ rfl _ rfl
          refine StepGoal.nil ?_
          simp only [Act.put, List.setIfInBounds_toArray, List.set_cons_zero, List.set_cons_succ]
          go_wp2
          exact ⟨rfl, rfl, Grew.rf _, rfl⟩
      · intro u hu
        rintro _ rfl _ rfl _ rfl _ rfl _ rfl _ rfl _ rfl _ rfl _ rfl _ rfl _ rfl _ rfl _ rfl _ rfl _ rfl _ rfl _ rfl _ rfl _ rfl _ rfl
        refine StepGoal.nil ?_
        simp only [Act.put, List.setIfInBounds_toArray, List.set_cons_zero, List.set_cons_succ]
        go_wp2_with (go_at_call 24; refine Calls.mono (awake_any _) ?_; rintro e w6 ⟨rfl, hg6⟩)
        go_ret
        exact ⟨rfl, (HG.tr hu).tr hg6⟩
end Go.Proofs.Ytflnopaheanpdaa
