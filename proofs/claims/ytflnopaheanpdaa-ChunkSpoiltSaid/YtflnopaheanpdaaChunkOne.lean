/- Chunk: the walk of one. -/
import Derived.Test.YtflnopaheanpdaaPureChunk
set_option linter.unusedVariables false
set_option linter.unusedSimpArgs false
namespace Go.Proofs.Ytflnopaheanpdaa
open Go.RowKit

theorem take_to3 (A : Option Addr) (n c : Nat) (bs : List Int) (at_ : Int) (v nx e : Int) (he : lebTake bs at_ = (v, nx, e)) (w : World) (hr : Rd w A n bs) (hb : Byt bs) (hnc : n ≤ c) (hn : n ≤ 9223372036854775807) (h0 : -9223372036854775808 ≤ at_) (h1 : at_ ≤ 9223372036854775807) :
    Calls Try.prog 29 #[.slice A n c, .int .i64 at_] w fun ee w' => ee = .returned (.tuple #[.int .u64 v, .int .i64 nx, .int .i64 e]) ∧ w = w' := by
  have := take_any A n c bs at_ w hr hb hnc hn h0 h1
  rw [he] at this
  exact this

set_option maxRecDepth 100000 in
set_option maxHeartbeats 1600000 in
theorem one_any (T : List Int) (hT : T.length = 256) (hW : Wrd T) (A : Option Addr) (n c : Nat) (s : List Int) (at_ : Int) (full : Bool) (w : World) (hr : Rd w A n s) (hb : Byt s) (hnc : n ≤ c) (hc : c ≤ 9223372036854775807) (hn : n ≤ 1000000) (h0 : -9223372036854775808 ≤ at_) (h1 : at_ ≤ 9223372036854775807) :
    Calls Try.prog 42 #[tabV T, .slice A n c, .int .i64 at_, .bool full] w fun e w' => ∃ B m d, e = .returned (.tuple #[.slice B m d, .int .i64 (oneP T s at_ full).2.1, .int .i64 (oneP T s at_ full).2.2]) ∧ Rd w' B m (oneP T s at_ full).1 ∧ m ≤ d ∧ d ≤ 9223372036854775807 ∧ Grew w w' := by
  obtain ⟨⟨v, nx, er⟩, hq⟩ : ∃ r, lebTake s at_ = r := ⟨_, rfl⟩
  have htk := fun w1 (hg : Grew w w1) => take_to3 A n c s at_ v nx er hq w1 (hr.keep hg) hb hnc (by omega) h0 h1
  have HTK := Lib.hid htk
  clear htk
  unfold oneP
  rw [hq]
  simp only
  by_cases c1 : er = 0
  · subst c1
    obtain ⟨q0, q1, q2, _, q4, q5⟩ := lebTake_exact hb hq
    rw [hr.len] at q2
    clear hq
    rw [if_neg (by simp)]
    by_cases c2 : 256 < v
    · rw [if_pos c2]
      go_enter Try.func42, Try.ntmps42
      go_wp2_with (first | (refine tab_box rfl rfl rfl hT ?_; intro HT) | (go_at_call 29; refine Calls.mono (HTK.out _ ((Grew.rf w).al _)) ?_; rintro e w' ⟨rfl, rfl⟩))
      go_ret3
      exact ⟨_, _, _, rfl, RdK.nil _ _ _, by omega, by omega, (Grew.rf w).al _⟩
    · rw [if_neg c2]
      by_cases c3 : 0 < v ∧ full = false
      · rw [if_pos c3]
        obtain ⟨c3a, rfl⟩ := c3
        go_enter Try.func42, Try.ntmps42
        go_wp2_with (first | (refine tab_box rfl rfl rfl hT ?_; intro HT) | (go_at_call 29; refine Calls.mono (HTK.out _ ((Grew.rf w).al _)) ?_; rintro e w' ⟨rfl, rfl⟩))
        go_ret3
        exact ⟨_, _, _, rfl, RdK.nil _ _ _, by omega, by omega, (Grew.rf w).al _⟩
      · rw [if_neg c3, hr.len]
        have hc3 : (decide (0 < v) && !full) = false := by
          cases full <;> simp_all
        by_cases c4 : (n : Int) < nx + v + 4
        · rw [if_pos c4]
          by_cases cv : 0 < v
          · have hfull : full = true := by cases full <;> simp_all
            subst hfull
            go_enter Try.func42, Try.ntmps42
            go_wp2_with (first | (refine tab_box rfl rfl rfl hT ?_; intro HT) | (go_at_call 29; refine Calls.mono (HTK.out _ ((Grew.rf w).al _)) ?_; rintro e w' ⟨rfl, rfl⟩))
            go_ret3
            exact ⟨_, _, _, rfl, RdK.nil _ _ _, by omega, by omega, (Grew.rf w).al _⟩
          · obtain rfl : v = 0 := by omega
            go_enter Try.func42, Try.ntmps42
            go_wp2_with (first | (refine tab_box rfl rfl rfl hT ?_; intro HT) | (go_at_call 29; refine Calls.mono (HTK.out _ ((Grew.rf w).al _)) ?_; rintro e w' ⟨rfl, rfl⟩))
            go_ret3
            exact ⟨_, _, _, rfl, RdK.nil _ _ _, by omega, by omega, (Grew.rf w).al _⟩
        · rw [if_neg c4]
          obtain ⟨a, rfl⟩ := Int.eq_ofNat_of_zero_le q0
          obtain ⟨f, rfl⟩ := Int.eq_ofNat_of_zero_le (show 0 ≤ nx by omega)
          obtain ⟨m, rfl⟩ := Int.eq_ofNat_of_zero_le q4
          have hto : ((f : Int) + (m : Int)).toNat = f + m := by omega
          rw [hto, Int.toNat_natCast, Int.toNat_natCast]
          obtain ⟨A1, hcut1, hA1⟩ := cut_lh (kl := .i64) (kh := .i64) A n c a (f + m) (by omega) (by omega) hnc
          obtain ⟨A2, hcut2, hA2⟩ := cut_lh (kl := .i64) (kh := .i64) A n c (f + m) (f + m + 4) (by omega) (by omega) hnc
          obtain ⟨A3, hcut3, hA3⟩ := cut_lh (kl := .i64) (kh := .i64) A n c f (f + m) (by omega) (by omega) hnc
          have hr1 := hA1 hr
          have hr2 := hA2 hr
          have hr3 := hA3 hr
          rw [show f + m + 4 - (f + m) = 4 by omega] at hcut2 hr2
          rw [show f + m - f = m by omega] at hcut3 hr3
          rw [show ((f + m : Nat) : Int) = (f : Int) + (m : Int) by omega] at hcut1 hcut3
          rw [show ((f + m + 4 : Nat) : Int) = (f : Int) + (m : Int) + 4 by omega, show ((f + m : Nat) : Int) = (f : Int) + (m : Int) by omega] at hcut2
          have hbp : Byt ((s.take (f + m)).drop a) := (hb.take _).drop _
          have hbq : Byt ((s.take (f + m + 4)).drop (f + m)) := (hb.take _).drop _
          generalize (s.take (f + m)).drop a = ps at *
          generalize (s.take (f + m + 4)).drop (f + m) = qs at *
          generalize (s.take (f + m)).drop f = rs at *
          obtain ⟨R, hR⟩ : ∃ R, cSum T ps = R := ⟨_, rfl⟩
          have hRl : R < 4294967296 := by rw [← hR]; exact cSum_lt hW _
          rw [hR]
          have hsum := fun (u : World) A c (hP : Parts u A 1 [ps]) => sum_any T hT hW A 1 c _ u hP (by decide)
          rw [show [ps].flatten = ps by simp, hR] at hsum
          have hput := fun (u : World) => cput_any none 0 0 [] R u (RdK.nil _ _ _) (by omega) hRl
          simp only [List.nil_append] at hput
          have HSUM := Lib.hid hsum
          have HPUT := Lib.hid hput
          have HR1 := Lib.hid hr1
          have HR2 := Lib.hid hr2
          have HR3 := Lib.hid hr3
          have HBP := Lib.hid hbp
          have HBQ := Lib.hid hbq
          have HRL := Lib.hid hRl
          clear hsum hput hr1 hr2 hr3 hbp hbq hRl hR hA1 hA2 hA3 hto
          have hm256 : m ≤ 256 := by omega
          have hfm : f + m + 4 ≤ n := by omega
          have haf : a < f := by omega
          clear q0 q1 q2 q4 q5 c2 c4 h0 h1
          obtain ⟨res, hres⟩ : ∃ res, (if fourB R = qs then (rs, (f : Int) + (m : Int) + 4, (0 : Int)) else ([], 0, 6)) = res := ⟨_, rfl⟩
          rw [hres]
          have HRES := Lib.hid hres
          clear hres
          by_cases cv : 0 < (m : Int)
          · have hfull : full = true := by cases full <;> simp_all
            subst hfull
            go_enter Try.func42, Try.ntmps42
            go_wp2_with (first | (refine tab_box rfl rfl rfl hT ?_; intro HT) | (go_at_call 29; refine Calls.mono (HTK.out _ ((Grew.rf w).al _)) ?_; rintro e w' ⟨rfl, rfl⟩))
            have hg1 : Grew w (w.alloc (.cells (nums .u32 T).toArray 24)) := (Grew.rf w).al _
            obtain ⟨w1, hw1⟩ : ∃ w1, w.alloc (.cells (nums .u32 T).toArray 24) = w1 := ⟨_, rfl⟩
            rw [hw1] at HT hg1 ⊢
            clear hw1
            refine region_grew [[], [], [], [], [(1, 49), (2, 50), (3, 51)], [(4, 52)], [(0, 48), (5, 53)], [(6, 54)], [], [], [], [(10, 58)], [(8, 56), (9, 57), (11, 59)], [(7, 55), (12, 60)], [(13, 61)]] [(0, 48), (1, 49), (2, 50), (3, 51), (4, 52), (5, 53), (6, 54), (7, 55), (8, 56), (9, 57), (10, 58), (11, 59), (12, 60), (13, 61), (14, 62)] (fun
              | 0 => .eqv (tabV T) | 1 => .eqv (.slice A n c) | 2 => .eqv (.int .i64 (a : Int)) | 3 => .eqv (.int .i64 ((f : Int) + (m : Int))) | 4 => .eqv (.slice A1 (f + m - a) (c - a)) | 5 => .parts 1 [ps] | 6 => .eqv (.int .u32 R) | 7 => .own w.heap.size (fourB R) | 8 => .eqv (.slice A n c) | 9 => .eqv (.int .i64 ((f : Int) + (m : Int))) | 10 => .eqv (.int .i64 ((f : Int) + (m : Int))) | 11 => .eqv (.int .i64 ((f : Int) + (m : Int) + 4)) | 12 => .eqv (.slice A2 4 (c - (f + m))) | 13 => .eqv (.bool (decide (fourB R = qs))) | 14 => .eqv (.bool (!decide (fourB R = qs))) | _ => .any) (by kernel_rfl) ?_ ?_
            · refine ⟨fun u hu => ?_, fun u hu => ?_, fun u hu => ?_, fun u hu => ?_, fun u hu => ?_, fun u hu => ?_, fun u hu => ?_, fun u hu => ?_, fun u hu => ?_, fun u hu => ?_, fun u hu => ?_, fun u hu => ?_, fun u hu => ?_, fun u hu => ?_, fun u hu => ?_, trivial⟩
              · refine StepGoal.nil ?_
                go_wp2_with (refine tab_load2 (.inr rfl) rfl rfl (HT.keep hu) ?_)
                exact ⟨rfl, rfl, Grew.rf _, rfl⟩
              · refine StepGoal.nil ?_
                go_wp2
                exact ⟨rfl, rfl, Grew.rf _, rfl⟩
              · refine StepGoal.nil ?_
                go_wp2
                exact ⟨rfl, rfl, Grew.rf _, rfl⟩
              · refine StepGoal.nil ?_
                go_wp2
                exact ⟨rfl, rfl, Grew.rf _, rfl⟩
              · rintro _ rfl _ rfl _ rfl
                refine StepGoal.nil ?_
                simp only [Act.put, List.setIfInBounds_toArray, List.set_cons_zero, List.set_cons_succ]
                go_wp2
                exact ⟨rfl, rfl, Grew.rf _, rfl⟩
              · rintro _ rfl
                refine StepGoal.nil ?_
                simp only [Act.put, List.setIfInBounds_toArray, List.set_cons_zero, List.set_cons_succ]
                go_wp2
                exact ⟨rfl, rfl, (Grew.rf _).al _, _, _, rfl, Parts.lit (vs := [_]) (PartsAt.cons (HR1.out.keep (hg1.tr hu)) (by omega) HBP.out (PartsAt.nil _)) rfl rfl rfl⟩
              · rintro _ rfl v53 h53
                obtain ⟨A7, c7, rfl, hp7⟩ := h53
                refine StepGoal.nil ?_
                simp only [Act.put, List.setIfInBounds_toArray, List.set_cons_zero, List.set_cons_succ]
                go_wp2_with (go_at_call 19; refine Calls.mono (HSUM.out _ _ _ hp7) ?_; rintro e w' ⟨rfl, hg⟩)
                exact ⟨rfl, rfl, hg, rfl⟩
              · rintro _ rfl
                refine StepGoal.nil ?_
                simp only [Act.put, List.setIfInBounds_toArray, List.set_cons_zero, List.set_cons_succ]
                go_wp2_with (go_at_call 21; refine Calls.mono (HPUT.out _) ?_; rintro e w' ⟨x, rfl, ho, hg⟩)
                exact ⟨rfl, rfl, hg, ho.lower (hg1.tr hu).size⟩
              · refine StepGoal.nil ?_
                go_wp2
                exact ⟨rfl, rfl, Grew.rf _, rfl⟩
              · refine StepGoal.nil ?_
                go_wp2
                exact ⟨rfl, rfl, Grew.rf _, rfl⟩
              · refine StepGoal.nil ?_
                go_wp2
                exact ⟨rfl, rfl, Grew.rf _, rfl⟩
              · rintro _ rfl
                refine StepGoal.nil ?_
                simp only [Act.put, List.setIfInBounds_toArray, List.set_cons_zero, List.set_cons_succ]
                go_wp2
                exact ⟨rfl, rfl, Grew.rf _, rfl⟩
              · rintro _ rfl _ rfl _ rfl
                refine StepGoal.nil ?_
                simp only [Act.put, List.setIfInBounds_toArray, List.set_cons_zero, List.set_cons_succ]
                go_wp2
                exact ⟨rfl, rfl, Grew.rf _, rfl⟩
              · rintro v55 h55 _ rfl
                obtain ⟨A7, c7, rfl, _, _, hr7⟩ := h55.rd' (n := 4) rfl
                refine StepGoal.nil ?_
                simp only [Act.put, List.setIfInBounds_toArray, List.set_cons_zero, List.set_cons_succ]
                go_wp2_with (go_at_call 46; refine Calls.mono (equal_any _ _ _ _ _ _ _ _ _ hr7 (HR2.out.keep (hg1.tr hu)) (fourB_byt HRL.out) HBQ.out) ?_; rintro e w' ⟨rfl, rfl⟩)
                exact ⟨rfl, rfl, Grew.rf _, rfl⟩
              · rintro _ rfl
                refine StepGoal.nil ?_
                simp only [Act.put, List.setIfInBounds_toArray, List.set_cons_zero, List.set_cons_succ]
                go_wp2
                exact ⟨rfl, rfl, Grew.rf _, rfl⟩
            · intro u hu
              rintro _ rfl _ rfl _ rfl _ rfl _ rfl v53 h53 _ rfl v55 h55 _ rfl _ rfl _ rfl _ rfl _ rfl _ rfl _ rfl
              refine StepGoal.nil ?_
              simp only [Act.put, List.setIfInBounds_toArray, List.set_cons_zero, List.set_cons_succ]
              have hG := hg1.tr hu
              by_cases c5 : fourB R = qs
              · have e := HRES.out
                rw [if_pos c5] at e
                subst e
                clear HRES
                have hd5 : decide (fourB R = qs) = true := decide_eq_true c5
                rw [hd5]
                have HC5 := Lib.hid c5
                clear c5 hd5
                go_wp2_with fail
                go_ret3
                exact ⟨_, _, _, rfl, HR3.out.keep hG, by omega, by omega, hG⟩
              · have e := HRES.out
                rw [if_neg c5] at e
                subst e
                clear HRES
                have hd5 : decide (fourB R = qs) = false := decide_eq_false c5
                rw [hd5]
                have HC5 := Lib.hid c5
                clear c5 hd5
                go_wp2_with fail
                go_ret3
                exact ⟨_, _, _, rfl, RdK.nil _ _ _, by omega, by omega, hG⟩
          · obtain rfl : m = 0 := by omega
            simp only [Nat.add_zero, Int.natCast_zero, Int.add_zero, Int.ofNat_zero] at hcut1 hcut2 hcut3 HRES HR1 HR2 HR3 HTK hfm
            go_enter Try.func42, Try.ntmps42
            go_wp2_with (first | (refine tab_box rfl rfl rfl hT ?_; intro HT) | (go_at_call 29; refine Calls.mono (HTK.out _ ((Grew.rf w).al _)) ?_; rintro e w' ⟨rfl, rfl⟩))
            have hg1 : Grew w (w.alloc (.cells (nums .u32 T).toArray 24)) := (Grew.rf w).al _
            obtain ⟨w1, hw1⟩ : ∃ w1, w.alloc (.cells (nums .u32 T).toArray 24) = w1 := ⟨_, rfl⟩
            rw [hw1] at HT hg1 ⊢
            clear hw1
            refine region_grew [[], [], [], [], [(1, 49), (2, 50), (3, 51)], [(4, 52)], [(0, 48), (5, 53)], [(6, 54)], [], [], [], [(10, 58)], [(8, 56), (9, 57), (11, 59)], [(7, 55), (12, 60)], [(13, 61)]] [(0, 48), (1, 49), (2, 50), (3, 51), (4, 52), (5, 53), (6, 54), (7, 55), (8, 56), (9, 57), (10, 58), (11, 59), (12, 60), (13, 61), (14, 62)] (fun
              | 0 => .eqv (tabV T) | 1 => .eqv (.slice A n c) | 2 => .eqv (.int .i64 (a : Int)) | 3 => .eqv (.int .i64 (f : Int)) | 4 => .eqv (.slice A1 (f - a) (c - a)) | 5 => .parts 1 [ps] | 6 => .eqv (.int .u32 R) | 7 => .own w.heap.size (fourB R) | 8 => .eqv (.slice A n c) | 9 => .eqv (.int .i64 (f : Int)) | 10 => .eqv (.int .i64 (f : Int)) | 11 => .eqv (.int .i64 ((f : Int) + 4)) | 12 => .eqv (.slice A2 4 (c - f)) | 13 => .eqv (.bool (decide (fourB R = qs))) | 14 => .eqv (.bool (!decide (fourB R = qs))) | _ => .any) (by kernel_rfl) ?_ ?_
            · refine ⟨fun u hu => ?_, fun u hu => ?_, fun u hu => ?_, fun u hu => ?_, fun u hu => ?_, fun u hu => ?_, fun u hu => ?_, fun u hu => ?_, fun u hu => ?_, fun u hu => ?_, fun u hu => ?_, fun u hu => ?_, fun u hu => ?_, fun u hu => ?_, fun u hu => ?_, trivial⟩
              · refine StepGoal.nil ?_
                go_wp2_with (refine tab_load2 (.inr rfl) rfl rfl (HT.keep hu) ?_)
                exact ⟨rfl, rfl, Grew.rf _, rfl⟩
              · refine StepGoal.nil ?_
                go_wp2
                exact ⟨rfl, rfl, Grew.rf _, rfl⟩
              · refine StepGoal.nil ?_
                go_wp2
                exact ⟨rfl, rfl, Grew.rf _, rfl⟩
              · refine StepGoal.nil ?_
                go_wp2
                exact ⟨rfl, rfl, Grew.rf _, rfl⟩
              · rintro _ rfl _ rfl _ rfl
                refine StepGoal.nil ?_
                simp only [Act.put, List.setIfInBounds_toArray, List.set_cons_zero, List.set_cons_succ]
                go_wp2
                exact ⟨rfl, rfl, Grew.rf _, rfl⟩
              · rintro _ rfl
                refine StepGoal.nil ?_
                simp only [Act.put, List.setIfInBounds_toArray, List.set_cons_zero, List.set_cons_succ]
                go_wp2
                exact ⟨rfl, rfl, (Grew.rf _).al _, _, _, rfl, Parts.lit (vs := [_]) (PartsAt.cons (HR1.out.keep (hg1.tr hu)) (by omega) HBP.out (PartsAt.nil _)) rfl rfl rfl⟩
              · rintro _ rfl v53 h53
                obtain ⟨A7, c7, rfl, hp7⟩ := h53
                refine StepGoal.nil ?_
                simp only [Act.put, List.setIfInBounds_toArray, List.set_cons_zero, List.set_cons_succ]
                go_wp2_with (go_at_call 19; refine Calls.mono (HSUM.out _ _ _ hp7) ?_; rintro e w' ⟨rfl, hg⟩)
                exact ⟨rfl, rfl, hg, rfl⟩
              · rintro _ rfl
                refine StepGoal.nil ?_
                simp only [Act.put, List.setIfInBounds_toArray, List.set_cons_zero, List.set_cons_succ]
                go_wp2_with (go_at_call 21; refine Calls.mono (HPUT.out _) ?_; rintro e w' ⟨x, rfl, ho, hg⟩)
                exact ⟨rfl, rfl, hg, ho.lower (hg1.tr hu).size⟩
              · refine StepGoal.nil ?_
                go_wp2
                exact ⟨rfl, rfl, Grew.rf _, rfl⟩
              · refine StepGoal.nil ?_
                go_wp2
                exact ⟨rfl, rfl, Grew.rf _, rfl⟩
              · refine StepGoal.nil ?_
                go_wp2
                exact ⟨rfl, rfl, Grew.rf _, rfl⟩
              · rintro _ rfl
                refine StepGoal.nil ?_
                simp only [Act.put, List.setIfInBounds_toArray, List.set_cons_zero, List.set_cons_succ]
                go_wp2
                exact ⟨rfl, rfl, Grew.rf _, rfl⟩
              · rintro _ rfl _ rfl _ rfl
                refine StepGoal.nil ?_
                simp only [Act.put, List.setIfInBounds_toArray, List.set_cons_zero, List.set_cons_succ]
                go_wp2
                exact ⟨rfl, rfl, Grew.rf _, rfl⟩
              · rintro v55 h55 _ rfl
                obtain ⟨A7, c7, rfl, _, _, hr7⟩ := h55.rd' (n := 4) rfl
                refine StepGoal.nil ?_
                simp only [Act.put, List.setIfInBounds_toArray, List.set_cons_zero, List.set_cons_succ]
                go_wp2_with (go_at_call 46; refine Calls.mono (equal_any _ _ _ _ _ _ _ _ _ hr7 (HR2.out.keep (hg1.tr hu)) (fourB_byt HRL.out) HBQ.out) ?_; rintro e w' ⟨rfl, rfl⟩)
                exact ⟨rfl, rfl, Grew.rf _, rfl⟩
              · rintro _ rfl
                refine StepGoal.nil ?_
                simp only [Act.put, List.setIfInBounds_toArray, List.set_cons_zero, List.set_cons_succ]
                go_wp2
                exact ⟨rfl, rfl, Grew.rf _, rfl⟩
            · intro u hu
              rintro _ rfl _ rfl _ rfl _ rfl _ rfl v53 h53 _ rfl v55 h55 _ rfl _ rfl _ rfl _ rfl _ rfl _ rfl _ rfl
              refine StepGoal.nil ?_
              simp only [Act.put, List.setIfInBounds_toArray, List.set_cons_zero, List.set_cons_succ]
              have hG := hg1.tr hu
              by_cases c5 : fourB R = qs
              · have e := HRES.out
                rw [if_pos c5] at e
                subst e
                clear HRES
                have hd5 : decide (fourB R = qs) = true := decide_eq_true c5
                rw [hd5]
                have HC5 := Lib.hid c5
                clear c5 hd5
                go_wp2_with fail
                go_ret3
                exact ⟨_, _, _, rfl, HR3.out.keep hG, by omega, by omega, hG⟩
              · have e := HRES.out
                rw [if_neg c5] at e
                subst e
                clear HRES
                have hd5 : decide (fourB R = qs) = false := decide_eq_false c5
                rw [hd5]
                have HC5 := Lib.hid c5
                clear c5 hd5
                go_wp2_with fail
                go_ret3
                exact ⟨_, _, _, rfl, RdK.nil _ _ _, by omega, by omega, hG⟩
  · rw [if_pos c1]
    have hc1 : decide (er = 0) = false := decide_eq_false c1
    go_enter Try.func42, Try.ntmps42
    go_wp2_with (first | (refine tab_box rfl rfl rfl hT ?_; intro HT) | (go_at_call 29; refine Calls.mono (HTK.out _ ((Grew.rf w).al _)) ?_; rintro e w' ⟨rfl, rfl⟩))
    go_ret3
    exact ⟨_, _, _, rfl, RdK.nil _ _ _, by omega, by omega, (Grew.rf w).al _⟩
end Go.Proofs.Ytflnopaheanpdaa
