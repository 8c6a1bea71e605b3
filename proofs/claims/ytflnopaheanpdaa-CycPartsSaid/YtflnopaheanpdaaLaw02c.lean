import Derived.Test.YtflnopaheanpdaaLaw02
set_option linter.unusedVariables false
set_option linter.unusedSimpArgs false
namespace Go.Proofs.Ytflnopaheanpdaa
open Go.RowKit

set_option maxRecDepth 100000 in
set_option maxHeartbeats 1600000 in
theorem cycParts_walk (A0 : Option Addr) (n0 c0 : Nat) (as0 : List Int) (A1 : Option Addr) (n1 c1 : Nat) (bs0 : List Int) (A2 : Option Addr) (n2 c2 : Nat) (cs0 : List Int) (w : World) (hr0 : Rd w A0 n0 as0) (hb0 : Byt as0) (hnc0 : n0 ≤ c0) (hc0 : c0 ≤ 9223372036854775807)
    (hr1 : Rd w A1 n1 bs0) (hb1 : Byt bs0) (hnc1 : n1 ≤ c1) (hc1 : c1 ≤ 9223372036854775807) (hr2 : Rd w A2 n2 cs0) (hb2 : Byt cs0) (hnc2 : n2 ≤ c2) (hc2 : c2 ≤ 9223372036854775807) :
    Calls Try.prog 6 #[.slice A0 n0 c0, .slice A1 n1 c1, .slice A2 n2 c2] w fun e w' => e = .returned (.bool true) ∧ Grew w w' := by
  have ra := hr0.take (i := min n0 200) (by omega)
  have rb := hr1.take (i := min n1 200) (by omega)
  have rc := hr2.take (i := min n2 200) (by omega)
  have ba : Byt (as0.take (min n0 200)) := hb0.take _
  have bb : Byt (bs0.take (min n1 200)) := hb1.take _
  have bc : Byt (cs0.take (min n2 200)) := hb2.take _
  have hs0 := fun w1 (hg : Grew w w1) => short_cut2 A0 n0 c0 w1 as0 (hr0.keep hg) hnc0 hc0
  have hs1 := fun w1 (hg : Grew w w1) => short_cut2 A1 n1 c1 w1 bs0 (hr1.keep hg) hnc1 hc1
  have hs2 := fun w1 (hg : Grew w w1) => short_cut2 A2 n2 c2 w1 cs0 (hr2.keep hg) hnc2 hc2
  have HS0 := Lib.hid hs0
  have HS1 := Lib.hid hs1
  have HS2 := Lib.hid hs2
  clear hs0 hs1 hs2
  have hk0 : min n0 200 ≤ 200 := by omega
  have hk1 : min n1 200 ≤ 200 := by omega
  have hk2 : min n2 200 ≤ 200 := by omega
  generalize min n0 200 = k0 at *
  generalize min n1 200 = k1 at *
  generalize min n2 200 = k2 at *
  generalize as0.take k0 = xs at *
  generalize bs0.take k1 = ys at *
  generalize cs0.take k2 = zs at *
  have hla := ra.len
  have hlb := rb.len
  have hlc := rc.len
  have HLA := Lib.hid hla
  have HLB := Lib.hid hlb
  have HLC := Lib.hid hlc
  clear hla hlb hlc
  obtain ⟨R, hR⟩ : ∃ R, cSum cTab (xs ++ ys ++ zs) = R := ⟨_, rfl⟩
  have hsum4 := fun (u : World) A c (hP : Parts u A 4 [xs, [], ys, zs]) => sum_any cTab cTab_len cTab_wrd A 4 c _ u hP (by decide)
  rw [show [xs, [], ys, zs].flatten = xs ++ ys ++ zs by simp, hR] at hsum4
  have hsum1 := fun (u : World) A c (hP : Parts u A 1 [xs ++ ys ++ zs]) => sum_any cTab cTab_len cTab_wrd A 1 c _ u hP (by decide)
  rw [show [xs ++ ys ++ zs].flatten = xs ++ ys ++ zs by simp, hR] at hsum1
  have hsum0 := fun (u : World) => sum_any cTab cTab_len cTab_wrd none 0 0 [] u (Parts.none _ _) (by decide)
  rw [show cSum cTab [].flatten = 0 by decide] at hsum0
  have HSUM4 := Lib.hid hsum4
  have HSUM1 := Lib.hid hsum1
  have HSUM0 := Lib.hid hsum0
  clear hsum4 hsum1 hsum0 hR
  go_enter Try.func6, Try.ntmps6
  go_wp2_with (first | (go_at_call 16; refine Calls.mono (table_any _) ?_; rintro e w1 ⟨rfl, hg1⟩) | (refine tab_alloc rfl rfl ?_; intro HT) | (refine tab_storeA rfl rfl rfl rfl HT cTab_len (hg1.al (.cells (nums .u32 zT).toArray 24)) hg1.size ?_; intro wr HF hg2))
  have hg2 : Grew w wr := hg2
  have hgz := hg1.size
  obtain ⟨g, hgs⟩ : ∃ g, w1.heap.size = g := ⟨_, rfl⟩
  rw [hgs] at HF hgz ⊢
  clear hgs HT
  refine Calls.mono (HS0.out _ (hg2.al _)) ?_
  rintro e w' ⟨rfl, rfl⟩
  go_wp2_with (at_builtin; refine apps rfl rfl rfl rfl (own_lit0 wr) (ra.keep (hg2.al (.cells #[] 5))) ((Grew.rf wr).al (.cells #[] 5)) (by rw [World.size_alloc]; omega) (by rw [List.length_nil]; omega) ?_; intro v3 w3 ho3 hg3 hb3)
  rw [List.nil_append] at ho3
  refine Calls.mono (HS1.out _ (hg2.tr hg3)) ?_
  rintro e w' ⟨rfl, rfl⟩
  go_wp2_with (at_builtin; refine apps rfl rfl rfl rfl ho3 (rb.keep (hg2.tr hg3)) hg3 hb3 (by rw [HLA.out]; omega) ?_; intro v4 w4 ho4 hg4 hb4)
  refine Calls.mono (HS2.out _ (hg2.tr hg4)) ?_
  rintro e w' ⟨rfl, rfl⟩
  go_wp2_with (at_builtin; refine apps rfl rfl rfl rfl ho4 (rc.keep (hg2.tr hg4)) hg4 hb4 (by rw [List.length_append, HLA.out, HLB.out]; omega) ?_; intro v5 w5 ho5 hg5 hb5)
  obtain ⟨AX, cX, rfl, hcX, hcX2, hrX⟩ := ho5.rd' (n := k0 + k1 + k2) (by rw [List.length_append, List.length_append, HLA.out, HLB.out, HLC.out])
  have bX : Byt (xs ++ ys ++ zs) := (ba.app bb).app bc
  generalize xs ++ ys ++ zs = ws at *
  have HF5 := HF.keep hg5
  have hG := hg2.tr hg5
  refine region_grew [[], [(0, 20)], [(1, 21)], [(1, 21)], [(1, 21), (3, 23)], [(1, 21)], [(1, 21), (5, 25)], [(1, 21)], [(1, 21), (7, 27)], [(1, 21), (4, 24), (6, 26), (8, 28)], [(1, 21), (2, 22), (9, 29)], [(1, 21)], [(1, 21)], [(1, 21), (12, 32)], [(1, 21), (11, 31), (13, 33)], [(1, 21), (10, 30), (14, 34)], [(1, 21), (15, 35)], [(16, 36)], [(17, 37)], [(17, 37), (18, 38)], [(17, 37), (19, 39)], [(17, 37), (20, 40)], [(21, 41)]] [(0, 20), (1, 21), (2, 22), (3, 23), (4, 24), (5, 25), (6, 26), (7, 27), (8, 28), (9, 29), (10, 30), (11, 31), (12, 32), (13, 33), (14, 34), (15, 35), (16, 36), (17, 37), (18, 38), (19, 39), (20, 40), (21, 41), (22, 6)] (fun
    | 0 => .eqv (.bool true) | 1 => .eqv (.bool true) | 2 => .eqv (tabV cTab) | 3 => .eqv (.slice A0 n0 c0) | 4 => .eqv (.slice A0 k0 c0) | 5 => .eqv (.slice A1 n1 c1) | 6 => .eqv (.slice A1 k1 c1) | 7 => .eqv (.slice A2 n2 c2) | 8 => .eqv (.slice A2 k2 c2) | 9 => .parts 4 [xs, [], ys, zs] | 10 => .eqv (.int .u32 R) | 11 => .eqv (tabV cTab) | 12 => .eqv (.slice AX (k0 + k1 + k2) cX) | 13 => .parts 1 [ws] | 14 => .eqv (.int .u32 R) | 15 => .eqv (.bool true) | 16 => .eqv (.bool true) | 17 => .eqv (.bool true) | 18 => .eqv (tabV cTab) | 19 => .eqv (.int .u32 0) | 20 => .eqv (.bool true) | 21 => .eqv (.bool true) | 22 => .eqv (.bool true) | _ => .any) (by kernel_rfl) ?_ ?_
  · refine ⟨fun u hu => ?_, fun u hu => ?_, fun u hu => ?_, fun u hu => ?_, fun u hu => ?_, fun u hu => ?_, fun u hu => ?_, fun u hu => ?_, fun u hu => ?_, fun u hu => ?_, fun u hu => ?_, fun u hu => ?_, fun u hu => ?_, fun u hu => ?_, fun u hu => ?_, fun u hu => ?_, fun u hu => ?_, fun u hu => ?_, fun u hu => ?_, fun u hu => ?_, fun u hu => ?_, fun u hu => ?_, fun u hu => ?_, trivial⟩
    · refine StepGoal.nil ?_
      go_wp2_with (go_at_call 17; refine Calls.mono (awake2_any _) ?_; rintro e w6 ⟨rfl, hg⟩)
      exact ⟨rfl, rfl, hg, rfl⟩
    · rintro _ rfl
      refine StepGoal.nil ?_
      simp only [Act.put, List.setIfInBounds_toArray, List.set_cons_zero, List.set_cons_succ]
      go_wp2
      exact ⟨rfl, rfl, Grew.rf _, rfl⟩
    · rintro _ rfl
      refine StepGoal.nil ?_
      simp only [Act.put, List.setIfInBounds_toArray, List.set_cons_zero, List.set_cons_succ]
      go_wp2_with (refine tab_load2 (.inr rfl) rfl rfl (HF5.keep hu) ?_)
      exact ⟨rfl, rfl, Grew.rf _, rfl⟩
    · rintro _ rfl
      refine StepGoal.nil ?_
      simp only [Act.put, List.setIfInBounds_toArray, List.set_cons_zero, List.set_cons_succ]
      go_wp2
      exact ⟨rfl, rfl, Grew.rf _, rfl⟩
    · rintro _ rfl _ rfl
      refine StepGoal.nil ?_
      simp only [Act.put, List.setIfInBounds_toArray, List.set_cons_zero, List.set_cons_succ]
      go_wp2_with (go_at_call 18; refine Calls.mono (HS0.out _ (hG.tr hu)) ?_; rintro e w' ⟨rfl, rfl⟩)
      exact ⟨rfl, rfl, Grew.rf _, rfl⟩
    · rintro _ rfl
      refine StepGoal.nil ?_
      simp only [Act.put, List.setIfInBounds_toArray, List.set_cons_zero, List.set_cons_succ]
      go_wp2
      exact ⟨rfl, rfl, Grew.rf _, rfl⟩
    · rintro _ rfl _ rfl
      refine StepGoal.nil ?_
      simp only [Act.put, List.setIfInBounds_toArray, List.set_cons_zero, List.set_cons_succ]
      go_wp2_with (go_at_call 18; refine Calls.mono (HS1.out _ (hG.tr hu)) ?_; rintro e w' ⟨rfl, rfl⟩)
      exact ⟨rfl, rfl, Grew.rf _, rfl⟩
    · rintro _ rfl
      refine StepGoal.nil ?_
      simp only [Act.put, List.setIfInBounds_toArray, List.set_cons_zero, List.set_cons_succ]
      go_wp2
      exact ⟨rfl, rfl, Grew.rf _, rfl⟩
    · rintro _ rfl _ rfl
      refine StepGoal.nil ?_
      simp only [Act.put, List.setIfInBounds_toArray, List.set_cons_zero, List.set_cons_succ]
      go_wp2_with (go_at_call 18; refine Calls.mono (HS2.out _ (hG.tr hu)) ?_; rintro e w' ⟨rfl, rfl⟩)
      exact ⟨rfl, rfl, Grew.rf _, rfl⟩
    · rintro _ rfl _ rfl _ rfl _ rfl
      refine StepGoal.nil ?_
      simp only [Act.put, List.setIfInBounds_toArray, List.set_cons_zero, List.set_cons_succ]
      go_wp2
      exact ⟨rfl, rfl, (Grew.rf _).al _, _, _, rfl, Parts.lit (vs := [_, _, _, _]) (PartsAt.cons (ra.keep (hG.tr hu)) (by omega) ba (PartsAt.cons (RdK.nil _ _ none) (by omega) (by simp [Byt]) (PartsAt.cons (rb.keep (hG.tr hu)) (by omega) bb (PartsAt.cons (rc.keep (hG.tr hu)) (by omega) bc (PartsAt.nil _))))) rfl rfl rfl⟩
    · rintro _ rfl _ rfl v29 h29
      obtain ⟨A7, c7, rfl, hp7⟩ := h29
      refine StepGoal.nil ?_
      simp only [Act.put, List.setIfInBounds_toArray, List.set_cons_zero, List.set_cons_succ]
      go_wp2_with (go_at_call 19; refine Calls.mono (HSUM4.out _ _ _ hp7) ?_; rintro e w' ⟨rfl, hg⟩)
      exact ⟨rfl, rfl, hg, rfl⟩
    · rintro _ rfl
      refine StepGoal.nil ?_
      simp only [Act.put, List.setIfInBounds_toArray, List.set_cons_zero, List.set_cons_succ]
      go_wp2_with (refine tab_load2 (.inr rfl) rfl rfl (HF5.keep hu) ?_)
      exact ⟨rfl, rfl, Grew.rf _, rfl⟩
    · rintro _ rfl
      refine StepGoal.nil ?_
      simp only [Act.put, List.setIfInBounds_toArray, List.set_cons_zero, List.set_cons_succ]
      go_wp2
      exact ⟨rfl, rfl, Grew.rf _, rfl⟩
    · rintro _ rfl _ rfl
      refine StepGoal.nil ?_
      simp only [Act.put, List.setIfInBounds_toArray, List.set_cons_zero, List.set_cons_succ]
      go_wp2
      exact ⟨rfl, rfl, (Grew.rf _).al _, _, _, rfl, Parts.lit (vs := [_]) (PartsAt.cons (hrX.keep hu) (by omega) bX (PartsAt.nil _)) rfl rfl rfl⟩
    · rintro _ rfl _ rfl v33 h33
      obtain ⟨A7, c7, rfl, hp7⟩ := h33
      refine StepGoal.nil ?_
      simp only [Act.put, List.setIfInBounds_toArray, List.set_cons_zero, List.set_cons_succ]
      go_wp2_with (go_at_call 19; refine Calls.mono (HSUM1.out _ _ _ hp7) ?_; rintro e w' ⟨rfl, hg⟩)
      exact ⟨rfl, rfl, hg, rfl⟩
    · rintro _ rfl _ rfl _ rfl
      refine StepGoal.nil ?_
      simp only [Act.put, List.setIfInBounds_toArray, List.set_cons_zero, List.set_cons_succ]
      go_wp2
      exact ⟨rfl, rfl, Grew.rf _, rfl⟩
    · rintro _ rfl _ rfl
      refine StepGoal.nil ?_
      simp only [Act.put, List.setIfInBounds_toArray, List.set_cons_zero, List.set_cons_succ]
      go_wp2
      exact ⟨rfl, rfl, Grew.rf _, rfl⟩
    · rintro _ rfl
      refine StepGoal.nil ?_
      simp only [Act.put, List.setIfInBounds_toArray, List.set_cons_zero, List.set_cons_succ]
      go_wp2
      exact ⟨rfl, rfl, Grew.rf _, rfl⟩
    · rintro _ rfl
      refine StepGoal.nil ?_
      simp only [Act.put, List.setIfInBounds_toArray, List.set_cons_zero, List.set_cons_succ]
      go_wp2_with (refine tab_load2 (.inr rfl) rfl rfl (HF5.keep hu) ?_)
      exact ⟨rfl, rfl, Grew.rf _, rfl⟩
    · rintro _ rfl _ rfl
      refine StepGoal.nil ?_
      simp only [Act.put, List.setIfInBounds_toArray, List.set_cons_zero, List.set_cons_succ]
      go_wp2_with (go_at_call 19; refine Calls.mono (HSUM0.out _) ?_; rintro e w' ⟨rfl, hg⟩)
      exact ⟨rfl, rfl, hg, rfl⟩
    · rintro _ rfl _ rfl
      refine StepGoal.nil ?_
      simp only [Act.put, List.setIfInBounds_toArray, List.set_cons_zero, List.set_cons_succ]
      go_wp2
      exact ⟨rfl, rfl, Grew.rf _, rfl⟩
    · rintro _ rfl _ rfl
      refine StepGoal.nil ?_
      simp only [Act.put, List.setIfInBounds_toArray, List.set_cons_zero, List.set_cons_succ]
      go_wp2
      exact ⟨rfl, rfl, Grew.rf _, rfl⟩
    · rintro _ rfl
      refine StepGoal.nil ?_
      simp only [Act.put, List.setIfInBounds_toArray, List.set_cons_zero, List.set_cons_succ]
      go_wp2
      exact ⟨rfl, rfl, Grew.rf _, rfl⟩
  · intro u hu
    rintro _ rfl _ rfl _ rfl _ rfl _ rfl _ rfl _ rfl _ rfl _ rfl v29 h29 _ rfl _ rfl _ rfl v33 h33 _ rfl _ rfl _ rfl _ rfl _ rfl _ rfl _ rfl _ rfl _ rfl
    refine StepGoal.nil ?_
    simp only [Act.put, List.setIfInBounds_toArray, List.set_cons_zero, List.set_cons_succ]
    go_wp2
    go_ret
    exact ⟨rfl, hG.tr hu⟩
end Go.Proofs.Ytflnopaheanpdaa
