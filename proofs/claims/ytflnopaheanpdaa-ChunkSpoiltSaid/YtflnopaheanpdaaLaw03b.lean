/- Chunk's laws: the walks of ChunkPacks and of ChunkUnpacks. -/
import Derived.Test.YtflnopaheanpdaaLaw03
set_option linter.unusedVariables false
set_option linter.unusedSimpArgs false
namespace Go.Proofs.Ytflnopaheanpdaa
open Go.RowKit

set_option maxRecDepth 100000 in
set_option maxHeartbeats 1600000 in
theorem chunkPacks_walk (at_ x : Int) (A : Option Addr) (n c : Nat) (bs : List Int) (w : World) (hr : Rd w A n bs) (hb : Byt bs) (hnc : n ≤ c) (hc : c ≤ 9223372036854775807) (h0 : 0 ≤ at_) (h1 : at_ ≤ 65535) (h2 : 0 ≤ x) (h3 : x < 4294967296) :
    Calls Try.prog 11 #[.int .u16 at_, .int .u32 x, .slice A n c] w fun e w' => e = .returned (.bool true) ∧ Grew w w' := by
  have hr2 := hr.take (i := min n 900) (by omega)
  have hb2 : Byt (bs.take (min n 900)) := hb.take _
  have hs := fun w1 => short_cut3 A n c w1 hnc hc
  have ht := fun w1 => table3_any at_ x w1 h0 h1 h2 h3
  have hT := tabL_len at_ x
  have hW := tabL_wrd (at_ := at_) h2 h3
  have hk : min n 900 ≤ 900 := by omega
  have hk2 : min n 900 ≤ c := by omega
  generalize min n 900 = k at *
  generalize bs.take k = xs at *
  generalize tabL at_ x = T at *
  have hp := fun (u : World) (hg : Grew w u) => cpack_any T hT hW A k c xs u (hr2.keep hg) hb2 (by omega) hk2
  have hq := fun (u : World) (hg : Grew w u) => rpack_any T hT hW A k c xs u (hr2.keep hg) hb2 (by omega) hk2
  have HS := Lib.hid hs
  have HT := Lib.hid ht
  have HP := Lib.hid hp
  have HQ := Lib.hid hq
  have hse : ∀ l : List Int, ((strOfNums l).toList == (strOfNums l).toList) = true := fun l => by simp
  clear hs ht hp hq
  go_enter Try.func11, Try.ntmps11
  go_wp2_with (first | (go_at_call 31; refine Calls.mono (HT.out _) ?_; rintro e w1 ⟨rfl, hg1⟩) | (refine tab_alloc rfl rfl ?_; intro HTA) | (refine tab_storeA rfl rfl rfl rfl HTA hT (hg1.al (.cells (nums .u32 zT).toArray 24)) hg1.size ?_; intro wr HF hg2))
  have hg2 : Grew w wr := hg2
  obtain ⟨g, hgs⟩ : ∃ g, w1.heap.size = g := ⟨_, rfl⟩
  rw [hgs] at HF ⊢
  clear hgs HTA
  refine region_grew [[], [(0, 11)], [(1, 12)], [(1, 12)], [(1, 12), (3, 14)], [(1, 12), (2, 13), (4, 15)], [(1, 12), (5, 16)], [(1, 12)], [(1, 12)], [(1, 12), (8, 19)], [(1, 12), (7, 18), (9, 20)], [(1, 12), (10, 21)], [(1, 12), (6, 17), (11, 22)], [(1, 12), (12, 23)], [(13, 24)]] [(0, 11), (1, 12), (2, 13), (3, 14), (4, 15), (5, 16), (6, 17), (7, 18), (8, 19), (9, 20), (10, 21), (11, 22), (12, 23), (13, 24), (14, 6)] (fun
    | 0 => .eqv (.bool true) | 1 => .eqv (.bool true) | 2 => .eqv (tabV T) | 3 => .eqv (.slice A n c) | 4 => .eqv (.slice A k c) | 5 => .own wr.heap.size (packL T xs) | 6 => .eqv (.string (strOfNums (packL T xs))) | 7 => .eqv (tabV T) | 8 => .eqv (.slice A n c) | 9 => .eqv (.slice A k c) | 10 => .own wr.heap.size (packL T xs) | 11 => .eqv (.string (strOfNums (packL T xs))) | 12 => .eqv (.bool true) | 13 => .eqv (.bool true) | 14 => .eqv (.bool true) | _ => .any) (by kernel_rfl) ?_ ?_
  · refine ⟨fun u hu => ?_, fun u hu => ?_, fun u hu => ?_, fun u hu => ?_, fun u hu => ?_, fun u hu => ?_, fun u hu => ?_, fun u hu => ?_, fun u hu => ?_, fun u hu => ?_, fun u hu => ?_, fun u hu => ?_, fun u hu => ?_, fun u hu => ?_, fun u hu => ?_, trivial⟩
    · refine StepGoal.nil ?_
      go_wp2_with (go_at_call 32; refine Calls.mono (awake3_any _) ?_; rintro e w' ⟨rfl, hg⟩)
      exact ⟨rfl, rfl, hg, rfl⟩
    · rintro _ rfl
      refine StepGoal.nil ?_
      simp only [Act.put, List.setIfInBounds_toArray, List.set_cons_zero, List.set_cons_succ]
      go_wp2
      exact ⟨rfl, rfl, Grew.rf _, rfl⟩
    · rintro _ rfl
      refine StepGoal.nil ?_
      simp only [Act.put, List.setIfInBounds_toArray, List.set_cons_zero, List.set_cons_succ]
      go_wp2_with (refine tab_load2 (.inr rfl) rfl rfl (HF.keep hu) ?_)
      exact ⟨rfl, rfl, Grew.rf _, rfl⟩
    · rintro _ rfl
      refine StepGoal.nil ?_
      simp only [Act.put, List.setIfInBounds_toArray, List.set_cons_zero, List.set_cons_succ]
      go_wp2
      exact ⟨rfl, rfl, Grew.rf _, rfl⟩
    · rintro _ rfl _ rfl
      refine StepGoal.nil ?_
      simp only [Act.put, List.setIfInBounds_toArray, List.set_cons_zero, List.set_cons_succ]
      go_wp2_with (go_at_call 34; refine Calls.mono (HS.out _) ?_; rintro e w' ⟨rfl, rfl⟩)
      exact ⟨rfl, rfl, Grew.rf _, rfl⟩
    · rintro _ rfl _ rfl _ rfl
      refine StepGoal.nil ?_
      simp only [Act.put, List.setIfInBounds_toArray, List.set_cons_zero, List.set_cons_succ]
      go_wp2_with (go_at_call 33; refine Calls.mono (HP.out _ (hg2.tr hu)) ?_; rintro e w' ⟨y, rfl, ho, hg⟩)
      exact ⟨rfl, rfl, hg, ho.lower hu.size⟩
    · rintro _ rfl v16 h16
      have hs := OwnK.str h16
      refine StepGoal.nil ?_
      simp only [Act.put, List.setIfInBounds_toArray, List.set_cons_zero, List.set_cons_succ]
      go_wp2
      exact ⟨rfl, rfl, Grew.rf _, rfl⟩
    · rintro _ rfl
      refine StepGoal.nil ?_
      simp only [Act.put, List.setIfInBounds_toArray, List.set_cons_zero, List.set_cons_succ]
      go_wp2_with (refine tab_load2 (.inr rfl) rfl rfl (HF.keep hu) ?_)
      exact ⟨rfl, rfl, Grew.rf _, rfl⟩
    · rintro _ rfl
      refine StepGoal.nil ?_
      simp only [Act.put, List.setIfInBounds_toArray, List.set_cons_zero, List.set_cons_succ]
      go_wp2
      exact ⟨rfl, rfl, Grew.rf _, rfl⟩
    · rintro _ rfl _ rfl
      refine StepGoal.nil ?_
      simp only [Act.put, List.setIfInBounds_toArray, List.set_cons_zero, List.set_cons_succ]
      go_wp2_with (go_at_call 34; refine Calls.mono (HS.out _) ?_; rintro e w' ⟨rfl, rfl⟩)
      exact ⟨rfl, rfl, Grew.rf _, rfl⟩
    · rintro _ rfl _ rfl _ rfl
      refine StepGoal.nil ?_
      simp only [Act.put, List.setIfInBounds_toArray, List.set_cons_zero, List.set_cons_succ]
      go_wp2_with (go_at_call 35; refine Calls.mono (HQ.out _ (hg2.tr hu)) ?_; rintro e w' ⟨y, rfl, ho, hg⟩)
      exact ⟨rfl, rfl, hg, ho.lower hu.size⟩
    · rintro _ rfl v21 h21
      have hs := OwnK.str h21
      refine StepGoal.nil ?_
      simp only [Act.put, List.setIfInBounds_toArray, List.set_cons_zero, List.set_cons_succ]
      go_wp2
      exact ⟨rfl, rfl, Grew.rf _, rfl⟩
    · rintro _ rfl _ rfl _ rfl
      refine StepGoal.nil ?_
      simp only [Act.put, List.setIfInBounds_toArray, List.set_cons_zero, List.set_cons_succ]
      go_wp2
      exact ⟨rfl, rfl, Grew.rf _, rfl⟩
    · rintro _ rfl _ rfl
      refine StepGoal.nil ?_
      simp only [Act.put, List.setIfInBounds_toArray, List.set_cons_zero, List.set_cons_succ]
      go_wp2
      exact ⟨rfl, rfl, Grew.rf _, rfl⟩
    · rintro _ rfl
      refine StepGoal.nil ?_
      simp only [Act.put, List.setIfInBounds_toArray, List.set_cons_zero, List.set_cons_succ]
      go_wp2
      exact ⟨rfl, rfl, Grew.rf _, rfl⟩
  · intro u hu
    rintro _ rfl _ rfl _ rfl _ rfl _ rfl v16 h16 _ rfl _ rfl _ rfl _ rfl v21 h21 _ rfl _ rfl _ rfl _ rfl
    refine StepGoal.nil ?_
    simp only [Act.put, List.setIfInBounds_toArray, List.set_cons_zero, List.set_cons_succ]
    go_wp2
    go_ret
    exact ⟨rfl, hg2.tr hu⟩

set_option maxRecDepth 100000 in
set_option maxHeartbeats 1600000 in
theorem chunkUnpacks_walk (A : Option Addr) (n c : Nat) (bs : List Int) (at_ : Int) (w : World) (hr : Rd w A n bs) (hb : Byt bs) (hnc : n ≤ c) (hc : c ≤ 9223372036854775807) (h0 : -9223372036854775808 ≤ at_) (h1 : at_ ≤ 9223372036854775807) :
    Calls Try.prog 12 #[.slice A n c, .int .i64 at_] w fun e w' => e = .returned (.bool true) ∧ Grew w w' := by
  have hr2 := hr.take (i := min n 900) (by omega)
  have hb2 : Byt (bs.take (min n 900)) := hb.take _
  have hs := fun w1 => short_cut3 A n c w1 hnc hc
  have hk : min n 900 ≤ 900 := by omega
  have hk2 : min n 900 ≤ c := by omega
  generalize min n 900 = k at *
  generalize bs.take k = xs at *
  obtain ⟨⟨p, nx, er⟩, hq⟩ : ∃ r, unpackL cTab xs at_ = r := ⟨_, rfl⟩
  have hp := fun (u : World) (hg : Grew w u) => cunpack_to cTab cTab_len cTab_wrd A k c xs at_ p nx er hq u (hr2.keep hg) hb2 hk2 hc (by omega) h0 h1
  have hr' := fun (u : World) (hg : Grew w u) => runpack_to cTab cTab_len cTab_wrd A k c xs at_ p nx er hq u (hr2.keep hg) hb2 hk2 hc (by omega) h0 h1
  have HS := Lib.hid hs
  have HP := Lib.hid hp
  have HQ := Lib.hid hr'
  have hse : ∀ l : List Int, ((strOfNums l).toList == (strOfNums l).toList) = true := fun l => by simp
  clear hs hp hr' hq
  go_enter Try.func12, Try.ntmps12
  go_wp2_with (first | (go_at_call 16; refine Calls.mono (table_any _) ?_; rintro e w1 ⟨rfl, hg1⟩) | (refine tab_alloc rfl rfl ?_; intro HTA) | (refine tab_storeA rfl rfl rfl rfl HTA cTab_len (hg1.al (.cells (nums .u32 zT).toArray 24)) hg1.size ?_; intro wr HF hg2))
  have hg2 : Grew w wr := hg2
  obtain ⟨g, hgs⟩ : ∃ g, w1.heap.size = g := ⟨_, rfl⟩
  rw [hgs] at HF ⊢
  clear hgs HTA
  refine region_grew [[], [], [(1, 15)], [], [(0, 14), (2, 16), (3, 17)], [(4, 18)], [(5, 13)], [(5, 13)], [(5, 13)], [(6, 19)], [(7, 20)], [(8, 21)]] [(0, 14), (1, 15), (2, 16), (3, 17), (4, 18), (5, 13), (6, 19), (7, 20), (8, 21), (9, 6), (10, 7), (11, 8)] (fun
    | 0 => .eqv (tabV cTab) | 1 => .eqv (.slice A n c) | 2 => .eqv (.slice A k c) | 3 => .eqv (.int .i64 at_) | 4 => tupF 0 p nx er | 5 => tupF 0 p nx er | 6 => .rd p | 7 => .eqv (.int .i64 nx) | 8 => .eqv (.int .i64 er) | 9 => .rd p | 10 => .eqv (.int .i64 nx) | 11 => .eqv (.int .i64 er) | _ => .any) (by kernel_rfl) ?_ ?_
  · refine ⟨fun u hu => ?_, fun u hu => ?_, fun u hu => ?_, fun u hu => ?_, fun u hu => ?_, fun u hu => ?_, fun u hu => ?_, fun u hu => ?_, fun u hu => ?_, fun u hu => ?_, fun u hu => ?_, fun u hu => ?_, trivial⟩
    · refine StepGoal.nil ?_
      go_wp2_with (refine tab_load2 (.inr rfl) rfl rfl (HF.keep hu) ?_)
      exact ⟨rfl, rfl, Grew.rf _, rfl⟩
    · refine StepGoal.nil ?_
      go_wp2
      exact ⟨rfl, rfl, Grew.rf _, rfl⟩
    · rintro _ rfl
      refine StepGoal.nil ?_
      simp only [Act.put, List.setIfInBounds_toArray, List.set_cons_zero, List.set_cons_succ]
      go_wp2_with (go_at_call 34; refine Calls.mono (HS.out _) ?_; rintro e w' ⟨rfl, rfl⟩)
      exact ⟨rfl, rfl, Grew.rf _, rfl⟩
    · refine StepGoal.nil ?_
      go_wp2
      exact ⟨rfl, rfl, Grew.rf _, rfl⟩
    · rintro _ rfl _ rfl _ rfl
      refine StepGoal.nil ?_
      simp only [Act.put, List.setIfInBounds_toArray, List.set_cons_zero, List.set_cons_succ]
      go_wp2_with (go_at_call 36; refine Calls.mono (HP.out _ (hg2.tr hu)) ?_; rintro e w' ⟨x, rfl, ht, hg⟩)
      exact ⟨rfl, rfl, hg, tupF_lower ht (Nat.zero_le _)⟩
    · rintro v18 h18
      refine StepGoal.nil ?_
      simp only [Act.put, List.setIfInBounds_toArray, List.set_cons_zero, List.set_cons_succ]
      go_wp2
      exact ⟨rfl, rfl, Grew.rf _, h18⟩
    · rintro v13 h13
      obtain ⟨A7, m7, c7, rfl, hr7, hm7, hc7, hf7⟩ := h13
      refine StepGoal.nil ?_
      simp only [Act.put, List.setIfInBounds_toArray, List.set_cons_zero, List.set_cons_succ]
      go_wp2
      exact ⟨rfl, rfl, Grew.rf _, _, _, _, rfl, hm7, hc7, hr7⟩
    · rintro v13 h13
      obtain ⟨A7, m7, c7, rfl, hr7, hm7, hc7, hf7⟩ := h13
      refine StepGoal.nil ?_
      simp only [Act.put, List.setIfInBounds_toArray, List.set_cons_zero, List.set_cons_succ]
      go_wp2
      exact ⟨rfl, rfl, Grew.rf _, rfl⟩
    · rintro v13 h13
      obtain ⟨A7, m7, c7, rfl, hr7, hm7, hc7, hf7⟩ := h13
      refine StepGoal.nil ?_
      simp only [Act.put, List.setIfInBounds_toArray, List.set_cons_zero, List.set_cons_succ]
      go_wp2
      exact ⟨rfl, rfl, Grew.rf _, rfl⟩
    · rintro v19 h19
      refine StepGoal.nil ?_
      simp only [Act.put, List.setIfInBounds_toArray, List.set_cons_zero, List.set_cons_succ]
      go_wp2
      exact ⟨rfl, rfl, Grew.rf _, h19⟩
    · rintro _ rfl
      refine StepGoal.nil ?_
      simp only [Act.put, List.setIfInBounds_toArray, List.set_cons_zero, List.set_cons_succ]
      go_wp2
      exact ⟨rfl, rfl, Grew.rf _, rfl⟩
    · rintro _ rfl
      refine StepGoal.nil ?_
      simp only [Act.put, List.setIfInBounds_toArray, List.set_cons_zero, List.set_cons_succ]
      go_wp2
      exact ⟨rfl, rfl, Grew.rf _, rfl⟩
  · intro u hu
    rintro _ rfl _ rfl _ rfl _ rfl v18 h18 v13 h13 v19 h19 _ rfl _ rfl v6 h6 _ rfl _ rfl
    refine StepGoal.nil ?_
    simp only [Act.put, List.setIfInBounds_toArray, List.set_cons_zero, List.set_cons_succ]
    obtain ⟨A5, m5, c5, rfl, hm5, hc5, hr5⟩ := h6
    have hg3 := hg2.tr hu
    have HF3 := HF.keep hu
    clear h13 h18 h19 hu HF hg2
    rename_i w3
    go_wp2_with fail
    refine region_grew [[], [], [(1, 24)], [], [(0, 23), (2, 25), (3, 26)], [(4, 27)], [(5, 22)], [(5, 22)], [(5, 22)], [(6, 28)], [(7, 29)], [(8, 30)]] [(0, 23), (1, 24), (2, 25), (3, 26), (4, 27), (5, 22), (6, 28), (7, 29), (8, 30), (9, 9), (10, 10), (11, 11)] (fun
      | 0 => .eqv (tabV cTab) | 1 => .eqv (.slice A n c) | 2 => .eqv (.slice A k c) | 3 => .eqv (.int .i64 at_) | 4 => .tup p nx er | 5 => .tup p nx er | 6 => .rd p | 7 => .eqv (.int .i64 nx) | 8 => .eqv (.int .i64 er) | 9 => .rd p | 10 => .eqv (.int .i64 nx) | 11 => .eqv (.int .i64 er) | _ => .any) (by kernel_rfl) ?_ ?_
    · refine ⟨fun u hu => ?_, fun u hu => ?_, fun u hu => ?_, fun u hu => ?_, fun u hu => ?_, fun u hu => ?_, fun u hu => ?_, fun u hu => ?_, fun u hu => ?_, fun u hu => ?_, fun u hu => ?_, fun u hu => ?_, trivial⟩
      · refine StepGoal.nil ?_
        go_wp2_with (refine tab_load2 (.inr rfl) rfl rfl (HF3.keep hu) ?_)
        exact ⟨rfl, rfl, Grew.rf _, rfl⟩
      · refine StepGoal.nil ?_
        go_wp2
        exact ⟨rfl, rfl, Grew.rf _, rfl⟩
      · rintro _ rfl
        refine StepGoal.nil ?_
        simp only [Act.put, List.setIfInBounds_toArray, List.set_cons_zero, List.set_cons_succ]
        go_wp2_with (go_at_call 34; refine Calls.mono (HS.out _) ?_; rintro e w' ⟨rfl, rfl⟩)
        exact ⟨rfl, rfl, Grew.rf _, rfl⟩
      · refine StepGoal.nil ?_
        go_wp2
        exact ⟨rfl, rfl, Grew.rf _, rfl⟩
      · rintro _ rfl _ rfl _ rfl
        refine StepGoal.nil ?_
        simp only [Act.put, List.setIfInBounds_toArray, List.set_cons_zero, List.set_cons_succ]
        go_wp2_with (go_at_call 37; refine Calls.mono (HQ.out _ (hg3.tr hu)) ?_; rintro e w' ⟨x, rfl, ht, hg⟩)
        exact ⟨rfl, rfl, hg, ht⟩
      · rintro v27 h27
        refine StepGoal.nil ?_
        simp only [Act.put, List.setIfInBounds_toArray, List.set_cons_zero, List.set_cons_succ]
        go_wp2
        exact ⟨rfl, rfl, Grew.rf _, h27⟩
      · rintro v22 h22
        obtain ⟨A7, m7, c7, rfl, hr7, hm7, hc7⟩ := h22
        refine StepGoal.nil ?_
        simp only [Act.put, List.setIfInBounds_toArray, List.set_cons_zero, List.set_cons_succ]
        go_wp2
        exact ⟨rfl, rfl, Grew.rf _, _, _, _, rfl, hm7, hc7, hr7⟩
      · rintro v22 h22
        obtain ⟨A7, m7, c7, rfl, hr7, hm7, hc7⟩ := h22
        refine StepGoal.nil ?_
        simp only [Act.put, List.setIfInBounds_toArray, List.set_cons_zero, List.set_cons_succ]
        go_wp2
        exact ⟨rfl, rfl, Grew.rf _, rfl⟩
      · rintro v22 h22
        obtain ⟨A7, m7, c7, rfl, hr7, hm7, hc7⟩ := h22
        refine StepGoal.nil ?_
        simp only [Act.put, List.setIfInBounds_toArray, List.set_cons_zero, List.set_cons_succ]
        go_wp2
        exact ⟨rfl, rfl, Grew.rf _, rfl⟩
      · rintro v28 h28
        refine StepGoal.nil ?_
        simp only [Act.put, List.setIfInBounds_toArray, List.set_cons_zero, List.set_cons_succ]
        go_wp2
        exact ⟨rfl, rfl, Grew.rf _, h28⟩
      · rintro _ rfl
        refine StepGoal.nil ?_
        simp only [Act.put, List.setIfInBounds_toArray, List.set_cons_zero, List.set_cons_succ]
        go_wp2
        exact ⟨rfl, rfl, Grew.rf _, rfl⟩
      · rintro _ rfl
        refine StepGoal.nil ?_
        simp only [Act.put, List.setIfInBounds_toArray, List.set_cons_zero, List.set_cons_succ]
        go_wp2
        exact ⟨rfl, rfl, Grew.rf _, rfl⟩
    · intro u hu
      rintro _ rfl _ rfl _ rfl _ rfl v27 h27 v22 h22 v28 h28 _ rfl _ rfl v9 h9 _ rfl _ rfl
      refine StepGoal.nil ?_
      simp only [Act.put, List.setIfInBounds_toArray, List.set_cons_zero, List.set_cons_succ]
      obtain ⟨A6, m6, c6, rfl, hm6, hc6, hr6⟩ := h9
      have hr55 := hr5.keep hu
      go_wp2_with (go_at_call 32; refine Calls.mono (awake3_any _) ?_; rintro e w9 ⟨rfl, hg9⟩; have hs5 := RdK.str (c := c5) (hr55.keep hg9); have hs6 := RdK.str (c := c6) (hr6.keep hg9))
      go_ret
      exact ⟨rfl, Grew.tr (hg3.tr hu) hg9⟩
end Go.Proofs.Ytflnopaheanpdaa
