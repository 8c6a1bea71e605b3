/- Chunk's laws: the walk of ChunkRound. -/
import Derived.Test.YtflnopaheanpdaaLaw03b
import Derived.Test.YtflnopaheanpdaaPureChunk2
set_option linter.unusedVariables false
set_option linter.unusedSimpArgs false
namespace Go.Proofs.Ytflnopaheanpdaa
open Go.RowKit

theorem packL_le (T : List Int) (xs : List Int) (h : xs.length ≤ 1000) : (packL T xs).length ≤ 2000 := by
  rw [packL_done T ((xs.length + 255) / 256) xs (by omega) (by omega), List.length_append]
  have h1 := headF_len T ((xs.length + 255) / 256) xs
  have h2 := pieceL_len T [] (by decide)
  have h3 : (xs.length + 255) / 256 ≤ 4 := by omega
  have : 270 * ((xs.length + 255) / 256) ≤ 270 * 4 := Nat.mul_le_mul_left _ h3
  omega

set_option maxRecDepth 100000 in
set_option maxHeartbeats 3200000 in
theorem chunkRound_walk (at_ x : Int) (A0 : Option Addr) (n0 c0 : Nat) (as0 : List Int) (A1 : Option Addr) (n1 c1 : Nat) (bs0 : List Int) (A2 : Option Addr) (n2 c2 : Nat) (cs0 : List Int) (w : World) (hr0 : Rd w A0 n0 as0) (hb0 : Byt as0) (hnc0 : n0 ≤ c0) (hc0 : c0 ≤ 9223372036854775807)
    (hr1 : Rd w A1 n1 bs0) (hb1 : Byt bs0) (hnc1 : n1 ≤ c1) (hc1 : c1 ≤ 9223372036854775807) (hr2 : Rd w A2 n2 cs0) (hb2 : Byt cs0) (hnc2 : n2 ≤ c2) (hc2 : c2 ≤ 9223372036854775807) (h0 : 0 ≤ at_) (h1 : at_ ≤ 65535) (h2 : 0 ≤ x) (h3 : x < 4294967296) :
    Calls Try.prog 13 #[.int .u16 at_, .int .u32 x, .slice A0 n0 c0, .slice A1 n1 c1, .slice A2 n2 c2] w fun e w' => e = .returned (.bool true) ∧ Grew w w' := by
  have ra := hr0.take (i := min n0 900) (by omega)
  have rb := hr1.take (i := min n1 900) (by omega)
  have rc := hr2.take (i := min n2 900) (by omega)
  have ba : Byt (as0.take (min n0 900)) := hb0.take _
  have bb : Byt (bs0.take (min n1 900)) := hb1.take _
  have bc : Byt (cs0.take (min n2 900)) := hb2.take _
  have hs0 := fun w1 => short_cut3 A0 n0 c0 w1 hnc0 hc0
  have hs1 := fun w1 => short_cut3 A1 n1 c1 w1 hnc1 hc1
  have hs2 := fun w1 => short_cut3 A2 n2 c2 w1 hnc2 hc2
  have ht := fun w1 => table3_any at_ x w1 h0 h1 h2 h3
  have hT := tabL_len at_ x
  have hW := tabL_wrd (at_ := at_) h2 h3
  have HS0 := Lib.hid hs0
  have HS1 := Lib.hid hs1
  have HS2 := Lib.hid hs2
  have HT := Lib.hid ht
  clear hs0 hs1 hs2 ht
  have hk0 : min n0 900 ≤ 900 ∧ min n0 900 ≤ c0 := by omega
  have hk1 : min n1 900 ≤ 900 ∧ min n1 900 ≤ c1 := by omega
  have hk2 : min n2 900 ≤ 900 ∧ min n2 900 ≤ c2 := by omega
  generalize min n0 900 = k0 at *
  generalize min n1 900 = k1 at *
  generalize min n2 900 = k2 at *
  generalize as0.take k0 = xs at *
  generalize bs0.take k1 = ys at *
  generalize cs0.take k2 = zs at *
  generalize tabL at_ x = T at *
  have hun := unpackL_round (pre := xs) hW bb bc
  obtain ⟨⟨u1, u2, u3⟩, hq2⟩ : ∃ r, unpackL T zs 0 = r := ⟨_, rfl⟩
  have hun2 := fun (u : World) (hg : Grew w u) => cunpack_to T hT hW A2 k2 c2 zs 0 u1 u2 u3 hq2 u (rc.keep hg) bc hk2.2 hc2 (by omega) (by decide) (by decide)
  have hpk := fun (u : World) (hg : Grew w u) => cpack_any T hT hW A1 k1 c1 ys u (rb.keep hg) bb (by omega) hk1.2
  have hpl := packL_le T ys (by rw [rb.len]; omega)
  have hpb := packL_byt hW bb
  obtain ⟨L, hL⟩ : ∃ L, (xs ++ (packL T ys ++ zs)).length = L := ⟨_, rfl⟩
  have hL2 : L = k0 + (packL T ys).length + k2 := by rw [← hL, List.length_append, List.length_append, ra.len, rc.len]; omega
  rw [ra.len, show (k0 : Int) + ((packL T ys).length : Int) = (L : Int) - (k2 : Int) by omega] at hun
  have hun1 := fun (u : World) A c (hr : Rd u A L (xs ++ (packL T ys ++ zs))) (hnc : L ≤ c) (hc : c ≤ 9223372036854775807) => cunpack_to T hT hW A L c _ (k0 : Int) _ _ _ hun u hr (ba.app (hpb.app bc)) hnc hc (by omega) (by omega) (by omega)
  have hpk2 : u3 = 0 → 0 ≤ u2 ∧ u2 ≤ (k2 : Int) ∧ packL T u1 = zs.take u2.toNat ∧ Byt u1 ∧ u1.length ≤ 900 := by
    rintro rfl
    obtain ⟨e1, e2, e3, e4⟩ := unpackL_exact bc hq2
    rw [rc.len] at e2
    have h5 := packL_ge T _ u1 (Nat.le_refl _)
    rw [e3, List.length_take, rc.len] at h5
    exact ⟨e1, e2, e3, e4, by omega⟩
  have hno : u3 ≠ 0 → u1 = [] ∧ u2 = 0 := fun h => unpackL_none hq2 h
  clear hun hq2 hL
  have hse : ∀ l : List Int, ((strOfNums l).toList == (strOfNums l).toList) = true := fun l => by simp
  have hLs : L ≤ 5000 := by omega
  generalize packL T ys = pk at *
  have HL2 := Lib.hid hL2
  have HU1 := Lib.hid hun1
  have HU2 := Lib.hid hun2
  have HPK := Lib.hid hpk
  have HPK2 := Lib.hid hpk2
  have HNO := Lib.hid hno
  clear hun1 hun2 hpk hpk2 hno hL2 hpb h0 h1 h2 h3
  go_enter Try.func13, Try.ntmps13
  go_wp2_with (first | (go_at_call 31; refine Calls.mono (HT.out _) ?_; rintro e w1 ⟨rfl, hg1⟩) | (refine tab_alloc rfl rfl ?_; intro HTA) | (refine tab_storeA rfl rfl rfl rfl HTA hT (hg1.al (.cells (nums .u32 zT).toArray 24)) hg1.size ?_; intro wr HF hg2))
  have hg2 : Grew w wr := hg2
  obtain ⟨g, hgs⟩ : ∃ g, w1.heap.size = g := ⟨_, rfl⟩
  rw [hgs] at HF ⊢
  clear hgs HTA
  refine region_ow (w0 := wr) [[], [], [(1, 23)], [(0, 22), (2, 24)], [], [], [(5, 27)], [(4, 26), (6, 28)], [(3, 25), (7, 29)], [], [(9, 31)], [(8, 30), (10, 32)], [(11, 33)]] [(0, 22), (1, 23), (2, 24), (3, 25), (4, 26), (5, 27), (6, 28), (7, 29), (8, 30), (9, 31), (10, 32), (11, 33), (12, 12)] [(3, 0), (8, 3), (11, 8), (12, 11)] [none, none, none, some 22, none, none, none, none, some 25, none, none, some 30, some 33] [0, 3, 7, 8, 11, 12] (fun
    | 0 => .ow [] | 1 => .eqv (.slice A0 n0 c0) | 2 => .eqv (.slice A0 k0 c0) | 3 => .ow xs | 4 => .eqv (tabV T) | 5 => .eqv (.slice A1 n1 c1) | 6 => .eqv (.slice A1 k1 c1) | 7 => .ow pk | 8 => .ow (xs ++ pk) | 9 => .eqv (.slice A2 n2 c2) | 10 => .eqv (.slice A2 k2 c2) | 11 => .ow (xs ++ (pk ++ zs)) | 12 => .ow (xs ++ (pk ++ zs)) | _ => .any) (by kernel_rfl) (by kernel_rfl) (by kernel_rfl) (Below.refl _ _) ?_ ?_
  · refine ⟨fun u hu => ?_, fun u hu => ?_, fun u hu => ?_, fun u hu => ?_, fun u hu => ?_, fun u hu => ?_, fun u hu => ?_, fun u hu => ?_, fun u hu => ?_, fun u hu => ?_, fun u hu => ?_, fun u hu => ?_, fun u hu => ?_, trivial⟩
    · refine StepGoal.nil ?_
      intro hrow
      go_wp2
      exact ⟨rfl, rfl, ((Grew.rf u).al _).gb _, (own_lit0 u).lower hu.size, fun _ => own_fresh (own_lit0 u) rfl⟩
    · refine StepGoal.nil ?_
      intro hrow
      go_wp2
      exact ⟨rfl, rfl, gb_rf _, rfl, fun h => absurd h (by decide)⟩
    · rintro _ rfl
      refine StepGoal.nil ?_
      intro hrow
      simp only [Act.put, List.setIfInBounds_toArray, List.set_cons_zero, List.set_cons_succ]
      go_wp2_with (go_at_call 34; refine Calls.mono (HS0.out _) ?_; rintro e w' ⟨rfl, rfl⟩)
      exact ⟨rfl, rfl, gb_rf _, rfl, fun h => absurd h (by decide)⟩
    · rintro v22 h22 _ rfl
      refine StepGoal.nil ?_
      intro hrow
      simp only [Act.put, List.setIfInBounds_toArray, List.set_cons_zero, List.set_cons_succ]
      go_wp2_with (at_builtin; refine apps2 (.inr rfl) rfl rfl rfl h22 (ra.keep (hg2.tr hu)) hu.size (by simp; omega) ?_; intro v3 w3 ho3 hg3 hat3; rw [List.nil_append] at ho3)
      exact ⟨rfl, rfl, hg3, ho3, fun _ => hat3⟩
    · refine StepGoal.nil ?_
      intro hrow
      go_wp2_with (refine tab_load2 (.inr rfl) rfl rfl (HF.keep hu) ?_)
      exact ⟨rfl, rfl, gb_rf _, rfl, fun h => absurd h (by decide)⟩
    · refine StepGoal.nil ?_
      intro hrow
      go_wp2
      exact ⟨rfl, rfl, gb_rf _, rfl, fun h => absurd h (by decide)⟩
    · rintro _ rfl
      refine StepGoal.nil ?_
      intro hrow
      simp only [Act.put, List.setIfInBounds_toArray, List.set_cons_zero, List.set_cons_succ]
      go_wp2_with (go_at_call 34; refine Calls.mono (HS1.out _) ?_; rintro e w' ⟨rfl, rfl⟩)
      exact ⟨rfl, rfl, gb_rf _, rfl, fun h => absurd h (by decide)⟩
    · rintro _ rfl _ rfl
      refine StepGoal.nil ?_
      intro hrow
      simp only [Act.put, List.setIfInBounds_toArray, List.set_cons_zero, List.set_cons_succ]
      go_wp2_with (go_at_call 33; refine Calls.mono (HPK.out _ (hg2.tr hu)) ?_; rintro e w1 ⟨x, rfl, ho, hg⟩)
      exact ⟨rfl, rfl, hg.gb _, ho.lower hu.size, fun _ => own_fresh ho rfl⟩
    · rintro v25 h25 v29 h29
      obtain ⟨A7, c7, rfl, _, _, hr7⟩ := h29.rd
      refine StepGoal.nil ?_
      intro hrow
      simp only [Act.put, List.setIfInBounds_toArray, List.set_cons_zero, List.set_cons_succ]
      go_wp2_with (at_builtin; refine apps2 (.inr rfl) rfl rfl rfl h25 hr7 hu.size (by have := ra.len; omega) ?_; intro v3 w3 ho3 hg3 hat3)
      exact ⟨rfl, rfl, hg3, ho3, fun _ => hat3⟩
    · refine StepGoal.nil ?_
      intro hrow
      go_wp2
      exact ⟨rfl, rfl, gb_rf _, rfl, fun h => absurd h (by decide)⟩
    · rintro _ rfl
      refine StepGoal.nil ?_
      intro hrow
      simp only [Act.put, List.setIfInBounds_toArray, List.set_cons_zero, List.set_cons_succ]
      go_wp2_with (go_at_call 34; refine Calls.mono (HS2.out _) ?_; rintro e w' ⟨rfl, rfl⟩)
      exact ⟨rfl, rfl, gb_rf _, rfl, fun h => absurd h (by decide)⟩
    · rintro v30 h30 _ rfl
      refine StepGoal.nil ?_
      intro hrow
      simp only [Act.put, List.setIfInBounds_toArray, List.set_cons_zero, List.set_cons_succ]
      go_wp2_with (at_builtin; refine apps2 (.inr rfl) rfl rfl rfl h30 (rc.keep (hg2.tr hu)) hu.size (by rw [List.length_append]; have := ra.len; omega) ?_; intro v3 w3 ho3 hg3 hat3; rw [List.append_assoc] at ho3)
      exact ⟨rfl, rfl, hg3, ho3, fun _ => hat3⟩
    · rintro v33 h33
      refine StepGoal.nil ?_
      intro hrow
      simp only [Act.put, List.setIfInBounds_toArray, List.set_cons_zero, List.set_cons_succ]
      go_wp2
      exact ⟨rfl, rfl, (Grew.rf u).gb _, h33, fun _ b hb => ⟨.inl hb, h33.lt b hb⟩⟩
  · intro u hu
    rintro v22 _ _ rfl _ rfl v25 _ _ rfl _ rfl _ rfl v29 h29 v30 _ _ rfl _ rfl v33 _ v12 h12
    refine StepGoal.nil ?_
    simp only [Act.put, List.setIfInBounds_toArray, List.set_cons_zero, List.set_cons_succ]
    have ho12 : Own u wr.heap.size v12 (xs ++ (pk ++ zs)) := h12
    have hgu : Grew w u := hg2.tr hu
    have HFu := HF.keep hu
    obtain ⟨A12, c12, rfl, hn12, hc12, hr12⟩ := ho12.rd' (n := L) (by rw [List.length_append, List.length_append, ra.len, rc.len, HL2.out]; omega)
    rename_i wq
    clear h12 ho12 HF hu hg2
    go_wp2_with fail
    refine region_grew [[], [], [], [(2, 37)], [(3, 38)], [(0, 35), (1, 36), (4, 39)], [(5, 40)], [(6, 34)], [(6, 34)], [(6, 34)], [(7, 41)], [(8, 42)], [(9, 43)]] [(0, 35), (1, 36), (2, 37), (3, 38), (4, 39), (5, 40), (6, 34), (7, 41), (8, 42), (9, 43), (10, 13), (11, 14), (12, 15)] (fun
      | 0 => .eqv (tabV T) | 1 => .eqv (.slice A12 L c12) | 2 => .eqv (.slice A0 n0 c0) | 3 => .eqv (.slice A0 k0 c0) | 4 => .eqv (.int .i64 (k0 : Int)) | 5 => tupF 0 ys ((L : Int) - (k2 : Int)) 0 | 6 => tupF 0 ys ((L : Int) - (k2 : Int)) 0 | 7 => .rd ys | 8 => .eqv (.int .i64 ((L : Int) - (k2 : Int))) | 9 => .eqv (.int .i64 0) | 10 => .rd ys | 11 => .eqv (.int .i64 ((L : Int) - (k2 : Int))) | 12 => .eqv (.int .i64 0) | _ => .any) (by kernel_rfl) ?_ ?_
    · refine ⟨fun u hu => ?_, fun u hu => ?_, fun u hu => ?_, fun u hu => ?_, fun u hu => ?_, fun u hu => ?_, fun u hu => ?_, fun u hu => ?_, fun u hu => ?_, fun u hu => ?_, fun u hu => ?_, fun u hu => ?_, fun u hu => ?_, trivial⟩
      · refine StepGoal.nil ?_
        go_wp2_with (refine tab_load2 (.inr rfl) rfl rfl (HFu.keep hu) ?_)
        exact ⟨rfl, rfl, Grew.rf _, rfl⟩
      · refine StepGoal.nil ?_
        go_wp2
        exact ⟨rfl, rfl, Grew.rf _, rfl⟩
      · refine StepGoal.nil ?_
        go_wp2
        exact ⟨rfl, rfl, Grew.rf _, rfl⟩
      · rintro _ rfl
        refine StepGoal.nil ?_
        simp only [Act.put, List.setIfInBounds_toArray, List.set_cons_zero, List.set_cons_succ]
        go_wp2_with (go_at_call 34; refine Calls.mono (HS0.out _) ?_; rintro e w' ⟨rfl, rfl⟩)
        exact ⟨rfl, rfl, Grew.rf _, rfl⟩
      · rintro _ rfl
        refine StepGoal.nil ?_
        simp only [Act.put, List.setIfInBounds_toArray, List.set_cons_zero, List.set_cons_succ]
        go_wp2
        exact ⟨rfl, rfl, Grew.rf _, rfl⟩
      · rintro _ rfl _ rfl _ rfl
        refine StepGoal.nil ?_
        simp only [Act.put, List.setIfInBounds_toArray, List.set_cons_zero, List.set_cons_succ]
        go_wp2_with (go_at_call 36; refine Calls.mono (HU1.out _ _ _ (hr12.keep hu) hn12 hc12) ?_; rintro e w' ⟨x, rfl, ht, hg⟩)
        exact ⟨rfl, rfl, hg, tupF_lower ht (Nat.zero_le _)⟩
      · rintro v40 h40
        refine StepGoal.nil ?_
        simp only [Act.put, List.setIfInBounds_toArray, List.set_cons_zero, List.set_cons_succ]
        go_wp2
        exact ⟨rfl, rfl, Grew.rf _, h40⟩
      · rintro v34 h34
        obtain ⟨A7, m7, c7, rfl, hr7, hm7, hc7, hf7⟩ := h34
        refine StepGoal.nil ?_
        simp only [Act.put, List.setIfInBounds_toArray, List.set_cons_zero, List.set_cons_succ]
        go_wp2
        exact ⟨rfl, rfl, Grew.rf _, _, _, _, rfl, hm7, hc7, hr7⟩
      · rintro v34 h34
        obtain ⟨A7, m7, c7, rfl, hr7, hm7, hc7, hf7⟩ := h34
        refine StepGoal.nil ?_
        simp only [Act.put, List.setIfInBounds_toArray, List.set_cons_zero, List.set_cons_succ]
        go_wp2
        exact ⟨rfl, rfl, Grew.rf _, rfl⟩
      · rintro v34 h34
        obtain ⟨A7, m7, c7, rfl, hr7, hm7, hc7, hf7⟩ := h34
        refine StepGoal.nil ?_
        simp only [Act.put, List.setIfInBounds_toArray, List.set_cons_zero, List.set_cons_succ]
        go_wp2
        exact ⟨rfl, rfl, Grew.rf _, rfl⟩
      · rintro v41 h41
        refine StepGoal.nil ?_
        simp only [Act.put, List.setIfInBounds_toArray, List.set_cons_zero, List.set_cons_succ]
        go_wp2
        exact ⟨rfl, rfl, Grew.rf _, h41⟩
      · rintro _ rfl
        refine StepGoal.nil ?_
        simp only [Act.put, List.setIfInBounds_toArray, List.set_cons_zero, List.set_cons_succ]
        go_wp2
        exact ⟨rfl, rfl, Grew.rf _, rfl⟩
      · rintro _ rfl
        refine StepGoal.nil ?_
        simp only [Act.put, List.setIfInBounds_toArray, List.set_cons_zero, List.set_cons_succ]
        go_wp2
        exact ⟨rfl, rfl, Grew.rf _, rfl⟩
    · intro u hu
      rintro _ rfl _ rfl _ rfl _ rfl _ rfl v40 h40 v34 h34 v41 h41 _ rfl _ rfl v13 h13 _ rfl _ rfl
      refine StepGoal.nil ?_
      simp only [Act.put, List.setIfInBounds_toArray, List.set_cons_zero, List.set_cons_succ]
      obtain ⟨A13, m13, c13, rfl, hm13, hc13, hr13⟩ := h13
      have hgu3 := hgu.tr hu
      have HFu3 := HFu.keep hu
      have hr123 := hr12.keep hu
      rename_i wq3
      clear h34 h40 h41 hu hgu HFu
      go_wp2_with fail
      refine region_grew [[], [(0, 44)], [(1, 45)], [(2, 46)], [(2, 46), (3, 47)], [(2, 46)], [(2, 46), (5, 49)], [(2, 46), (6, 50)], [(2, 46), (4, 48), (7, 51)], [(2, 46), (8, 52)], [(9, 53)], [(10, 54)], [(10, 54)], [(10, 54), (12, 56)], [(10, 54)], [(10, 54), (14, 58)], [(10, 54), (15, 59)], [(10, 54), (13, 57), (16, 60)], [(10, 54), (11, 55), (17, 61)], [(10, 54), (18, 62)]] [(0, 44), (1, 45), (2, 46), (3, 47), (4, 48), (5, 49), (6, 50), (7, 51), (8, 52), (9, 53), (10, 54), (11, 55), (12, 56), (13, 57), (14, 58), (15, 59), (16, 60), (17, 61), (18, 62), (19, 63)] (fun
        | 0 => .eqv (.int .i64 0) | 1 => .eqv (.bool false) | 2 => .eqv (.bool false) | 3 => .eqv (.slice A13 m13 c13) | 4 => .eqv (.string (strOfNums ys)) | 5 => .eqv (.slice A1 n1 c1) | 6 => .eqv (.slice A1 k1 c1) | 7 => .eqv (.string (strOfNums ys)) | 8 => .eqv (.bool false) | 9 => .eqv (.bool false) | 10 => .eqv (.bool false) | 11 => .eqv (.int .i64 ((L : Int) - (k2 : Int))) | 12 => .eqv (.slice A12 L c12) | 13 => .eqv (.int .i64 (L : Int)) | 14 => .eqv (.slice A2 n2 c2) | 15 => .eqv (.slice A2 k2 c2) | 16 => .eqv (.int .i64 (k2 : Int)) | 17 => .eqv (.int .i64 ((L : Int) - (k2 : Int))) | 18 => .eqv (.bool false) | 19 => .eqv (.bool false) | _ => .any) (by kernel_rfl) ?_ ?_
      · refine ⟨fun u hu => ?_, fun u hu => ?_, fun u hu => ?_, fun u hu => ?_, fun u hu => ?_, fun u hu => ?_, fun u hu => ?_, fun u hu => ?_, fun u hu => ?_, fun u hu => ?_, fun u hu => ?_, fun u hu => ?_, fun u hu => ?_, fun u hu => ?_, fun u hu => ?_, fun u hu => ?_, fun u hu => ?_, fun u hu => ?_, fun u hu => ?_, fun u hu => ?_, trivial⟩
        · refine StepGoal.nil ?_
          go_wp2
          exact ⟨rfl, rfl, Grew.rf _, rfl⟩
        · rintro _ rfl
          refine StepGoal.nil ?_
          simp only [Act.put, List.setIfInBounds_toArray, List.set_cons_zero, List.set_cons_succ]
          go_wp2
          exact ⟨rfl, rfl, Grew.rf _, rfl⟩
        · rintro _ rfl
          refine StepGoal.nil ?_
          simp only [Act.put, List.setIfInBounds_toArray, List.set_cons_zero, List.set_cons_succ]
          go_wp2
          exact ⟨rfl, rfl, Grew.rf _, rfl⟩
        · rintro _ rfl
          refine StepGoal.nil ?_
          simp only [Act.put, List.setIfInBounds_toArray, List.set_cons_zero, List.set_cons_succ]
          go_wp2
          exact ⟨rfl, rfl, Grew.rf _, rfl⟩
        · rintro _ rfl _ rfl
          have hs := RdK.str (c := c13) (hr13.keep hu)
          refine StepGoal.nil ?_
          simp only [Act.put, List.setIfInBounds_toArray, List.set_cons_zero, List.set_cons_succ]
          go_wp2
          exact ⟨rfl, rfl, Grew.rf _, rfl⟩
        · rintro _ rfl
          refine StepGoal.nil ?_
          simp only [Act.put, List.setIfInBounds_toArray, List.set_cons_zero, List.set_cons_succ]
          go_wp2
          exact ⟨rfl, rfl, Grew.rf _, rfl⟩
        · rintro _ rfl _ rfl
          refine StepGoal.nil ?_
          simp only [Act.put, List.setIfInBounds_toArray, List.set_cons_zero, List.set_cons_succ]
          go_wp2_with (go_at_call 34; refine Calls.mono (HS1.out _) ?_; rintro e w' ⟨rfl, rfl⟩)
          exact ⟨rfl, rfl, Grew.rf _, rfl⟩
        · rintro _ rfl _ rfl
          have hs := RdK.str (c := c1) (rb.keep (hgu3.tr hu))
          refine StepGoal.nil ?_
          simp only [Act.put, List.setIfInBounds_toArray, List.set_cons_zero, List.set_cons_succ]
          go_wp2
          exact ⟨rfl, rfl, Grew.rf _, rfl⟩
        · rintro _ rfl _ rfl _ rfl
          refine StepGoal.nil ?_
          simp only [Act.put, List.setIfInBounds_toArray, List.set_cons_zero, List.set_cons_succ]
          go_wp2
          exact ⟨rfl, rfl, Grew.rf _, rfl⟩
        · rintro _ rfl _ rfl
          refine StepGoal.nil ?_
          simp only [Act.put, List.setIfInBounds_toArray, List.set_cons_zero, List.set_cons_succ]
          go_wp2
          exact ⟨rfl, rfl, Grew.rf _, rfl⟩
        · rintro _ rfl
          refine StepGoal.nil ?_
          simp only [Act.put, List.setIfInBounds_toArray, List.set_cons_zero, List.set_cons_succ]
          go_wp2
          exact ⟨rfl, rfl, Grew.rf _, rfl⟩
        · rintro _ rfl
          refine StepGoal.nil ?_
          simp only [Act.put, List.setIfInBounds_toArray, List.set_cons_zero, List.set_cons_succ]
          go_wp2
          exact ⟨rfl, rfl, Grew.rf _, rfl⟩
        · rintro _ rfl
          refine StepGoal.nil ?_
          simp only [Act.put, List.setIfInBounds_toArray, List.set_cons_zero, List.set_cons_succ]
          go_wp2
          exact ⟨rfl, rfl, Grew.rf _, rfl⟩
        · rintro _ rfl _ rfl
          refine StepGoal.nil ?_
          simp only [Act.put, List.setIfInBounds_toArray, List.set_cons_zero, List.set_cons_succ]
          go_wp2
          exact ⟨rfl, rfl, Grew.rf _, rfl⟩
        · rintro _ rfl
          refine StepGoal.nil ?_
          simp only [Act.put, List.setIfInBounds_toArray, List.set_cons_zero, List.set_cons_succ]
          go_wp2
          exact ⟨rfl, rfl, Grew.rf _, rfl⟩
        · rintro _ rfl _ rfl
          refine StepGoal.nil ?_
          simp only [Act.put, List.setIfInBounds_toArray, List.set_cons_zero, List.set_cons_succ]
          go_wp2_with (go_at_call 34; refine Calls.mono (HS2.out _) ?_; rintro e w' ⟨rfl, rfl⟩)
          exact ⟨rfl, rfl, Grew.rf _, rfl⟩
        · rintro _ rfl _ rfl
          refine StepGoal.nil ?_
          simp only [Act.put, List.setIfInBounds_toArray, List.set_cons_zero, List.set_cons_succ]
          go_wp2
          exact ⟨rfl, rfl, Grew.rf _, rfl⟩
        · rintro _ rfl _ rfl _ rfl
          refine StepGoal.nil ?_
          simp only [Act.put, List.setIfInBounds_toArray, List.set_cons_zero, List.set_cons_succ]
          go_wp2
          exact ⟨rfl, rfl, Grew.rf _, rfl⟩
        · rintro _ rfl _ rfl _ rfl
          refine StepGoal.nil ?_
          simp only [Act.put, List.setIfInBounds_toArray, List.set_cons_zero, List.set_cons_succ]
          go_wp2
          exact ⟨rfl, rfl, Grew.rf _, rfl⟩
        · rintro _ rfl _ rfl
          refine StepGoal.nil ?_
          simp only [Act.put, List.setIfInBounds_toArray, List.set_cons_zero, List.set_cons_succ]
          go_wp2
          exact ⟨rfl, rfl, Grew.rf _, rfl⟩
      · intro u hu
        rintro _ rfl _ rfl _ rfl _ rfl _ rfl _ rfl _ rfl _ rfl _ rfl _ rfl _ rfl _ rfl _ rfl _ rfl _ rfl _ rfl _ rfl _ rfl _ rfl _ rfl
        refine StepGoal.nil ?_
        simp only [Act.put, List.setIfInBounds_toArray, List.set_cons_zero, List.set_cons_succ]
        have hgu4 := hgu3.tr hu
        have HFu4 := HFu3.keep hu
        rename_i wq4
        clear hu hgu3 HFu3
        go_wp2_with fail
        refine region_grew [[], [], [(1, 66)], [(0, 65), (2, 67)], [(3, 68)], [(4, 64)], [(4, 64)], [(4, 64)], [(5, 69)], [(6, 70)], [(7, 71)]] [(0, 65), (1, 66), (2, 67), (3, 68), (4, 64), (5, 69), (6, 70), (7, 71), (8, 16), (9, 17), (10, 18)] (fun
          | 0 => .eqv (tabV T) | 1 => .eqv (.slice A2 n2 c2) | 2 => .eqv (.slice A2 k2 c2) | 3 => tupF 0 u1 u2 u3 | 4 => tupF 0 u1 u2 u3 | 5 => .rd u1 | 6 => .eqv (.int .i64 u2) | 7 => .eqv (.int .i64 u3) | 8 => .rd u1 | 9 => .eqv (.int .i64 u2) | 10 => .eqv (.int .i64 u3) | _ => .any) (by kernel_rfl) ?_ ?_
        · refine ⟨fun u hu => ?_, fun u hu => ?_, fun u hu => ?_, fun u hu => ?_, fun u hu => ?_, fun u hu => ?_, fun u hu => ?_, fun u hu => ?_, fun u hu => ?_, fun u hu => ?_, fun u hu => ?_, trivial⟩
          · refine StepGoal.nil ?_
            go_wp2_with (refine tab_load2 (.inr rfl) rfl rfl (HFu4.keep hu) ?_)
            exact ⟨rfl, rfl, Grew.rf _, rfl⟩
          · refine StepGoal.nil ?_
            go_wp2
            exact ⟨rfl, rfl, Grew.rf _, rfl⟩
          · rintro _ rfl
            refine StepGoal.nil ?_
            simp only [Act.put, List.setIfInBounds_toArray, List.set_cons_zero, List.set_cons_succ]
            go_wp2_with (go_at_call 34; refine Calls.mono (HS2.out _) ?_; rintro e w' ⟨rfl, rfl⟩)
            exact ⟨rfl, rfl, Grew.rf _, rfl⟩
          · rintro _ rfl _ rfl
            refine StepGoal.nil ?_
            simp only [Act.put, List.setIfInBounds_toArray, List.set_cons_zero, List.set_cons_succ]
            go_wp2_with (go_at_call 36; refine Calls.mono (HU2.out _ (hgu4.tr hu)) ?_; rintro e w' ⟨x, rfl, ht, hg⟩)
            exact ⟨rfl, rfl, hg, tupF_lower ht (Nat.zero_le _)⟩
          · rintro v68 h68
            refine StepGoal.nil ?_
            simp only [Act.put, List.setIfInBounds_toArray, List.set_cons_zero, List.set_cons_succ]
            go_wp2
            exact ⟨rfl, rfl, Grew.rf _, h68⟩
          · rintro v64 h64
            obtain ⟨A7, m7, c7, rfl, hr7, hm7, hc7, hf7⟩ := h64
            refine StepGoal.nil ?_
            simp only [Act.put, List.setIfInBounds_toArray, List.set_cons_zero, List.set_cons_succ]
            go_wp2
            exact ⟨rfl, rfl, Grew.rf _, _, _, _, rfl, hm7, hc7, hr7⟩
          · rintro v64 h64
            obtain ⟨A7, m7, c7, rfl, hr7, hm7, hc7, hf7⟩ := h64
            refine StepGoal.nil ?_
            simp only [Act.put, List.setIfInBounds_toArray, List.set_cons_zero, List.set_cons_succ]
            go_wp2
            exact ⟨rfl, rfl, Grew.rf _, rfl⟩
          · rintro v64 h64
            obtain ⟨A7, m7, c7, rfl, hr7, hm7, hc7, hf7⟩ := h64
            refine StepGoal.nil ?_
            simp only [Act.put, List.setIfInBounds_toArray, List.set_cons_zero, List.set_cons_succ]
            go_wp2
            exact ⟨rfl, rfl, Grew.rf _, rfl⟩
          · rintro v69 h69
            refine StepGoal.nil ?_
            simp only [Act.put, List.setIfInBounds_toArray, List.set_cons_zero, List.set_cons_succ]
            go_wp2
            exact ⟨rfl, rfl, Grew.rf _, h69⟩
          · rintro _ rfl
            refine StepGoal.nil ?_
            simp only [Act.put, List.setIfInBounds_toArray, List.set_cons_zero, List.set_cons_succ]
            go_wp2
            exact ⟨rfl, rfl, Grew.rf _, rfl⟩
          · rintro _ rfl
            refine StepGoal.nil ?_
            simp only [Act.put, List.setIfInBounds_toArray, List.set_cons_zero, List.set_cons_succ]
            go_wp2
            exact ⟨rfl, rfl, Grew.rf _, rfl⟩
        · intro u hu
          rintro _ rfl _ rfl _ rfl v68 h68 v64 h64 v69 h69 _ rfl _ rfl v16 h16 _ rfl _ rfl
          refine StepGoal.nil ?_
          simp only [Act.put, List.setIfInBounds_toArray, List.set_cons_zero, List.set_cons_succ]
          obtain ⟨A16, m16, c16, rfl, hm16, hc16, hr16⟩ := h16
          have hgu6 := hgu4.tr hu
          have HFu6 := HFu4.keep hu
          rename_i wq6
          clear h64 h68 h69 hu hgu4 HFu4
          by_cases hz : u3 = 0
          · subst hz
            obtain ⟨z0, z1, z2, z3, z4⟩ := HPK2.out rfl
            clear HPK2 HNO
            have hcp := fun (u : World) A m c (hr : Rd u A m u1) (hm : m ≤ c) => cpack_any T hT hW A m c u1 u hr z3 (by rw [← hr.len]; omega) hm
            rw [z2] at hcp
            have HCP := Lib.hid hcp
            clear hcp z2
            obtain ⟨j, rfl⟩ := Int.eq_ofNat_of_zero_le z0
            rw [Int.toNat_natCast] at HCP
            have hcut := cut_hi (kh := .i64) A2 k2 c2 j (by omega)
            have hjk : j ≤ k2 := by omega
            have hrj := fun (u : World) (hg : Grew w u) => (rc.keep hg).take hjk
            go_wp2_with fail
            refine region_grew [[], [(0, 84)], [(1, 85)], [(1, 85)], [(1, 85), (3, 87)], [(1, 85), (4, 88)], [(1, 85), (2, 86), (5, 89)], [(1, 85), (6, 90)], [(7, 91)], [(8, 92)], [(8, 92)], [(8, 92), (9, 93), (10, 94)], [(8, 92), (11, 95)], [(8, 92)], [(8, 92), (13, 97)], [(8, 92)], [(8, 92), (14, 98), (15, 99)], [(8, 92), (16, 100)], [(8, 92), (12, 96), (17, 101)], [(8, 92), (18, 102)], [(19, 103)]] [(0, 84), (1, 85), (2, 86), (3, 87), (4, 88), (5, 89), (6, 90), (7, 91), (8, 92), (9, 93), (10, 94), (11, 95), (12, 96), (13, 97), (14, 98), (15, 99), (16, 100), (17, 101), (18, 102), (19, 103), (20, 10)] (fun
              | 0 => .eqv (.bool true) | 1 => .eqv (.bool true) | 2 => .eqv (.int .i64 (j : Int)) | 3 => .eqv (.slice A2 n2 c2) | 4 => .eqv (.slice A2 k2 c2) | 5 => .eqv (.int .i64 (k2 : Int)) | 6 => .eqv (.bool true) | 7 => .eqv (.bool true) | 8 => .eqv (.bool true) | 9 => .eqv (tabV T) | 10 => .eqv (.slice A16 m16 c16) | 11 => .own 0 (zs.take j) | 12 => .eqv (.string (strOfNums (zs.take j))) | 13 => .eqv (.slice A2 n2 c2) | 14 => .eqv (.slice A2 k2 c2) | 15 => .eqv (.int .i64 (j : Int)) | 16 => .eqv (.slice A2 j c2) | 17 => .eqv (.string (strOfNums (zs.take j))) | 18 => .eqv (.bool true) | 19 => .eqv (.bool true) | 20 => .eqv (.bool true) | _ => .any) (by kernel_rfl) ?_ ?_
            · refine ⟨fun u hu => ?_, fun u hu => ?_, fun u hu => ?_, fun u hu => ?_, fun u hu => ?_, fun u hu => ?_, fun u hu => ?_, fun u hu => ?_, fun u hu => ?_, fun u hu => ?_, fun u hu => ?_, fun u hu => ?_, fun u hu => ?_, fun u hu => ?_, fun u hu => ?_, fun u hu => ?_, fun u hu => ?_, fun u hu => ?_, fun u hu => ?_, fun u hu => ?_, fun u hu => ?_, trivial⟩
              · refine StepGoal.nil ?_
                go_wp2_with (go_at_call 32; refine Calls.mono (awake3_any _) ?_; rintro e w' ⟨rfl, hg⟩)
                exact ⟨rfl, rfl, hg, rfl⟩
              · rintro _ rfl
                refine StepGoal.nil ?_
                simp only [Act.put, List.setIfInBounds_toArray, List.set_cons_zero, List.set_cons_succ]
                go_wp2
                exact ⟨rfl, rfl, Grew.rf _, rfl⟩
              · rintro _ rfl
                refine StepGoal.nil ?_
                simp only [Act.put, List.setIfInBounds_toArray, List.set_cons_zero, List.set_cons_succ]
                go_wp2
                exact ⟨rfl, rfl, Grew.rf _, rfl⟩
              · rintro _ rfl
                refine StepGoal.nil ?_
                simp only [Act.put, List.setIfInBounds_toArray, List.set_cons_zero, List.set_cons_succ]
                go_wp2
                exact ⟨rfl, rfl, Grew.rf _, rfl⟩
              · rintro _ rfl _ rfl
                refine StepGoal.nil ?_
                simp only [Act.put, List.setIfInBounds_toArray, List.set_cons_zero, List.set_cons_succ]
                go_wp2_with (go_at_call 34; refine Calls.mono (HS2.out _) ?_; rintro e w' ⟨rfl, rfl⟩)
                exact ⟨rfl, rfl, Grew.rf _, rfl⟩
              · rintro _ rfl _ rfl
                refine StepGoal.nil ?_
                simp only [Act.put, List.setIfInBounds_toArray, List.set_cons_zero, List.set_cons_succ]
                go_wp2
                exact ⟨rfl, rfl, Grew.rf _, rfl⟩
              · rintro _ rfl _ rfl _ rfl
                have hd : decide ((j : Int) ≤ (k2 : Int)) = true := decide_eq_true (by omega)
                refine StepGoal.nil ?_
                simp only [Act.put, List.setIfInBounds_toArray, List.set_cons_zero, List.set_cons_succ]
                go_wp2
                exact ⟨rfl, rfl, Grew.rf _, rfl⟩
              · rintro _ rfl _ rfl
                refine StepGoal.nil ?_
                simp only [Act.put, List.setIfInBounds_toArray, List.set_cons_zero, List.set_cons_succ]
                go_wp2
                exact ⟨rfl, rfl, Grew.rf _, rfl⟩
              · rintro _ rfl
                refine StepGoal.nil ?_
                simp only [Act.put, List.setIfInBounds_toArray, List.set_cons_zero, List.set_cons_succ]
                go_wp2
                exact ⟨rfl, rfl, Grew.rf _, rfl⟩
              · rintro _ rfl
                refine StepGoal.nil ?_
                simp only [Act.put, List.setIfInBounds_toArray, List.set_cons_zero, List.set_cons_succ]
                go_wp2_with (refine tab_load2 (.inr rfl) rfl rfl (HFu6.keep hu) ?_)
                exact ⟨rfl, rfl, Grew.rf _, rfl⟩
              · rintro _ rfl
                refine StepGoal.nil ?_
                simp only [Act.put, List.setIfInBounds_toArray, List.set_cons_zero, List.set_cons_succ]
                go_wp2
                exact ⟨rfl, rfl, Grew.rf _, rfl⟩
              · rintro _ rfl _ rfl _ rfl
                refine StepGoal.nil ?_
                simp only [Act.put, List.setIfInBounds_toArray, List.set_cons_zero, List.set_cons_succ]
                go_wp2_with (go_at_call 33; refine Calls.mono (HCP.out _ _ _ _ (hr16.keep hu) hm16) ?_; rintro e w1 ⟨x, rfl, ho, hg⟩)
                exact ⟨rfl, rfl, hg, ho.lower (Nat.zero_le _)⟩
              · rintro _ rfl v95 h95
                have hs := OwnK.str h95
                refine StepGoal.nil ?_
                simp only [Act.put, List.setIfInBounds_toArray, List.set_cons_zero, List.set_cons_succ]
                go_wp2
                exact ⟨rfl, rfl, Grew.rf _, rfl⟩
              · rintro _ rfl
                refine StepGoal.nil ?_
                simp only [Act.put, List.setIfInBounds_toArray, List.set_cons_zero, List.set_cons_succ]
                go_wp2
                exact ⟨rfl, rfl, Grew.rf _, rfl⟩
              · rintro _ rfl _ rfl
                refine StepGoal.nil ?_
                simp only [Act.put, List.setIfInBounds_toArray, List.set_cons_zero, List.set_cons_succ]
                go_wp2_with (go_at_call 34; refine Calls.mono (HS2.out _) ?_; rintro e w' ⟨rfl, rfl⟩)
                exact ⟨rfl, rfl, Grew.rf _, rfl⟩
              · rintro _ rfl
                refine StepGoal.nil ?_
                simp only [Act.put, List.setIfInBounds_toArray, List.set_cons_zero, List.set_cons_succ]
                go_wp2
                exact ⟨rfl, rfl, Grew.rf _, rfl⟩
              · rintro _ rfl _ rfl _ rfl
                refine StepGoal.nil ?_
                simp only [Act.put, List.setIfInBounds_toArray, List.set_cons_zero, List.set_cons_succ]
                go_wp2
                exact ⟨rfl, rfl, Grew.rf _, rfl⟩
              · rintro _ rfl _ rfl
                have hs := RdK.str (c := c2) (hrj _ (hgu6.tr hu))
                refine StepGoal.nil ?_
                simp only [Act.put, List.setIfInBounds_toArray, List.set_cons_zero, List.set_cons_succ]
                go_wp2
                exact ⟨rfl, rfl, Grew.rf _, rfl⟩
              · rintro _ rfl _ rfl _ rfl
                refine StepGoal.nil ?_
                simp only [Act.put, List.setIfInBounds_toArray, List.set_cons_zero, List.set_cons_succ]
                go_wp2
                exact ⟨rfl, rfl, Grew.rf _, rfl⟩
              · rintro _ rfl _ rfl
                refine StepGoal.nil ?_
                simp only [Act.put, List.setIfInBounds_toArray, List.set_cons_zero, List.set_cons_succ]
                go_wp2
                exact ⟨rfl, rfl, Grew.rf _, rfl⟩
              · rintro _ rfl
                refine StepGoal.nil ?_
                simp only [Act.put, List.setIfInBounds_toArray, List.set_cons_zero, List.set_cons_succ]
                go_wp2
                exact ⟨rfl, rfl, Grew.rf _, rfl⟩
            · intro u hu
              rintro _ rfl _ rfl _ rfl _ rfl _ rfl _ rfl _ rfl _ rfl _ rfl _ rfl _ rfl v95 h95 _ rfl _ rfl _ rfl _ rfl _ rfl _ rfl _ rfl _ rfl _ rfl
              refine StepGoal.nil ?_
              simp only [Act.put, List.setIfInBounds_toArray, List.set_cons_zero, List.set_cons_succ]
              go_wp2
              go_ret
              exact ⟨rfl, hgu6.tr hu⟩
          · obtain ⟨rfl, rfl⟩ := HNO.out hz
            obtain rfl : m16 = 0 := hr16.len.symm
            have hc1 : decide (u3 = 0) = false := decide_eq_false hz
            go_wp2_with (go_at_call 32; refine Calls.mono (awake3_any _) ?_; rintro e w9 ⟨rfl, hg9⟩)
            go_ret
            exact ⟨rfl, hgu6.tr hg9⟩
end Go.Proofs.Ytflnopaheanpdaa
