/- Chunk's laws: the walks of table, short, awake. -/
import Derived.Test.YtflnopaheanpdaaChunkP
import Derived.Test.YtflnopaheanpdaaChunkV
import Derived.Test.YtflnopaheanpdaaApp
set_option linter.unusedVariables false
set_option linter.unusedSimpArgs false
namespace Go.Proofs.Ytflnopaheanpdaa
open Go.RowKit

theorem short_cut3 (A : Option Addr) (n c : Nat) (w : World) (hnc : n ≤ c) (hc : c ≤ 9223372036854775807) :
    Calls Try.prog 34 #[.slice A n c] w fun e w' => e = .returned (.slice A (min n 900) c) ∧ w = w' := by
  by_cases h : 900 < n
  · have hcut := cut_hi (kh := .i64) A n c 900 (by omega)
    have e : min n 900 = 900 := by omega
    rw [e]
    go_enter Try.func34, Try.ntmps34
    go_wp2
    go_ret
    exact ⟨rfl, rfl⟩
  · have e : min n 900 = n := by omega
    rw [e]
    go_enter Try.func34, Try.ntmps34
    go_wp2
    go_ret
    exact ⟨rfl, rfl⟩

/-- A tuple whose bytes lie in a row made from block base on. -/
def tupF (base : Nat) (xs : List Int) (a b : Int) : Pd := ⟨fun v u => ∃ B m d, v = .tuple #[.slice B m d, .int .i64 a, .int .i64 b] ∧ Rd u B m xs ∧ m ≤ d ∧ d ≤ 9223372036854775807 ∧ FreshA base B, fun _ _ _ ⟨B, m, d, h1, h2, h3⟩ hg => ⟨B, m, d, h1, h2.keep hg, h3⟩⟩
def rdF (base : Nat) (xs : List Int) : Pd := ⟨fun v u => ∃ A n c, v = .slice A n c ∧ n ≤ c ∧ c ≤ 9223372036854775807 ∧ Rd u A n xs ∧ FreshA base A, fun _ _ _ ⟨A, n, c, h1, h2, h3, h4, h5⟩ hg => ⟨A, n, c, h1, h2, h3, h4.keep hg, h5⟩⟩
theorem tupF_lower {b b' : Nat} {xs : List Int} {x y : Int} {v : Value} {w : World} (h : (tupF b xs x y).p v w) (hb : b' ≤ b) : (tupF b' xs x y).p v w := by
  obtain ⟨B, m, d, h1, h2, h3, h4, h5⟩ := h
  exact ⟨B, m, d, h1, h2, h3, h4, h5.mono hb⟩
theorem cunpack_to (T : List Int) (hT : T.length = 256) (hW : Wrd T) (A : Option Addr) (n c : Nat) (s : List Int) (at_ : Int) (p : List Int) (nx e : Int) (he : unpackL T s at_ = (p, nx, e)) (w : World) (hr : Rd w A n s) (hb : Byt s) (hnc : n ≤ c) (hc : c ≤ 9223372036854775807) (hn : n ≤ 1000000) (h0 : -9223372036854775808 ≤ at_) (h1 : at_ ≤ 9223372036854775807) :
    Calls Try.prog 36 #[tabV T, .slice A n c, .int .i64 at_] w fun ee w' => ∃ v, ee = .returned v ∧ (tupF w.heap.size p nx e).p v w' ∧ Grew w w' := by
  have := cunpack_any T hT hW A n c s at_ w hr hb hnc hc hn h0 h1
  rw [he] at this
  refine this.mono ?_
  rintro ee w' ⟨B, m, d, rfl, h1, h2, h3, h4, h5⟩
  exact ⟨_, rfl, ⟨B, m, d, rfl, h1, h2, h3, h5⟩, h4⟩
theorem runpack_to (T : List Int) (hT : T.length = 256) (hW : Wrd T) (A : Option Addr) (n c : Nat) (s : List Int) (at_ : Int) (p : List Int) (nx e : Int) (he : unpackL T s at_ = (p, nx, e)) (w : World) (hr : Rd w A n s) (hb : Byt s) (hnc : n ≤ c) (hc : c ≤ 9223372036854775807) (hn : n ≤ 1000000) (h0 : -9223372036854775808 ≤ at_) (h1 : at_ ≤ 9223372036854775807) :
    Calls Try.prog 37 #[tabV T, .slice A n c, .int .i64 at_] w fun ee w' => ∃ v, ee = .returned v ∧ (Pd.tup p nx e).p v w' ∧ Grew w w' := by
  have := runpack_any T hT hW A n c s at_ w hr hb hnc hc hn h0 h1
  rw [he] at this
  refine this.mono ?_
  rintro ee w' ⟨B, m, d, rfl, h1, h2, h3, h4⟩
  exact ⟨_, rfl, ⟨B, m, d, rfl, h1, h2, h3⟩, h4⟩

theorem TabAt.setRowO {w : World} {g g' : Nat} {T : List Int} (h : TabAt w g T) (hne : g ≠ g') (cs : Array Value) : TabAt (w.setRow g' cs) g T := ⟨h.len, (setRow_other w g' g cs hne).trans h.heap⟩
/-- The table, or one with another number. -/
def tabL (at_ n : Int) : List Int := if at_ < 256 then cTab.set at_.toNat n else cTab
theorem tabL_len (at_ n : Int) : (tabL at_ n).length = 256 := by unfold tabL; split <;> simp [cTab_len]
theorem tabL_wrd {at_ n : Int} (h0 : 0 ≤ n) (h1 : n < 4294967296) : Wrd (tabL at_ n) := by
  unfold tabL
  split
  · intro x hx
    rcases List.mem_or_eq_of_mem_set hx with h | rfl
    · exact cTab_wrd x h
    · constructor <;> omega
  · exact cTab_wrd

set_option maxRecDepth 100000 in
set_option maxHeartbeats 1600000 in
theorem table3_any (at_ n : Int) (w : World) (h0 : 0 ≤ at_) (h1 : at_ ≤ 65535) (h2 : 0 ≤ n) (h3 : n < 4294967296) :
    Calls Try.prog 31 #[.int .u16 at_, .int .u32 n] w fun e w' => e = .returned (tabV (tabL at_ n)) ∧ Grew w w' := by
  obtain ⟨q, rfl⟩ := Int.eq_ofNat_of_zero_le h0
  by_cases hq : (q : Int) < 256
  · have e : tabL (q : Int) n = cTab.set q n := by unfold tabL; rw [if_pos hq]; simp
    rw [e]
    have hTl : (cTab.set q n).length = 256 := by simp [cTab_len]
    go_enter Try.func31, Try.ntmps31
    go_wp2_with (first | (refine tab_load rfl rfl rfl (HF.store q n) ?_; have HA2 := (((HA.keep ((Grew.rf _).al (.cells (nums .u32 zT).toArray 24))).setRowO hne (nums .u32 cTab).toArray).other hne q (.int .u32 n))) | (refine tab_store rfl rfl rfl rfl HA2 hTl ?_; intro HF2) | (go_at_call 16; refine Calls.mono (table_any _) ?_; rintro e w1 ⟨rfl, hg1⟩; have HA := HT.keep hg1; clear HT; have hsz1 := hg1.size; rw [World.size_alloc] at hsz1; have hne : w.heap.size ≠ w1.heap.size := by omega) | (refine tab_alloc rfl rfl ?_; intro HT) | (refine tab_store rfl rfl rfl rfl HT cTab_len ?_; intro HF; have hce := HF.cell (j := q) (by omega); have hfr := HF.frozen q; obtain ⟨old, ho⟩ : ∃ old, Value.int .u32 (cTab.getD q 0) = old := ⟨_, rfl⟩; rw [ho] at hce))
    refine bodyPost_ret (v := tabV (cTab.set q n)) ?_ rfl ⟨rfl, ?_⟩
    · exact results_cell_row rfl _ _ w.heap.size _ _ _ _ rfl HF2.heap Try.underlying24 rfl (by rw [tabSize]; simp [nums_length, hTl])
    · have hgw : Grew w w1 := ((Grew.rf w).al _).tr hg1
      exact below_setRow (Grew.st (below_setRow (hgw.al _) hgw.size _) hgw.size _) (Nat.le_refl _) _
  · have e : tabL (q : Int) n = cTab := by unfold tabL; rw [if_neg hq]
    rw [e]
    go_enter Try.func31, Try.ntmps31
    go_wp2_with (first | (refine tab_load rfl rfl rfl HF ?_; have HA2 := ((HA.keep ((Grew.rf _).al (.cells (nums .u32 zT).toArray 24))).setRowO hne (nums .u32 cTab).toArray)) | (refine tab_store rfl rfl rfl rfl HA2 cTab_len ?_; intro HF2) | (go_at_call 16; refine Calls.mono (table_any _) ?_; rintro e w1 ⟨rfl, hg1⟩; have HA := HT.keep hg1; clear HT; have hsz1 := hg1.size; rw [World.size_alloc] at hsz1; have hne : w.heap.size ≠ w1.heap.size := by omega) | (refine tab_alloc rfl rfl ?_; intro HT) | (refine tab_store rfl rfl rfl rfl HT cTab_len ?_; intro HF))
    refine bodyPost_ret (v := tabV cTab) ?_ rfl ⟨rfl, ?_⟩
    · exact results_cell_row rfl _ _ w.heap.size _ _ _ _ rfl HF2.heap Try.underlying24 rfl (by rw [tabSize]; simp [nums_length, cTab_len])
    · have hgw : Grew w w1 := ((Grew.rf w).al _).tr hg1
      exact below_setRow (below_setRow (hgw.al _) hgw.size _) (Nat.le_refl _) _

def sAbc : List Int := [3, 97, 98, 99, 34, 232, 148, 249, 0, 141, 239, 2, 210]
theorem pack_abc : packL cTab [97, 98, 99] = sAbc := by decide +kernel
theorem unpack_abc : unpackL cTab ([7] ++ sAbc) 1 = ([97, 98, 99], 14, 0) := by decide +kernel
theorem unpack_abx : unpackL cTab (sAbc.set 2 99) 0 = ([], 0, 6) := by decide +kernel
theorem unpack_ab : unpackL cTab ((sAbc.set 2 99).take 3) 0 = ([], 0, 7) := by decide +kernel
theorem pack_none : (packL cTab []).length = 5 := by decide +kernel

set_option maxRecDepth 100000 in
set_option maxHeartbeats 3200000 in
theorem awake3_any (w : World) : Calls Try.prog 32 #[] w fun e w' => e = .returned (.bool true) ∧ Grew w w' := by
  have hpk := fun (u : World) A c (hr : Rd u A 3 [97, 98, 99]) (hc : 3 ≤ c) => cpack_any cTab cTab_len cTab_wrd A 3 c _ u hr (byt_of (by decide)) (by decide) hc
  rw [pack_abc] at hpk
  have hp0 := fun (u : World) => cpack_any cTab cTab_len cTab_wrd none 0 0 [] u (RdK.nil _ _ _) (byt_of (by decide)) (by decide) (by decide)
  have hu1 := fun (u : World) A c (hr : Rd u A 14 ([7] ++ sAbc)) (hnc : 14 ≤ c) (hc : c ≤ 9223372036854775807) => cunpack_to cTab cTab_len cTab_wrd A 14 c _ 1 _ _ _ unpack_abc u hr (byt_of (by decide)) hnc hc (by decide) (by decide) (by decide)
  have hu2 := fun (u : World) A c (hr : Rd u A 13 (sAbc.set 2 99)) (hnc : 13 ≤ c) (hc : c ≤ 9223372036854775807) => cunpack_to cTab cTab_len cTab_wrd A 13 c _ 0 _ _ _ unpack_abx u hr (byt_of (by decide)) hnc hc (by decide) (by decide) (by decide)
  have hu3 := fun (u : World) A c (hr : Rd u A 3 ((sAbc.set 2 99).take 3)) (hnc : 3 ≤ c) (hc : c ≤ 9223372036854775807) => cunpack_to cTab cTab_len cTab_wrd A 3 c _ 0 _ _ _ unpack_ab u hr (byt_of (by decide)) hnc hc (by decide) (by decide) (by decide)
  have HPK := Lib.hid hpk
  have HP0 := Lib.hid hp0
  have HU1 := Lib.hid hu1
  have HU2 := Lib.hid hu2
  have HU3 := Lib.hid hu3
  clear hpk hp0 hu1 hu2 hu3
  go_enter Try.func32, Try.ntmps32
  go_wp2_with (first | (go_at_call 16; refine Calls.mono (table_any _) ?_; rintro e w1 ⟨rfl, hg1⟩) | (refine tab_alloc rfl rfl ?_; intro HT) | (refine tab_storeA rfl rfl rfl rfl HT cTab_len (hg1.al _) hg1.size ?_; intro w2 HF hg2) | (refine tab_load rfl rfl rfl HF ?_) | (refine conv_lit rfl rfl rfl (lit_new [97, 98, 99] rfl rfl rfl (Nat.le_refl _)) ?_; intro u2 hgm hl2; have hG2 := Below.trans ((Grew.rf _).al (.cells #[.int .u8 97, .int .u8 98, .int .u8 99] 5)) hgm.low; obtain ⟨A2, n2, c2, hv2, hn2, hc2, hr2⟩ := lit_rd hl2 (by decide); cases hv2) | (go_at_call 33; refine Calls.mono (HPK.out _ _ _ hr2 (by decide)) ?_; rintro e w3 ⟨v3, rfl, ho3, hg3⟩))
  have hG3 : Grew w2 w3 := hG2.trans (hg3.mono (hG2.size))
  have hT3 := HF.keep hG3
  have hw3 : Grew w w3 := Grew.tr hg2 hG3
  have hg12 := HF.lt
  have hs23 := hG2.size
  clear HF HT hl2
  obtain ⟨g1, hg1s⟩ : ∃ g1, w1.heap.size = g1 := ⟨_, rfl⟩
  rw [hg1s] at hT3 hg12 ⊢
  obtain ⟨g2, hg2s⟩ : ∃ g2, w2.heap.size = g2 := ⟨_, rfl⟩
  have hsb : g1 < u2.heap.size := by omega
  rw [hg2s]
  obtain ⟨g3, c3, hv3, hb3, hl3, hc3, hm3⟩ := ho3.addr (by decide)
  rw [show sAbc.length = 13 from rfl] at hv3 hc3
  subst hv3
  have hr3 : Rd w3 (some ⟨g3, 0, none⟩) 13 sAbc := by
    obtain ⟨_, _, e, _, _, h⟩ := ho3.rd' (n := 13) rfl
    cases e
    exact h
  have hne3 : g1 ≠ g3 := by omega
  go_wp2_with fail
  refine region_grew [[], [], [], [(1, 19), (2, 20)], [(0, 18), (3, 21)], [(4, 22)], [(5, 17)], [(5, 17)], [(5, 17)], [(6, 23)], [(7, 24)], [(8, 25)]] [(0, 18), (1, 19), (2, 20), (3, 21), (4, 22), (5, 17), (6, 23), (7, 24), (8, 25), (9, 3), (10, 4), (11, 5)] (fun
    | 0 => .eqv (tabV cTab) | 1 => .full [7] | 2 => .eqv (.slice (some ⟨g3, 0, none⟩) 13 c3) | 3 => .own w3.heap.size ([7] ++ sAbc) | 4 => tupF w3.heap.size [97, 98, 99] 14 0 | 5 => tupF w3.heap.size [97, 98, 99] 14 0 | 6 => rdF w3.heap.size [97, 98, 99] | 7 => .eqv (.int .i64 14) | 8 => .eqv (.int .i64 0) | 9 => rdF w3.heap.size [97, 98, 99] | 10 => .eqv (.int .i64 14) | 11 => .eqv (.int .i64 0) | _ => .any) (by kernel_rfl) ?_ ?_
  · refine ⟨fun u hu => ?_, fun u hu => ?_, fun u hu => ?_, fun u hu => ?_, fun u hu => ?_, fun u hu => ?_, fun u hu => ?_, fun u hu => ?_, fun u hu => ?_, fun u hu => ?_, fun u hu => ?_, fun u hu => ?_, trivial⟩
    · refine StepGoal.nil ?_
      go_wp2_with (refine tab_load2 (.inr rfl) rfl rfl (hT3.keep hu) ?_)
      exact ⟨rfl, rfl, Grew.rf _, rfl⟩
    · refine StepGoal.nil ?_
      go_wp2
      exact ⟨rfl, rfl, (Grew.rf _).al _, _, _, rfl, rd_lit' [7] rfl rfl rfl (by decide)⟩
    · refine StepGoal.nil ?_
      go_wp2
      exact ⟨rfl, rfl, Grew.rf _, rfl⟩
    · rintro v19 h19 _ rfl
      obtain ⟨ad, n9, rfl, hr9⟩ := h19 ; obtain rfl : n9 = 1 := hr9.len.symm
      refine StepGoal.nil ?_
      simp only [Act.put, List.setIfInBounds_toArray, List.set_cons_zero, List.set_cons_succ]
      go_wp2_with ((with_reducible refine gate_b .append #[.tmp 19, .tmp 20] _ rfl ?_); refine apps_full (.inr rfl) rfl rfl rfl hr9 (hr3.keep hu) (by decide) (by decide) ?_; intro v8 w8 ho8 hg8)
      exact ⟨rfl, rfl, hg8, ho8.lower hu.size⟩
    · rintro _ rfl v21 h21
      obtain ⟨A7, c7, rfl, hn7, hc7, hr7⟩ := h21.rd' (n := 14) rfl
      refine StepGoal.nil ?_
      simp only [Act.put, List.setIfInBounds_toArray, List.set_cons_zero, List.set_cons_succ]
      go_wp2_with (go_at_call 36; refine Calls.mono (HU1.out _ _ _ hr7 hn7 hc7) ?_; rintro e w' ⟨x, rfl, ht, hg⟩)
      exact ⟨rfl, rfl, hg, tupF_lower ht hu.size⟩
    · rintro v22 h22
      refine StepGoal.nil ?_
      simp only [Act.put, List.setIfInBounds_toArray, List.set_cons_zero, List.set_cons_succ]
      go_wp2
      exact ⟨rfl, rfl, Grew.rf _, h22⟩
    · rintro v17 h17
      obtain ⟨A7, m7, c7, rfl, hr7, hm7, hc7, hf7⟩ := h17
      refine StepGoal.nil ?_
      simp only [Act.put, List.setIfInBounds_toArray, List.set_cons_zero, List.set_cons_succ]
      go_wp2
      exact ⟨rfl, rfl, Grew.rf _, _, _, _, rfl, hm7, hc7, hr7, hf7⟩
    · rintro v17 h17
      obtain ⟨A7, m7, c7, rfl, hr7, hm7, hc7, hf7⟩ := h17
      refine StepGoal.nil ?_
      simp only [Act.put, List.setIfInBounds_toArray, List.set_cons_zero, List.set_cons_succ]
      go_wp2
      exact ⟨rfl, rfl, Grew.rf _, rfl⟩
    · rintro v17 h17
      obtain ⟨A7, m7, c7, rfl, hr7, hm7, hc7, hf7⟩ := h17
      refine StepGoal.nil ?_
      simp only [Act.put, List.setIfInBounds_toArray, List.set_cons_zero, List.set_cons_succ]
      go_wp2
      exact ⟨rfl, rfl, Grew.rf _, rfl⟩
    · rintro v23 h23
      refine StepGoal.nil ?_
      simp only [Act.put, List.setIfInBounds_toArray, List.set_cons_zero, List.set_cons_succ]
      go_wp2
      exact ⟨rfl, rfl, Grew.rf _, h23⟩
    · rintro _ rfl
      refine StepGoal.nil ?_
      simp only [Act.put, List.setIfInBounds_toArray, List.set_cons_zero, List.set_cons_succ]
      go_wp2
      exact ⟨rfl, rfl, Grew.rf _, rfl⟩
    · rintro _ rfl
      refine StepGoal.nil ?_
      simp only [Act.put, List.setIfInBounds_toArray, List.set_cons_zero, List.set_cons_succ]
      go_wp2
      exact ⟨rfl, rfl, Grew.rf _, rfl⟩
  · intro u hu
    rintro _ rfl v19 h19 _ rfl v21 h21 v22 h22 v17 h17 v23 h23 _ rfl _ rfl v3 h3 _ rfl _ rfl
    refine StepGoal.nil ?_
    simp only [Act.put, List.setIfInBounds_toArray, List.set_cons_zero, List.set_cons_succ]
    obtain ⟨A5, m5, c5, rfl, hm5, hc5, hr5, hf5⟩ := h3
    have hr5' := hr5.setOther hf5 (p := ⟨g3, 2, none⟩) hl3 (.int .u8 99)
    have hO5 := ho3.keep hu
    have hT5 := hT3.keep hu
    have hce : u.cell? ⟨g3, 2, none⟩ = some (.int .u8 98) := hO5.cellAt (i := 2) (by decide)
    have hfr := hO5.frozenAt 2
    have hO6 := hO5.store 2 99
    have hT6 := hT5.other hne3 2 (.int .u8 99)
    have hr6 : Rd (u.setCell ⟨g3, 2, none⟩ (.int .u8 99)) (some ⟨g3, 0, none⟩) 13 (sAbc.set 2 99) := by
      obtain ⟨_, _, e, _, _, h⟩ := hO6.rd' (n := 13) rfl
      cases e
      exact h
    clear h17 h22 h21 h19
    go_wp2_with (first | (refine tab_load rfl rfl rfl hT6 ?_) | (go_at_call 36; refine Calls.mono (HU2.out _ _ _ hr6 hc3 hm3) ?_; rintro e w7 ⟨x, rfl, ⟨A7, m7, c7, rfl, hr7, hm7, hc7, hf7⟩, hg7⟩))
    have hT7 := hT6.keep hg7
    have hcut := cut_hi (kh := .i64) (some ⟨g3, 0, none⟩) 13 c3 3 (by omega)
    have hr37 := (hr6.keep hg7).take (i := 3) (by decide)
    have hr57 := hr5'.keep hg7
    have hg37 : Grew w w7 := Grew.tr (Grew.st (Grew.tr hw3 hu) (show w.heap.size ≤ g3 from by have := Below.size hg2; omega) _) hg7
    refine region_grew [[], [], [(1, 43)], [(0, 42), (2, 44)], [(3, 45)], [(4, 41)], [(4, 41)], [(4, 41)], [(5, 46)], [(6, 47)], [(7, 48)]] [(0, 42), (1, 43), (2, 44), (3, 45), (4, 41), (5, 46), (6, 47), (7, 48), (8, 9), (9, 10), (10, 11)] (fun
      | 0 => .eqv (tabV cTab) | 1 => .eqv (.slice (some ⟨g3, 0, none⟩) 13 c3) | 2 => .eqv (.slice (some ⟨g3, 0, none⟩) 3 c3) | 3 => tupF 0 [] 0 7 | 4 => tupF 0 [] 0 7 | 5 => .any | 6 => .eqv (.int .i64 0) | 7 => .eqv (.int .i64 7) | 8 => .any | 9 => .eqv (.int .i64 0) | 10 => .eqv (.int .i64 7) | _ => .any) (by kernel_rfl) ?_ ?_
    · refine ⟨fun u hu => ?_, fun u hu => ?_, fun u hu => ?_, fun u hu => ?_, fun u hu => ?_, fun u hu => ?_, fun u hu => ?_, fun u hu => ?_, fun u hu => ?_, fun u hu => ?_, fun u hu => ?_, trivial⟩
      · refine StepGoal.nil ?_
        go_wp2_with (refine tab_load2 (.inr rfl) rfl rfl (hT7.keep hu) ?_)
        exact ⟨rfl, rfl, Grew.rf _, rfl⟩
      · refine StepGoal.nil ?_
        go_wp2
        exact ⟨rfl, rfl, Grew.rf _, rfl⟩
      · rintro _ rfl
        refine StepGoal.nil ?_
        simp only [Act.put, List.setIfInBounds_toArray, List.set_cons_zero, List.set_cons_succ]
        go_wp2
        exact ⟨rfl, rfl, Grew.rf _, rfl⟩
      · rintro _ rfl _ rfl
        refine StepGoal.nil ?_
        simp only [Act.put, List.setIfInBounds_toArray, List.set_cons_zero, List.set_cons_succ]
        go_wp2_with (go_at_call 36; refine Calls.mono (HU3.out _ _ _ (hr37.keep hu) (by omega) hm3) ?_; rintro e w' ⟨x, rfl, ht, hg⟩)
        exact ⟨rfl, rfl, hg, tupF_lower ht (Nat.zero_le _)⟩
      · rintro v45 h45
        refine StepGoal.nil ?_
        simp only [Act.put, List.setIfInBounds_toArray, List.set_cons_zero, List.set_cons_succ]
        go_wp2
        exact ⟨rfl, rfl, Grew.rf _, h45⟩
      · rintro v41 h41
        obtain ⟨A7, m7, c7, rfl, hr7, hm7, hc7, hf7⟩ := h41
        refine StepGoal.nil ?_
        simp only [Act.put, List.setIfInBounds_toArray, List.set_cons_zero, List.set_cons_succ]
        go_wp2
        exact ⟨rfl, rfl, Grew.rf _, trivial⟩
      · rintro v41 h41
        obtain ⟨A7, m7, c7, rfl, hr7, hm7, hc7, hf7⟩ := h41
        refine StepGoal.nil ?_
        simp only [Act.put, List.setIfInBounds_toArray, List.set_cons_zero, List.set_cons_succ]
        go_wp2
        exact ⟨rfl, rfl, Grew.rf _, rfl⟩
      · rintro v41 h41
        obtain ⟨A7, m7, c7, rfl, hr7, hm7, hc7, hf7⟩ := h41
        refine StepGoal.nil ?_
        simp only [Act.put, List.setIfInBounds_toArray, List.set_cons_zero, List.set_cons_succ]
        go_wp2
        exact ⟨rfl, rfl, Grew.rf _, rfl⟩
      · rintro v46 h46
        refine StepGoal.nil ?_
        simp only [Act.put, List.setIfInBounds_toArray, List.set_cons_zero, List.set_cons_succ]
        go_wp2
        exact ⟨rfl, rfl, Grew.rf _, h46⟩
      · rintro _ rfl
        refine StepGoal.nil ?_
        simp only [Act.put, List.setIfInBounds_toArray, List.set_cons_zero, List.set_cons_succ]
        go_wp2
        exact ⟨rfl, rfl, Grew.rf _, rfl⟩
      · rintro _ rfl
        refine StepGoal.nil ?_
        simp only [Act.put, List.setIfInBounds_toArray, List.set_cons_zero, List.set_cons_succ]
        go_wp2
        exact ⟨rfl, rfl, Grew.rf _, rfl⟩
    · intro u hu
      rintro _ rfl _ rfl _ rfl v45 h45 v41 h41 v46 h46 _ rfl _ rfl v9 h9 _ rfl _ rfl
      refine StepGoal.nil ?_
      simp only [Act.put, List.setIfInBounds_toArray, List.set_cons_zero, List.set_cons_succ]
      have hr8 := hr57.keep hu
      have hs8 := RdK.str (c := c5) hr8
      have hT8 := hT7.keep hu
      obtain rfl : m5 = 3 := hr8.len.symm
      rw [show strOfNums [97, 98, 99] = ⟨#[97, 98, 99]⟩ from rfl] at hs8
      go_wp2_with (first | (refine tab_load2 (.inr rfl) rfl rfl hT8 ?_) | (go_at_call 33; refine Calls.mono (HP0.out _) ?_; rintro e w9 ⟨v9, rfl, ho9, hg9⟩; obtain ⟨A9, c9, rfl, hn9, hc9, hr9⟩ := ho9.rd' (n := 5) pack_none))
      go_ret
      exact ⟨rfl, Grew.tr (hg37.tr hu) hg9⟩
end Go.Proofs.Ytflnopaheanpdaa
