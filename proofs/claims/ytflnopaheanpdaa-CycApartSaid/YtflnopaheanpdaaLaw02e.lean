import Derived.Test.YtflnopaheanpdaaLaw02
import Derived.Test.YtflnopaheanpdaaPureCyc2
set_option linter.unusedVariables false
set_option linter.unusedSimpArgs false
namespace Go.Proofs.Ytflnopaheanpdaa
open Go.RowKit

theorem OwnK.rdg {e : TypeId} {k : IntKind} {w : World} {base : Nat} {v : Value} {xs : List Int} (h : OwnK e k w base v xs) (hn : 0 < xs.length) : ∃ g c, v = .slice (some ⟨g, 0, none⟩) xs.length c ∧ base ≤ g := by
  rcases h.own.2 with ⟨rfl, h0⟩ | ⟨g, cap, cur, rfl, hb, _⟩
  · omega
  · exact ⟨g, cap, rfl, hb⟩

theorem OwnK.rdB {e : TypeId} {k : IntKind} {w : World} {base : Nat} {A : Option Addr} {n c : Nat} {xs : List Int} (h : OwnK e k w base (.slice A n c) xs) : RdK k w A n xs := by
  obtain ⟨A1, c1, he, _, _, hr⟩ := h.rd
  simp only [Value.slice.injEq] at he
  obtain ⟨rfl, rfl, rfl⟩ := he
  exact hr

set_option maxRecDepth 100000 in
set_option maxHeartbeats 1600000 in
theorem cycApart_walk (A0 : Option Addr) (n0 c0 : Nat) (as0 : List Int) (at0 bt0 : Int) (w : World) (hr0 : Rd w A0 n0 as0) (hb0 : Byt as0) (hnc0 : n0 ≤ c0) (hc0 : c0 ≤ 9223372036854775807)
    (ha0 : 0 ≤ at0) (ha1 : at0 ≤ 65535) (hn0 : 0 ≤ bt0) (hn1 : bt0 < 4294967296) :
    Calls Try.prog 5 #[.slice A0 n0 c0, .int .u16 at0, .int .u32 bt0] w fun e w' => e = .returned (.bool true) ∧ Grew w w' := by
  obtain ⟨at1, rfl⟩ := Int.eq_ofNat_of_zero_le ha0
  obtain ⟨bt, rfl⟩ := Int.eq_ofNat_of_zero_le hn0
  have hbt : bt < 4294967296 := by omega
  have hat : at1 ≤ 65535 := by omega
  have HAT := Lib.hid hat
  have HBT := Lib.hid hbt
  clear ha0 ha1 hn0 hn1 hat hbt
  have ra := hr0.take (i := min n0 200) (by omega)
  have ba : Byt (as0.take (min n0 200)) := hb0.take _
  have hs0 := fun w1 (hg : Grew w w1) => short_cut2 A0 n0 c0 w1 as0 (hr0.keep hg) hnc0 hc0
  have HS0 := Lib.hid hs0
  clear hs0
  have hk0 : min n0 200 ≤ 200 := by omega
  generalize min n0 200 = n at *
  generalize as0.take n = xs at *
  have hla := ra.len
  go_enter Try.func5, Try.ntmps5
  go_wp2_with fail
  refine Calls.mono (HS0.out _ ((Grew.rf w).al (.cells #[] 5))) ?_
  rintro e w' ⟨rfl, rfl⟩
  by_cases hz : n = 0
  · have HLA := Lib.hid hla
    clear hla
    subst hz
    go_wp2_with ((with_reducible refine gate_b .append #[.tmp 12, .tmp 14] _ rfl ?_); refine apps rfl rfl rfl rfl (own_lit0 w) (ra.al _) ((Grew.rf w).al _) (by simp) (by simp) ?_; intro v3 w3 ho3 hg3 hb3; rw [List.nil_append] at ho3; obtain ⟨AX, cX, rfl, hcX, hcX2, hrX⟩ := ho3.rd' HLA.out)
    go_wp2_with (go_at_call 17; refine Calls.mono (awake2_any _) ?_; rintro e w6 ⟨rfl, hg6⟩)
    go_ret
    exact ⟨rfl, Grew.tr hg3 hg6⟩
  · have HLA := Lib.hid hla
    clear hla
    have hnz : (n : Int) ≠ 0 := by omega
    have hbz : decide ((n : Int) = 0) = false := decide_eq_false hnz
    obtain ⟨R, hR⟩ : ∃ R, cSum cTab xs = R := ⟨_, rfl⟩
    have hsum := fun (u : World) A c (hP : Parts u A 1 [xs]) => sum_any cTab cTab_len cTab_wrd A 1 c _ u hP (by decide)
    rw [show [xs].flatten = xs by simp, hR] at hsum
    have HSUM := Lib.hid hsum
    have HR := Lib.hid hR
    clear hsum hR
    go_wp2_with ((with_reducible refine gate_b .append #[.tmp 12, .tmp 14] _ rfl ?_); refine apps rfl rfl rfl rfl (own_lit0 w) (ra.al _) ((Grew.rf w).al _) (by simp) (by simp; omega) ?_; intro v3 w3 ho3 hg3 hb3; rw [List.nil_append] at ho3; obtain ⟨g, cX, hv, hgb⟩ := ho3.rdg (by rw [HLA.out]; omega); rw [HLA.out] at hv; subst hv; have HO3 := Lib.hid ho3; clear ho3)
    refine Calls.mono (table_any _) ?_
    rintro e w4 ⟨rfl, hg4⟩
    have hg4' : Grew w w4 := Grew.tr hg3 hg4
    have ho4 := HO3.out.keep hg4
    go_wp2_with fail
    refine Calls.mono (HSUM.out _ _ _ (Parts.lit (vs := [_]) (PartsAt.cons ho4.rdB (by omega) ba (PartsAt.nil _)) rfl rfl rfl)) ?_
    rintro e w5 ⟨rfl, hg5⟩
    have hg5' : Grew w w5 := (hg4'.al _).tr hg5
    have ho5 := (ho4.al _).keep hg5
    obtain ⟨p, hp⟩ : ∃ p, at1 % (8 * n) = p := ⟨_, rfl⟩
    have hpi : (at1 : Int) % (8 * (n : Int)) = (p : Int) := by rw [← hp, Int.natCast_emod, Int.natCast_mul]; rfl
    have hpb : p < 8 * n := by rw [← hp]; exact Nat.mod_lt _ (by omega)
    have hwa : wrap64 (at1 : Int) = (at1 : Int) := by unfold wrap64; have := HAT.out; omega
    have hpt : (at1 : Int).tmod (8 * (n : Int)) = (p : Int) := by rw [Int.tmod_eq_emod_of_nonneg (by omega)]; exact hpi
    clear hpi
    have HO5 := Lib.hid ho5
    clear hp ho5 ho4 HO3
    go_wp2
    go_loopw [9, 10] (fun b9 i wr => ∃ (j : Nat) (zs : List Int), i = .int .i64 j ∧ j ≤ 32 ∧ b9 = .bool (decide (maskB bt p (8 * n) j = 0)) ∧ Own wr w.heap.size (.slice (some ⟨g, 0, none⟩) n cX) zs ∧ Byt zs ∧ zs.length = n ∧ valB zs = valB xs ^^^ 2 ^ p * maskB bt p (8 * n) j ∧ Grew w wr) (fun _ i _ => 32 - (intOf i).toNat)
    case atStart => exact ⟨0, xs, rfl, by omega, rfl, HO5.out, ba, HLA.out, by simp [maskB], hg5'⟩
    case round =>
      obtain ⟨j, zs, rfl, hj, rfl, hO, hzb, hzl, hzv, hB⟩ := hrel
      by_cases hlt : j < 32
      · have hbit : bits .and .u32 ((bt : Int) / 2 ^ j) 1 = if bt.testBit j = true then 1 else 0 := by
          have h1 : ((bt : Int) / 2 ^ j) = ((bt / 2 ^ j : Nat) : Int) := by rw [Int.natCast_ediv, Int.natCast_pow]; rfl
          have h2 := u32_and_nat (bt / 2 ^ j) 1 (Nat.lt_of_le_of_lt (Nat.div_le_self _ _) HBT.out) (by omega)
          rw [Nat.and_one_is_mod] at h2
          rw [h1]
          refine h2.trans ?_
          rw [Nat.testBit_eq_decide_div_mod_eq]
          rcases Nat.mod_two_eq_zero_or_one (bt / 2 ^ j) with h | h <;> rw [h] <;> rfl
        by_cases c1 : bt.testBit j = true
        · rw [if_pos c1] at hbit
          by_cases c2 : p + j < 8 * n
          · have hc2 : decide ((p : Int) + (j : Int) < 8 * (n : Int)) = true := decide_eq_true (by omega)
            have hce := hO.cellAt (i := (p + j) / 8) (by omega)
            have hfr := hO.frozenAt ((p + j) / 8)
            obtain ⟨x, hx⟩ : ∃ x, zs.getD ((p + j) / 8) 0 = x := ⟨_, rfl⟩
            have hxb := byt_get hzb (j := (p + j) / 8) (by omega)
            rw [hx] at hce hxb
            have HC1 := Lib.hid c1
            have HOO := Lib.hid hO
            clear c1 hO
            go_wp2_with fail
            go_roundw
            case rel =>
              have hnew := valB_flip hzb (k := p + j) (by rw [hzl]; exact c2)
              have hnb := byt_flip hzb (p + j)
              have hst := HOO.out.store ((p + j) / 8) ((((zs.getD ((p + j) / 8) 0).toNat ^^^ 2 ^ ((p + j) % 8) : Nat)) : Int)
              refine ⟨j + 1, _, by go_num, by omega, congrArg Value.bool (decide_eq_false (maskB_succ_ne bt p (8 * n) j ⟨HC1.out, c2⟩)).symm, ?_, hnb, by rw [List.length_set]; exact hzl, ?_, hB.st hgb _⟩
              · have hv : bits .xor .u8 x (2 ^ ((p + j) % 8) % 256) = (((zs.getD ((p + j) / 8) 0).toNat ^^^ 2 ^ ((p + j) % 8) : Nat) : Int) := by
                  have hp2 : 2 ^ ((p + j) % 8) < 2 ^ 8 := Nat.pow_lt_pow_right (by omega) (by omega)
                  have h1 := u8_xor_nat x.toNat (2 ^ ((p + j) % 8)) (by omega) hp2
                  rw [Int.toNat_of_nonneg hxb.1] at h1
                  rw [hx, ← h1]
                  congr 1
                  have h3 : ((2 ^ ((p + j) % 8) : Nat) : Int) = 2 ^ ((p + j) % 8) := by rw [Int.natCast_pow]; rfl
                  have h4 : ((2 ^ ((p + j) % 8) : Nat) : Int) % 256 = ((2 ^ ((p + j) % 8) : Nat) : Int) := by
                    generalize (2 ^ ((p + j) % 8) : Nat) = z at hp2 ⊢
                    omega
                  rw [← h3]
                  exact h4
                rw [hv]
                exact hst
              · rw [hnew, hzv, maskB, if_pos ⟨HC1.out, c2⟩, shl_xor, Nat.xor_assoc, Nat.pow_add]
            case measure => simp [intOf]; omega
          · have hc2 : decide ((p : Int) + (j : Int) < 8 * (n : Int)) = false := decide_eq_false (by omega)
            have hm : maskB bt p (8 * n) (j + 1) = maskB bt p (8 * n) j := by rw [maskB, if_neg (fun h => c2 h.2)]
            have HM := Lib.hid hm
            clear hm c1
            go_wp2_with fail
            go_roundw
            case rel => exact ⟨j + 1, zs, by go_num, by omega, by rw [HM.out], hO, hzb, hzl, by rw [HM.out]; exact hzv, hB⟩
            case measure => simp [intOf]; omega
        · rw [if_neg c1] at hbit
          have hm : maskB bt p (8 * n) (j + 1) = maskB bt p (8 * n) j := by rw [maskB, if_neg (fun h => c1 h.1)]
          have HM := Lib.hid hm
          clear hm c1
          go_wp2_with fail
          go_roundw
          case rel => exact ⟨j + 1, zs, by go_num, by omega, by rw [HM.out], hO, hzb, hzl, by rw [HM.out]; exact hzv, hB⟩
          case measure => simp [intOf]; omega
      · have hj32 : j = 32 := by omega
        subst hj32
        have hm := maskB_lt bt p (8 * n) 32
        have hap := sum_apart (p := p) ba hzb (by rw [hzl, HLA.out]) hzv hm (by rw [HLA.out]; omega)
        obtain ⟨R2, hR2⟩ : ∃ R2, cSum cTab zs = R2 := ⟨_, rfl⟩
        rw [HR.out, hR2] at hap
        have hsum2 := fun (u : World) A c (hP : Parts u A 1 [zs]) => sum_any cTab cTab_len cTab_wrd A 1 c _ u hP (by decide)
        rw [show [zs].flatten = zs by simp, hR2] at hsum2
        have HSUM2 := Lib.hid hsum2
        have HO6 := Lib.hid hO
        generalize maskB bt p (8 * n) 32 = mm at *
        have hfin : (decide ((R2 : Int) = (R : Int)) == decide (mm = 0)) = true := by
          rw [beq_iff_eq, decide_eq_decide, ← hap]
          omega
        clear hsum2 hR2 hO hap hzv hm
        go_wp2_with (first | (go_at_call 17; refine Calls.mono (awake2_any _) ?_; rintro e w6 ⟨rfl, hg6⟩) | (go_at_call 16; refine Calls.mono (table_any _) ?_; rintro e w7 ⟨rfl, hg7⟩) | (go_at_call 19; refine Calls.mono (HSUM2.out _ _ _ (Parts.lit (vs := [_]) (PartsAt.cons (HO6.out.rdB.keep (Grew.tr hg6 hg7)) (by omega) hzb (PartsAt.nil _)) rfl rfl rfl)) ?_; rintro e w8 ⟨rfl, hg8⟩))
        go_ret
        exact ⟨retb hfin, (((hB.tr hg6).tr hg7).al _).tr hg8⟩
end Go.Proofs.Ytflnopaheanpdaa
