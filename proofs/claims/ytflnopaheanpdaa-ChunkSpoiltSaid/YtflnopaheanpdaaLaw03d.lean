/- Chunk's laws: the walk of ChunkSpoilt. -/
import Derived.Test.YtflnopaheanpdaaLaw03c
import Derived.Test.YtflnopaheanpdaaPureChunk3
set_option linter.unusedVariables false
set_option linter.unusedSimpArgs false
namespace Go.Proofs.Ytflnopaheanpdaa
open Go.RowKit

theorem getD_mid {hd t tl : List Int} {q i : Nat} (hq : q < t.length) (hi : i = hd.length + q) : (hd ++ (t ++ tl)).getD i 0 = t.getD q 0 := by
  subst hi
  rw [List.getD_eq_getElem?_getD, List.getD_eq_getElem?_getD, List.getElem?_append_right (by omega), show hd.length + q - hd.length = q by omega, List.getElem?_append_left hq]
theorem set_mid {hd t tl : List Int} {q i : Nat} (hq : q < t.length) (hi : i = hd.length + q) (v : Int) : (hd ++ (t ++ tl)).set i v = hd ++ (t.set q v ++ tl) := by
  subst hi
  rw [List.set_append_right _ _ (by omega), show hd.length + q - hd.length = q by omega, List.set_append_left _ _ hq]

set_option maxRecDepth 100000 in
set_option maxHeartbeats 3200000 in
theorem chunkSpoilt_walk (A0 : Option Addr) (n0 c0 : Nat) (as0 : List Int) (wh at0 bt0 : Int) (w : World) (hr0 : Rd w A0 n0 as0) (hb0 : Byt as0) (hnc0 : n0 ≤ c0) (hc0 : c0 ≤ 9223372036854775807)
    (hw0 : 0 ≤ wh) (hw1 : wh ≤ 65535) (ha0 : 0 ≤ at0) (ha1 : at0 ≤ 65535) (hn0 : 0 ≤ bt0) (hn1 : bt0 < 4294967296) :
    Calls Try.prog 14 #[.slice A0 n0 c0, .int .u16 wh, .int .u16 at0, .int .u32 bt0] w fun e w' => e = .returned (.bool true) ∧ Grew w w' := by
  obtain ⟨wh1, rfl⟩ := Int.eq_ofNat_of_zero_le hw0
  obtain ⟨at1, rfl⟩ := Int.eq_ofNat_of_zero_le ha0
  obtain ⟨bt, rfl⟩ := Int.eq_ofNat_of_zero_le hn0
  have hbt : bt < 4294967296 := by omega
  have hat : at1 ≤ 65535 := by omega
  have hwh : wh1 ≤ 65535 := by omega
  have HAT := Lib.hid hat
  have HWH := Lib.hid hwh
  have HBT := Lib.hid hbt
  clear ha0 ha1 hn0 hn1 hat hbt hw0 hw1 hwh
  have ra := hr0.take (i := min n0 900) (by omega)
  have ba : Byt (as0.take (min n0 900)) := hb0.take _
  have hs0 := fun w1 => short_cut3 A0 n0 c0 w1 hnc0 hc0
  have HS0 := Lib.hid hs0
  clear hs0
  have hk0 : min n0 900 ≤ 900 ∧ min n0 900 ≤ c0 := by omega
  generalize min n0 900 = n at *
  generalize as0.take n = xs at *
  have hla := ra.len
  have hpk := fun (u : World) (hg : Grew w u) => cpack_any cTab cTab_len cTab_wrd A0 n c0 xs u (ra.keep hg) ba (by omega) hk0.2
  have HPK := Lib.hid hpk
  have HLA := Lib.hid hla
  have hge := packL_ge cTab _ xs (Nat.le_refl _)
  have hle := packL_le cTab xs (by omega)
  clear hpk hla
  by_cases hz : n = 0
  · subst hz
    go_enter Try.func14, Try.ntmps14
    go_wp2_with (first | (go_at_call 16; refine Calls.mono (table_any _) ?_; rintro e w1 ⟨rfl, hg1⟩) | (refine tab_alloc rfl rfl ?_; intro HTA) | (refine tab_storeA rfl rfl rfl rfl HTA cTab_len (hg1.al (.cells (nums .u32 zT).toArray 24)) hg1.size ?_; intro wr HF hg2) | (go_at_call 34; refine Calls.mono (HS0.out _) ?_; rintro e w' ⟨rfl, rfl⟩) | (refine tab_load rfl rfl rfl HF ?_) | (go_at_call 33; refine Calls.mono (HPK.out _ hg2) ?_; rintro e w3 ⟨v3, rfl, ho3, hg3⟩; have hg3 : Grew wr w3 := hg3) | (go_at_call 32; refine Calls.mono (awake3_any _) ?_; rintro e w9 ⟨rfl, hg9⟩))
    go_ret
    exact ⟨rfl, Grew.tr (Grew.tr hg2 hg3) hg9⟩
  · obtain ⟨L, hL⟩ : ∃ L, (packL cTab xs).length = L := ⟨_, rfl⟩
    rw [hL, HLA.out] at hge
    rw [hL] at hle
    have hdz : decide ((n : Int) = 0) = false := decide_eq_false (by omega)
    have hdl : decide ((L : Int) = 0) = false := decide_eq_false (by omega)
    obtain ⟨pc, hpc⟩ : ∃ pc, (n + 255) / 256 = pc := ⟨_, rfl⟩
    obtain ⟨K, hK⟩ : ∃ K, wh1 % pc = K := ⟨_, rfl⟩
    have hpc1 : 0 < pc := by omega
    have hKl : K < pc := by rw [← hK]; exact Nat.mod_lt _ hpc1
    have hKn : 256 * K < n := by omega
    have hpc2 : ((n : Int) + 255).tdiv 256 = (pc : Int) := by rw [Int.tdiv_eq_ediv_of_nonneg (by omega)]; omega
    have hpc3 : ((n : Int) + 255) / 256 = (pc : Int) := by omega
    have hK2 : (wh1 : Int) % (pc : Int) = (K : Int) := by rw [← hK, Int.natCast_emod]
    have hK3 : (wh1 : Int).tmod (pc : Int) = (K : Int) := by rw [Int.tmod_eq_emod_of_nonneg (by omega)]; exact hK2
    have hpz : (pc : Int) ≠ 0 := by omega
    have hwa : wrap64 (wh1 : Int) = (wh1 : Int) := by unfold wrap64; have := HWH.out; omega
    have hwb : wrap64 (at1 : Int) = (at1 : Int) := by unfold wrap64; have := HAT.out; omega
    have hpb : pc ≤ 4 := by omega
    clear hpc hK
    go_enter Try.func14, Try.ntmps14
    go_wp2_with (first | (go_at_call 16; refine Calls.mono (table_any _) ?_; rintro e w1 ⟨rfl, hg1⟩) | (refine tab_alloc rfl rfl ?_; intro HTA) | (refine tab_storeA rfl rfl rfl rfl HTA cTab_len (hg1.al (.cells (nums .u32 zT).toArray 24)) hg1.size ?_; intro wb HF hg2) | (go_at_call 34; refine Calls.mono (HS0.out _) ?_; rintro e w' ⟨rfl, rfl⟩) | (refine tab_load rfl rfl rfl HF ?_) | (go_at_call 33; refine Calls.mono (HPK.out _ hg2) ?_; rintro e w3 ⟨v3, rfl, ho3, hg3⟩; have hg3 : Grew wb w3 := hg3; obtain ⟨gs, cs, hv3, hb3, hl3, hc3, hm3⟩ := ho3.addr (by rw [hL]; omega); rw [hL] at hv3 hc3; subst hv3))
    have hg3w : Grew w w3 := Grew.tr hg2 hg3
    have hT3 := HF.keep hg3
    have hlt1 := HF.lt
    obtain ⟨g1, hg1s⟩ : ∃ g1, w1.heap.size = g1 := ⟨_, rfl⟩
    rw [hg1s] at hT3 hlt1 ⊢
    have hne : g1 ≠ gs := by omega
    have hwgs : w.heap.size ≤ gs := Nat.le_trans (Below.size hg2) hb3
    have HO3 := Lib.hid ho3
    have HT3 := Lib.hid hT3
    clear hg3 ho3 HF HTA hg1s hT3 hdz hdl hwa
    go_loop [14, 15, 16, 17] (fun f s h i => ∃ (j F S H : Nat), i = .int .i64 (j : Int) ∧ f = .int .i64 (F : Int) ∧ s = .int .i64 (S : Int) ∧ h = .int .i64 (H : Int) ∧ j ≤ K + 1 ∧ (j = 0 → F = 0 ∧ S = 0 ∧ H = 0) ∧ (∀ i, j = i + 1 → F = (headF i cTab xs).length ∧ S = min 256 (n - 256 * i) ∧ H = if 127 < S then 2 else 1)) (fun _ _ _ i => K + 1 - (intOf i).toNat)
    case atStart => exact ⟨0, 0, 0, 0, rfl, rfl, rfl, rfl, by omega, fun _ => ⟨rfl, rfl, rfl⟩, fun i h => by omega⟩
    case round =>
      obtain ⟨j, F, S, H, rfl, rfl, rfl, rfl, hj, hj0, hj1⟩ := hrel
      by_cases hjK : j ≤ K
      · obtain ⟨F2, hF2⟩ : ∃ F2, (headF j cTab xs).length = F2 := ⟨_, rfl⟩
        obtain ⟨S2, hS2⟩ : ∃ S2, min 256 (n - 256 * j) = S2 := ⟨_, rfl⟩
        obtain ⟨H2, hH2⟩ : ∃ H2, (if 127 < S2 then 2 else 1 : Nat) = H2 := ⟨_, rfl⟩
        have hnew : F2 = F + (H + S) + (if 0 < j then 4 else 0) ∧ F ≤ 2000 ∧ S ≤ 256 ∧ H ≤ 2 := by
          rcases Nat.eq_zero_or_pos j with h | h
          · subst h
            obtain ⟨e1, e2, e3⟩ := hj0 rfl
            subst e1; subst e2; subst e3
            simp [headF] at hF2
            simp [← hF2]
          · obtain ⟨i, rfl⟩ : ∃ i, j = i + 1 := ⟨j - 1, by omega⟩
            obtain ⟨e1, e2, e3⟩ := hj1 i rfl
            have h4 := headF_at cTab xs i
            have h5 := headF_len cTab i xs
            have h6 : 270 * i ≤ 270 * 4 := Nat.mul_le_mul_left _ (by omega)
            rw [HLA.out, ← e2, ← e3, ← e1, hF2] at h4
            rw [if_pos h]
            refine ⟨by omega, by omega, by omega, ?_⟩
            rw [e3]
            split <;> omega
        have hfin : ∀ i, j + 1 = i + 1 → F2 = (headF i cTab xs).length ∧ S2 = min 256 (n - 256 * i) ∧ H2 = if 127 < S2 then 2 else 1 := fun i hi => by
          obtain rfl : i = j := by omega
          exact ⟨hF2.symm, hS2.symm, hH2.symm⟩
        have HFIN := Lib.hid hfin
        obtain ⟨hn1, hn2, hn3, hn4⟩ := hnew
        clear hfin hF2 hj0 hj1
        have hd1 : 256 < n - 256 * j → (256 : Int) < (n : Int) - 256 * (j : Int) := fun h => by omega
        by_cases c1 : 0 < j <;> by_cases c2 : 256 < n - 256 * j <;> by_cases c3 : 127 < S2
        all_goals
          first | rw [if_pos c1] at hn1 | rw [if_neg c1] at hn1
          first | rw [if_pos c3] at hH2 | rw [if_neg c3] at hH2
          have hS3 : if 256 < n - 256 * j then S2 = 256 else S2 = n - 256 * j := by split <;> omega
          first | rw [if_pos c2] at hS3 | rw [if_neg c2] at hS3
          clear hS2
          first
          | (exfalso; omega)
          | (subst hS3
             go_wp2_with fail
             go_round
             case rel => exact ⟨j + 1, F2, _, H2, by go_num, congrArg (Value.int .i64) (by omega), congrArg (Value.int .i64) (by omega), congrArg (Value.int .i64) (by omega), by omega, fun h => by omega, HFIN.out⟩
             case measure => simp [intOf]; omega)
      · obtain rfl : j = K + 1 := by omega
        obtain ⟨e1, e2, e3⟩ := hj1 K rfl
        clear hj0 hj1
        obtain ⟨hd, hhd⟩ : ∃ hd, headF K cTab xs = hd := ⟨_, rfl⟩
        obtain ⟨ys, hys⟩ : ∃ ys, (xs.drop (256 * K)).take 256 = ys := ⟨_, rfl⟩
        obtain ⟨t0, ht0⟩ : ∃ t0, pieceL cTab ys = t0 := ⟨_, rfl⟩
        obtain ⟨tl, htl⟩ : ∃ tl, packL cTab (xs.drop (256 * (K + 1))) = tl := ⟨_, rfl⟩
        have hat := packL_at cTab (xs := xs) (k := K) (by rw [HLA.out]; exact hKn)
        rw [hhd, hys, ht0, htl] at hat
        have hyl : ys.length = S := by rw [← hys, List.length_take, List.length_drop, HLA.out, e2]
        have hS1 : 1 ≤ S ∧ S ≤ 256 := by omega
        have hHl : (leb (S : Int)).length = H := by rw [leb_small S (by omega), e3]
        have hH2 : H ≤ 2 := by rw [e3]; split <;> omega
        have ht0l : t0.length = H + S + 4 := by rw [← ht0, piece_size, hyl, hHl]
        have hhl : hd.length = F := by rw [← hhd, e1]
        have hLs : L = F + (H + S + 4) + tl.length := by rw [← hL, hat, List.length_append, List.length_append, hhl, ht0l]; omega
        have hyb : Byt ys := by rw [← hys]; exact (ba.drop _).take _
        have ht0b : Byt t0 := by rw [← ht0]; exact pieceL_byt cTab_wrd hyb (by omega)
        have htlb : Byt tl := by rw [← htl]; exact packL_byt cTab_wrd (ba.drop _)
        have hhb : Byt hd := by rw [← hhd]; exact headF_byt cTab_wrd K ba
        have ht0h : t0.take H = leb (S : Int) := by
          rw [← ht0]
          unfold pieceL
          rw [hyl, List.append_assoc]
          exact take_app _ _ hHl.symm
        have hspoil : ∀ (t : List Int) (p m : Nat), Byt t → t.length = H + S + 4 → t.take H = t0.take H → valB t = valB t0 ^^^ 2 ^ p * m → m < 4294967296 → p ≤ 8 * (H + S + 4) → m ≠ 0 → unpackL cTab (hd ++ (t ++ tl)) 0 = ([], 0, 6) := by
          intro t p m h1 h2 h3 h4 h5 h6 h7
          rw [← hhd]
          refine unpack_spoilt (x := xs) (k := K) (p := p) (m := m) ba (by rw [HLA.out]; omega) h1 htlb ?_ ?_ ?_ h5 (by rw [h2]; exact h6) h7
          · rw [hys, ht0, h2, ht0l]
          · rw [hys, hyl, hHl, h3, ht0h]
          · rw [hys, ht0]; exact h4
        have hround : unpackL cTab (hd ++ (t0 ++ tl)) 0 = (xs, (L : Int), 0) := by
          have h1 := unpackL_round (T := cTab) (pre := []) (xs := xs) (post := []) cTab_wrd ba (byt_of rfl)
          rw [List.nil_append, List.append_nil, hat, List.length_nil, Int.natCast_zero, Int.zero_add, ← hat, hL] at h1
          rw [← hat]
          exact h1
        obtain ⟨P, hP⟩ : ∃ P, at1 % (8 * (S + 4)) = P := ⟨_, rfl⟩
        have hPb : P < 8 * (S + 4) := by rw [← hP]; exact Nat.mod_lt _ (by omega)
        have hO3 := HO3.out
        rw [hat] at hO3
        have HO4 := Lib.hid hO3
        have HSP := Lib.hid hspoil
        have HRO := Lib.hid hround
        have HT0 := Lib.hid ht0h
        clear hO3 HO3 hspoil hround ht0h hat ht0 hys hhd htl hyl hHl e1 e2 e3 HPK
        have HLL := Lib.hid hLs
        have HT0L := Lib.hid ht0l
        have HHL := Lib.hid hhl
        have hle2 : F + H + S + 4 ≤ L := by omega
        clear hLs ht0l hhl
        go_wp2_with fail
        rw [show 8 * ((F : Int) + (H : Int)) = ((8 * (F + H) : Nat) : Int) by omega, show 8 * ((F : Int) + (H : Int) + (S : Int) + 4) = ((8 * (F + H + S + 4) : Nat) : Int) by omega]
        obtain ⟨fi, hfi⟩ : ∃ fi, fi = 8 * (F + H) := ⟨_, rfl⟩
        obtain ⟨la, hla⟩ : ∃ la, la = 8 * (F + H + S + 4) := ⟨_, rfl⟩
        rw [← hfi, ← hla]
        have hfl : fi < la ∧ la ≤ 20000 ∧ la ≤ 8 * L := by omega
        have HFI := Lib.hid hfi
        have HLS := Lib.hid hla
        clear hfi hla
        go_loopw [18, 21] (fun b i wq => ∃ (j : Nat) (t : List Int), i = .int .i64 (j : Int) ∧ j ≤ 32 ∧ b = .bool (decide (maskB bt (8 * H + P) (8 * (H + S + 4)) j = 0)) ∧
          Own wq wb.heap.size (.slice (some ⟨gs, 0, none⟩) L cs) (hd ++ (t ++ tl)) ∧ Byt t ∧ t.length = H + S + 4 ∧ t.take H = t0.take H ∧ valB t = valB t0 ^^^ 2 ^ (8 * H + P) * maskB bt (8 * H + P) (8 * (H + S + 4)) j ∧ (maskB bt (8 * H + P) (8 * (H + S + 4)) j = 0 → t = t0) ∧ Grew w wq ∧ TabAt wq g1 cTab) (fun _ i _ => 32 - (intOf i).toNat)
        case atStart => exact ⟨0, t0, rfl, by omega, rfl, HO4.out, ht0b, HT0L.out, rfl, by simp [maskB], fun _ => rfl, hg3w, HT3.out⟩
        case round =>
          obtain ⟨j, t, rfl, hj, rfl, hO, htb, htl2, hth, htv, ht0e, hB, hTq⟩ := hrel
          have hfi := HFI.out
          have hla := HLS.out
          have hLs := HLL.out
          have hhl := HHL.out
          have hpt : (at1 : Int).tmod ((la : Int) - (fi : Int)) = (P : Int) := by
            rw [show (la : Int) - (fi : Int) = ((8 * (S + 4) : Nat) : Int) by omega, Int.tmod_eq_emod_of_nonneg (by omega), ← hP, Int.natCast_emod]
          have hpz2 : (la : Int) - (fi : Int) ≠ 0 := by omega
          have HTQ := Lib.hid hTq
          have HTE := Lib.hid ht0e
          have HTV := Lib.hid htv
          have HTH := Lib.hid hth
          clear hTq ht0e htv hth
          by_cases hlt : j < 32
          · have hbit : bits .and .u32 ((bt : Int) / 2 ^ j) 1 = if bt.testBit j = true then 1 else 0 := by
              have h1 : ((bt : Int) / 2 ^ j) = ((bt / 2 ^ j : Nat) : Int) := by rw [Int.natCast_ediv, Int.natCast_pow]; rfl
              have h2 := u32_and_nat (bt / 2 ^ j) 1 (Nat.lt_of_le_of_lt (Nat.div_le_self _ _) HBT.out) (by omega)
              rw [Nat.and_one_is_mod] at h2
              rw [h1]
              refine h2.trans ?_
              rw [Nat.testBit_eq_decide_div_mod_eq]
              rcases Nat.mod_two_eq_zero_or_one (bt / 2 ^ j) with h | h <;> rw [h] <;> rfl
            by_cases c1 : bt.testBit j = true
            · rw [if_pos c1] at hbit
              by_cases c2 : 8 * H + P + j < 8 * (H + S + 4)
              · have hc2 : decide ((fi : Int) + (P : Int) + (j : Int) < (la : Int)) = true := decide_eq_true (by omega)
                have hlt3 : fi + P + j < la := by omega
                have hqi : (fi + P + j) / 8 = hd.length + (8 * H + P + j) / 8 := by omega
                have hql : (8 * H + P + j) / 8 < t.length := by omega
                have hce := hO.cellAt (i := (fi + P + j) / 8) (by omega)
                rw [getD_mid hql hqi] at hce
                have hfr := hO.frozenAt ((fi + P + j) / 8)
                obtain ⟨x, hx⟩ : ∃ x, t.getD ((8 * H + P + j) / 8) 0 = x := ⟨_, rfl⟩
                have hxb := byt_get htb (j := (8 * H + P + j) / 8) hql
                rw [hx] at hce hxb
                have HC1 := Lib.hid c1
                have HOO := Lib.hid hO
                have HQI := Lib.hid hqi
                have HTL := Lib.hid htl2
                clear c1 hO hqi hfi hla hLs hhl htl2
                go_wp2_with fail
                go_roundw
                case rel =>
                  have hqi := HQI.out
                  have hfi := HFI.out
                  have htl2 := HTL.out
                  have hnew := valB_flip htb (k := 8 * H + P + j) (by rw [htl2]; exact c2)
                  have hnb := byt_flip htb (8 * H + P + j)
                  have hst := HOO.out.store ((fi + P + j) / 8) ((((t.getD ((8 * H + P + j) / 8) 0).toNat ^^^ 2 ^ ((8 * H + P + j) % 8) : Nat)) : Int)
                  rw [set_mid hql hqi] at hst
                  have hmne := maskB_succ_ne bt (8 * H + P) (8 * (H + S + 4)) j ⟨HC1.out, c2⟩
                  have hv : bits .xor .u8 x (2 ^ ((fi + P + j) % 8) % 256) = (((t.getD ((8 * H + P + j) / 8) 0).toNat ^^^ 2 ^ ((8 * H + P + j) % 8) : Nat) : Int) := by
                    have e8 : (fi + P + j) % 8 = (8 * H + P + j) % 8 := by omega
                    rw [e8]
                    have hp2 : 2 ^ ((8 * H + P + j) % 8) < 2 ^ 8 := Nat.pow_lt_pow_right (by omega) (by omega)
                    have h1 := u8_xor_nat x.toNat (2 ^ ((8 * H + P + j) % 8)) (by omega) hp2
                    rw [Int.toNat_of_nonneg hxb.1] at h1
                    rw [hx, ← h1]
                    congr 1
                    have h3 : ((2 ^ ((8 * H + P + j) % 8) : Nat) : Int) = 2 ^ ((8 * H + P + j) % 8) := by rw [Int.natCast_pow]; rfl
                    have h4 : ((2 ^ ((8 * H + P + j) % 8) : Nat) : Int) % 256 = ((2 ^ ((8 * H + P + j) % 8) : Nat) : Int) := by
                      generalize (2 ^ ((8 * H + P + j) % 8) : Nat) = z at hp2 ⊢
                      omega
                    rw [← h3]
                    exact h4
                  refine ⟨j + 1, _, by go_num, by omega, congrArg Value.bool (decide_eq_false hmne).symm, ?_, hnb, by rw [List.length_set]; exact htl2, ?_, ?_, fun h => absurd h hmne, hB.st hwgs _, HTQ.out.other hne _ _⟩
                  · rw [hv]
                    exact hst
                  · rw [List.take_set_of_le (by omega)]
                    exact HTH.out
                  · rw [hnew, HTV.out, maskB, if_pos ⟨HC1.out, c2⟩, shl_xor, Nat.xor_assoc, Nat.pow_add 2 (8 * H + P) j]
                case measure => simp [intOf]; omega
              · have hc2 : decide ((fi : Int) + (P : Int) + (j : Int) < (la : Int)) = false := decide_eq_false (by omega)
                have hm : maskB bt (8 * H + P) (8 * (H + S + 4)) (j + 1) = maskB bt (8 * H + P) (8 * (H + S + 4)) j := by rw [maskB, if_neg (fun h => c2 h.2)]
                have HM := Lib.hid hm
                have HTL := Lib.hid htl2
                clear hm c1 hfi hla hLs hhl htl2
                go_wp2_with fail
                go_roundw
                case rel => exact ⟨j + 1, t, by go_num, by omega, by rw [HM.out], hO, htb, HTL.out, HTH.out, by rw [HM.out]; exact HTV.out, by rw [HM.out]; exact HTE.out, hB, HTQ.out⟩
                case measure => simp [intOf]; omega
            · rw [if_neg c1] at hbit
              have hm : maskB bt (8 * H + P) (8 * (H + S + 4)) (j + 1) = maskB bt (8 * H + P) (8 * (H + S + 4)) j := by rw [maskB, if_neg (fun h => c1 h.1)]
              have HM := Lib.hid hm
              have HTL := Lib.hid htl2
              clear hm c1 hfi hla hLs hhl htl2
              go_wp2_with fail
              go_roundw
              case rel => exact ⟨j + 1, t, by go_num, by omega, by rw [HM.out], hO, htb, HTL.out, HTH.out, by rw [HM.out]; exact HTV.out, by rw [HM.out]; exact HTE.out, hB, HTQ.out⟩
              case measure => simp [intOf]; omega
          · obtain rfl : j = 32 := by omega
            have hm := maskB_lt bt (8 * H + P) (8 * (H + S + 4)) 32
            have htbb : Byt (hd ++ (t ++ tl)) := hhb.app (htb.app htlb)
            have hrs : Rd wr (some ⟨gs, 0, none⟩) L (hd ++ (t ++ tl)) := by
              obtain ⟨_, _, e, _, _, h⟩ := hO.rd' (n := L) (by rw [List.length_append, List.length_append, htl2, hhl]; omega)
              cases e
              exact h
            have hHP : 8 * H + P ≤ 8 * (H + S + 4) := by omega
            have hm4 : maskB bt (8 * H + P) (8 * (H + S + 4)) 32 < 4294967296 := hm
            clear hm
            generalize maskB bt (8 * H + P) (8 * (H + S + 4)) 32 = mm at *
            have HM := Lib.hid hm4
            clear hm4
            by_cases hmm : mm = 0
            · have ht1 := HTE.out hmm
              subst ht1
              have hun := cunpack_to cTab cTab_len cTab_wrd (some ⟨gs, 0, none⟩) L cs _ 0 _ _ _ HRO.out wr hrs htbb hc3 hm3 (by omega) (by decide) (by decide)
              have HUN := Lib.hid hun
              clear hfi hla hLs hhl hun hO hrs HTE HTV HTH
              rw [hmm]
              simp only [show decide ((0:Nat) = 0) = true from rfl]
              clear hpt hpz2 hmm hP hpc2 hpc3 hK2 hK3 hpz hwb
              go_wp2_with (first | (refine tab_load rfl rfl rfl HTQ.out ?_))
              refine Calls.mono HUN.out ?_
              rintro e w7 ⟨x, rfl, ⟨A7, m7, c7, rfl, hr7, hm7, hc7, hf7⟩, hg7⟩
              clear HUN HTQ HSP HRO HO4 HT0 HT0L HM htb htbb ht0b hfl hle2 hHP hPb hS1 hH2 htl2 hj hlt
              go_wp2_with fail
              refine Calls.mono (awake3_any _) ?_
              rintro e w9 ⟨rfl, hg9⟩
              have hs7 := RdK.str (c := c7) (hr7.keep hg9)
              have hs8 := RdK.str (c := c0) (ra.keep ((hB.tr hg7).tr hg9))
              go_wp2_with fail
              go_ret
              exact ⟨rfl, (hB.tr hg7).tr hg9⟩
            · have hsp := HSP.out t (8 * H + P) _ htb htl2 HTH.out HTV.out HM.out hHP hmm
              have hun := cunpack_to cTab cTab_len cTab_wrd (some ⟨gs, 0, none⟩) L cs _ 0 _ _ _ hsp wr hrs htbb hc3 hm3 (by omega) (by decide) (by decide)
              have HUN := Lib.hid hun
              have hmd : decide (mm = 0) = false := decide_eq_false hmm
              rw [hmd]
              clear hfi hla hLs hhl hun hO hrs HTE HTV HTH hsp hmm hmd
              clear hpt hpz2 hP hpc2 hpc3 hK2 hK3 hpz hwb
              go_wp2_with (first | (refine tab_load rfl rfl rfl HTQ.out ?_))
              refine Calls.mono HUN.out ?_
              rintro e w7 ⟨x, rfl, ⟨A7, m7, c7, rfl, hr7, hm7, hc7, hf7⟩, hg7⟩
              obtain rfl : m7 = 0 := hr7.len.symm
              clear HUN HTQ HSP HRO HO4 HT0 HT0L HM htb htbb ht0b hfl hle2 hHP hPb hS1 hH2 htl2 hj hlt
              go_wp2_with fail
              refine Calls.mono (awake3_any _) ?_
              rintro e w9 ⟨rfl, hg9⟩
              go_wp2_with fail
              go_ret
              exact ⟨rfl, (hB.tr hg7).tr hg9⟩
end Go.Proofs.Ytflnopaheanpdaa
