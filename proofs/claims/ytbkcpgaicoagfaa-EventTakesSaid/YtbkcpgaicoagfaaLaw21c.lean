/- EventTakes: the walk. -/
import Derived.Test.YtbkcpgaicoagfaaTwoC
import Derived.Test.YtbkcpgaicoagfaaRt2
set_option linter.unusedVariables false
set_option linter.unusedSimpArgs false
namespace Go.Proofs.Ytbkcpgaicoagfaa
open Go.RowKit

set_option maxRecDepth 100000 in
set_option maxHeartbeats 12800000 in
theorem eventTakes_walk (a : Option Addr) (len cap : Nat) (l : List Evr) (A0 : Option Addr) (n0 c0 : Nat) (bs0 : List Int) (w : World) (hl : IsEvs w a len cap l) (hr0 : Rd w A0 n0 bs0) (hb0 : Byt bs0) (hnc0 : n0 ≤ c0) (hc0 : c0 ≤ 9223372036854775807) :
    Calls Try.prog 3 #[.slice a len cap, .slice A0 n0 c0] w fun e w' => e = .returned (.bool true) ∧ Grew w w' := by
  obtain ⟨hrd, hev, hlc, hcap⟩ := hl
  have HRD := Lib.hid hrd
  have HEV := Lib.hid hev
  have hA0 : 0 < n0 → ∀ ad, A0 = some ad → ad.block < w.heap.size := fun hn ad e => by
    obtain ⟨b, o, e2, hc⟩ := hr0.cells hn
    rw [e2] at e
    cases e
    exact lt_of_cell (hc 0 hn)
  obtain ⟨k0, hk0⟩ : ∃ k0, min n0 6000 = k0 := ⟨_, rfl⟩
  obtain ⟨x, hx⟩ : ∃ x, bs0.take k0 = x := ⟨_, rfl⟩
  have hrx : Rd w A0 k0 x := by rw [← hx]; exact hr0.take (by omega)
  have hbx : Byt x := fun y hy => hb0 y (by rw [← hx] at hy; exact List.mem_of_mem_take hy)
  have hax : 0 < k0 → ∀ ad, A0 = some ad → ad.block < w.heap.size := fun h => hA0 (by omega)
  have hkc : k0 ≤ 6000 := by omega
  have hkc0 : k0 ≤ c0 := by omega
  have hxl : x.length ≤ 1000000 := by rw [hrx.len]; omega
  have HRX := Lib.hid hrx
  have HBX := Lib.hid hbx
  have HAX := Lib.hid hax
  have HXL := Lib.hid hxl
  have HK0 := Lib.hid hk0
  clear hrd hev hA0 hx hrx hbx hax hr0 hb0 hxl hk0
  go_enter Try.func3, Try.ntmps3
  go_upto_region 2 with (first | (go_at_call 12; refine Calls.mono (bnew_any _) ?_; rintro e w1 ⟨p, tp, mb, lb, rfl, hB1, hg1, hf1⟩) | (go_at_call 13; refine Calls.mono (rbnew_any _) ?_; rintro e w2 ⟨rp, rtp, rfl, hR2, hg2, hf2⟩))
  have h0 : TwoC w p tp (.slice none 0 0) mb lb rp rtp (.slice none 0 0) (.slice none 0 0) [] 0 ⟨[], 0, fun _ _ => []⟩ w2 := ⟨hB1.keep hg2, hR2, hf1, fun x hx => ⟨by have := hf2 x hx; have := hg1.size; omega, fun h => by have := hf2 x hx; have := hB1.lt h; omega⟩, LB.nil _, LOk.nil, hg1.tr hg2⟩
  have H0 := Lib.hid h0
  clear h0 hB1 hg1 hf1 hR2 hg2 hf2
  go_upto_block 0 with fail
  go_cut [] from 19 to 42 (fun wx => ∃ (s : PB) (lv rlv LV : Value) (rows : List Lnr), RowKit.Hid (TwoC w p tp lv mb lb rp rtp rlv LV rows 40 s wx))
  case first =>
    go_wp2_with fail
    go_loopw [7] (fun s7 wr => ∃ (j : Nat) (s : PB) (lv rlv LV : Value) (rows : List Lnr), s7 = .int .i64 (j : Int) ∧ j ≤ 20 ∧ RowKit.Hid (TwoC w p tp lv mb lb rp rtp rlv LV rows (2 * j) s wr)) (fun s7 _ => 20 - (intOf s7).toNat)
    case atStart => exact ⟨0, _, _, _, _, _, rfl, by omega, H0⟩
    case round =>
      rename World => wr
      clear H0
      obtain ⟨j, s, lv, rlv, LV, rows, rfl, hj, HI⟩ := hrel
      by_cases hlt : j < len
      · by_cases h20 : j < 20
        · obtain ⟨b, o, ⟨x1, A, n, c⟩, hA, hx, hat⟩ := HRD.out.atE hlt
          have hv := HEV.out _ (List.mem_of_getElem? hx)
          dsimp only at hv
          have hat' := hat.keep HI.out.grew
          have hcut := fun (u : World) (hu : Grew w u) => cutE_any x1 A n c u (hv.rd.keep hu) hv.le hv.cap
          have hlow := hdr_low hv.rd
          have hwv := evW_cut hv.evw
          have hnil := hv.nil
          have hcap' := hv.cap
          have hnc' := hv.le
          obtain ⟨y, hy⟩ : ∃ y, cutE x1 = y := ⟨_, rfl⟩
          rw [hy] at hcut hwv
          obtain ⟨ki, se, ti, me, ur, hs, bo, st, co, cr, no, nn⟩ := x1
          have k0' := hat' 0 _ rfl
          have k1 := hat' 1 _ rfl
          have k2 := hat' 2 _ rfl
          have k3 := hat' 3 _ rfl
          have k4 := hat' 4 _ rfl
          have k5 := hat' 5 _ rfl
          have k6 := hat' 6 _ rfl
          have k7 := hat' 7 _ rfl
          have k8 := hat' 8 _ rfl
          have k9 := hat' 9 _ rfl
          have k10 := hat' 10 _ rfl
          have k11 := hat' 11 _ rfl
          rw [Nat.add_zero] at k0'
          simp only [evV, evA] at hcut
          subst hA
          have hb := fun (u : World) (hu : Grew wr u) (q : Nat) (hq : q ≤ 30) (hqn : q ≤ n) (hq0 : n = 0 → q = 0) (hr : RdH u A q y.hs) => bput_nil p tp lv mb lb (2 * j) s y A q c u (HI.out.bk.keep hu) hr (fun h => ⟨hq0 (hnil h).1, (hnil h).2⟩) (by omega) (Nat.le_trans hqn hnc') hcap' (fun h0 ad e h => by have h1 := hlow (by omega) ad e; have h2 := HI.out.f1 _ h; omega) (by omega) hwv
          have hrb := fun (u : World) (q : Nat) (hq : q ≤ 30) (hqn : q ≤ n) (hr : RdH u A q y.hs) (hR : RBI u rp rtp rlv LV rows (2 * j) s) => rbput_nil rp rtp rlv LV rows (2 * j) s y A q c u hR hr (by omega) (Nat.le_trans hqn hnc') hcap' (fun h0 ad e h => by have h1 := hlow (by omega) ad e; have h2 := (HI.out.f2 _ h).1; omega) (by omega) hwv
          have HBP := Lib.hid hb
          have HRP := Lib.hid hrb
          have HCUT := Lib.hid hcut
          have HLOW := Lib.hid hlow
          have HAT0 := Lib.hid hat
          obtain ⟨s', hs'⟩ : ∃ s', putS s y = s' := ⟨_, rfl⟩
          rw [hs'] at HBP HRP
          have hok : LOk s' := by rw [← hs']; exact HI.out.ok.put y
          have HOK := Lib.hid hok
          clear hat hv hat' hcut hlow hwv hnil hcap' hnc' hy hx hb hrb hs' hok
          go_upto_region 6 with (first | (go_at_call 15; refine Calls.mono (HCUT.out _ HI.out.grew) ?_; rintro e w3 ⟨q3, rfl, hq3, hqn3, hr3, hg3, hz3⟩) | (go_at_call 14; refine Calls.mono (HBP.out _ hg3 q3 hq3 hqn3 hz3 hr3) ?_; rintro e w4 ⟨v4, e4, rfl, ⟨lv4, hbk4, hf4⟩, hc4⟩))
          have hrb4 := HI.out.rb1 hg3 hc4
          have hat4 : EvAt w4 b (o + j * 12) (⟨ki, se, ti, me, ur, hs, bo, st, co, cr, no, nn⟩, A, n, c) := HAT0.out.keep hrb4.2
          have HG3 := Lib.hid hg3
          have HC4 := Lib.hid hc4
          have HRB4 := Lib.hid hrb4
          have HBK4 := Lib.hid hbk4
          have HF4 := Lib.hid hf4
          have m0 := hat4 0 _ rfl
          have m1 := hat4 1 _ rfl
          have m2 := hat4 2 _ rfl
          have m3 := hat4 3 _ rfl
          have m4 := hat4 4 _ rfl
          have m5 := hat4 5 _ rfl
          have m6 := hat4 6 _ rfl
          have m7 := hat4 7 _ rfl
          have m8 := hat4 8 _ rfl
          have m9 := hat4 9 _ rfl
          have m10 := hat4 10 _ rfl
          have m11 := hat4 11 _ rfl
          rw [Nat.add_zero] at m0
          clear k0' k1 k2 k3 k4 k5 k6 k7 k8 k9 k10 k11 hrb4 hat4 hbk4 hf4 hg3 hr3 hc4
          go_wp2_with (first | (go_at_call 15; refine Calls.mono (HCUT.out _ HRB4.out.2) ?_; rintro e w5 ⟨q5, rfl, hq5, hqn5, hr5, hg5, hz5⟩) | (go_at_call 16; refine Calls.mono (HRP.out _ q5 hq5 hqn5 hr5 (HRB4.out.1.keep hg5)) ?_; rintro e w6 ⟨v6, e6, rfl, ⟨rlv6, LV6, rows6, hbk6, hf6, hM6⟩, hc6⟩; have hN := HI.out.step HG3.out HC4.out HBK4.out HF4.out hg5 hc6 hbk6 hf6 (hM6 _ (fun h0 ad e h => (HF4.out _ h).elim (fun h2 => by have h1 := HLOW.out (by omega) ad e; have h3 := HI.out.f1 _ h2; omega) (fun h2 => by have h1 := HLOW.out (by omega) ad e; have h3 := HI.out.grew.size; have h4 := HG3.out.size; omega)) (HI.out.ll2 HG3.out HF4.out)) HOK.out; have HN := Lib.hid hN; clear hN hbk6 hf6 hM6 hc6))
          go_roundw
          case rel => exact ⟨j + 1, s', lv4, rlv6, LV6, rows6, by go_num, by omega, HN⟩
          case measure => simp [intOf]; omega
        · go_wp2_with fail
          go_meet
          exact ⟨s, lv, rlv, LV, rows, Lib.hid (HI.out.mono (by omega) (by omega))⟩
      · go_wp2_with fail
        go_meet
        exact ⟨s, lv, rlv, LV, rows, Lib.hid (HI.out.mono (by omega) (by omega))⟩
  case rest =>
  obtain ⟨s0, lv0, rlv0, LV0, rows0, HI0⟩ := hcut
  obtain ⟨w3, hw3⟩ : ∃ w9, w9 = wc := ⟨_, rfl⟩
  subst hw3
  clear H0
  -- the bytes, cut
  go_upto_region 8 with fail
  go_upto_if 46 with fail
  go_cut [8] from 46 to 48 (fun s8 wx => s8 = .slice A0 k0 c0 ∧ w3 = wx)
  case first =>
    by_cases hbig : 6000 < n0
    · obtain rfl : 6000 = k0 := by have := HK0.out; omega
      have hcut := cut_hi (kh := .i64) A0 n0 c0 6000 (by omega)
      go_wp2_with fail
      go_meet
      exact ⟨rfl, rfl⟩
    · obtain rfl : n0 = k0 := by have := HK0.out; omega
      go_wp2_with fail
      go_meet
      exact ⟨rfl, rfl⟩
  case rest =>
  obtain ⟨rfl, hwc⟩ := hcut
  subst hwc
  go_upto_region 11 with fail
  go_wp2_with fail
  go_loopw [9, 10] (fun s9 s10 wr => ∃ (j : Nat) (at_ : Int) (s : PB) (lv rlv LV : Value) (rows : List Lnr), s10 = .int .i64 (j : Int) ∧ s9 = .int .i64 at_ ∧ j ≤ 30 ∧ -9223372036854775808 ≤ at_ ∧ at_ ≤ 9223372036854775807 ∧ RowKit.Hid (TwoC w p tp lv mb lb rp rtp rlv LV rows (40 + 2 * j) s wr)) (fun _ s10 _ => 30 - (intOf s10).toNat)
  case atStart => exact ⟨0, 0, _, _, _, _, _, rfl, rfl, by omega, by omega, by omega, HI0⟩
  case round =>
    rename World => wr
    clear HI0
    obtain ⟨j, at_, s, lv, rlv, LV, rows, rfl, rfl, hj, ha0, ha1, HI⟩ := hrel
    by_cases h30 : j < 30
    · have hb := btake_any p tp lv mb lb (40 + 2 * j) s A0 k0 c0 x at_ wr HI.out.bk (HRX.out.keep HI.out.grew) HBX.out hkc0 hc0 (by omega) ha0 ha1 (fun h0 ad e h => by have h1 := HAX.out h0 ad e; have h2 := HI.out.f1 _ h; omega) (by omega)
      have hrb := fun (u : World) (hu : Grew w u) (hR : RBI u rp rtp rlv LV rows (40 + 2 * j) s) => rbtake_any rp rtp rlv LV rows (40 + 2 * j) s A0 k0 c0 x at_ u hR (HRX.out.keep hu) HBX.out hkc0 hc0 (by omega) ha0 ha1 (fun h0 ad e h => by have h1 := HAX.out h0 ad e; have h2 := (HI.out.f2 _ h).1; omega) (by omega) HI.out.ok
      have hok := HI.out.ok.take x at_
      have hbd := takeB_res HBX.out HXL.out s ha0 ha1
      obtain ⟨⟨y, nx, er, s'⟩, hz⟩ : ∃ z, takeB s x at_ = z := ⟨_, rfl⟩
      rw [hz] at hb hrb hok hbd
      unfold BTakeQ at hb
      unfold RBTakeQ at hrb
      obtain ⟨hy25, hnx0, hnx1⟩ := hbd
      dsimp only at hb hrb hok hy25 hnx0 hnx1
      have HBT := Lib.hid hb
      have HRT := Lib.hid hrb
      have HOK := Lib.hid hok
      clear hb hrb hok hz
      go_upto_region 15 with (first | (go_at_call 17; refine Calls.mono HBT.out ?_; rintro e w4 ⟨H, m, d, rfl, hL4, ⟨lv4, hbk4, hf4⟩, hc4⟩; have hxb0 := heap_alloc_new w4 (.cells #[.int .i64 0, .int .i64 0, .int .i64 0, .string { data := #[] }, .string { data := #[] }, .slice none 0 0, .string { data := #[] }, .int .i64 0, .int .i64 0, .bool false, .string { data := #[] }, .int .u64 0] 34); have hal4 : Grew w4 (w4.alloc (.cells #[.int .i64 0, .int .i64 0, .int .i64 0, .string { data := #[] }, .string { data := #[] }, .slice none 0 0, .string { data := #[] }, .int .i64 0, .int .i64 0, .bool false, .string { data := #[] }, .int .u64 0] 34)) := (Grew.rf w4).al _) | ((with_reducible refine gate_st 34 (.tmp 11) (.tmp 58) rfl ?_); refine st_row0 rfl rfl rfl rfl rfl hxb0 (by kernel_rfl) rfl (by simp [evA, Value.oneCell']) ?_; intro w5 hw5 hby5))
      have hrb4 := HI.out.rb1 (Grew.rf _) hc4
      have hg5 : Grew w4 w5 := grew_chg hal4 (chg1 hby5) (fun x e => by omega)
      have HX5 := Lib.hid hw5
      have HG5 := Lib.hid hg5
      have HRB4 := Lib.hid hrb4
      have HC4 := Lib.hid hc4
      have HBK4 := Lib.hid hbk4
      have HF4 := Lib.hid hf4
      have HL4 := Lib.hid hL4
      clear hxb0 hal4 hw5 hby5 hg5 hrb4 hc4 hbk4 hf4 hL4
      obtain ⟨xb1, hxb1⟩ : ∃ b, w4.heap.size = b := ⟨_, rfl⟩
      rw [hxb1] at HX5 ⊢
      clear hxb1
      go_upto_region 16 with (first | (go_at_call 18; refine Calls.mono (HRT.out _ (HRB4.out.2.tr HG5.out) (HRB4.out.1.keep HG5.out)) ?_; rintro e w6 ⟨H2, m2, d2, rfl, hL6, ⟨rlv6, LV6, rows6, hbk6, hf6, hM6⟩, hc6⟩; have hxb6 := heap_alloc_new w6 (.cells #[.int .i64 0, .int .i64 0, .int .i64 0, .string { data := #[] }, .string { data := #[] }, .slice none 0 0, .string { data := #[] }, .int .i64 0, .int .i64 0, .bool false, .string { data := #[] }, .int .u64 0] 34); have hal6 : Grew w6 (w6.alloc (.cells #[.int .i64 0, .int .i64 0, .int .i64 0, .string { data := #[] }, .string { data := #[] }, .slice none 0 0, .string { data := #[] }, .int .i64 0, .int .i64 0, .bool false, .string { data := #[] }, .int .u64 0] 34)) := (Grew.rf w6).al _) | ((with_reducible refine gate_st 34 (.tmp 14) (.tmp 66) rfl ?_); refine st_row0 rfl rfl rfl rfl rfl hxb6 (by kernel_rfl) rfl (by simp [evA, Value.oneCell']) ?_; intro w7 hw7 hby7))
      have hg7 : Grew w6 w7 := grew_chg hal6 (chg1 hby7) (fun x e => by omega)
      have hx16 := hc6.by_ HX5.out ((HRB4.out.1.keep HG5.out).other HX5.out (by decide) (by decide) (by decide) (by decide))
      have hx17 := heap_keep hg7 hx16
      have hl46 := (HL4.out.keep HG5.out).chg hc6 (fun b hb h => by have := HI.out.rb.lt h; omega)
      obtain ⟨A1, n1', c1', hv1, hr1, -, -, -, -, -⟩ := hl46
      obtain ⟨A2, n2', c2', hv2, hr2, -, -, -, -, -⟩ := hL6
      cases hv1
      cases hv2
      have hm1 : m ≤ 1000 := by rw [← hr1.lenH]; omega
      have hm2 : m2 ≤ 1000 := by rw [← hr2.lenH]; omega
      have hsame := sameEvent_any y H m d y H2 m2 d2 w7 (hr1.keep hg7) (hr2.keep hg7) hm1 hm2
      have hse : sameE y y = true := by simp [sameE]
      rw [hse] at hsame
      have hN := HI.out.step (Grew.rf _) HC4.out HBK4.out HF4.out HG5.out hc6 hbk6 hf6 (hM6 _ (fun b hb h => by have h1 := HBK4.out.lt h; have h2 := HG5.out.size; omega) (HI.out.ll2 (Grew.rf _) HF4.out)) HOK.out
      have hw7' := hw7
      simp only [evV] at hsame
      obtain ⟨xc, hxc⟩ : ∃ xc : Array Value, evA y H m d = xc := ⟨_, rfl⟩
      obtain ⟨yc, hyc⟩ : ∃ yc : Array Value, evA y H2 m2 d2 = yc := ⟨_, rfl⟩
      have hxs : xc.size = 12 := by rw [← hxc]; rfl
      have hys : yc.size = 12 := by rw [← hyc]; rfl
      simp only [hxc, hyc] at hsame hx17 hw7'
      have HSAME := Lib.hid hsame
      have HN := Lib.hid (hN.keep hg7)
      have HXS := Lib.hid hxs
      have HYS := Lib.hid hys
      clear hxb6 hal6 hw7 hby7 hg7 hx16 hr1 hr2 hsame hN hxc hyc hxs hys hbk6 hf6 hM6 hc6 hse hm1 hm2
      by_cases her : er = 0
      · subst her
        go_wp2_with (first | ((with_reducible refine gate_ld' 34 (.tmp 11) rfl ?_); refine ld_row (.inl rfl) rfl rfl hx17 rfl Try.underlying34 (by rw [HXS.out]; kernel_rfl) ?_) | ((with_reducible refine gate_ld' 34 (.tmp 14) rfl ?_); refine ld_row (.inl rfl) rfl rfl hw7' rfl Try.underlying34 (by rw [HYS.out]; kernel_rfl) ?_) | (go_at_call 19; refine Calls.mono HSAME.out ?_; rintro e w8 ⟨rfl, hg8⟩))
        go_roundw
        case rel => exact ⟨j + 1, nx, s', lv4, rlv6, LV6, rows6, by go_num, rfl, by omega, hnx0, hnx1, Lib.hid (HN.out.keep hg8)⟩
        case measure => simp [intOf]; omega
      · have d1 : (er == 0) = false := by simpa using her
        have dd1 : decide (er = 0) = false := by simpa using her
        have d2' : (er != 0) = true := by simpa using her
        clear her
        go_wp2_with (first | ((with_reducible refine gate_ld' 34 (.tmp 11) rfl ?_); refine ld_row (.inl rfl) rfl rfl hx17 rfl Try.underlying34 (by rw [HXS.out]; kernel_rfl) ?_) | ((with_reducible refine gate_ld' 34 (.tmp 14) rfl ?_); refine ld_row (.inl rfl) rfl rfl hw7' rfl Try.underlying34 (by rw [HYS.out]; kernel_rfl) ?_) | (go_at_call 19; refine Calls.mono HSAME.out ?_; rintro e w8 ⟨rfl, hg8⟩) | (go_at_call 20; refine Calls.mono (awake21_any _) ?_; rintro e w9 ⟨rfl, hg9⟩))
        go_ret
        exact ⟨rfl, (HN.out.grew.tr hg8).tr hg9⟩
    · have hg := HI.out.grew
      have HG := Lib.hid hg
      clear hg
      go_wp2_with (go_at_call 20; refine Calls.mono (awake21_any _) ?_; rintro e w9 ⟨rfl, hg9⟩)
      go_ret
      exact ⟨rfl, HG.out.tr hg9⟩
end Go.Proofs.Ytbkcpgaicoagfaa
