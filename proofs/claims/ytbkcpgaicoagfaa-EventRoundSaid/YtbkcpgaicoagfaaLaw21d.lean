/- EventRound: the walk. -/
import Derived.Test.YtbkcpgaicoagfaaRnd1
set_option linter.unusedVariables false
set_option linter.unusedSimpArgs false
namespace Go.Proofs.Ytbkcpgaicoagfaa
open Go.RowKit

/-- The events that were put, and their bytes. -/
structure WasI (w : World) (evs : List Evr) (v8 : Value) (out : List Int) (m : Nat) (B : Option Addr) (s : PB) (wr : World) : Prop where
  row : OwnV 34 12 wr w.heap.size v8 evs.length (ecs evs)
  rd : Rd wr B m out
  u8 : U8 wr B
  enc : encE ⟨[], 0, fun _ _ => []⟩ (evs.map (·.1)) = (out, s)
  ok : OkL ⟨[], 0, fun _ _ => []⟩ (evs.map (·.1))
  hd : ∀ r ∈ evs, RdH w r.2.1 r.2.2.1 r.1.hs ∧ r.2.2.1 ≤ 1000
theorem WasI.keep {w wr u : World} {evs : List Evr} {v8 : Value} {out : List Int} {m : Nat} {B : Option Addr} {s : PB} (h : WasI w evs v8 out m B s wr) (hg : Grew wr u) : WasI w evs v8 out m B s u :=
  ⟨h.row.keep hg, h.rd.keep hg, h.u8.keep hg, h.enc, h.ok, h.hd⟩
/-- While a Book's call ran. -/
theorem WasI.chg {w wr u : World} {evs : List Evr} {v8 : Value} {out : List Int} {m : Nat} {B : Option Addr} {s : PB} (h : WasI w evs v8 out m B s wr) {p tp : Nat} {lv : Value} {mb lb k : Nat} {s' : PB} (hb : BookI wr p tp lv mb lb k s') (hc : Chg (ftb p tp lv mb lb) wr u) : WasI w evs v8 out m B s u :=
  ⟨h.row.chg hc (fun b hb2 => by obtain ⟨cur, hm⟩ := h.row.block hb2; exact hb.other hm (by decide) (by decide) (by decide)), h.rd.chg hc (fun _ ad e => h.u8.book hb ad e), h.u8.chg hc (fun ad e => h.u8.book hb ad e), h.enc, h.ok, h.hd⟩
set_option maxRecDepth 100000 in
set_option maxHeartbeats 12800000 in
theorem eventRound_walk (a : Option Addr) (len cap : Nat) (l : List Evr) (A0 : Option Addr) (n0 c0 : Nat) (bs0 : List Int) (w : World) (hl : IsEvs w a len cap l) (hr0 : Rd w A0 n0 bs0) (hb0 : Byt bs0) (hnc0 : n0 ≤ c0) (hc0 : c0 ≤ 9223372036854775807) :
    Calls Try.prog 4 #[.slice a len cap, .slice A0 n0 c0] w fun e w' => e = .returned (.bool true) ∧ Grew w w' := by
  obtain ⟨hrd, hev, hlc, hcap⟩ := hl
  have HRD := Lib.hid hrd
  have HEV := Lib.hid hev
  have hA0 : 0 < n0 → ∀ ad, A0 = some ad → ad.block < w.heap.size := fun hn ad e => by
    obtain ⟨b, o, e2, hc⟩ := hr0.cells hn
    rw [e2] at e
    cases e
    exact lt_of_cell (hc 0 hn)
  obtain ⟨k0, hk0⟩ : ∃ k0, min n0 6000 = k0 := ⟨_, rfl⟩
  obtain ⟨x, hx⟩ : ∃ x, bs0.take k0 = x := ⟨_, rfl⟩
  have hrx : Rd w A0 k0 x := by rw [← hx]; exact hr0.take (by omega)
  have hbx : Byt x := fun y hy => hb0 y (by rw [← hx] at hy; exact List.mem_of_mem_take hy)
  have hax : 0 < k0 → ∀ ad, A0 = some ad → ad.block < w.heap.size := fun h => hA0 (by omega)
  have hkc : k0 ≤ 6000 := by omega
  have hkc0 : k0 ≤ c0 := by omega
  have hxl0 := hrx.len
  have hxl : x.length ≤ 1000000 := by omega
  have HRX := Lib.hid hrx
  have HBX := Lib.hid hbx
  have HAX := Lib.hid hax
  have HXL := Lib.hid hxl
  have HXL0 := Lib.hid hxl0
  have HK0 := Lib.hid hk0
  clear hrd hev hA0 hx hrx hbx hax hr0 hb0 hxl hxl0 hk0
  go_enter Try.func4, Try.ntmps4
  go_upto_region 2 with (first | (have hh := hB1; go_at_call 12; refine Calls.mono (bnew_any _) ?_; rintro e w2 ⟨p2, tp2, mb2, lb2, rfl, hB2, hg2, hf2⟩) | (go_at_call 12; refine Calls.mono (bnew_any _) ?_; rintro e w1 ⟨p1, tp1, mb1, lb1, rfl, hB1, hg1, hf1⟩))
  have h0 : TwoE w p1 tp1 (.slice none 0 0) mb1 lb1 0 ⟨[], 0, fun _ _ => []⟩ p2 tp2 (.slice none 0 0) mb2 lb2 0 ⟨[], 0, fun _ _ => []⟩ w2 := ⟨hB1.keep hg2, hB2, hf1, fun x hx => ⟨by have := hf2 x hx; have := hg1.size; omega, fun h => by have := hf2 x hx; have := hB1.lt h; omega⟩, hg1.tr hg2⟩
  have H0 := Lib.hid h0
  clear h0 hB1 hg1 hf1 hB2 hg2 hf2
  go_upto_region 3 with fail
  have hgl1 : Grew w2 (w2.alloc (.cells #[] 5)) := (Grew.rf w2).al _
  have hgl2 : Grew (w2.alloc (.cells #[] 5)) ((w2.alloc (.cells #[] 5)).alloc (.cells #[] 34)) := (Grew.rf _).al _
  have hI0 := H0.out.keep (hgl1.tr hgl2)
  have hR0 : WasI w [] (.slice (some ⟨w2.heap.size + 1, 0, none⟩) 0 0) [] 0 (some ⟨w2.heap.size, 0, none⟩) ⟨[], 0, fun _ _ => []⟩ ((w2.alloc (.cells #[] 5)).alloc (.cells #[] 34)) := by
    refine ⟨?_, ⟨rfl, fun h => by omega⟩, fun ad e => by cases e; exact ⟨_, _, heap_keep hgl2 (heap_alloc_new w2 _)⟩, rfl, trivial, fun r hr => by cases hr⟩
    have := (ownV_lit0 34 12 (w2.alloc (.cells #[] 5))).lower (base' := w.heap.size) (by rw [World.size_alloc]; have := H0.out.grew.size; omega)
    rw [World.size_alloc] at this
    exact this
  have HI0 := Lib.hid hI0
  have HR0 := Lib.hid hR0
  clear hI0 hR0 hgl1 hgl2 H0
  go_upto_block 0 with fail
  go_cut [7, 8] from 31 to 62 (fun s7 s8 wx => ∃ (s : PB) (lv1 : Value) (evs : List Evr) (out : List Int) (m : Nat) (B : Option Addr) (d : Nat), s7 = .slice B m d ∧ m ≤ d ∧ d ≤ 9223372036854775807 ∧ evs.length ≤ 30 ∧ m ≤ 3300000 ∧ RowKit.Hid (TwoE w p1 tp1 lv1 mb1 lb1 60 s p2 tp2 (.slice none 0 0) mb2 lb2 0 ⟨[], 0, fun _ _ => []⟩ wx) ∧ RowKit.Hid (WasI w evs s8 out m B s wx))
  case first =>
    go_wp2_with fail
    go_loopw [7, 8, 9] (fun s7 s8 s9 wr => ∃ (j : Nat) (s : PB) (lv1 : Value) (evs : List Evr) (out : List Int) (m : Nat) (B : Option Addr) (d : Nat), s9 = .int .i64 (j : Int) ∧ s7 = .slice B m d ∧ m ≤ d ∧ d ≤ 9223372036854775807 ∧ j ≤ 30 ∧ evs.length ≤ j ∧ m ≤ 110000 * j ∧ RowKit.Hid (TwoE w p1 tp1 lv1 mb1 lb1 (2 * j) s p2 tp2 (.slice none 0 0) mb2 lb2 0 ⟨[], 0, fun _ _ => []⟩ wr) ∧ RowKit.Hid (WasI w evs s8 out m B s wr)) (fun _ _ s9 _ => 30 - (intOf s9).toNat)
    case atStart => exact ⟨0, _, _, [], [], 0, _, 0, rfl, rfl, by omega, by omega, by omega, by simp, by omega, HI0, HR0⟩
    case round =>
      rename World => wr
      clear HI0 HR0
      obtain ⟨j, s, lv1, evs, out, m, B, d, rfl, rfl, hmd, hdc, hj, hel, hm, HI, HWI⟩ := hrel
      obtain ⟨A8, c8, rfl, -, -, -⟩ := HWI.out.row.rd
      by_cases hlt : j < len
      · by_cases h30 : j < 30
        · obtain ⟨b, o, ⟨x1, A, n, c⟩, hA, hx, hat⟩ := HRD.out.atE hlt
          have hv := HEV.out _ (List.mem_of_getElem? hx)
          dsimp only at hv
          have hat' := hat.keep HI.out.grew
          have hcut := fun (u : World) (hu : Grew w u) => cutE_any x1 A n c u (hv.rd.keep hu) hv.le hv.cap
          have hlow := hdr_low hv.rd
          have hwv := evW_cut hv.evw
          have hnil := hv.nil
          have hcap' := hv.cap
          have hnc' := hv.le
          have hrdw := hv.rd
          have hcrd : ∀ q, q = (cutE x1).hs.length → RdH w A q (cutE x1).hs := fun q hq => by
            have hq2 : (cutE x1).hs = x1.hs.take 30 := rfl
            rw [hq, hq2, List.length_take, hrdw.lenH]
            have := hrdw.takeH (i := min 30 n) (by omega)
            rwa [show x1.hs.take (min 30 n) = x1.hs.take 30 by rw [← hrdw.lenH]; simp [List.take_eq_take_iff]] at this
          obtain ⟨y, hy⟩ : ∃ y, cutE x1 = y := ⟨_, rfl⟩
          rw [hy] at hcut hwv hcrd
          obtain ⟨ki, se, ti, me, ur, hs, bo, st, co, cr, no, nn⟩ := x1
          have k0' := hat' 0 _ rfl
          have k1 := hat' 1 _ rfl
          have k2 := hat' 2 _ rfl
          have k3 := hat' 3 _ rfl
          have k4 := hat' 4 _ rfl
          have k5 := hat' 5 _ rfl
          have k6 := hat' 6 _ rfl
          have k7 := hat' 7 _ rfl
          have k8 := hat' 8 _ rfl
          have k9 := hat' 9 _ rfl
          have k10 := hat' 10 _ rfl
          have k11 := hat' 11 _ rfl
          rw [Nat.add_zero] at k0'
          simp only [evV, evA] at hcut
          subst hA
          have HCUT := Lib.hid hcut
          have HLOW := Lib.hid hlow
          have HAT0 := Lib.hid hat
          have HW := Lib.hid hwv
          have HNIL := Lib.hid hnil
          have HNC := Lib.hid hnc'
          have HCAP := Lib.hid hcap'
          have HCRD := Lib.hid hcrd
          clear hat hv hat' hcut hlow hwv hnil hcap' hnc' hy hx hrdw hcrd
          by_cases hno : goodE y = false ∨ y.ti < s.ti
          · have hb := fun (u : World) (hu : Grew wr u) (q : Nat) (hq : q ≤ 30) (hq0 : n = 0 → q = 0) (hr : RdH u A q y.hs) => bput_no p1 tp1 lv1 mb1 lb1 (2 * j) s y A q c B m d u (HI.out.b1.keep hu) hr (fun h => ⟨hq0 (HNIL.out h).1, (HNIL.out h).2⟩) (by omega) hno
            have HBP := Lib.hid hb
            clear hb hno
            go_upto_region 7 with (first | (go_at_call 15; refine Calls.mono (HCUT.out _ HI.out.grew) ?_; rintro e w3 ⟨q3, rfl, hq3, hqn3, hr3, hg3, hz3⟩) | (go_at_call 14; refine Calls.mono (HBP.out _ hg3 q3 hq3 hz3 hr3) ?_; rintro e w4 ⟨er, rfl, her, hg4⟩; have d1 : (er == 0) = false := (by simpa using her); have dd1 : decide (er = 0) = false := (by simpa using her)))
            have HG := Lib.hid (hg3.tr hg4)
            clear her hg3 hg4 hr3 k0' k1 k2 k3 k4 k5 k6 k7 k8 k9 k10 k11
            go_wp2_with fail
            go_roundw
            case rel => exact ⟨j + 1, s, lv1, evs, out, m, B, d, by go_num, rfl, hmd, hdc, by omega, by omega, by omega, Lib.hid ((HI.out.keep HG.out).mono1 (by omega) (by omega)), Lib.hid (HWI.out.keep HG.out)⟩
            case measure => simp [intOf]; omega
          · have hgd : goodE y = true := by cases hg : goodE y with | true => rfl | false => exact absurd (.inl hg) hno
            have hlate : s.ti ≤ y.ti := by
              rcases Classical.em (y.ti < s.ti) with h | h
              · exact absurd (.inr h) hno
              · omega
            have hb := fun (u : World) (hu : Grew wr u) (q : Nat) (hq : q ≤ 30) (hqn : q ≤ n) (hq0 : n = 0 → q = 0) (hr : RdH u A q y.hs) => bput_any p1 tp1 lv1 mb1 lb1 (2 * j) s y A q c B m d out u (HI.out.b1.keep hu) hr (fun h => ⟨hq0 (HNIL.out h).1, (HNIL.out h).2⟩) (Nat.le_trans hqn HNC.out) HCAP.out (HWI.out.rd.keep hu) (by omega) (fun h0 ad e h => by have h1 := HLOW.out (by omega) ad e; have h2 := HI.out.f1 _ h; omega) (by omega) HW.out hgd hlate
            have hpok : PBOk s := by have := (encE_ok PBOk.nil HWI.out.ok).1; rw [HWI.out.enc] at this; exact this
            have hlen := putB_len hpok hgd HW.out hlate (by have := HI.out.b1.few; omega)
            have hsn := encE_snoc (evs.map (·.1)) ⟨[], 0, fun _ _ => []⟩ y
            rw [HWI.out.enc] at hsn
            have hok2 := HWI.out.ok.snoc (x := y) (by rw [HWI.out.enc]; exact ⟨hgd, HW.out, hlate⟩)
            obtain ⟨⟨zs, s'⟩, hps⟩ : ∃ z, putB s y = z := ⟨_, rfl⟩
            dsimp only at hsn
            rw [hps] at hb hlen hsn
            dsimp only at hb hlen hsn
            obtain ⟨out', hout⟩ : ∃ z, out ++ zs = z := ⟨_, rfl⟩
            have hol : out'.length ≤ 110000 * (j + 1) := by have := HWI.out.rd.len; rw [← hout, List.length_append]; omega
            rw [hout] at hb hsn
            have HBP := Lib.hid hb
            have HOL := Lib.hid hol
            have HSN := Lib.hid hsn
            have HOK2 := Lib.hid hok2
            clear hb hno hgd hlate hlen hps hout hol hsn hok2 hpok
            go_upto_region 7 with (first | (go_at_call 15; refine Calls.mono (HCUT.out _ HI.out.grew) ?_; rintro e w3 ⟨q3, rfl, hq3, hqn3, hr3, hg3, hz3⟩) | (go_at_call 14; refine Calls.mono (HBP.out _ hg3 q3 hq3 hqn3 hz3 hr3) ?_; rintro e w4 ⟨v4, rfl, hQ4⟩; obtain ⟨B4, m4, d4, rfl, hle4, hcap4, hrd4, hfr4, hu84, hmN4⟩ := hQ4.out))
            obtain ⟨lv4, hbk4, hf4, -⟩ := hQ4.book
            have hN4 := HI.out.one hg3 hQ4.chg hbk4 hf4
            have hrow4 := ((HWI.out.keep hg3).chg (HI.out.b1.keep hg3) hQ4.chg).row
            have hat4 : EvAt w4 b (o + j * 12) (⟨ki, se, ti, me, ur, hs, bo, st, co, cr, no, nn⟩, A, n, c) := HAT0.out.keep hN4.grew
            have m0 := hat4 0 _ rfl
            have m1 := hat4 1 _ rfl
            have m2 := hat4 2 _ rfl
            have m3 := hat4 3 _ rfl
            have m4' := hat4 4 _ rfl
            have m5 := hat4 5 _ rfl
            have m6 := hat4 6 _ rfl
            have m7 := hat4 7 _ rfl
            have m8 := hat4 8 _ rfl
            have m9 := hat4 9 _ rfl
            have m10 := hat4 10 _ rfl
            have m11 := hat4 11 _ rfl
            rw [Nat.add_zero] at m0
            have HN4 := Lib.hid hN4
            have HROW4 := Lib.hid hrow4
            have HRD4 := Lib.hid hrd4
            have HU84 := Lib.hid hu84
            have HM4 := Lib.hid hrd4.len
            clear k0' k1 k2 k3 k4 k5 k6 k7 k8 k9 k10 k11 hQ4 hat4 hbk4 hf4 hN4 hrow4 hrd4 hu84 hfr4 hg3 hr3 hmN4
            go_wp2_with (first | (go_at_call 15; refine Calls.mono (HCUT.out _ HN4.out.grew) ?_; rintro e w5 ⟨q5, rfl, hq5, hqn5, hr5, hg5, hz5⟩) | ((with_reducible refine gate_b .append #[.tmp 55, .tmp 61] _ rfl ?_); refine appV Try.underlying22 ev_info (by decide) (by decide) (by decide) (.inl rfl) rfl rfl rfl ((HROW4.out.keep hg5).keep ((Grew.rf w5).al _)) (ev_new w5 (y, A, q5, c) _) (ecs_one _) (by rw [World.size_alloc]; have h1 := HN4.out.grew.size; have h2 := hg5.size; omega) (by omega) ?_; intro v6 w6 ho6 hg6 hat6))
            have hch6 : Chg (fun k => (Value.slice A8 evs.length c8).ownBlock = some k) w5 w6 := Chg.tr (Chg.of ((Grew.rf w5).al (.cells (evA y A q5 c) 34))) ((Chg.ofBy hg6 (fun b hb => hb)).mono (fun b hb => .inl hb))
            have hrow5 := HROW4.out.keep hg5
            have hev6 : ∀ b, (Value.slice A8 evs.length c8).ownBlock = some b → ∃ cs fr, w5.heap[b]? = some (.cells cs 34 fr) := fun b hb => by obtain ⟨cur, hm⟩ := hrow5.block hb; exact ⟨_, _, hm⟩
            have hN6 := (HN4.out.keep hg5).evs hch6 hev6 (fun b hb => hrow5.base_le b hb)
            have hu86 : ∀ ad, B4 = some ad → ¬ ((Value.slice A8 evs.length c8).ownBlock = some ad.block) := fun ad e hb => by
              obtain ⟨cs, fr, h1⟩ := (HU84.out.keep hg5) ad e
              obtain ⟨cs', fr', h2⟩ := hev6 _ hb
              rw [h1] at h2
              simp only [Option.some.injEq, Obj.cells.injEq] at h2
              exact absurd h2.2.1 (by decide)
            have hW6 : WasI w (evs ++ [(y, A, q5, c)]) v6 out' m4 B4 s' w6 := by
              refine ⟨?_, (HRD4.out.keep hg5).chg hch6 (fun _ ad e => hu86 ad e), (HU84.out.keep hg5).chg hch6 hu86, by rw [List.map_append]; exact HSN.out, by rw [List.map_append]; exact HOK2.out, fun r hr => ?_⟩
              · rw [List.length_append, ecs_append]
                exact ho6
              · rcases List.mem_append.1 hr with hr | hr
                · exact HWI.out.hd r hr
                · rw [List.mem_singleton] at hr
                  subst hr
                  exact ⟨HCRD.out q5 hr5.lenH.symm, by dsimp only; omega⟩
            have HN6 := Lib.hid hN6
            have HW6 := Lib.hid hW6
            clear hch6 hrow5 hev6 hN6 hu86 hW6 ho6 hg6 hat6 hr5 hg5 m0 m1 m2 m3 m4' m5 m6 m7 m8 m9 m10 m11
            go_roundw
            case rel => exact ⟨j + 1, s', lv4, evs ++ [(y, A, q5, c)], out', m4, B4, d4, by go_num, rfl, hle4, hcap4, by omega, by simp; omega, by have h1 := HM4.out; have h2 := HOL.out; omega, HN6, HW6⟩
            case measure => simp [intOf]; omega
        · go_wp2_with fail
          go_meet
          exact ⟨s, lv1, evs, out, m, B, d, rfl, hmd, hdc, by omega, by omega, Lib.hid (HI.out.mono1 (by omega) (by omega)), HWI⟩
      · go_wp2_with fail
        go_meet
        exact ⟨s, lv1, evs, out, m, B, d, rfl, hmd, hdc, by omega, by omega, Lib.hid (HI.out.mono1 (by omega) (by omega)), HWI⟩
  case rest =>
  obtain ⟨s, lv1, evs, out, m, B, d, rfl, hmd, hdc, hel, hm, HI, HWI⟩ := hcut
  obtain ⟨w3, hw3⟩ : ∃ w9, w9 = wc := ⟨_, rfl⟩
  subst hw3
  obtain ⟨A8, c8, rfl, -, -, -⟩ := HWI.out.row.rd
  have hout := encE_ok PBOk.nil HWI.out.ok
  rw [HWI.out.enc] at hout
  have HBO := Lib.hid hout.2
  have hol := HWI.out.rd.len
  have HOL := Lib.hid hol
  obtain ⟨cnt, hcnt⟩ : ∃ c, evs.length = c := ⟨_, rfl⟩
  rw [hcnt] at hel HWI ⊢
  have HCNT := Lib.hid hcnt
  clear HI0 HR0 hout hol hcnt
  -- they come back
  go_upto_region 10 with fail
  go_upto_block 2 with fail
  go_cut [12] from 63 to 93 (fun s12 wx => s12 = .int .i64 (m : Int) ∧ RowKit.Hid (Grew w wx))
  case first =>
    go_wp2_with fail
    go_loopw [12, 13] (fun s12 s13 wr => ∃ (i at_ : Nat) (lv2 : Value) (pre : List Int) (s2 : PB), s13 = .int .i64 (i : Int) ∧ s12 = .int .i64 (at_ : Int) ∧ i ≤ cnt ∧ at_ ≤ m ∧ RowKit.Hid (encE ⟨[], 0, fun _ _ => []⟩ ((evs.map (·.1)).take i) = (pre, s2)) ∧ RowKit.Hid (pre.length = at_) ∧ RowKit.Hid (TwoE w p1 tp1 lv1 mb1 lb1 60 s p2 tp2 lv2 mb2 lb2 (2 * i) s2 wr) ∧ RowKit.Hid (WasI w evs (.slice A8 cnt c8) out m B s wr)) (fun _ s13 _ => cnt - (intOf s13).toNat)
    case atStart => exact ⟨0, 0, _, [], _, rfl, rfl, by omega, by omega, Lib.hid rfl, Lib.hid rfl, HI, HWI⟩
    case round =>
      rename World => wr
      clear HI HWI
      obtain ⟨i, at_, lv2, pre, s2, rfl, rfl, hi, hat, HENC, HPL, HI, HWI⟩ := hrel
      by_cases hlt : i < cnt
      · obtain ⟨⟨x1, A, n, c⟩, hx⟩ : ∃ r, evs[i]? = some r := ⟨_, List.getElem?_eq_getElem (by rw [HCNT.out]; exact hlt)⟩
        have hhd := HWI.out.hd _ (List.mem_of_getElem? hx)
        obtain ⟨rest, q1, q2, q3, q4, q5, q6, q7⟩ := encE_split (x := x1) PBOk.nil HWI.out.ok (show (evs.map (·.1))[i]? = some x1 by rw [List.getElem?_map, hx]; rfl)
        rw [HENC.out] at q1 q3 q6 q7
        rw [HWI.out.enc] at q1
        dsimp only at q1 q3 q6 q7 hhd
        have htk := (takeB_putB (ys := pre) (r := rest) q3 (by have := HI.out.b2.few; omega) q4 q5 q6 q2).1
        rw [← q1, HPL.out] at htk
        have hpos := putB_pos (s := s2) q4
        have hx25 := (goodP_of q4).hs
        obtain ⟨⟨zs, s2'⟩, hps⟩ : ∃ z, putB s2 x1 = z := ⟨_, rfl⟩
        rw [hps] at htk hpos q1 q7
        dsimp only at htk hpos q1 q7
        obtain ⟨nx, hnx⟩ : ∃ nx, at_ + zs.length = nx := ⟨_, rfl⟩
        have hnxi : (at_ : Int) + (zs.length : Int) = (nx : Int) := by omega
        rw [hnxi] at htk
        have hnm : nx ≤ m := by
          have h1 := HOL.out
          rw [q1] at h1
          simp only [List.length_append] at h1
          have := HPL.out
          omega
        have hnlt : at_ < nx := by omega
        have hb := btake_any p2 tp2 lv2 mb2 lb2 (2 * i) s2 B m d out (at_ : Int) wr HI.out.b2 HWI.out.rd HBO.out hmd hdc (by omega) (by omega) (by omega) (fun h0 ad e => HWI.out.u8.book HI.out.b2 ad e) (by omega)
        rw [htk] at hb
        unfold BTakeQ at hb
        dsimp only at hb
        have hpl2 : (pre ++ zs).length = nx := by rw [List.length_append, HPL.out]; exact hnx
        have HBT := Lib.hid hb
        have HX := Lib.hid hx
        have HQ7 := Lib.hid q7
        have HPL2 := Lib.hid hpl2
        have HHD := Lib.hid hhd
        clear hb hx hhd q1 q2 q3 q4 q5 q6 q7 htk hpos hps hnx hnxi hpl2
        go_upto_region 14 with (first | (go_at_call 17; refine Calls.mono HBT.out ?_; rintro e w4 ⟨H, m4, d4, rfl, hL4, ⟨lv4, hbk4, hf4⟩, hc4⟩; have hxb0 := heap_alloc_new w4 (.cells #[.int .i64 0, .int .i64 0, .int .i64 0, .string { data := #[] }, .string { data := #[] }, .slice none 0 0, .string { data := #[] }, .int .i64 0, .int .i64 0, .bool false, .string { data := #[] }, .int .u64 0] 34); have hal4 : Grew w4 (w4.alloc (.cells #[.int .i64 0, .int .i64 0, .int .i64 0, .string { data := #[] }, .string { data := #[] }, .slice none 0 0, .string { data := #[] }, .int .i64 0, .int .i64 0, .bool false, .string { data := #[] }, .int .u64 0] 34)) := (Grew.rf w4).al _) | ((with_reducible refine gate_st 34 (.tmp 14) (.tmp 74) rfl ?_); refine st_row0 rfl rfl rfl rfl rfl hxb0 (by kernel_rfl) rfl (by simp [evA, Value.oneCell']) ?_; intro w5 hw5 hby5))
        have hg5 : Grew w4 w5 := grew_chg hal4 (chg1 hby5) (fun x e => by omega)
        have hN5 := (HI.out.two (Grew.rf _) hc4 hbk4 hf4).keep hg5
        have hW5 := (HWI.out.chg HI.out.b2 hc4).keep hg5
        obtain ⟨A1, n1', c1', hv1, hr1, -, -, -, -, -⟩ := hL4.keep hg5
        cases hv1
        have hm1 : m4 ≤ 1000 := by rw [← hr1.lenH]; omega
        obtain ⟨A', c', he', -, -, hrd5⟩ := hW5.row.rd
        simp only [Value.slice.injEq] at he'
        obtain ⟨rfl, -, rfl⟩ := he'
        rw [HCNT.out] at hrd5
        obtain ⟨b, o, r5, hA5, hx5, hev5⟩ := RdV.atE hrd5 hlt
        rw [HX.out] at hx5
        obtain rfl := Option.some.inj hx5
        subst hA5
        obtain ⟨xb1, hxb1⟩ : ∃ b, w4.heap.size = b := ⟨_, rfl⟩
        rw [hxb1] at hw5 ⊢
        have hsame := fun (u : World) (hu : Grew w5 u) => sameEvent_any x1 H m4 d4 x1 A n c u (hr1.keep hu) (HHD.out.1.keep (hN5.grew.tr hu)) hm1 HHD.out.2
        have hse : sameE x1 x1 = true := by simp [sameE]
        simp only [hse, evV] at hsame
        obtain ⟨xc, hxc⟩ : ∃ xc : Array Value, evA x1 H m4 d4 = xc := ⟨_, rfl⟩
        have hxs : xc.size = 12 := by rw [← hxc]; rfl
        have hw5' : w5.heap[xb1]? = some (.cells xc 34) := by rw [← hxc]; exact hw5
        simp only [hxc] at hsame
        have HSAME := Lib.hid hsame
        have HX5 := Lib.hid hw5'
        have HXS := Lib.hid hxs
        have HEV5 := Lib.hid hev5
        have HN5 := Lib.hid hN5
        have HW5 := Lib.hid hW5
        clear hxb0 hal4 hw5 hw5' hby5 hg5 hc4 hbk4 hf4 hL4 hr1 hm1 hrd5 hx5 hev5 hxb1 hsame hse hxc hxs hN5 hW5
        refine region_grew [[], [(0, 77)], [(1, 78)], [(2, 79)], [(2, 79)], [(2, 79)], [(2, 79), (4, 81), (5, 82)], [(2, 79), (6, 83)], [(2, 79), (3, 80), (7, 84)], [(2, 79), (8, 85)], [(2, 79), (9, 86)], [(10, 87)], [(11, 88)], [(11, 88)], [(11, 88), (12, 89), (13, 90)], [(11, 88), (14, 91)]] [(0, 77), (1, 78), (2, 79), (3, 80), (4, 81), (5, 82), (6, 83), (7, 84), (8, 85), (9, 86), (10, 87), (11, 88), (12, 89), (13, 90), (14, 91), (15, 92)] (fun
          | 0 => .eqv (.int .i64 0) | 1 => .eqv (.bool false) | 2 => .eqv (.bool false) | 3 => .eqv (.agg xc) | 4 => .eqv (.slice (some ⟨b, o, none⟩) cnt c8) | 5 => .eqv (.int .i64 (i : Int)) | 6 => .eqv (.pointer (some ⟨b, o + i * 12, none⟩)) | 7 => .eqv (.agg (evA x1 A n c)) | 8 => .eqv (.bool true) | 9 => .eqv (.bool false) | 10 => .eqv (.bool false) | 11 => .eqv (.bool false) | 12 => .eqv (.int .i64 (nx : Int)) | 13 => .eqv (.int .i64 (at_ : Int)) | 14 => .eqv (.bool false) | 15 => .eqv (.bool false) | _ => .any) (by kernel_rfl) ?_ ?_
        · refine ⟨fun u hu => ?_, fun u hu => ?_, fun u hu => ?_, fun u hu => ?_, fun u hu => ?_, fun u hu => ?_, fun u hu => ?_, fun u hu => ?_, fun u hu => ?_, fun u hu => ?_, fun u hu => ?_, fun u hu => ?_, fun u hu => ?_, fun u hu => ?_, fun u hu => ?_, fun u hu => ?_, trivial⟩
          · refine StepGoal.nil ?_
            go_wp2
            exact ⟨rfl, rfl, Grew.rf _, rfl⟩
          · rintro _ rfl
            refine StepGoal.nil ?_
            simp only [Act.put, List.setIfInBounds_toArray, List.set_cons_zero, List.set_cons_succ]
            go_wp2
            exact ⟨rfl, rfl, Grew.rf _, rfl⟩
          · rintro _ rfl
            refine StepGoal.nil ?_
            simp only [Act.put, List.setIfInBounds_toArray, List.set_cons_zero, List.set_cons_succ]
            go_wp2
            exact ⟨rfl, rfl, Grew.rf _, rfl⟩
          · rintro _ rfl
            have hx8 := heap_keep hu HX5.out
            refine StepGoal.nil ?_
            simp only [Act.put, List.setIfInBounds_toArray, List.set_cons_zero, List.set_cons_succ]
            go_wp2_with (refine ld_row (.inr rfl) rfl rfl hx8 rfl Try.underlying34 (by rw [HXS.out]; kernel_rfl) ?_)
            exact ⟨rfl, rfl, Grew.rf _, rfl⟩
          · rintro _ rfl
            refine StepGoal.nil ?_
            simp only [Act.put, List.setIfInBounds_toArray, List.set_cons_zero, List.set_cons_succ]
            go_wp2
            exact ⟨rfl, rfl, Grew.rf _, rfl⟩
          · rintro _ rfl
            refine StepGoal.nil ?_
            simp only [Act.put, List.setIfInBounds_toArray, List.set_cons_zero, List.set_cons_succ]
            go_wp2
            exact ⟨rfl, rfl, Grew.rf _, rfl⟩
          · rintro _ rfl _ rfl _ rfl
            refine StepGoal.nil ?_
            simp only [Act.put, List.setIfInBounds_toArray, List.set_cons_zero, List.set_cons_succ]
            go_wp2
            exact ⟨rfl, rfl, Grew.rf _, rfl⟩
          · rintro _ rfl _ rfl
            have hev := HEV5.out.keep hu; have m0 := hev 0 _ rfl; have m1 := hev 1 _ rfl; have m2 := hev 2 _ rfl; have m3 := hev 3 _ rfl; have m4' := hev 4 _ rfl; have m5 := hev 5 _ rfl; have m6 := hev 6 _ rfl; have m7 := hev 7 _ rfl; have m8 := hev 8 _ rfl; have m9 := hev 9 _ rfl; have m10 := hev 10 _ rfl; have m11 := hev 11 _ rfl; rw [Nat.add_zero] at m0
            refine StepGoal.nil ?_
            simp only [Act.put, List.setIfInBounds_toArray, List.set_cons_zero, List.set_cons_succ]
            go_wp2
            exact ⟨rfl, rfl, Grew.rf _, rfl⟩
          · rintro _ rfl _ rfl _ rfl
            refine StepGoal.nil ?_
            simp only [Act.put, List.setIfInBounds_toArray, List.set_cons_zero, List.set_cons_succ]
            go_wp2_with (go_at_call 19; refine Calls.mono (HSAME.out _ hu) ?_; rintro e w8 ⟨rfl, hg8⟩)
            exact ⟨rfl, rfl, hg8, rfl⟩
          · rintro _ rfl _ rfl
            refine StepGoal.nil ?_
            simp only [Act.put, List.setIfInBounds_toArray, List.set_cons_zero, List.set_cons_succ]
            go_wp2
            exact ⟨rfl, rfl, Grew.rf _, rfl⟩
          · rintro _ rfl _ rfl
            refine StepGoal.nil ?_
            simp only [Act.put, List.setIfInBounds_toArray, List.set_cons_zero, List.set_cons_succ]
            go_wp2
            exact ⟨rfl, rfl, Grew.rf _, rfl⟩
          · rintro _ rfl
            refine StepGoal.nil ?_
            simp only [Act.put, List.setIfInBounds_toArray, List.set_cons_zero, List.set_cons_succ]
            go_wp2
            exact ⟨rfl, rfl, Grew.rf _, rfl⟩
          · rintro _ rfl
            refine StepGoal.nil ?_
            simp only [Act.put, List.setIfInBounds_toArray, List.set_cons_zero, List.set_cons_succ]
            go_wp2
            exact ⟨rfl, rfl, Grew.rf _, rfl⟩
          · rintro _ rfl
            refine StepGoal.nil ?_
            simp only [Act.put, List.setIfInBounds_toArray, List.set_cons_zero, List.set_cons_succ]
            go_wp2
            exact ⟨rfl, rfl, Grew.rf _, rfl⟩
          · rintro _ rfl _ rfl _ rfl
            refine StepGoal.nil ?_
            simp only [Act.put, List.setIfInBounds_toArray, List.set_cons_zero, List.set_cons_succ]
            go_wp2
            exact ⟨rfl, rfl, Grew.rf _, congrArg Value.bool (decide_eq_false (p := nx ≤ at_) (by omega))⟩
          · rintro _ rfl _ rfl
            refine StepGoal.nil ?_
            simp only [Act.put, List.setIfInBounds_toArray, List.set_cons_zero, List.set_cons_succ]
            go_wp2
            exact ⟨rfl, rfl, Grew.rf _, rfl⟩
        · intro u hu
          rintro _ rfl _ rfl _ rfl _ rfl _ rfl _ rfl _ rfl _ rfl _ rfl _ rfl _ rfl _ rfl _ rfl _ rfl _ rfl _ rfl
          refine StepGoal.nil ?_
          simp only [Act.put, List.setIfInBounds_toArray, List.set_cons_zero, List.set_cons_succ]
          have HNU := Lib.hid (HN5.out.keep hu)
          have HWU := Lib.hid (HW5.out.keep hu)
          clear hu
          go_wp2_with fail
          go_roundw
          case rel => exact ⟨i + 1, nx, lv4, pre ++ zs, s2', by go_num, rfl, by omega, by omega, HQ7, HPL2, HNU, HWU⟩
          case measure => simp [intOf]; omega
      · obtain rfl : i = cnt := by omega
        have hall := HENC.out
        rw [List.take_of_length_le (by rw [List.length_map, HCNT.out]; exact Nat.le_refl _), HWI.out.enc] at hall
        simp only [Prod.mk.injEq] at hall
        have hatm : at_ = m := by rw [← HPL.out, ← hall.1, HOL.out]
        have HG := Lib.hid HI.out.grew
        subst hatm
        clear hall
        go_wp2_with fail
        go_meet
        exact ⟨rfl, HG⟩
  case rest =>
  obtain ⟨rfl, HG4⟩ := hcut
  obtain ⟨w4, hw4⟩ : ∃ w9, w9 = wc := ⟨_, rfl⟩
  subst hw4
  clear HI HWI
  -- the bytes, cut
  go_upto_region 18 with fail
  go_upto_if 97 with fail
  go_cut [17] from 97 to 99 (fun s8 wx => s8 = .slice A0 k0 c0 ∧ w4 = wx)
  case first =>
    by_cases hbig : 6000 < n0
    · obtain rfl : 6000 = k0 := by have := HK0.out; omega
      have hcut := cut_hi (kh := .i64) A0 n0 c0 6000 (by omega)
      go_wp2_with fail
      go_meet
      exact ⟨rfl, rfl⟩
    · obtain rfl : n0 = k0 := by have := HK0.out; omega
      go_wp2_with fail
      go_meet
      exact ⟨rfl, rfl⟩
  case rest =>
  obtain ⟨rfl, hwc⟩ := hcut
  subst hwc
  go_upto_region 21 with (first | (have hh := hB1; go_at_call 12; refine Calls.mono (bnew_any _) ?_; rintro e w6 ⟨p4, tp4, mb4, lb4, rfl, hB2, hg2, hf2⟩) | (go_at_call 12; refine Calls.mono (bnew_any _) ?_; rintro e w5 ⟨p3, tp3, mb3, lb3, rfl, hB1, hg1, hf1⟩))
  have h0 : TwoE w p3 tp3 (.slice none 0 0) mb3 lb3 0 ⟨[], 0, fun _ _ => []⟩ p4 tp4 (.slice none 0 0) mb4 lb4 0 ⟨[], 0, fun _ _ => []⟩ w6 := ⟨hB1.keep hg2, hB2, fun x hx => by have := hf1 x hx; have := HG4.out.size; omega, fun x hx => ⟨by have := hf2 x hx; have := hg1.size; have := HG4.out.size; omega, fun h => by have := hf2 x hx; have := hB1.lt h; omega⟩, (HG4.out.tr hg1).tr hg2⟩
  have H0 := Lib.hid h0
  clear h0 hB1 hg1 hf1 hB2 hg2 hf2 HG4
  go_upto_region 22 with fail
  go_upto_block 4 with fail
  go_cut [] from 102 to 140 (fun wx => RowKit.Hid (Grew w wx))
  case first =>
    go_wp2_with fail
    go_loopw [20, 21] (fun s20 s21 wr => ∃ (j on : Nat) (lv3 lv4 : Value) (s3 : PB), s21 = .int .i64 (j : Int) ∧ s20 = .int .i64 (on : Int) ∧ j ≤ 30 ∧ on ≤ k0 ∧ RowKit.Hid (PBOk s3) ∧ RowKit.Hid (TwoE w p3 tp3 lv3 mb3 lb3 (2 * j) s3 p4 tp4 lv4 mb4 lb4 (2 * j) s3 wr)) (fun _ s21 _ => 30 - (intOf s21).toNat)
    case atStart => exact ⟨0, 0, _, _, _, rfl, rfl, by omega, by omega, Lib.hid PBOk.nil, H0⟩
    case round =>
      rename World => wr
      clear H0
      obtain ⟨j, on, lv3, lv4, s3, rfl, rfl, hj, hon, HPB, HI⟩ := hrel
      by_cases h30 : j < 30
      · have hb := btake_any p3 tp3 lv3 mb3 lb3 (2 * j) s3 A0 k0 c0 x (on : Int) wr HI.out.b1 (HRX.out.keep HI.out.grew) HBX.out hkc0 hc0 (by omega) (by omega) (by omega) (fun h0 ad e h => by have h1 := HAX.out h0 ad e; have h2 := HI.out.f1 _ h; omega) (by omega)
        obtain ⟨⟨y, nx, er, s'⟩, hz⟩ : ∃ z, takeB s3 x (on : Int) = z := ⟨_, rfl⟩
        rw [hz] at hb
        unfold BTakeQ at hb
        dsimp only at hb
        have HBT := Lib.hid hb
        have HZ := Lib.hid hz
        clear hb hz
        go_upto_region 26 with (first | (go_at_call 17; refine Calls.mono HBT.out ?_; rintro e w7 ⟨H, m7, d7, rfl, hL7, ⟨lv7, hbk7, hf7⟩, hc7⟩; have hxb0 := heap_alloc_new w7 (.cells #[.int .i64 0, .int .i64 0, .int .i64 0, .string { data := #[] }, .string { data := #[] }, .slice none 0 0, .string { data := #[] }, .int .i64 0, .int .i64 0, .bool false, .string { data := #[] }, .int .u64 0] 34); have hal7 : Grew w7 (w7.alloc (.cells #[.int .i64 0, .int .i64 0, .int .i64 0, .string { data := #[] }, .string { data := #[] }, .slice none 0 0, .string { data := #[] }, .int .i64 0, .int .i64 0, .bool false, .string { data := #[] }, .int .u64 0] 34)) := (Grew.rf w7).al _) | ((with_reducible refine gate_st 34 (.tmp 22) (.tmp 111) rfl ?_); refine st_row0 rfl rfl rfl rfl rfl hxb0 (by kernel_rfl) rfl (by simp [evA, Value.oneCell']) ?_; intro w8 hw8 hby8))
        have hg8 : Grew w7 w8 := grew_chg hal7 (chg1 hby8) (fun x e => by omega)
        have hN8 := (HI.out.one (Grew.rf _) hc7 hbk7 hf7).keep hg8
        by_cases her : er = 0
        · subst her
          obtain ⟨g1, g2, g3, g4, g5, g6, g7, g8⟩ := putB_takeB HBX.out HPB.out HZ.out
          obtain ⟨nxn, rfl⟩ := Int.eq_ofNat_of_zero_le (show 0 ≤ nx by omega)
          have hnk : nxn ≤ k0 := by have := HXL0.out; omega
          have hon2 : on < nxn := by omega
          obtain ⟨A1, n1', c1', hv1, hr1, hnc1, hcc1, hdb1, hnil1, -⟩ := hL7.keep hg8
          cases hv1
          obtain ⟨xb1, hxb1⟩ : ∃ b, w7.heap.size = b := ⟨_, rfl⟩
          rw [hxb1] at hw8 ⊢
          have hput := bput_any p4 tp4 lv4 mb4 lb4 (2 * j) s3 y H m7 d7 none 0 0 [] w8 hN8.b2 hr1 hnil1 hnc1 hcc1 (noB w8) (by omega) (fun h0 ad e h => by obtain ⟨cs, fr, hc⟩ := hdb1 ad e; exact hN8.b2.noH _ _ _ hc h) (by omega) g2 g1 g3
          rw [g4] at hput
          dsimp only at hput
          rw [List.nil_append] at hput
          obtain ⟨xc, hxc⟩ : ∃ xc : Array Value, evA y H m7 d7 = xc := ⟨_, rfl⟩
          have hxs : xc.size = 12 := by rw [← hxc]; rfl
          have hw8' : w8.heap[xb1]? = some (.cells xc 34) := by rw [← hxc]; exact hw8
          simp only [evV, hxc] at hput
          obtain ⟨A9, hcut9, hA9⟩ := cut_lh (kl := .i64) (kh := .i64) A0 k0 c0 on nxn (by omega) hnk hkc0
          have hseg : seg x (on : Int) (nxn : Int) = (x.take nxn).drop on := by unfold seg; rw [Int.toNat_natCast, Int.toNat_natCast]
          obtain ⟨zs, hzs⟩ : ∃ z, seg x (on : Int) (nxn : Int) = z := ⟨_, rfl⟩
          rw [hzs] at hput hseg
          have HPUT := Lib.hid hput
          have HPB2 := Lib.hid g8
          have HN8 := Lib.hid hN8
          have HA9 := Lib.hid (fun (u : World) (hu : Grew w u) => (by rw [hseg]; exact hA9 (HRX.out.keep hu) : Rd u A9 (nxn - on) zs))
          have HXS := Lib.hid hxs
          clear hxb0 hal7 hw8 hby8 hg8 hc7 hbk7 hf7 hL7 g1 g2 g3 g4 g5 g6 g7 g8 hr1 hnc1 hcc1 hdb1 hnil1 hxb1 hput hxc hxs hA9 hzs hseg hN8
          go_upto_region 28 with (first | ((with_reducible refine gate_ld' 34 (.tmp 22) rfl ?_); refine ld_row (.inl rfl) rfl rfl hw8' rfl Try.underlying34 (by rw [HXS.out]; kernel_rfl) ?_) | (go_at_call 14; refine Calls.mono HPUT.out ?_; rintro e w9 ⟨v9, rfl, hQ9⟩; obtain ⟨B9, m9, d9, rfl, hle9, hcap9, hrd9, hfr9, hu89, hmN9⟩ := hQ9.out))
          obtain ⟨lv9, hbk9, hf9, -⟩ := hQ9.book
          have hN9 := HN8.out.two (Grew.rf _) hQ9.chg hbk9 hf9
          have HN9 := Lib.hid hN9
          have HRD9 := Lib.hid hrd9
          clear hw8' hQ9 hbk9 hf9 hN9 hle9 hcap9 hrd9 hfr9 hu89 hmN9
          refine region_grew [[], [(0, 122)], [(1, 123)], [(2, 124)], [(2, 124)], [(2, 124), (4, 126)], [(2, 124), (3, 125), (5, 127)], [(2, 124), (6, 128)], [(7, 129)], [(8, 130)], [(8, 130), (9, 131)], [(8, 130)], [(8, 130)], [(8, 130)], [(8, 130), (11, 133), (12, 134), (13, 135)], [(8, 130), (14, 136)], [(8, 130), (10, 132), (15, 137)], [(8, 130), (16, 138)]] [(0, 122), (1, 123), (2, 124), (3, 125), (4, 126), (5, 127), (6, 128), (7, 129), (8, 130), (9, 131), (10, 132), (11, 133), (12, 134), (13, 135), (14, 136), (15, 137), (16, 138), (17, 139)] (fun
            | 0 => .eqv (.int .i64 0) | 1 => .eqv (.bool false) | 2 => .eqv (.bool false) | 3 => .eqv (.int .i64 (nxn : Int)) | 4 => .eqv (.slice A0 k0 c0) | 5 => .eqv (.int .i64 (k0 : Int)) | 6 => .eqv (.bool false) | 7 => .eqv (.bool false) | 8 => .eqv (.bool false) | 9 => .eqv (.slice B9 m9 d9) | 10 => .eqv (.string (strOfNums zs)) | 11 => .eqv (.slice A0 k0 c0) | 12 => .eqv (.int .i64 (on : Int)) | 13 => .eqv (.int .i64 (nxn : Int)) | 14 => .eqv (.slice A9 (nxn - on) (c0 - on)) | 15 => .eqv (.string (strOfNums zs)) | 16 => .eqv (.bool false) | 17 => .eqv (.bool false) | _ => .any) (by kernel_rfl) ?_ ?_
          · refine ⟨fun u hu => ?_, fun u hu => ?_, fun u hu => ?_, fun u hu => ?_, fun u hu => ?_, fun u hu => ?_, fun u hu => ?_, fun u hu => ?_, fun u hu => ?_, fun u hu => ?_, fun u hu => ?_, fun u hu => ?_, fun u hu => ?_, fun u hu => ?_, fun u hu => ?_, fun u hu => ?_, fun u hu => ?_, fun u hu => ?_, trivial⟩
            · refine StepGoal.nil ?_
              go_wp2
              exact ⟨rfl, rfl, Grew.rf _, rfl⟩
            · rintro _ rfl
              refine StepGoal.nil ?_
              simp only [Act.put, List.setIfInBounds_toArray, List.set_cons_zero, List.set_cons_succ]
              go_wp2
              exact ⟨rfl, rfl, Grew.rf _, rfl⟩
            · rintro _ rfl
              refine StepGoal.nil ?_
              simp only [Act.put, List.setIfInBounds_toArray, List.set_cons_zero, List.set_cons_succ]
              go_wp2
              exact ⟨rfl, rfl, Grew.rf _, rfl⟩
            · rintro _ rfl
              refine StepGoal.nil ?_
              simp only [Act.put, List.setIfInBounds_toArray, List.set_cons_zero, List.set_cons_succ]
              go_wp2
              exact ⟨rfl, rfl, Grew.rf _, rfl⟩
            · rintro _ rfl
              refine StepGoal.nil ?_
              simp only [Act.put, List.setIfInBounds_toArray, List.set_cons_zero, List.set_cons_succ]
              go_wp2
              exact ⟨rfl, rfl, Grew.rf _, rfl⟩
            · rintro _ rfl _ rfl
              refine StepGoal.nil ?_
              simp only [Act.put, List.setIfInBounds_toArray, List.set_cons_zero, List.set_cons_succ]
              go_wp2
              exact ⟨rfl, rfl, Grew.rf _, rfl⟩
            · rintro _ rfl _ rfl _ rfl
              refine StepGoal.nil ?_
              simp only [Act.put, List.setIfInBounds_toArray, List.set_cons_zero, List.set_cons_succ]
              go_wp2
              exact ⟨rfl, rfl, Grew.rf _, congrArg Value.bool (decide_eq_false (p := k0 < nxn) (by omega))⟩
            · rintro _ rfl _ rfl
              refine StepGoal.nil ?_
              simp only [Act.put, List.setIfInBounds_toArray, List.set_cons_zero, List.set_cons_succ]
              go_wp2
              exact ⟨rfl, rfl, Grew.rf _, rfl⟩
            · rintro _ rfl
              refine StepGoal.nil ?_
              simp only [Act.put, List.setIfInBounds_toArray, List.set_cons_zero, List.set_cons_succ]
              go_wp2
              exact ⟨rfl, rfl, Grew.rf _, rfl⟩
            · rintro _ rfl
              refine StepGoal.nil ?_
              simp only [Act.put, List.setIfInBounds_toArray, List.set_cons_zero, List.set_cons_succ]
              go_wp2
              exact ⟨rfl, rfl, Grew.rf _, rfl⟩
            · rintro _ rfl _ rfl
              have hs := RdK.str (c := d9) (HRD9.out.keep hu)
              refine StepGoal.nil ?_
              simp only [Act.put, List.setIfInBounds_toArray, List.set_cons_zero, List.set_cons_succ]
              go_wp2
              exact ⟨rfl, rfl, Grew.rf _, rfl⟩
            · rintro _ rfl
              refine StepGoal.nil ?_
              simp only [Act.put, List.setIfInBounds_toArray, List.set_cons_zero, List.set_cons_succ]
              go_wp2
              exact ⟨rfl, rfl, Grew.rf _, rfl⟩
            · rintro _ rfl
              refine StepGoal.nil ?_
              simp only [Act.put, List.setIfInBounds_toArray, List.set_cons_zero, List.set_cons_succ]
              go_wp2
              exact ⟨rfl, rfl, Grew.rf _, rfl⟩
            · rintro _ rfl
              refine StepGoal.nil ?_
              simp only [Act.put, List.setIfInBounds_toArray, List.set_cons_zero, List.set_cons_succ]
              go_wp2
              exact ⟨rfl, rfl, Grew.rf _, rfl⟩
            · rintro _ rfl _ rfl _ rfl _ rfl
              refine StepGoal.nil ?_
              simp only [Act.put, List.setIfInBounds_toArray, List.set_cons_zero, List.set_cons_succ]
              go_wp2
              exact ⟨rfl, rfl, Grew.rf _, rfl⟩
            · rintro _ rfl _ rfl
              have hs := RdK.str (c := c0 - on) (HA9.out u (HN9.out.grew.tr hu))
              refine StepGoal.nil ?_
              simp only [Act.put, List.setIfInBounds_toArray, List.set_cons_zero, List.set_cons_succ]
              go_wp2
              exact ⟨rfl, rfl, Grew.rf _, rfl⟩
            · rintro _ rfl _ rfl _ rfl
              refine StepGoal.nil ?_
              simp only [Act.put, List.setIfInBounds_toArray, List.set_cons_zero, List.set_cons_succ]
              go_wp2
              exact ⟨rfl, rfl, Grew.rf _, rfl⟩
            · rintro _ rfl _ rfl
              refine StepGoal.nil ?_
              simp only [Act.put, List.setIfInBounds_toArray, List.set_cons_zero, List.set_cons_succ]
              go_wp2
              exact ⟨rfl, rfl, Grew.rf _, rfl⟩
          · intro u hu
            rintro _ rfl _ rfl _ rfl _ rfl _ rfl _ rfl _ rfl _ rfl _ rfl _ rfl _ rfl _ rfl _ rfl _ rfl _ rfl _ rfl _ rfl _ rfl
            refine StepGoal.nil ?_
            simp only [Act.put, List.setIfInBounds_toArray, List.set_cons_zero, List.set_cons_succ]
            have HNU := Lib.hid (HN9.out.keep hu)
            clear hu
            go_wp2_with fail
            go_roundw
            case rel => exact ⟨j + 1, nxn, lv7, lv9, s', by go_num, rfl, by omega, hnk, HPB2, HNU⟩
            case measure => simp [intOf]; omega
        · have d1 : (er == 0) = false := by simpa using her
          have dd1 : decide (er = 0) = false := by simpa using her
          have d2 : (er != 0) = true := by simpa using her
          have HGF := Lib.hid hN8.grew
          clear her hN8 hg8 hby8 hw8 hxb0 hal7 hc7 hbk7 hf7 hL7
          go_wp2_with fail
          go_meet
          exact HGF
      · have HGF := Lib.hid HI.out.grew
        go_wp2_with fail
        go_meet
        exact HGF
  case rest =>
  have HGF := hcut
  go_wp2_with (go_at_call 20; refine Calls.mono (awake21_any _) ?_; rintro e w9 ⟨rfl, hg9⟩)
  go_ret
  exact ⟨rfl, HGF.out.tr hg9⟩
end Go.Proofs.Ytbkcpgaicoagfaa
