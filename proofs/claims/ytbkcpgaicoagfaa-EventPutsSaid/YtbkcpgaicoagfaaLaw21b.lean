/- EventPuts: the walk. -/
import Derived.Test.YtbkcpgaicoagfaaRb5
import Derived.Test.YtbkcpgaicoagfaaEg34
import Derived.Test.YtbkcpgaicoagfaaEg35
set_option linter.unusedVariables false
set_option linter.unusedSimpArgs false
namespace Go.Proofs.Ytbkcpgaicoagfaa
open Go.RowKit

/-- Twelve cells in a row: an event. -/
def EvAt (w : World) (b o : Nat) (r : Evr) : Prop := ∀ j v, (ecl r)[j]? = some v → w.cell? ⟨b, o + j, none⟩ = some v
theorem RdV.atE {w : World} {a : Option Addr} {len : Nat} {l : List Evr} (h : RdE w a len l) {j : Nat} (hj : j < len) : ∃ b o r, a = some ⟨b, o, none⟩ ∧ l[j]? = some r ∧ EvAt w b (o + j * 12) r := by
  obtain ⟨b, o, hA, hcl⟩ := h.cells (by omega)
  have hjl : j < l.length := by rw [h.lenE]; exact hj
  refine ⟨b, o, l[j], hA, List.getElem?_eq_getElem hjl, fun i v hi => ?_⟩
  have hi12 : i < 12 := (List.getElem?_eq_some_iff.1 hi).1
  rw [Nat.add_assoc]
  refine hcl (j * 12 + i) v ?_
  have e : ∀ (l : List Evr) (j : Nat) (hj : j < l.length), (ecs l)[j * 12 + i]? = (ecl l[j])[i]? := by
    intro l
    induction l with
    | nil => intro j hj; simp at hj
    | cons y l ih =>
      intro j hj
      have h12 : (ecl y).length = 12 := rfl
      have e2 : ecs (y :: l) = ecl y ++ ecs l := List.flatMap_cons
      cases j with
      | zero => rw [e2, Nat.zero_mul, Nat.zero_add, List.getElem?_append_left (by rw [h12]; exact hi12)]; rfl
      | succ j =>
        rw [e2, List.getElem?_append_right (by rw [h12]; omega), h12, show (j + 1) * 12 + i - 12 = j * 12 + i by omega]
        have := ih j (by simpa using hj)
        simpa using this
  rw [e l j hjl]
  exact hi
theorem EvAt.keep {w w' : World} {b o : Nat} {r : Evr} (h : EvAt w b o r) (hg : Grew w w') : EvAt w' b o r := fun j v hj => hg.ce (h j v hj)
theorem BookI.mono {w : World} {p tp : Nat} {lv : Value} {mb lb k k' : Nat} {s : PB} (h : BookI w p tp lv mb lb k s) (hk : k ≤ k') (hk2 : k' ≤ 1000) : BookI w p tp lv mb lb k' s :=
  ⟨h.cells, h.tab, h.map.mono hk, h.ne, h.t0, h.t1, Nat.le_trans h.few (by omega), hk2⟩
theorem BookI.other {w : World} {p tp : Nat} {lv : Value} {mb lb k : Nat} {s : PB} (h : BookI w p tp lv mb lb k s) {b : Nat} {cs : Array Value} {T : TypeId} {fr : Nat × Nat} (hb : w.heap[b]? = some (.cells cs T fr)) (h1 : T ≠ 117) (h2 : T ≠ 9) (h3 : T ≠ 84) : ¬ ftb p tp lv mb lb b := by
  rintro (e | e | e)
  · rw [e, h.cells] at hb
    simp only [Option.some.injEq, Obj.cells.injEq] at hb
    exact h3 hb.2.1.symm
  · obtain ⟨es, c, hm⟩ := h.map.isMap
    rw [e, hm] at hb; simp at hb
  · exact ftp_nobook h.tab hb h1 h2 e
theorem U8.book {w : World} {A : Option Addr} (hu : U8 w A) {p tp : Nat} {lv : Value} {mb lb k : Nat} {s : PB} (h : BookI w p tp lv mb lb k s) : ∀ ad, A = some ad → ¬ ftb p tp lv mb lb ad.block := fun ad e => by
  obtain ⟨cs, fr, hc⟩ := hu ad e
  exact h.other hc (by decide) (by decide) (by decide)
theorem U8.rbook {w : World} {A : Option Addr} (hu : U8 w A) {p tp : Nat} {lv LV : Value} {rows : List Lnr} {k : Nat} {s : PB} (h : RBI w p tp lv LV rows k s) : ∀ ad, A = some ad → ¬ ftR p tp lv LV ad.block := fun ad e => by
  obtain ⟨cs, fr, hc⟩ := hu ad e
  exact h.other hc (by decide) (by decide) (by decide) (by decide)
/-- Two Books of one state, side by side. -/
structure TwoB (w : World) (p tp : Nat) (lv : Value) (mb lb rp rtp : Nat) (rlv LV : Value) (rows : List Lnr) (k : Nat) (s : PB) (wr : World) : Prop where
  bk : BookI wr p tp lv mb lb k s
  rb : RBI wr rp rtp rlv LV rows k s
  f1 : ∀ x, ftb p tp lv mb lb x → w.heap.size ≤ x
  f2 : ∀ x, ftR rp rtp rlv LV x → w.heap.size ≤ x ∧ ¬ ftb p tp lv mb lb x
  ll : LB (fun x => x < w.heap.size) rows
  grew : Grew w wr
theorem TwoB.keep {w wr u : World} {p tp : Nat} {lv : Value} {mb lb rp rtp : Nat} {rlv LV : Value} {rows : List Lnr} {k : Nat} {s : PB} (h : TwoB w p tp lv mb lb rp rtp rlv LV rows k s wr) (hg : Grew wr u) : TwoB w p tp lv mb lb rp rtp rlv LV rows k s u :=
  ⟨h.bk.keep hg, h.rb.keep hg, h.f1, h.f2, h.ll, h.grew.tr hg⟩
theorem TwoB.mono {w wr : World} {p tp : Nat} {lv : Value} {mb lb rp rtp : Nat} {rlv LV : Value} {rows : List Lnr} {k k' : Nat} {s : PB} (h : TwoB w p tp lv mb lb rp rtp rlv LV rows k s wr) (hk : k ≤ k') (hk2 : k' ≤ 1000) : TwoB w p tp lv mb lb rp rtp rlv LV rows k' s wr :=
  ⟨h.bk.mono hk hk2, h.rb.mono hk hk2, h.f1, h.f2, h.ll, h.grew⟩
/-- The answer's Book while the other Book's Put ran. -/
theorem TwoB.rb1 {w wr u1 u2 : World} {p tp : Nat} {lv : Value} {mb lb rp rtp : Nat} {rlv LV : Value} {rows : List Lnr} {k : Nat} {s : PB} (h : TwoB w p tp lv mb lb rp rtp rlv LV rows k s wr) (hg : Grew wr u1) (hc : Chg (ftb p tp lv mb lb) u1 u2) : RBI u2 rp rtp rlv LV rows k s ∧ Grew w u2 :=
  ⟨(h.rb.keep hg).chg hc (fun b hb hF => (h.f2 b hb).2 hF) (fun r hr h0 ad e hF => by have h1 := h.ll r hr h0 ad e; have h2 := h.f1 _ hF; omega), grew_chg (h.grew.tr hg) hc h.f1⟩
/-- Behind both. -/
theorem TwoB.step {w wr u1 u2 u3 u4 : World} {p tp : Nat} {lv lv' : Value} {mb lb rp rtp : Nat} {rlv LV rlv' LV' : Value} {rows rows' : List Lnr} {k : Nat} {s s' : PB} (h : TwoB w p tp lv mb lb rp rtp rlv LV rows k s wr) (hg : Grew wr u1) (hc : Chg (ftb p tp lv mb lb) u1 u2) (hb : BookI u2 p tp lv' mb lb (k + 2) s') (hf : ∀ b, ftb p tp lv' mb lb b → ftb p tp lv mb lb b ∨ u1.heap.size ≤ b)
    (hg2 : Grew u2 u3) (hrc : Chg (ftR rp rtp rlv LV) u3 u4) (hrb : RBI u4 rp rtp rlv' LV' rows' (k + 2) s') (hrf : ∀ b, ftR rp rtp rlv' LV' b → ftR rp rtp rlv LV b ∨ u3.heap.size ≤ b) (hl : LB (fun x => x < w.heap.size) rows') : TwoB w p tp lv' mb lb rp rtp rlv' LV' rows' (k + 2) s' u4 := by
  obtain ⟨hr2, hgw2⟩ := h.rb1 hg hc
  have hgw1 := h.grew.tr hg
  have h3 := hb.keep hg2
  have hwr : ∀ b, ftR rp rtp rlv LV b → b < u1.heap.size := fun b hb => by have := h.rb.lt hb; have := hg.size; omega
  refine ⟨h3.chg hrc (fun b hb2 hR => ?_) (fun b cs fr hc2 => (hr2.keep hg2).other hc2 (by decide) (by decide) (by decide) (by decide)), hrb, fun x hx => ?_, fun x hx => ?_, hl, grew_chg (hgw2.tr hg2) hrc (fun b hb => (h.f2 b hb).1)⟩
  · rcases hf b hb2 with h1 | h1
    · exact (h.f2 b hR).2 h1
    · have := hwr b hR; omega
  · rcases hf x hx with h1 | h1
    · exact h.f1 x h1
    · have := hgw1.size; omega
  · rcases hrf x hx with h1 | h1
    · refine ⟨(h.f2 x h1).1, fun h2 => ?_⟩
      rcases hf x h2 with h4 | h4
      · exact (h.f2 x h1).2 h4
      · have := hwr x h1; omega
    · refine ⟨by have := (hgw2.tr hg2).size; omega, fun h2 => ?_⟩
      have := hb.lt h2
      have := hg2.size
      omega
/-- Two rows of bytes, equal, neither of them a Book's. -/
structure TwoR (out : List Int) (m : Nat) (B1 B2 : Option Addr) (wr : World) : Prop where
  r1 : Rd wr B1 m out
  r2 : Rd wr B2 m out
  u1 : U8 wr B1
  u2 : U8 wr B2
theorem TwoR.keep {wr u : World} {out : List Int} {m : Nat} {B1 B2 : Option Addr} (h : TwoR out m B1 B2 wr) (hg : Grew wr u) : TwoR out m B1 B2 u := ⟨h.r1.keep hg, h.r2.keep hg, h.u1.keep hg, h.u2.keep hg⟩
theorem noB (u : World) : RdK .u8 u none 0 [] := ⟨rfl, fun h => by omega⟩
theorem hdr_low {w : World} {A : Option Addr} {n : Nat} {l : List Hdr} (h : RdH w A n l) : 0 < n → ∀ ad, A = some ad → ad.block < w.heap.size := fun h0 ad e => by
  obtain ⟨b, o, hA, hcl⟩ := h.cells (by omega)
  rw [hA] at e; cases e
  have hle : 0 < (hcs l).length := by rw [hcs_len, h.lenH]; omega
  exact lt_of_cell (p := ⟨b, o + 0, none⟩) (hcl 0 _ (List.getElem?_eq_getElem hle))
theorem evW_cut {x : Ev} (h : EvW x) : EvW (cutE x) := ⟨h.ki, h.se, h.ti, h.st, h.co, h.nn⟩

set_option maxRecDepth 100000 in
set_option maxHeartbeats 12800000 in
theorem eventPuts_walk (a : Option Addr) (len cap : Nat) (l : List Evr) (w : World) (hl : IsEvs w a len cap l) :
    Calls Try.prog 11 #[.slice a len cap] w fun e w' => e = .returned (.bool true) ∧ Grew w w' := by
  obtain ⟨hrd, hev, hlc, hcap⟩ := hl
  have HRD := Lib.hid hrd
  have HEV := Lib.hid hev
  clear hrd hev
  go_enter Try.func11, Try.ntmps11
  go_wp2_with (first | (go_at_call 12; refine Calls.mono (bnew_any _) ?_; rintro e w1 ⟨p, tp, mb, lb, rfl, hB1, hg1, hf1⟩) | (go_at_call 13; refine Calls.mono (rbnew_any _) ?_; rintro e w2 ⟨rp, rtp, rfl, hR2, hg2, hf2⟩))
  have h0 : TwoB w p tp (.slice none 0 0) mb lb rp rtp (.slice none 0 0) (.slice none 0 0) [] 0 ⟨[], 0, fun _ _ => []⟩ w2 := ⟨hB1.keep hg2, hR2, hf1, fun x hx => ⟨by have := hf2 x hx; have := hg1.size; omega, fun h => by have := hf2 x hx; have := hB1.lt h; omega⟩, LB.nil _, hg1.tr hg2⟩
  have H0 := Lib.hid h0
  clear h0 hB1 hg1 hf1 hR2 hg2 hf2
  have hgl1 : Grew w2 (w2.alloc (.cells #[] 5)) := (Grew.rf w2).al _
  have hgl2 : Grew (w2.alloc (.cells #[] 5)) ((w2.alloc (.cells #[] 5)).alloc (.cells #[] 5)) := (Grew.rf _).al _
  have hI0 := H0.out.keep (hgl1.tr hgl2)
  have hR0 : TwoR [] 0 (some ⟨w2.heap.size, 0, none⟩) (some ⟨w2.heap.size + 1, 0, none⟩) ((w2.alloc (.cells #[] 5)).alloc (.cells #[] 5)) := ⟨⟨rfl, fun h => by omega⟩, ⟨rfl, fun h => by omega⟩, fun ad e => by cases e; exact ⟨_, _, heap_keep hgl2 (heap_alloc_new w2 _)⟩, fun ad e => by cases e; have := heap_alloc_new (w2.alloc (.cells #[] 5)) (.cells #[] 5); rw [World.size_alloc] at this; exact ⟨_, _, this⟩⟩
  go_loopw [5, 6, 7] (fun s5 s6 s7 wr => ∃ (j : Nat) (s : PB) (lv rlv LV : Value) (rows : List Lnr) (out : List Int) (m : Nat) (B1 : Option Addr) (d1 : Nat) (B2 : Option Addr) (d2 : Nat), s7 = .int .i64 (j : Int) ∧ s5 = .slice B1 m d1 ∧ s6 = .slice B2 m d2 ∧ j ≤ 30 ∧ m ≤ 110000 * j ∧ RowKit.Hid (TwoB w p tp lv mb lb rp rtp rlv LV rows (2 * j) s wr) ∧ RowKit.Hid (TwoR out m B1 B2 wr)) (fun _ _ s7 _ => 30 - (intOf s7).toNat)
  case atStart => exact ⟨0, _, _, _, _, _, [], 0, _, 0, _, 0, rfl, rfl, rfl, by omega, by omega, Lib.hid hI0, Lib.hid hR0⟩
  case round =>
    rename World => wr
    clear hgl1 hgl2 hI0 hR0 H0
    obtain ⟨j, s, lv, rlv, LV, rows, out, m, B1, d1, B2, d2, rfl, rfl, rfl, hj, hm, HI, HT⟩ := hrel
    by_cases hlt : j < len
    · by_cases h30 : j < 30
      · obtain ⟨b, o, ⟨x, A, n, c⟩, hA, hx, hat⟩ := HRD.out.atE hlt
        have hv := HEV.out _ (List.mem_of_getElem? hx)
        dsimp only at hv
        have hat' := hat.keep HI.out.grew
        have hrH : ∀ u, Grew wr u → RdH u A n x.hs := fun u hu => hv.rd.keep (HI.out.grew.tr hu)
        have hcut := fun (u : World) (hu : Grew wr u) => cutE_any x A n c u (hrH u hu) hv.le hv.cap
        have hcut2' := fun (u : World) (hu : Grew w u) => cutE_any x A n c u (hv.rd.keep hu) hv.le hv.cap
        have hlow := hdr_low hv.rd
        have hnc' := hv.le
        have hwv := evW_cut hv.evw
        have hnil := hv.nil
        have hcap' := hv.cap
        obtain ⟨y, hy⟩ : ∃ y, cutE x = y := ⟨_, rfl⟩
        rw [hy] at hcut hcut2' hwv
        obtain ⟨ki, se, ti, me, ur, hs, bo, st, co, cr, no, nn⟩ := x
        have k0 := hat' 0 _ rfl
        have k1 := hat' 1 _ rfl
        have k2 := hat' 2 _ rfl
        have k3 := hat' 3 _ rfl
        have k4 := hat' 4 _ rfl
        have k5 := hat' 5 _ rfl
        have k6 := hat' 6 _ rfl
        have k7 := hat' 7 _ rfl
        have k8 := hat' 8 _ rfl
        have k9 := hat' 9 _ rfl
        have k10 := hat' 10 _ rfl
        have k11 := hat' 11 _ rfl
        rw [Nat.add_zero] at k0
        simp only [evV, evA] at hcut
        have hcut2 := hcut2'
        simp only [evV, evA] at hcut2
        subst hA
        have HCUT := Lib.hid hcut
        have HCUT2 := Lib.hid hcut2
        have HNC := Lib.hid hnc'
        have HAT0 := Lib.hid hat
        have HLOW := Lib.hid hlow
        have HW := Lib.hid hwv
        have HNIL := Lib.hid hnil
        have HCAP := Lib.hid hcap'
        have HAT := Lib.hid hat'
        have hms := HI.out.rb.kk
        clear hat hv hat' hrH hcut hcut2 hcut2' hnc' hlow hwv hnil hcap' hy hx
        by_cases hgd : goodE y = true
        · by_cases hlate : y.ti < s.ti
          · skip
            have hb := fun (u : World) (hu : Grew wr u) (q : Nat) (hq : q ≤ 30) (hq0 : n = 0 → q = 0) (hr : RdH u A q y.hs) => bput_late p tp lv mb lb (2 * j) s y A q c B1 m d1 u (HI.out.bk.keep hu) hr (fun h => ⟨hq0 (HNIL.out h).1, (HNIL.out h).2⟩) (by omega) hgd hlate
            have hrb := fun (u : World) (hu : Grew wr u) (q : Nat) (hq : q ≤ 30) (hr : RdH u A q y.hs) => rbput_late rp rtp rlv LV rows (2 * j) s y A q c B2 m d2 u (HI.out.rb.keep hu) hr (by omega) HW.out.co hgd hlate
            have HBP := Lib.hid hb
            have HRP := Lib.hid hrb
            clear hb hrb hgd hlate
            go_upto_region 7 with (first | (go_at_call 15; refine Calls.mono (HCUT.out _ (Grew.rf _)) ?_; rintro e w3 ⟨q3, rfl, hq3, -, hr3, hg3, hz3⟩) | (go_at_call 14; refine Calls.mono (HBP.out _ hg3 q3 hq3 hz3 hr3) ?_; rintro e w4 ⟨rfl, hg4⟩))
            have hg34 := hg3.tr hg4
            have HG34 := Lib.hid hg34
            have m0 := hg34.ce k0
            have m1 := hg34.ce k1
            have m2 := hg34.ce k2
            have m3 := hg34.ce k3
            have m4 := hg34.ce k4
            have m5 := hg34.ce k5
            have m6 := hg34.ce k6
            have m7 := hg34.ce k7
            have m8 := hg34.ce k8
            have m9 := hg34.ce k9
            have m10 := hg34.ce k10
            have m11 := hg34.ce k11
            have hs0 : ∀ W : World, (convert 23 9 (.slice none 0 0)).run Try.prog W = .ok (.string (strOfNums [])) W := fun W => RdK.str (c := 0) (noB W)
            clear k0 k1 k2 k3 k4 k5 k6 k7 k8 k9 k10 k11 hg34
            go_wp2_with (first | (go_at_call 15; refine Calls.mono (HCUT.out _ HG34.out) ?_; rintro e w5 ⟨q5, rfl, hq5, -, hr5, hg5, hz5⟩) | (go_at_call 16; refine Calls.mono (HRP.out _ (HG34.out.tr hg5) q5 hq5 hr5) ?_; rintro e w6 ⟨rfl, hg6⟩; have HG6 := Lib.hid ((HG34.out.tr hg5).tr hg6)))
            go_roundw
            case rel => exact ⟨j + 1, s, lv, rlv, LV, rows, out, m, B1, d1, B2, d2, by go_num, rfl, rfl, by omega, by omega, Lib.hid ((HI.out.keep HG6.out).mono (by omega) (by omega)), Lib.hid (HT.out.keep HG6.out)⟩
            case measure => simp [intOf]; omega
          · skip
            have hb := fun (u : World) (hu : Grew wr u) (q : Nat) (hq : q ≤ 30) (hqn : q ≤ n) (hq0 : n = 0 → q = 0) (hr : RdH u A q y.hs) => bput_any p tp lv mb lb (2 * j) s y A q c B1 m d1 out u (HI.out.bk.keep hu) hr (fun h => ⟨hq0 (HNIL.out h).1, (HNIL.out h).2⟩) (Nat.le_trans hqn HNC.out) HCAP.out (HT.out.r1.keep hu) (by omega) (fun h0 ad e h => by have h1 := HLOW.out (by omega) ad e; have h2 := HI.out.f1 _ h; omega) (by omega) HW.out hgd (by omega)
            have hrb := fun (u : World) (q : Nat) (hq : q ≤ 30) (hqn : q ≤ n) (hr : RdH u A q y.hs) (hR : RBI u rp rtp rlv LV rows (2 * j) s) (h2 : Rd u B2 m out) => rbput_any rp rtp rlv LV rows (2 * j) s y A q c B2 m d2 out u hR hr h2 (by omega) (fun h0 ad e h => by have h1 := HLOW.out (by omega) ad e; have h2 := (HI.out.f2 _ h).1; omega) (by omega) HW.out hgd (by omega)
            have hlen := putB_len s y (goodP_of hgd) HW.out HI.out.bk.t0 (by omega) (by have := HI.out.bk.few; omega)
            obtain ⟨⟨zs, s'⟩, hps⟩ : ∃ z, putB s y = z := ⟨_, rfl⟩
            rw [hps] at hb hrb hlen
            dsimp only at hb hrb hlen
            obtain ⟨out', hout⟩ : ∃ z, out ++ zs = z := ⟨_, rfl⟩
            have hol : out'.length ≤ 110000 * (j + 1) := by have := HT.out.r1.len; rw [← hout, List.length_append]; omega
            rw [hout] at hb hrb
            have HBP := Lib.hid hb
            have HRP := Lib.hid hrb
            have HOL := Lib.hid hol
            clear hb hrb hgd hlate hlen hps hout hol
            go_upto_region 7 with (first | (go_at_call 15; refine Calls.mono (HCUT.out _ (Grew.rf _)) ?_; rintro e w3 ⟨q3, rfl, hq3, hqn3, hr3, hg3, hz3⟩) | (go_at_call 14; refine Calls.mono (HBP.out _ hg3 q3 hq3 hqn3 hz3 hr3) ?_; rintro e w4 ⟨v4, rfl, hQ4⟩; obtain ⟨B4, m4, d4, rfl, hle4, hcap4, hrd4, hfr4, hu84, hmN4⟩ := hQ4.out))
            have hrb4 := HI.out.rb1 hg3 hQ4.chg
            have hat4 : EvAt w4 b (o + j * 12) (⟨ki, se, ti, me, ur, hs, bo, st, co, cr, no, nn⟩, A, n, c) := fun i v hi => by
              have h1 := HAT0.out i v hi
              refine (World.cell?_of_block (hrb4.2.block b (lt_of_cell h1))).trans h1
            obtain ⟨lv4, hbk4, hf4, -⟩ := hQ4.book
            have hr24 : Rd w4 B2 m out := (HT.out.r2.keep hg3).chg hQ4.chg (fun _ ad e => (HT.out.u2.keep hg3).book (HI.out.bk.keep hg3) ad e)
            have HQC := Lib.hid hQ4.chg
            have HG3 := Lib.hid hg3
            have HRB4 := Lib.hid hrb4
            have HRD4 := Lib.hid hrd4
            have HU84 := Lib.hid hu84
            have HBK4 := Lib.hid hbk4
            have HF4 := Lib.hid hf4
            have HR24 := Lib.hid hr24
            have m0 := hat4 0 _ rfl
            have m1 := hat4 1 _ rfl
            have m2 := hat4 2 _ rfl
            have m3 := hat4 3 _ rfl
            have m4' := hat4 4 _ rfl
            have m5 := hat4 5 _ rfl
            have m6 := hat4 6 _ rfl
            have m7 := hat4 7 _ rfl
            have m8 := hat4 8 _ rfl
            have m9 := hat4 9 _ rfl
            have m10 := hat4 10 _ rfl
            have m11 := hat4 11 _ rfl
            rw [Nat.add_zero] at m0
            have HM4 := Lib.hid hrd4.len
            clear k0 k1 k2 k3 k4 k5 k6 k7 k8 k9 k10 k11 hQ4 hrb4 hat4 hrd4 hfr4 hu84 hbk4 hf4 hr24 hg3 hr3 hle4 hcap4 hmN4
            go_upto_region 8 with (first | (go_at_call 15; refine Calls.mono (HCUT2.out _ HRB4.out.2) ?_; rintro e w5 ⟨q5, rfl, hq5, hqn5, hr5, hg5, hz5⟩) | (go_at_call 16; refine Calls.mono (HRP.out _ q5 hq5 hqn5 hr5 (HRB4.out.1.keep hg5) (HR24.out.keep hg5)) ?_; rintro e w6 ⟨v6, rfl, hQ6⟩; obtain ⟨B6, m6', d6, rfl, hle6, hcap6, hrd6, hfr6, hu86, hmN6⟩ := hQ6.out))
            obtain ⟨rlv6, LV6, rows6, hbk6, hf6, hM6⟩ := hQ6.book
            have hrd46 : Rd w6 B4 m4 out' := (HRD4.out.keep hg5).chg hQ6.chg (fun _ ad e => (HU84.out.keep hg5).rbook (HRB4.out.1.keep hg5) ad e)
            have hu46 : U8 w6 B4 := (HU84.out.keep hg5).chg hQ6.chg (fun ad e => (HU84.out.keep hg5).rbook (HRB4.out.1.keep hg5) ad e)
            obtain rfl : m6' = m4 := by rw [← HM4.out, ← hrd6.len]
            have hN := HI.out.step HG3.out HQC.out HBK4.out HF4.out hg5 hQ6.chg hbk6 hf6 (hM6 _ (fun h0 ad e => HLOW.out (by omega) ad e) HI.out.ll)
            have HN := Lib.hid hN
            have HT6 := Lib.hid (⟨hrd46, hrd6, hu46, hu86⟩ : TwoR out' m6' B4 B6 w6)
            have hs1 := RdK.str (c := d4) hrd46
            have hs2 := RdK.str (c := d6) hrd6
            clear m0 m1 m2 m3 m4' m5 m6 m7 m8 m9 m10 m11 hQ6 hrd46 hu46 hrd6 hu86 hbk6 hf6 hM6 hN hr5 hg5 hfr6 hle6 hcap6 hmN6
            go_wp2_with fail
            go_roundw
            case rel => exact ⟨j + 1, s', lv4, rlv6, LV6, rows6, out', m6', B4, d4, B6, d6, by go_num, rfl, rfl, by omega, by have h1 := HM4.out; have h2 := HOL.out; omega, Lib.hid HN.out, HT6⟩
            case measure => simp [intOf]; omega
        · have hgd : goodE y = false := by simpa using hgd
          have hb := fun (u : World) (hu : Grew wr u) (q : Nat) (hq : q ≤ 30) (hq0 : n = 0 → q = 0) (hr : RdH u A q y.hs) => bput_bad p tp lv mb lb (2 * j) s y A q c B1 m d1 u (HI.out.bk.keep hu) hr (fun h => ⟨hq0 (HNIL.out h).1, (HNIL.out h).2⟩) (by omega) hgd
          have hrb := fun (u : World) (hu : Grew wr u) (q : Nat) (hq : q ≤ 30) (hr : RdH u A q y.hs) => rbput_bad rp rtp rlv LV rows (2 * j) s y A q c B2 m d2 u (HI.out.rb.keep hu) hr (by omega) HW.out.co hgd
          have HBP := Lib.hid hb
          have HRP := Lib.hid hrb
          clear hb hrb hgd
          go_upto_region 7 with (first | (go_at_call 15; refine Calls.mono (HCUT.out _ (Grew.rf _)) ?_; rintro e w3 ⟨q3, rfl, hq3, -, hr3, hg3, hz3⟩) | (go_at_call 14; refine Calls.mono (HBP.out _ hg3 q3 hq3 hz3 hr3) ?_; rintro e w4 ⟨rfl, hg4⟩))
          have hg34 := hg3.tr hg4
          have HG34 := Lib.hid hg34
          have m0 := hg34.ce k0
          have m1 := hg34.ce k1
          have m2 := hg34.ce k2
          have m3 := hg34.ce k3
          have m4 := hg34.ce k4
          have m5 := hg34.ce k5
          have m6 := hg34.ce k6
          have m7 := hg34.ce k7
          have m8 := hg34.ce k8
          have m9 := hg34.ce k9
          have m10 := hg34.ce k10
          have m11 := hg34.ce k11
          have hs0 : ∀ W : World, (convert 23 9 (.slice none 0 0)).run Try.prog W = .ok (.string (strOfNums [])) W := fun W => RdK.str (c := 0) (noB W)
          clear k0 k1 k2 k3 k4 k5 k6 k7 k8 k9 k10 k11 hg34
          go_wp2_with (first | (go_at_call 15; refine Calls.mono (HCUT.out _ HG34.out) ?_; rintro e w5 ⟨q5, rfl, hq5, -, hr5, hg5, hz5⟩) | (go_at_call 16; refine Calls.mono (HRP.out _ (HG34.out.tr hg5) q5 hq5 hr5) ?_; rintro e w6 ⟨rfl, hg6⟩; have HG6 := Lib.hid ((HG34.out.tr hg5).tr hg6)))
          go_roundw
          case rel => exact ⟨j + 1, s, lv, rlv, LV, rows, out, m, B1, d1, B2, d2, by go_num, rfl, rfl, by omega, by omega, Lib.hid ((HI.out.keep HG6.out).mono (by omega) (by omega)), Lib.hid (HT.out.keep HG6.out)⟩
          case measure => simp [intOf]; omega
      · go_wp2_with (go_at_call 20; refine Calls.mono (awake21_any _) ?_; rintro e w9 ⟨rfl, hg9⟩)
        go_ret
        exact ⟨rfl, HI.out.grew.tr hg9⟩
    · go_wp2_with (go_at_call 20; refine Calls.mono (awake21_any _) ?_; rintro e w9 ⟨rfl, hg9⟩)
      go_ret
      exact ⟨rfl, HI.out.grew.tr hg9⟩
end Go.Proofs.Ytbkcpgaicoagfaa
