/- Intern's laws: the walk of InternRound. -/
import Derived.Test.YtbkcpgaicoagfaaLaw19e
set_option linter.unusedVariables false
set_option linter.unusedSimpArgs false
namespace Go.Proofs.Ytbkcpgaicoagfaa
open Go.RowKit

/-- The bytes between two rounds of the first loop. -/
structure BI19 (l : List ByteArray) (E : List Int) (U : List ByteArray) (p : Nat) (lv : Value) (mb p2 : Nat) (lv2 : Value) (mb2 : Nat) (B : Option Addr) (m d j : Nat) (out : List Int) (us : List ByteArray) (wr : World) : Prop where
  rd : Rd wr B m out
  le : m ≤ d
  cap : d ≤ 9223372036854775807
  ap : 0 < m → ∀ ad, B = some ad → ¬ ftp p lv mb ad.block ∧ ¬ ftp p2 lv2 mb2 ad.block
  enc : out ++ (encL us (l.drop j)).1 = E ∧ (encL us (l.drop j)).2 = U
  few : m ≤ 320 * j ∧ us.length ≤ j

structure CI19 (E : List Int) (p : Nat) (lv : Value) (mb p2 : Nat) (lv2 : Value) (mb2 : Nat) (B : Option Addr) (m d : Nat) (wr : World) : Prop where
  rd : Rd wr B m E
  le : m ≤ d
  cap : d ≤ 9223372036854775807
  ap : 0 < m → ∀ ad, B = some ad → ¬ ftp p lv mb ad.block ∧ ¬ ftp p2 lv2 mb2 ad.block ∧ ad.block < wr.heap.size
theorem putT_pos (ts : List ByteArray) (s : ByteArray) : 1 ≤ (putT ts s).1.length := by
  have h0 := leb_len (v := (0 : Int)) (by omega)
  have h2 := leb_len (v := (idxT ts s : Int)) (by omega)
  unfold putT
  split
  · simp only [List.length_append]; omega
  · simp only; omega

set_option maxRecDepth 100000 in
set_option maxHeartbeats 3200000 in
theorem internRound_walk (A1 : Option Addr) (n1 c1 : Nat) (ts : List ByteArray) (w : World) (hr1 : RdV 1 w A1 n1 (ts.map Value.string)) (hs1 : ∀ t ∈ ts, t.size ≤ 9223372036854775807) (hn1 : n1 ≤ 9223372036854775807) :
    Calls Try.prog 7 #[.slice A1 n1 c1] w fun e w' => e = .returned (.bool true) ∧ Grew w w' := by
  have hfew := fun (u : World) (hg : Grew w u) => few_any A1 n1 c1 ts u (hr1.keep hg) hs1 hn1
  have HFEW := Lib.hid hfew
  clear hfew hr1 hs1 hn1
  go_enter Try.func7, Try.ntmps7
  go_wp2_with fail
  refine Calls.mono (tnew_any _) ?_
  rintro e w1 ⟨p, mb, rfl, hT1, hg1, hp1, hm1⟩
  go_wp2_with fail
  refine Calls.mono (tnew_any _) ?_
  rintro e w2 ⟨p2, mb2, rfl, hU2, hg2, hp2, hm2⟩
  have hz1 := hg1.size
  have hz2 := hg2.size
  have hpm : p < w1.heap.size ∧ mb < w1.heap.size := ⟨hT1.lt (.inl rfl), hT1.lt (.inr (.inl rfl))⟩
  have hft : ∀ k, ftp p (.slice none 0 0) mb k → w.heap.size ≤ k ∧ k < w1.heap.size := by
    rintro k (rfl | rfl | h)
    · exact ⟨hp1, hpm.1⟩
    · exact ⟨hm1, hpm.2⟩
    · cases h
  have hfr : ∀ k, ftp p2 (.slice none 0 0) mb2 k → w1.heap.size ≤ k ∧ k < w2.heap.size := by
    rintro k hk
    refine ⟨?_, hU2.lt hk⟩
    rcases hk with rfl | rfl | h
    · exact hp2
    · exact hm2
    · cases h
  have HT := Lib.hid (hT1.keep hg2)
  have HU := Lib.hid hU2
  have HG := Lib.hid (hg1.tr hg2)
  have HFT := Lib.hid hft
  have HFR := Lib.hid hfr
  have HZ : RowKit.Hid (w.heap.size ≤ w1.heap.size ∧ w1.heap.size ≤ w2.heap.size) := ⟨hz1, hz2⟩
  clear hft hfr hT1 hU2 hg1 hg2 hp1 hm1 hp2 hm2 hpm hz1 hz2
  go_wp2_with fail
  refine Calls.mono (HFEW.out _ (HG.out.al _)) ?_
  rintro e w3 ⟨vl, rfl, hol, hg3⟩
  obtain ⟨l, hl⟩ : ∃ l, fewT ts = l := ⟨_, rfl⟩
  have hll : l.length ≤ 40 := by rw [← hl, fewT_len]; omega
  have hls : ∀ t ∈ l, t.size ≤ 300 := fun t ht => by
    rw [← hl] at ht
    obtain ⟨s, _, rfl⟩ := List.mem_map.1 ht
    exact cutT_size s
  rw [hl] at hol
  obtain ⟨AL, cL, rfl, hcL, hmL, hrL⟩ := hol.rd
  have hg23 : Grew w2 w3 := ((Grew.rf w2).al _).tr hg3
  have hbl : ∀ ad, AL = some ad → w2.heap.size ≤ ad.block ∧ ad.block < w3.heap.size := fun ad e => ⟨Nat.le_trans ((Grew.rf w2).al (.cells #[] 5)).size (hol.base_le _ (by rw [e]; rfl)), hol.lt (by rw [e]; rfl)⟩
  have hI0 : RI19 w p mb p2 mb2 AL l (.slice none 0 0) (.slice none 0 0) [] [] w3 :=
    ⟨HT.out.keep hg23, HU.out.keep hg23, fun k h1 h2 => by have := HFT.out k h1; have := HFR.out k h2; omega, hrL,
      fun ad e => ⟨fun h => by have := HFT.out _ h; have := hbl ad e; have := HZ.out; omega, fun h => by have := HFR.out _ h; have := hbl ad e; omega, (hbl ad e).2⟩,
      fun k h => h.elim (fun h => (HFT.out k h).1) (fun h => by have := HFR.out k h; have := HZ.out; omega), HG.out.tr hg23⟩
  obtain ⟨⟨E, U⟩, hEU⟩ : ∃ r, encL [] l = r := ⟨_, rfl⟩
  have hB0 : BI19 l E U p (.slice none 0 0) mb p2 (.slice none 0 0) mb2 (some ⟨w2.heap.size, 0, none⟩) 0 0 0 [] [] w3 :=
    ⟨RdK.nil _ _ _, Nat.le_refl _, by omega, fun h => by omega, by simp [hEU], by simp⟩
  have HI0 := Lib.hid hI0
  have HB0 := Lib.hid hB0
  have HLS := Lib.hid hls
  have HLL := Lib.hid hll
  clear hI0 hB0 hls hll hl hol hrL hbl hg23 hg3 HFEW HFT HFR HG HT HU HZ
  go_wp2_with fail
  go_loopw [5, 7] (fun x i wr => ∃ (j : Nat) (B : Option Addr) (m d : Nat) (lv : Value) (us : List ByteArray) (out : List Int), x = .slice B m d ∧ i = .int .i64 (j : Int) ∧ j ≤ l.length ∧ RowKit.Hid (RI19 w p mb p2 mb2 AL l lv (.slice none 0 0) us [] wr) ∧ RowKit.Hid (BI19 l E U p lv mb p2 (.slice none 0 0) mb2 B m d j out us wr)) (fun _ i _ => l.length - (intOf i).toNat)
  case atStart => exact ⟨0, _, 0, 0, _, _, _, rfl, rfl, Nat.zero_le _, HI0, HB0⟩
  case round =>
    obtain ⟨j, B, m, d, lv, us, out, rfl, rfl, hj, HI, HB⟩ := hrel
    clear HI0 HB0
    by_cases hlt : j < l.length
    · obtain ⟨g, o, hA, hcl⟩ := HI.out.rl.cells (by omega)
      obtain ⟨t, ht⟩ : ∃ t, l[j]? = some t := ⟨_, List.getElem?_eq_getElem hlt⟩
      have hce := hcl j (.string t) (by rw [List.getElem?_map, ht]; rfl)
      have hts := HLS.out t (List.mem_of_getElem? ht)
      have hll := HLL.out
      have hfw := HB.out.few
      have hpl := putT_len (ts := us) hts (by omega)
      have htp := tput_any p lv mb us t B m d out wr HI.out.tab HB.out.rd (fun h ad e => (HB.out.ap h ad e).1) (by omega) (by omega) (by omega)
      have hdr := drop_text ht
      have hen := HB.out.enc
      rw [hdr] at hen
      simp only [encL] at hen
      have HEN := Lib.hid hen
      have HPL := Lib.hid hpl
      have HFW := Lib.hid hfw
      have HML := Lib.hid HB.out.rd.len
      subst hA
      clear hcl ht hdr hen hpl hfw hll hts
      go_wp2_with fail
      refine Calls.mono htp ?_
      clear htp
      rintro e w4 ⟨B4, m4, d4, rfl, Q4⟩
      obtain ⟨l1, hT4, f1, hd4⟩ := Q4.tab
      have HN := Lib.hid (HI.out.one Q4.chg hT4 f1)
      have HBN : RowKit.Hid (BI19 l E U p l1 mb p2 (.slice none 0 0) mb2 B4 m4 d4 (j + 1) (out ++ (putT us t).1) (putT us t).2 w4) :=
        ⟨Q4.rd, Q4.le, Q4.cap, fun _ ad e => ⟨hd4 ad e, Q4.u8.tab HN.out.tab2 ad e⟩, by rw [List.append_assoc]; exact HEN.out,
          by have h1 := Q4.rd.len; have h2 := HML.out; have h3 := HPL.out; have h4 := HFW.out; rw [List.length_append] at h1; omega⟩
      clear hT4 f1 hd4 Q4
      go_wp2_with fail
      go_roundw
      case rel => exact ⟨j + 1, B4, m4, d4, _, _, _, rfl, by go_num, by omega, HN, HBN⟩
      case measure => simp [intOf]; omega
    · have hje : j = l.length := by omega
      have hen := HB.out.enc
      have hmm := HB.out.few
      rw [hje, List.drop_length] at hen
      simp only [encL, List.append_nil] at hen
      obtain ⟨rfl, rfl⟩ := hen
      have HM : RowKit.Hid (m ≤ 320 * 40 ∧ us.length ≤ 40) := ⟨by have := HLL.out; omega, by have := HLL.out; omega⟩
      have HC : RowKit.Hid (CI19 out p lv mb p2 (.slice none 0 0) mb2 B m d wr) := ⟨HB.out.rd, HB.out.le, HB.out.cap, fun h ad e => ⟨(HB.out.ap h ad e).1, (HB.out.ap h ad e).2, by
        obtain ⟨b, o, e2, hc⟩ := HB.out.rd.cells h
        rw [e2] at e
        cases e
        exact lt_of_cell (hc 0 h)⟩⟩
      have HEU := Lib.hid hEU
      have HBY : RowKit.Hid (Byt out) := by
        have := encL_byt l []
        rw [hEU] at this
        exact this
      clear hje hmm HB hEU
      go_wp2_with fail
      go_loopw [8, 9] (fun x i wr => ∃ (k : Nat) (ys : List Int) (lv2 : Value) (us2 : List ByteArray) (a : Int), x = .int .i64 a ∧ i = .int .i64 (k : Int) ∧ k ≤ l.length ∧ RowKit.Hid (RI19 w p mb p2 mb2 AL l lv lv2 us us2 wr) ∧ RowKit.Hid (CI19 out p lv mb p2 lv2 mb2 B m d wr) ∧ RowKit.Hid (ys ++ (encL us2 (l.drop k)).1 = out ∧ (encL us2 (l.drop k)).2 = us ∧ us2.length ≤ k ∧ a = (ys.length : Int))) (fun _ i _ => l.length - (intOf i).toNat)
      case atStart => exact ⟨0, [], _, [], 0, rfl, rfl, Nat.zero_le _, HI, HC, ⟨by rw [List.drop_zero, HEU.out]; rfl, by rw [List.drop_zero, HEU.out], Nat.le_refl _, rfl⟩⟩
      case round =>
        obtain ⟨k, ys, lv2, us2, a, rfl, rfl, hk, HI2, HC2, HY⟩ := hrel
        clear HI HC
        by_cases hlk : k < l.length
        · obtain ⟨g, o, hA, hcl⟩ := HI2.out.rl.cells (by omega)
          obtain ⟨t, ht⟩ : ∃ t, l[k]? = some t := ⟨_, List.getElem?_eq_getElem hlk⟩
          have hts := HLS.out t (List.mem_of_getElem? ht)
          have hy := HY.out
          have hll := HLL.out
          have hmm := HM.out
          rw [drop_text ht] at hy
          simp only [encL] at hy
          obtain ⟨y1, y2, y3, y4⟩ := hy
          have hrb : Byt (encL (putT us2 t).2 (l.drop (k + 1))).1 := encL_byt _ _
          have htk := takeT_putT (ts := us2) (s := t) (ys := ys) (by omega) (by omega) hrb
          rw [List.append_assoc, y1, ← y4] at htk
          have hlo : out.length = m := HC2.out.rd.len
          have hya : ys.length ≤ m := by rw [← hlo, ← y1, List.length_append]; omega
          have hcp := HC2.out.cap
          have htt := ttake_to p2 lv2 mb2 us2 B m d out a _ _ _ _ htk wr HI2.out.tab2 HC2.out.rd HBY.out HC2.out.le hcp (by omega) (by omega) (by omega) (by omega)
          obtain ⟨nx, hnx⟩ : ∃ nx, a + ((putT us2 t).1.length : Int) = nx := ⟨_, rfl⟩
          have hps := putT_pos us2 t
          have hgt : ¬ nx ≤ a := by omega
          rw [hnx] at htt
          have HN2 : RowKit.Hid ((ys ++ (putT us2 t).1) ++ (encL (putT us2 t).2 (l.drop (k + 1))).1 = out ∧ (encL (putT us2 t).2 (l.drop (k + 1))).2 = us ∧ (putT us2 t).2.length ≤ k + 1 ∧ nx = ((ys ++ (putT us2 t).1).length : Int)) :=
            ⟨by rw [List.append_assoc]; exact y1, y2, by have := putT_tab_len us2 t; omega, by rw [List.length_append]; omega⟩
          have HT := Lib.hid ht
          clear hcl ht hts hll hmm y1 y2 y3 y4 hrb htk hlo hya hcp hnx hps
          go_wp2_with fail
          refine Calls.mono htt ?_
          clear htt
          rintro e w4 ⟨rfl, Q4⟩
          obtain ⟨l2, hT4, f1⟩ := Q4.tab
          have HN := Lib.hid (HI2.out.two Q4.chg hT4 f1)
          have HCN : RowKit.Hid (CI19 out p lv mb p2 l2 mb2 B m d w4) := ⟨HC2.out.rd.chg Q4.chg (fun h ad e => (HC2.out.ap h ad e).2.1), HC2.out.le, HC2.out.cap, fun h ad e => ⟨(HC2.out.ap h ad e).1, fun hk => (f1 _ hk).elim (HC2.out.ap h ad e).2.1 (fun h3 => by have := (HC2.out.ap h ad e).2.2; omega), Nat.lt_of_lt_of_le (HC2.out.ap h ad e).2.2 Q4.chg.size⟩⟩
          have hce : w4.cell? ⟨g, o + k, none⟩ = some (.string t) := by
            obtain ⟨g2, o2, e2, hcl⟩ := HN.out.rl.cells (by omega)
            rw [hA] at e2
            cases e2
            exact hcl k (.string t) (by rw [List.getElem?_map, HT.out]; rfl)
          subst hA
          clear hT4 f1 Q4
          go_wp2_with fail
          go_roundw
          case rel => exact ⟨k + 1, _, _, _, nx, rfl, by go_num, by omega, HN, HCN, HN2⟩
          case measure => simp [intOf]; omega
        · have hke : k = l.length := by omega
          have hy := HY.out
          rw [hke, List.drop_length] at hy
          simp only [encL, List.append_nil] at hy
          obtain ⟨rfl, rfl, y3, y4⟩ := hy
          have hlo : ys.length = m := HC2.out.rd.len
          obtain rfl : a = (m : Int) := by omega
          have hul : us2.length ≤ l.length := by
            have := encL_len l []
            rw [HEU.out] at this
            simpa using this
          have HUL := Lib.hid hul
          clear hke y3 y4 hlo hul HY
          go_wp2_with fail
          refine Calls.mono (ttake_none _ _ _ _) ?_
          rintro e w5 ⟨rfl, rfl⟩
          go_wp2_with fail
          go_loopw [17] (fun i wr => ∃ (q : Nat) (lv : Value), i = .int .i64 (q : Int) ∧ q ≤ l.length ∧ RowKit.Hid (RI19 w p mb p2 mb2 AL l lv lv2 us2 us2 wr)) (fun i _ => l.length - (intOf i).toNat)
          case atStart => exact ⟨0, _, rfl, Nat.zero_le _, HI2⟩
          case round =>
            obtain ⟨q, lv, rfl, hq, HI3⟩ := hrel
            clear HI2 HC2
            by_cases hlq : q < l.length
            · obtain ⟨g, o, hA, hcl⟩ := HI3.out.rl.cells (by omega)
              obtain ⟨t, ht⟩ : ∃ t, l[q]? = some t := ⟨_, List.getElem?_eq_getElem hlq⟩
              have hce := hcl q (.string t) (by rw [List.getElem?_map, ht]; rfl)
              have hmt := List.mem_of_getElem? ht
              have hts := HLS.out t hmt
              have hmm := HM.out
              have hne : idxT us2 t ≠ 0 := by
                have := encL_has l [] t hmt
                rw [HEU.out] at this
                exact this
              have hidx := idxT_le us2 t
              have hl1 : (leb (idxT us2 t : Int)).length = 1 := leb_one (by omega) (by omega)
              have htp := tput_any p lv mb us2 t none 0 0 [] _ HI3.out.tab (RdK.nil _ _ _) (fun h => by omega) (by omega) (by omega) (by omega)
              rw [putT_told hne, List.nil_append] at htp
              have HL1 := Lib.hid hl1
              subst hA
              clear hcl ht hmt hts hmm hne hidx hl1
              go_wp2_with fail
              refine Calls.mono htp ?_
              clear htp
              rintro e w6 ⟨B6, m6, d6, rfl, Q6⟩
              obtain ⟨l1, hT6, f1, _⟩ := Q6.tab
              have HN := Lib.hid (HI3.out.one Q6.chg hT6 f1)
              obtain rfl : m6 = 1 := by rw [← Q6.rd.len]; exact HL1.out
              clear hT6 f1 Q6
              go_wp2_with fail
              go_roundw
              case rel => exact ⟨q + 1, _, by go_num, by omega, HN⟩
              case measure => simp [intOf]; omega
            · have hul := HUL.out
              go_wp2_with fail
              refine Calls.mono (awake19_any _) ?_
              rintro e w6 ⟨rfl, hg6⟩
              have HN := Lib.hid (HI3.out.keep hg6)
              clear HI3 hg6
              go_wp2_with fail
              refine Calls.mono (tlen_any p lv mb us2 _ HN.out.tab) ?_
              rintro e w7 ⟨rfl, rfl⟩
              go_wp2_with fail
              refine Calls.mono (tlen_any p2 lv2 mb2 us2 _ HN.out.tab2) ?_
              rintro e w7 ⟨rfl, rfl⟩
              go_wp2_with fail
              refine Calls.mono (tlen_any p lv mb us2 _ HN.out.tab) ?_
              rintro e w7 ⟨rfl, rfl⟩
              go_wp2_with fail
              refine Calls.mono (tlen_none _) ?_
              rintro e w7 ⟨rfl, rfl⟩
              go_wp2_with fail
              refine Calls.mono (tput_none _ _ _ _ _) ?_
              rintro e w7 ⟨rfl, rfl⟩
              go_wp2_with fail
              go_ret
              exact ⟨rfl, HN.out.grew⟩
end Go.Proofs.Ytbkcpgaicoagfaa
