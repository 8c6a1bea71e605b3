/- Intern's laws: the walk of InternTakes. -/
import Derived.Test.YtbkcpgaicoagfaaLaw19c
set_option linter.unusedVariables false
set_option linter.unusedSimpArgs false
namespace Go.Proofs.Ytbkcpgaicoagfaa
open Go.RowKit

theorem takeT_ok {ts : List ByteArray} {b : List Int} {at_ : Int} (hb : Byt b) : 0 ≤ (takeT ts b at_).2.1 ∧ (takeT ts b at_).2.1 ≤ b.length ∧ (takeT ts b at_).2.2.2.length ≤ ts.length + 1 := by
  unfold takeT
  obtain ⟨⟨v, n, e⟩, h⟩ : ∃ r, lebTake b at_ = r := ⟨_, rfl⟩
  simp only [h]
  split
  · exact ⟨by simp, by simp, by simp⟩
  · rename_i he
    have he : e = 0 := by simpa using he
    subst he
    obtain ⟨a1, a2, a3, _, _, _⟩ := lebTake_exact hb h
    split
    · simp
    · split
      · refine ⟨?_, ?_, ?_⟩ <;> simp only <;> omega
      · obtain ⟨⟨v2, n2, e2⟩, h2⟩ : ∃ r, lebTake b n = r := ⟨_, rfl⟩
        simp only [h2]
        split
        · simp
        · rename_i he2
          have he2 : e2 = 0 := by simpa using he2
          subst he2
          obtain ⟨b1, b2, b3, _, b5, b6⟩ := lebTake_exact hb h2
          split
          · simp
          · split
            · simp
            · split
              · simp only [List.length_append, List.length_singleton]; omega
              · simp

section
variable {w : World} {p mb q : Nat} {AL : Option Addr} {l : List ByteArray} {j : Nat} {lv lv2 : Value} {us : List ByteArray} {wr : World}
/-- A step of the one table, then of the other. -/
theorem PI19.step (h : PI19 w p mb q AL l j none 0 none 0 lv lv2 [] us wr) {w1 w2 : World} {l1 l2 : Value} {us2 : List ByteArray} (hc1 : Chg (ftp p lv mb) wr w1) (hT : TabI w1 p l1 mb us2) (f1 : ∀ k, ftp p l1 mb k → ftp p lv mb k ∨ wr.heap.size ≤ k) (hc2 : Chg (ftr q lv2) w1 w2) (hR : RefI w2 q l2 us2) (f2 : ∀ k, ftr q l2 k → ftr q lv2 k ∨ w1.heap.size ≤ k) (hlen : us2.length ≤ us.length + 1) : PI19 w p mb q AL l (j + 1) none 0 none 0 l1 l2 [] us2 w2 where
  rx := RdK.nil _ _ _
  ry := RdK.nil _ _ _
  bx := by omega
  tab := hT.chg hc2 (fun k hk h2 => (f1 k hk).elim (fun h3 => h.sep.sep k h3 h2) (fun h3 => by have := h.sep.lq k h2; omega))
  ref := hR
  few := by have := h.few; omega
  sep := ⟨fun k hk h2 => (f2 k h2).elim (fun h3 => (f1 k hk).elim (fun h4 => h.sep.sep k h4 h3) (fun h4 => by have := h.sep.lq k h3; omega)) (fun h3 => by have := hT.lt hk; omega),
    fun k hk => Nat.lt_of_lt_of_le (hT.lt hk) hc2.size, fun k hk => hR.lt hk⟩
  ax := fun h => by omega
  ay := fun h => by omega
  rl := (h.rl.chg hc1 (fun ad e => (h.al ad e).1)).chg hc2 (fun ad e => (h.al ad e).2.1)
  al := fun ad e => ⟨fun hk => (f1 _ hk).elim (h.al ad e).1 (fun h3 => by have := (h.al ad e).2.2; omega), fun hk => (f2 _ hk).elim (h.al ad e).2.1 (fun h3 => by have := (h.al ad e).2.2; have := hc1.size; omega), Nat.lt_of_lt_of_le (h.al ad e).2.2 (Nat.le_trans hc1.size hc2.size)⟩
  low := fun k hk => by
    have hz := h.grew.size
    have hz1 := hc1.size
    rcases hk with hk | hk
    · rcases f1 k hk with h3 | h3
      · exact h.low k (.inl h3)
      · omega
    · rcases f2 k hk with h3 | h3
      · exact h.low k (.inr h3)
      · omega
  grew := grew_chg (grew_chg h.grew hc1 (fun k hk => h.low k (.inl hk))) hc2 (fun k hk => h.low k (.inr hk))
end

set_option maxRecDepth 100000 in
set_option maxHeartbeats 3200000 in
theorem internTakes_walk (A1 : Option Addr) (n1 c1 : Nat) (ts : List ByteArray) (A0 : Option Addr) (n0 c0 : Nat) (bs0 : List Int) (w : World) (hr0 : Rd w A0 n0 bs0) (hb0 : Byt bs0) (hnc0 : n0 ≤ c0) (hc0 : c0 ≤ 9223372036854775807) (hr1 : RdV 1 w A1 n1 (ts.map Value.string)) (hs1 : ∀ t ∈ ts, t.size ≤ 9223372036854775807) (hn1 : n1 ≤ 9223372036854775807) :
    Calls Try.prog 6 #[.slice A1 n1 c1, .slice A0 n0 c0] w fun e w' => e = .returned (.bool true) ∧ Grew w w' := by
  have hfew := fun (u : World) (hg : Grew w u) => few_any A1 n1 c1 ts u (hr1.keep hg) hs1 hn1
  have HFEW := Lib.hid hfew
  clear hfew hr1 hs1 hn1
  have HR0 := Lib.hid hr0
  have HB0 := Lib.hid hb0
  clear hr0 hb0
  go_enter Try.func6, Try.ntmps6
  go_wp2_with (go_at_call 21; refine Calls.mono (tnew_any _) ?_; rintro e w1 ⟨p, mb, rfl, hT1, hg1, hp1, hm1⟩)
  have hG1 : Grew w w1 := hg1
  obtain ⟨wz, hwz⟩ : ∃ wz, w1.alloc (.cells #[.slice none 0 0] 50) = wz := ⟨_, rfl⟩
  rw [hwz]
  have hgz : Grew (w1.alloc (.cells #[.slice none 0 0] 50)) wz := by rw [hwz]; exact Grew.rf _
  clear hwz
  have hTz : TabI wz p (.slice none 0 0) mb [] := hT1.keep (((Grew.rf w1).al _).tr hgz)
  have hRz : RefI wz w1.heap.size (.slice none 0 0) [] := RefI.keep ⟨heap_alloc_new w1 _, OwnV.nil _ _ _ _, by simp, by simp⟩ hgz
  have hGz : Grew w wz := (hG1.al _).tr hgz
  have hpm : p < w1.heap.size ∧ mb < w1.heap.size := ⟨hT1.lt (.inl rfl), hT1.lt (.inr (.inl rfl))⟩
  have hzz : w1.heap.size < wz.heap.size := hRz.lt (.inl rfl)
  have hw1 := hG1.size
  obtain ⟨q, hq⟩ : ∃ q, w1.heap.size = q := ⟨_, rfl⟩
  rw [hq] at hRz hpm hzz hw1 ⊢
  refine Calls.mono (HFEW.out _ hGz) ?_
  rintro e w2 ⟨vl, rfl, hol, hg2⟩
  obtain ⟨l, hl⟩ : ∃ l, fewT ts = l := ⟨_, rfl⟩
  have hll : l.length ≤ 40 := by rw [← hl, fewT_len]; omega
  have hls : ∀ t ∈ l, t.size ≤ 300 := fun t ht => by
    rw [← hl] at ht
    obtain ⟨s, _, rfl⟩ := List.mem_map.1 ht
    exact cutT_size s
  rw [hl] at hol
  obtain ⟨AL, cL, rfl, hcL, hmL, hrL⟩ := hol.rd
  have hbl : ∀ ad, AL = some ad → wz.heap.size ≤ ad.block ∧ ad.block < w2.heap.size := fun ad e => ⟨hol.base_le _ (by rw [e]; rfl), hol.lt (by rw [e]; rfl)⟩
  have hz2 := hg2.size
  have hft : ∀ k, ftp p (.slice none 0 0) mb k → w.heap.size ≤ k ∧ k < q := by
    rintro k (rfl | rfl | h)
    · exact ⟨hp1, hpm.1⟩
    · exact ⟨hm1, hpm.2⟩
    · cases h
  have hfr : ∀ k, ftr q (.slice none 0 0) k → k = q := by
    rintro k (rfl | h)
    · rfl
    · cases h
  have hI0 : PI19 w p mb q AL l 0 none 0 none 0 (.slice none 0 0) (.slice none 0 0) [] [] w2 :=
    ⟨RdK.nil _ _ _, RdK.nil _ _ _, by omega, hTz.keep hg2, hRz.keep hg2, Nat.le_refl _,
      ⟨fun k h1 h2 => by have := hft k h1; have := hfr k h2; omega, fun k h1 => by have := hft k h1; omega, fun k h1 => by have := hfr k h1; omega⟩,
      fun hn ad e => by omega,
      fun hn ad e => by omega,
      hrL, fun ad e => ⟨fun h => by have := hft _ h; have := hbl ad e; omega, fun h => by have := hfr _ h; have := hbl ad e; omega, (hbl ad e).2⟩,
      fun k h => h.elim (fun h => (hft k h).1) (fun h => by have := hfr k h; omega), hGz.tr hg2⟩
  have HLS := Lib.hid hls
  have HLL := Lib.hid hll
  clear hls hll hl hol hrL hbl hft hfr hTz hRz hGz hgz hT1 hG1 hq HFEW hg2 hz2 hzz hpm hp1 hm1 hw1 hg1
  go_wp2_with fail
  go_loopw [8] (fun i wr => ∃ (j : Nat) (lv lv2 : Value) (us : List ByteArray), i = .int .i64 (j : Int) ∧ j ≤ l.length ∧ PI19 w p mb q AL l j none 0 none 0 lv lv2 [] us wr) (fun i _ => l.length - (intOf i).toNat)
  case atStart => exact ⟨0, _, _, _, rfl, Nat.zero_le _, hI0⟩
  case round =>
    obtain ⟨j, lv, lv2, us, rfl, hj, hI⟩ := hrel
    clear hI0
    by_cases hlt : j < l.length
    · obtain ⟨g, o, hA, hcl⟩ := hI.rl.cells (by omega)
      obtain ⟨t, ht⟩ : ∃ t, l[j]? = some t := ⟨_, List.getElem?_eq_getElem hlt⟩
      have hce := hcl j (.string t) (by rw [List.getElem?_map, ht]; rfl)
      have hts := HLS.out t (List.mem_of_getElem? ht)
      have hal := hI.al _ hA
      have hll := HLL.out
      have hfw := hI.few
      have hpl := putT_len (ts := us) hts (by omega)
      have htp := tput_any p lv mb us t none 0 0 [] wr hI.tab (RdK.nil _ _ _) (fun h => by omega) (by omega) (by omega) (by omega)
      have HRP := Lib.hid (fun (u : World) (h : RefI u q lv2 us) => rput_any q lv2 us t none 0 0 [] u h (RdK.nil _ _ _) (by omega) (by omega) (by omega))
      have HI := Lib.hid hI
      have HP := Lib.hid hpl
      have HAL := Lib.hid hal
      subst hA
      clear hcl ht hI hll hfw hpl hal hts
      go_wp2_with (go_at_call 23; refine Calls.mono htp ?_; clear htp; rintro e w3 ⟨B3, m3, d3, rfl, Q3⟩; have hce3 : w3.cell? ⟨g, o + j, none⟩ = some (.string t) := (World.cell?_of_block (Q3.chg.block _ (lt_of_cell hce) HAL.out.1)).trans hce; clear hce)
      have hR3 : RefI w3 q lv2 us := HI.out.ref.chg Q3.chg (fun k hk h2 => HI.out.sep.sep k h2 hk)
      have hrp := HRP.out _ hR3
      have HQ3 := Lib.hid Q3
      clear Q3 hR3 HRP
      refine Calls.mono hrp ?_
      clear hrp
      rintro e w4 ⟨B4, m4, d4, rfl, Q4⟩
      obtain ⟨l1, hT3, f1, _⟩ := HQ3.out.tab
      obtain ⟨l2, hR4, f2, _⟩ := Q4.tab
      have HN := Lib.hid (HI.out.step HQ3.out.chg hT3 f1 Q4.chg hR4 f2 HP.out.2)
      clear hT3 f1 hR4 f2 Q4 HQ3 hce3
      go_wp2_with fail
      go_roundw
      case rel => exact ⟨j + 1, _, _, _, by go_num, by omega, HN.out⟩
      case measure => simp [intOf]; omega
    · obtain ⟨J, hJ⟩ : ∃ J, j = J := ⟨_, rfl⟩
      have hJ40 : J ≤ 40 := by have := HLL.out; omega
      rw [hJ] at hI
      have HI := Lib.hid hI
      obtain ⟨bs, hbs⟩ : ∃ bs, bs0.take (min n0 3000) = bs := ⟨_, rfl⟩
      have HBY : RowKit.Hid (Byt bs) := fun x hx => HB0.out x (by rw [← hbs] at hx; exact List.mem_of_mem_take hx)
      have hA0 : 0 < n0 → ∀ ad, A0 = some ad → ad.block < w.heap.size := fun hn ad e => by
        obtain ⟨b, o, e2, hc⟩ := HR0.out.cells hn
        rw [e2] at e
        cases e
        exact lt_of_cell (hc 0 hn)
      have HA0 := Lib.hid hA0
      by_cases hbig : 3000 < n0
      · have hcut := cut_hi (kh := .i64) A0 n0 c0 3000 (by omega)
        have HRB : RowKit.Hid (Rd w A0 3000 bs) := by
          have := HR0.out.take (i := 3000) (by omega)
          rw [← hbs, Nat.min_eq_right (by omega)]
          exact this
        clear hI hJ hbs hA0
        obtain ⟨k0, hk0⟩ : ∃ k0, k0 = 3000 := ⟨_, rfl⟩
        rw [← hk0] at HRB
        have HNB : RowKit.Hid (k0 ≤ c0 ∧ k0 ≤ 3000) := ⟨by omega, by omega⟩
        have HA : RowKit.Hid (0 < k0 → ∀ ad, A0 = some ad → ad.block < w.heap.size) := fun h => HA0.out (by omega)
        have HJ := Lib.hid hJ40
        have HC0 := Lib.hid hc0
        clear HA0 hj hJ40
        go_wp2_with fail
        try generalize decide (3000 < (n0 : Int)) = bb
        try generalize decide (j < l.length) = bb2
        simp only [show (3000 : Nat) = k0 from hk0.symm]
        clear hk0 hcut
        go_loopw [10, 11] (fun x i wr => ∃ (k : Nat) (at_ : Int) (lv lv2 : Value) (us : List ByteArray), x = .int .i64 at_ ∧ i = .int .i64 (k : Int) ∧ k ≤ 40 ∧ RowKit.Hid (0 ≤ at_ ∧ at_ ≤ 3000) ∧ PI19 w p mb q AL l (J + k) none 0 none 0 lv lv2 [] us wr) (fun _ i _ => 40 - (intOf i).toNat)
        case atStart => exact ⟨0, 0, _, _, _, rfl, rfl, by omega, ⟨by omega, by omega⟩, HI.out⟩
        case round =>
          obtain ⟨k, at_, lv, lv2, us, rfl, rfl, hk, HAT, hI2⟩ := hrel
          clear HI
          have HI := Lib.hid hI2
          clear hI2
          by_cases hlt : k < 40
          · obtain ⟨⟨s, nx, er, us2⟩, htk⟩ : ∃ r, takeT us bs at_ = r := ⟨_, rfl⟩
            have hok := takeT_ok (ts := us) (at_ := at_) HBY.out
            rw [htk] at hok
            simp only at hok
            have HOK := Lib.hid hok
            have hbl : bs.length = k0 := HRB.out.len
            have HBL := Lib.hid hbl
            have hfw := HI.out.few
            have hJ := HJ.out
            have hnb := HNB.out
            have hat := HAT.out
            have hc := HC0.out
            have htt := ttake_to p lv mb us A0 k0 c0 bs at_ s nx er us2 htk wr HI.out.tab (HRB.out.keep HI.out.grew) HBY.out (by omega) hc (by omega) (by omega) (by omega) (by omega)
            have HRT := Lib.hid (fun (u : World) (h : RefI u q lv2 us) (h2 : Rd u A0 k0 bs) => rtake19_any q lv2 us A0 k0 c0 bs at_ u h h2 HBY.out (by omega) hc (by omega) (by omega) (by omega) (by omega))
            rw [htk] at HRT
            simp only at HRT
            clear hok hbl hfw hJ hnb hat hc htk
            go_wp2_with (go_at_call 27; refine Calls.mono htt ?_; clear htt; rintro e w3 ⟨rfl, Q3⟩)
            have hR3 : RefI w3 q lv2 us := HI.out.ref.chg Q3.chg (fun k hk h2 => HI.out.sep.sep k h2 hk)
            have hrb3 : Rd w3 A0 k0 bs := (HRB.out.keep HI.out.grew).chg Q3.chg (fun hn ad e hk => by have := HA.out hn ad e; have := HI.out.low _ (.inl hk); omega)
            have hrt := HRT.out _ hR3 hrb3
            have HQ3 := Lib.hid Q3
            clear Q3 hR3 hrb3 HRT
            refine Calls.mono hrt ?_
            clear hrt
            rintro e w4 ⟨rfl, Q4⟩
            obtain ⟨l1, hT3, f1⟩ := HQ3.out.tab
            obtain ⟨l2, hR4, f2⟩ := Q4.tab
            have hN := HI.out.step HQ3.out.chg hT3 f1 Q4.chg hR4 f2 HOK.out.2.2
            have HN := Lib.hid hN
            obtain ⟨AL2, cL2, hl2, hnL2, hcL2, hrL2⟩ := hR4.list.rd
            have hcell : w4.cell? ⟨q, 0, none⟩ = some (.slice AL2 us2.length cL2) := by
              have h := hR4.cells
              rw [hl2] at h
              exact cell_of_heap (i := 0) h rfl
            have htl := fun (u : World) (h : Grew w4 u) => tlen_any p l1 mb us2 u (hN.tab.keep h)
            have hce := fun (u : World) (h : Grew w4 u) => h.ce hcell
            have hus2 : us2.length ≤ 1000000 := hR4.few
            clear hT3 f1 hR4 f2 Q4 HQ3 hN hl2 hrL2 hcell
            go_wp2_with fail
            refine region_grew [[], [], [(0, 67), (1, 68)], [(2, 69)], [(3, 70)], [(3, 70)], [(3, 70), (4, 71), (5, 72)], [(3, 70), (6, 73)], [(7, 74)], [(8, 75)], [(8, 75)], [(8, 75), (9, 76), (10, 77)], [(8, 75), (11, 78)], [(12, 79)], [(13, 80)], [(13, 80), (14, 81)], [(13, 80)], [(13, 80), (16, 83)], [(13, 80), (17, 84)], [(13, 80), (18, 85)], [(13, 80), (19, 86)], [(13, 80), (15, 82), (20, 87)], [(13, 80), (21, 88)]] [(0, 67), (1, 68), (2, 69), (3, 70), (4, 71), (5, 72), (6, 73), (7, 74), (8, 75), (9, 76), (10, 77), (11, 78), (12, 79), (13, 80), (14, 81), (15, 82), (16, 83), (17, 84), (18, 85), (19, 86), (20, 87), (21, 88), (22, 89)] (fun
              | 0 => .eqv (.string s) | 1 => .eqv (.string s) | 2 => .eqv (.bool false) | 3 => .eqv (.bool false) | 4 => .eqv (.int .i64 nx) | 5 => .eqv (.int .i64 nx) | 6 => .eqv (.bool false) | 7 => .eqv (.bool false) | 8 => .eqv (.bool false) | 9 => .eqv (.int .i64 er) | 10 => .eqv (.int .i64 er) | 11 => .eqv (.bool false) | 12 => .eqv (.bool false) | 13 => .eqv (.bool false) | 14 => .eqv (.pointer (some ⟨p, 0, none⟩)) | 15 => .eqv (.int .i64 (us2.length : Int)) | 16 => .eqv (.pointer (some ⟨q, 0, none⟩)) | 17 => .eqv (.pointer (some ⟨q, 0, none⟩)) | 18 => .eqv (.pointer (some ⟨q, 0, none⟩)) | 19 => .eqv (.slice AL2 us2.length cL2) | 20 => .eqv (.int .i64 (us2.length : Int)) | 21 => .eqv (.bool false) | 22 => .eqv (.bool false) | _ => .any) (by kernel_rfl) ?_ ?_
            · refine ⟨fun u hu => ?_, fun u hu => ?_, fun u hu => ?_, fun u hu => ?_, fun u hu => ?_, fun u hu => ?_, fun u hu => ?_, fun u hu => ?_, fun u hu => ?_, fun u hu => ?_, fun u hu => ?_, fun u hu => ?_, fun u hu => ?_, fun u hu => ?_, fun u hu => ?_, fun u hu => ?_, fun u hu => ?_, fun u hu => ?_, fun u hu => ?_, fun u hu => ?_, fun u hu => ?_, fun u hu => ?_, fun u hu => ?_, trivial⟩
              · refine StepGoal.nil ?_
                go_wp2
                exact ⟨rfl, rfl, Grew.rf _, rfl⟩
              · refine StepGoal.nil ?_
                go_wp2
                exact ⟨rfl, rfl, Grew.rf _, rfl⟩
              · rintro _ rfl _ rfl
                refine StepGoal.nil ?_
                simp only [Act.put, List.setIfInBounds_toArray, List.set_cons_zero, List.set_cons_succ]
                go_wp2
                exact ⟨rfl, rfl, Grew.rf _, rfl⟩
              · rintro _ rfl
                refine StepGoal.nil ?_
                simp only [Act.put, List.setIfInBounds_toArray, List.set_cons_zero, List.set_cons_succ]
                go_wp2
                exact ⟨rfl, rfl, Grew.rf _, rfl⟩
              · rintro _ rfl
                refine StepGoal.nil ?_
                simp only [Act.put, List.setIfInBounds_toArray, List.set_cons_zero, List.set_cons_succ]
                go_wp2
                exact ⟨rfl, rfl, Grew.rf _, rfl⟩
              · rintro _ rfl
                refine StepGoal.nil ?_
                simp only [Act.put, List.setIfInBounds_toArray, List.set_cons_zero, List.set_cons_succ]
                go_wp2
                exact ⟨rfl, rfl, Grew.rf _, rfl⟩
              · rintro _ rfl _ rfl _ rfl
                refine StepGoal.nil ?_
                simp only [Act.put, List.setIfInBounds_toArray, List.set_cons_zero, List.set_cons_succ]
                go_wp2
                exact ⟨rfl, rfl, Grew.rf _, rfl⟩
              · rintro _ rfl _ rfl
                refine StepGoal.nil ?_
                simp only [Act.put, List.setIfInBounds_toArray, List.set_cons_zero, List.set_cons_succ]
                go_wp2
                exact ⟨rfl, rfl, Grew.rf _, rfl⟩
              · rintro _ rfl
                refine StepGoal.nil ?_
                simp only [Act.put, List.setIfInBounds_toArray, List.set_cons_zero, List.set_cons_succ]
                go_wp2
                exact ⟨rfl, rfl, Grew.rf _, rfl⟩
              · rintro _ rfl
                refine StepGoal.nil ?_
                simp only [Act.put, List.setIfInBounds_toArray, List.set_cons_zero, List.set_cons_succ]
                go_wp2
                exact ⟨rfl, rfl, Grew.rf _, rfl⟩
              · rintro _ rfl
                refine StepGoal.nil ?_
                simp only [Act.put, List.setIfInBounds_toArray, List.set_cons_zero, List.set_cons_succ]
                go_wp2
                exact ⟨rfl, rfl, Grew.rf _, rfl⟩
              · rintro _ rfl _ rfl _ rfl
                refine StepGoal.nil ?_
                simp only [Act.put, List.setIfInBounds_toArray, List.set_cons_zero, List.set_cons_succ]
                go_wp2
                exact ⟨rfl, rfl, Grew.rf _, rfl⟩
              · rintro _ rfl _ rfl
                refine StepGoal.nil ?_
                simp only [Act.put, List.setIfInBounds_toArray, List.set_cons_zero, List.set_cons_succ]
                go_wp2
                exact ⟨rfl, rfl, Grew.rf _, rfl⟩
              · rintro _ rfl
                refine StepGoal.nil ?_
                simp only [Act.put, List.setIfInBounds_toArray, List.set_cons_zero, List.set_cons_succ]
                go_wp2
                exact ⟨rfl, rfl, Grew.rf _, rfl⟩
              · rintro _ rfl
                refine StepGoal.nil ?_
                simp only [Act.put, List.setIfInBounds_toArray, List.set_cons_zero, List.set_cons_succ]
                go_wp2
                exact ⟨rfl, rfl, Grew.rf _, rfl⟩
              · rintro _ rfl _ rfl
                have htl1 := htl u hu
                refine StepGoal.nil ?_
                simp only [Act.put, List.setIfInBounds_toArray, List.set_cons_zero, List.set_cons_succ]
                go_wp2_with (go_at_call 25; refine Calls.mono htl1 ?_; rintro e w' ⟨rfl, rfl⟩)
                exact ⟨rfl, rfl, Grew.rf _, rfl⟩
              · rintro _ rfl
                refine StepGoal.nil ?_
                simp only [Act.put, List.setIfInBounds_toArray, List.set_cons_zero, List.set_cons_succ]
                go_wp2
                exact ⟨rfl, rfl, Grew.rf _, rfl⟩
              · rintro _ rfl _ rfl
                refine StepGoal.nil ?_
                simp only [Act.put, List.setIfInBounds_toArray, List.set_cons_zero, List.set_cons_succ]
                go_wp2
                exact ⟨rfl, rfl, Grew.rf _, rfl⟩
              · rintro _ rfl _ rfl
                refine StepGoal.nil ?_
                simp only [Act.put, List.setIfInBounds_toArray, List.set_cons_zero, List.set_cons_succ]
                go_wp2
                exact ⟨rfl, rfl, Grew.rf _, rfl⟩
              · rintro _ rfl _ rfl
                have hce1 := hce u hu
                refine StepGoal.nil ?_
                simp only [Act.put, List.setIfInBounds_toArray, List.set_cons_zero, List.set_cons_succ]
                go_wp2
                exact ⟨rfl, rfl, Grew.rf _, rfl⟩
              · rintro _ rfl _ rfl
                refine StepGoal.nil ?_
                simp only [Act.put, List.setIfInBounds_toArray, List.set_cons_zero, List.set_cons_succ]
                go_wp2
                exact ⟨rfl, rfl, Grew.rf _, rfl⟩
              · rintro _ rfl _ rfl _ rfl
                refine StepGoal.nil ?_
                simp only [Act.put, List.setIfInBounds_toArray, List.set_cons_zero, List.set_cons_succ]
                go_wp2
                exact ⟨rfl, rfl, Grew.rf _, rfl⟩
              · rintro _ rfl _ rfl
                refine StepGoal.nil ?_
                simp only [Act.put, List.setIfInBounds_toArray, List.set_cons_zero, List.set_cons_succ]
                go_wp2
                exact ⟨rfl, rfl, Grew.rf _, rfl⟩
            · intro u hu
              rintro _ rfl _ rfl _ rfl _ rfl _ rfl _ rfl _ rfl _ rfl _ rfl _ rfl _ rfl _ rfl _ rfl _ rfl _ rfl _ rfl _ rfl _ rfl _ rfl _ rfl _ rfl _ rfl _ rfl
              refine StepGoal.nil ?_
              simp only [Act.put, List.setIfInBounds_toArray, List.set_cons_zero, List.set_cons_succ]
              clear htl hce
              by_cases her : er = 0
              · subst her
                go_wp2_with fail
                go_roundw
                case rel => exact ⟨k + 1, nx, _, _, _, by go_num, rfl, by omega, ⟨HOK.out.1, by have h1 := HOK.out.2.1; have h2 := HBL.out; have h3 := HNB.out; omega⟩, HN.out.keep hu⟩
                case measure => simp [intOf]; omega
              · go_wp2_with fail
                refine Calls.mono (awake19_any _) ?_
                rintro e w5 ⟨rfl, hg5⟩
                go_wp2_with fail
                go_ret
                exact ⟨rfl, (HN.out.grew.tr hu).tr hg5⟩
          · go_wp2_with (go_at_call 26; refine Calls.mono (awake19_any _) ?_; rintro e w5 ⟨rfl, hg5⟩)
            go_ret
            exact ⟨rfl, HI.out.grew.tr hg5⟩
      · have HRB : RowKit.Hid (Rd w A0 n0 bs) := by
          have := HR0.out.take (i := n0) (Nat.le_refl _)
          rw [← hbs, Nat.min_eq_left (by omega)]
          exact this
        clear hI hJ hbs hA0
        have HNB : RowKit.Hid (n0 ≤ c0 ∧ n0 ≤ 3000) := ⟨by omega, by omega⟩
        have HA : RowKit.Hid (0 < n0 → ∀ ad, A0 = some ad → ad.block < w.heap.size) := fun h => HA0.out (by omega)
        have HJ := Lib.hid hJ40
        have HC0 := Lib.hid hc0
        clear HA0 hj hJ40
        go_wp2_with fail
        try generalize decide (3000 < (n0 : Int)) = bb
        try generalize decide (j < l.length) = bb2
        go_loopw [10, 11] (fun x i wr => ∃ (k : Nat) (at_ : Int) (lv lv2 : Value) (us : List ByteArray), x = .int .i64 at_ ∧ i = .int .i64 (k : Int) ∧ k ≤ 40 ∧ RowKit.Hid (0 ≤ at_ ∧ at_ ≤ 3000) ∧ PI19 w p mb q AL l (J + k) none 0 none 0 lv lv2 [] us wr) (fun _ i _ => 40 - (intOf i).toNat)
        case atStart => exact ⟨0, 0, _, _, _, rfl, rfl, by omega, ⟨by omega, by omega⟩, HI.out⟩
        case round =>
          obtain ⟨k, at_, lv, lv2, us, rfl, rfl, hk, HAT, hI2⟩ := hrel
          clear HI
          have HI := Lib.hid hI2
          clear hI2
          by_cases hlt : k < 40
          · obtain ⟨⟨s, nx, er, us2⟩, htk⟩ : ∃ r, takeT us bs at_ = r := ⟨_, rfl⟩
            have hok := takeT_ok (ts := us) (at_ := at_) HBY.out
            rw [htk] at hok
            simp only at hok
            have HOK := Lib.hid hok
            have hbl : bs.length = n0 := HRB.out.len
            have HBL := Lib.hid hbl
            have hfw := HI.out.few
            have hJ := HJ.out
            have hnb := HNB.out
            have hat := HAT.out
            have hc := HC0.out
            have htt := ttake_to p lv mb us A0 n0 c0 bs at_ s nx er us2 htk wr HI.out.tab (HRB.out.keep HI.out.grew) HBY.out (by omega) hc (by omega) (by omega) (by omega) (by omega)
            have HRT := Lib.hid (fun (u : World) (h : RefI u q lv2 us) (h2 : Rd u A0 n0 bs) => rtake19_any q lv2 us A0 n0 c0 bs at_ u h h2 HBY.out (by omega) hc (by omega) (by omega) (by omega) (by omega))
            rw [htk] at HRT
            simp only at HRT
            clear hok hbl hfw hJ hnb hat hc htk
            go_wp2_with (go_at_call 27; refine Calls.mono htt ?_; clear htt; rintro e w3 ⟨rfl, Q3⟩)
            have hR3 : RefI w3 q lv2 us := HI.out.ref.chg Q3.chg (fun k hk h2 => HI.out.sep.sep k h2 hk)
            have hrb3 : Rd w3 A0 n0 bs := (HRB.out.keep HI.out.grew).chg Q3.chg (fun hn ad e hk => by have := HA.out hn ad e; have := HI.out.low _ (.inl hk); omega)
            have hrt := HRT.out _ hR3 hrb3
            have HQ3 := Lib.hid Q3
            clear Q3 hR3 hrb3 HRT
            refine Calls.mono hrt ?_
            clear hrt
            rintro e w4 ⟨rfl, Q4⟩
            obtain ⟨l1, hT3, f1⟩ := HQ3.out.tab
            obtain ⟨l2, hR4, f2⟩ := Q4.tab
            have hN := HI.out.step HQ3.out.chg hT3 f1 Q4.chg hR4 f2 HOK.out.2.2
            have HN := Lib.hid hN
            obtain ⟨AL2, cL2, hl2, hnL2, hcL2, hrL2⟩ := hR4.list.rd
            have hcell : w4.cell? ⟨q, 0, none⟩ = some (.slice AL2 us2.length cL2) := by
              have h := hR4.cells
              rw [hl2] at h
              exact cell_of_heap (i := 0) h rfl
            have htl := fun (u : World) (h : Grew w4 u) => tlen_any p l1 mb us2 u (hN.tab.keep h)
            have hce := fun (u : World) (h : Grew w4 u) => h.ce hcell
            have hus2 : us2.length ≤ 1000000 := hR4.few
            clear hT3 f1 hR4 f2 Q4 HQ3 hN hl2 hrL2 hcell
            go_wp2_with fail
            refine region_grew [[], [], [(0, 67), (1, 68)], [(2, 69)], [(3, 70)], [(3, 70)], [(3, 70), (4, 71), (5, 72)], [(3, 70), (6, 73)], [(7, 74)], [(8, 75)], [(8, 75)], [(8, 75), (9, 76), (10, 77)], [(8, 75), (11, 78)], [(12, 79)], [(13, 80)], [(13, 80), (14, 81)], [(13, 80)], [(13, 80), (16, 83)], [(13, 80), (17, 84)], [(13, 80), (18, 85)], [(13, 80), (19, 86)], [(13, 80), (15, 82), (20, 87)], [(13, 80), (21, 88)]] [(0, 67), (1, 68), (2, 69), (3, 70), (4, 71), (5, 72), (6, 73), (7, 74), (8, 75), (9, 76), (10, 77), (11, 78), (12, 79), (13, 80), (14, 81), (15, 82), (16, 83), (17, 84), (18, 85), (19, 86), (20, 87), (21, 88), (22, 89)] (fun
              | 0 => .eqv (.string s) | 1 => .eqv (.string s) | 2 => .eqv (.bool false) | 3 => .eqv (.bool false) | 4 => .eqv (.int .i64 nx) | 5 => .eqv (.int .i64 nx) | 6 => .eqv (.bool false) | 7 => .eqv (.bool false) | 8 => .eqv (.bool false) | 9 => .eqv (.int .i64 er) | 10 => .eqv (.int .i64 er) | 11 => .eqv (.bool false) | 12 => .eqv (.bool false) | 13 => .eqv (.bool false) | 14 => .eqv (.pointer (some ⟨p, 0, none⟩)) | 15 => .eqv (.int .i64 (us2.length : Int)) | 16 => .eqv (.pointer (some ⟨q, 0, none⟩)) | 17 => .eqv (.pointer (some ⟨q, 0, none⟩)) | 18 => .eqv (.pointer (some ⟨q, 0, none⟩)) | 19 => .eqv (.slice AL2 us2.length cL2) | 20 => .eqv (.int .i64 (us2.length : Int)) | 21 => .eqv (.bool false) | 22 => .eqv (.bool false) | _ => .any) (by kernel_rfl) ?_ ?_
            · refine ⟨fun u hu => ?_, fun u hu => ?_, fun u hu => ?_, fun u hu => ?_, fun u hu => ?_, fun u hu => ?_, fun u hu => ?_, fun u hu => ?_, fun u hu => ?_, fun u hu => ?_, fun u hu => ?_, fun u hu => ?_, fun u hu => ?_, fun u hu => ?_, fun u hu => ?_, fun u hu => ?_, fun u hu => ?_, fun u hu => ?_, fun u hu => ?_, fun u hu => ?_, fun u hu => ?_, fun u hu => ?_, fun u hu => ?_, trivial⟩
              · refine StepGoal.nil ?_
                go_wp2
                exact ⟨rfl, rfl, Grew.rf _, rfl⟩
              · refine StepGoal.nil ?_
                go_wp2
                exact ⟨rfl, rfl, Grew.rf _, rfl⟩
              · rintro _ rfl _ rfl
                refine StepGoal.nil ?_
                simp only [Act.put, List.setIfInBounds_toArray, List.set_cons_zero, List.set_cons_succ]
                go_wp2
                exact ⟨rfl, rfl, Grew.rf _, rfl⟩
              · rintro _ rfl
                refine StepGoal.nil ?_
                simp only [Act.put, List.setIfInBounds_toArray, List.set_cons_zero, List.set_cons_succ]
                go_wp2
                exact ⟨rfl, rfl, Grew.rf _, rfl⟩
              · rintro _ rfl
                refine StepGoal.nil ?_
                simp only [Act.put, List.setIfInBounds_toArray, List.set_cons_zero, List.set_cons_succ]
                go_wp2
                exact ⟨rfl, rfl, Grew.rf _, rfl⟩
              · rintro _ rfl
                refine StepGoal.nil ?_
                simp only [Act.put, List.setIfInBounds_toArray, List.set_cons_zero, List.set_cons_succ]
                go_wp2
                exact ⟨rfl, rfl, Grew.rf _, rfl⟩
              · rintro _ rfl _ rfl _ rfl
                refine StepGoal.nil ?_
                simp only [Act.put, List.setIfInBounds_toArray, List.set_cons_zero, List.set_cons_succ]
                go_wp2
                exact ⟨rfl, rfl, Grew.rf _, rfl⟩
              · rintro _ rfl _ rfl
                refine StepGoal.nil ?_
                simp only [Act.put, List.setIfInBounds_toArray, List.set_cons_zero, List.set_cons_succ]
                go_wp2
                exact ⟨rfl, rfl, Grew.rf _, rfl⟩
              · rintro _ rfl
                refine StepGoal.nil ?_
                simp only [Act.put, List.setIfInBounds_toArray, List.set_cons_zero, List.set_cons_succ]
                go_wp2
                exact ⟨rfl, rfl, Grew.rf _, rfl⟩
              · rintro _ rfl
                refine StepGoal.nil ?_
                simp only [Act.put, List.setIfInBounds_toArray, List.set_cons_zero, List.set_cons_succ]
                go_wp2
                exact ⟨rfl, rfl, Grew.rf _, rfl⟩
              · rintro _ rfl
                refine StepGoal.nil ?_
                simp only [Act.put, List.setIfInBounds_toArray, List.set_cons_zero, List.set_cons_succ]
                go_wp2
                exact ⟨rfl, rfl, Grew.rf _, rfl⟩
              · rintro _ rfl _ rfl _ rfl
                refine StepGoal.nil ?_
                simp only [Act.put, List.setIfInBounds_toArray, List.set_cons_zero, List.set_cons_succ]
                go_wp2
                exact ⟨rfl, rfl, Grew.rf _, rfl⟩
              · rintro _ rfl _ rfl
                refine StepGoal.nil ?_
                simp only [Act.put, List.setIfInBounds_toArray, List.set_cons_zero, List.set_cons_succ]
                go_wp2
                exact ⟨rfl, rfl, Grew.rf _, rfl⟩
              · rintro _ rfl
                refine StepGoal.nil ?_
                simp only [Act.put, List.setIfInBounds_toArray, List.set_cons_zero, List.set_cons_succ]
                go_wp2
                exact ⟨rfl, rfl, Grew.rf _, rfl⟩
              · rintro _ rfl
                refine StepGoal.nil ?_
                simp only [Act.put, List.setIfInBounds_toArray, List.set_cons_zero, List.set_cons_succ]
                go_wp2
                exact ⟨rfl, rfl, Grew.rf _, rfl⟩
              · rintro _ rfl _ rfl
                have htl1 := htl u hu
                refine StepGoal.nil ?_
                simp only [Act.put, List.setIfInBounds_toArray, List.set_cons_zero, List.set_cons_succ]
                go_wp2_with (go_at_call 25; refine Calls.mono htl1 ?_; rintro e w' ⟨rfl, rfl⟩)
                exact ⟨rfl, rfl, Grew.rf _, rfl⟩
              · rintro _ rfl
                refine StepGoal.nil ?_
                simp only [Act.put, List.setIfInBounds_toArray, List.set_cons_zero, List.set_cons_succ]
                go_wp2
                exact ⟨rfl, rfl, Grew.rf _, rfl⟩
              · rintro _ rfl _ rfl
                refine StepGoal.nil ?_
                simp only [Act.put, List.setIfInBounds_toArray, List.set_cons_zero, List.set_cons_succ]
                go_wp2
                exact ⟨rfl, rfl, Grew.rf _, rfl⟩
              · rintro _ rfl _ rfl
                refine StepGoal.nil ?_
                simp only [Act.put, List.setIfInBounds_toArray, List.set_cons_zero, List.set_cons_succ]
                go_wp2
                exact ⟨rfl, rfl, Grew.rf _, rfl⟩
              · rintro _ rfl _ rfl
                have hce1 := hce u hu
                refine StepGoal.nil ?_
                simp only [Act.put, List.setIfInBounds_toArray, List.set_cons_zero, List.set_cons_succ]
                go_wp2
                exact ⟨rfl, rfl, Grew.rf _, rfl⟩
              · rintro _ rfl _ rfl
                refine StepGoal.nil ?_
                simp only [Act.put, List.setIfInBounds_toArray, List.set_cons_zero, List.set_cons_succ]
                go_wp2
                exact ⟨rfl, rfl, Grew.rf _, rfl⟩
              · rintro _ rfl _ rfl _ rfl
                refine StepGoal.nil ?_
                simp only [Act.put, List.setIfInBounds_toArray, List.set_cons_zero, List.set_cons_succ]
                go_wp2
                exact ⟨rfl, rfl, Grew.rf _, rfl⟩
              · rintro _ rfl _ rfl
                refine StepGoal.nil ?_
                simp only [Act.put, List.setIfInBounds_toArray, List.set_cons_zero, List.set_cons_succ]
                go_wp2
                exact ⟨rfl, rfl, Grew.rf _, rfl⟩
            · intro u hu
              rintro _ rfl _ rfl _ rfl _ rfl _ rfl _ rfl _ rfl _ rfl _ rfl _ rfl _ rfl _ rfl _ rfl _ rfl _ rfl _ rfl _ rfl _ rfl _ rfl _ rfl _ rfl _ rfl _ rfl
              refine StepGoal.nil ?_
              simp only [Act.put, List.setIfInBounds_toArray, List.set_cons_zero, List.set_cons_succ]
              clear htl hce
              by_cases her : er = 0
              · subst her
                go_wp2_with fail
                go_roundw
                case rel => exact ⟨k + 1, nx, _, _, _, by go_num, rfl, by omega, ⟨HOK.out.1, by have h1 := HOK.out.2.1; have h2 := HBL.out; have h3 := HNB.out; omega⟩, HN.out.keep hu⟩
                case measure => simp [intOf]; omega
              · go_wp2_with fail
                refine Calls.mono (awake19_any _) ?_
                rintro e w5 ⟨rfl, hg5⟩
                go_wp2_with fail
                go_ret
                exact ⟨rfl, (HN.out.grew.tr hu).tr hg5⟩
          · go_wp2_with (go_at_call 26; refine Calls.mono (awake19_any _) ?_; rintro e w5 ⟨rfl, hg5⟩)
            go_ret
            exact ⟨rfl, HI.out.grew.tr hg5⟩
end Go.Proofs.Ytbkcpgaicoagfaa
