/- Delta's laws: the walk of DeltaTakes. -/
import Derived.Test.YtbkcpgaicoagfaaLaw20
set_option linter.unusedVariables false
set_option linter.unusedSimpArgs false
namespace Go.Proofs.Ytbkcpgaicoagfaa
open Go.RowKit

theorem tab_ref_apart2 {u : World} {p mb q : Nat} {lv : Value} {ts us : List ByteArray} (hT : TabI u p lv mb ts) (hR : RefI u q (.slice none 0 0) us) : ∀ k, ftp p lv mb k → ¬ ftr q (.slice none 0 0) k := by
  intro k hk h
  have := ftrN h
  subst this
  rcases hk with rfl | rfl | h
  · have := hT.cells
    rw [hR.cells] at this
    simp only [Option.some.injEq, Obj.cells.injEq] at this
    exact absurd this.2.1 (by decide)
  · obtain ⟨es, c, hm⟩ := hT.map.isMap
    rw [hR.cells] at hm; cases hm
  · obtain ⟨cur, hc⟩ := hT.list.block h
    rw [hR.cells] at hc
    simp only [Option.some.injEq, Obj.cells.injEq] at hc
    exact absurd hc.2.1 (by decide)
theorem takeD_err0 {ts : List ByteArray} {b : List Int} {at_ : Int} {was : List Hdr} (h : (takeD ts b at_ was).2.2.1 ≠ 0) : (takeD ts b at_ was).1 = [] ∧ (takeD ts b at_ was).2.1 = 0 := by
  unfold takeD at h ⊢
  simp only at h ⊢
  repeat' split
  all_goals first
    | exact ⟨rfl, rfl⟩
    | (exfalso
       simp only [*, if_false, if_true, ne_eq, not_true_eq_false, not_false_eq_true] at h)
/-- The list that has come. -/
structure ListQ (w w' : World) (v : Value) (l : List Hdr) : Prop where
  rd : ∃ B n c, v = .slice B n c ∧ RdH w' B n l ∧ n ≤ c ∧ c ≤ 9223372036854775807 ∧ (∀ ad, B = some ad → w.heap.size ≤ ad.block ∧ ∃ cs fr, w'.heap[ad.block]? = some (.cells cs 124 fr))
theorem ListQ.nil (w w' : World) : ListQ w w' (.slice none 0 0) [] := ⟨none, 0, 0, rfl, RdV.nil _ _ _, by omega, by omega, fun ad e => by cases e⟩
theorem ListQ.own {w w' : World} {B : Option Addr} {n c0 : Nat} {l : List Hdr} (h : OwnV 124 2 w' w.heap.size (.slice B n c0) n (hcs l)) {c : Nat} (hc : n ≤ c) (hm : c ≤ 9223372036854775807) : ListQ w w' (.slice B n c) l := by
  obtain ⟨A, c1, e, _, _, hr⟩ := h.rd
  cases e
  exact ⟨B, n, c, rfl, hr, hc, hm, fun ad e => ⟨h.base_le _ (by rw [e]; rfl), by obtain ⟨cur, hb⟩ := h.block (b := ad.block) (by rw [e]; rfl); exact ⟨_, _, hb⟩⟩⟩
theorem DTakeQ.list {w w' : World} {p : Nat} {lv : Value} {mb : Nat} {z : List Hdr × Int × Int × List ByteArray} {e : Ending} (hz : z.2.2.1 ≠ 0 → z.1 = [] ∧ z.2.1 = 0) (h : DTakeQ w p lv mb z e w') : ∃ v, e = .returned (.tuple #[v, .int .i64 z.2.1, .int .i64 z.2.2.1]) ∧ TakeQ w w' p lv mb z.2.2.2 ∧ ListQ w w' v z.1 := by
  obtain ⟨v, he, hT, h1, h2⟩ := h
  refine ⟨v, he, hT, ?_⟩
  by_cases h0 : z.2.2.1 = 0
  · obtain ⟨B, c0, rfl, hO⟩ := h1 h0
    exact ListQ.own hO (Nat.le_refl _) (by obtain ⟨A, c1, e, h3, h4, _⟩ := hO.rd; omega)
  · rw [h2 h0, (hz h0).1]
    exact ListQ.nil _ _
theorem RDTakeQ.list {w w' : World} {p : Nat} {lv : Value} {z : List Hdr × Int × Int × List ByteArray} {e : Ending} (hz : z.2.2.1 ≠ 0 → z.1 = [] ∧ z.2.1 = 0) (h : RDTakeQ w p lv z e w') : ∃ v, e = .returned (.tuple #[v, .int .i64 z.2.1, .int .i64 z.2.2.1]) ∧ RTakeQ w w' p lv z.2.2.2 ∧ ListQ w w' v z.1 := by
  obtain ⟨v, he, hT, h1, h2⟩ := h
  refine ⟨v, he, hT, ?_⟩
  by_cases h0 : z.2.2.1 = 0
  · have hO := h1 h0
    obtain ⟨B, c0, rfl, h3, h4, _⟩ := hO.rd
    exact ListQ.own hO h3 h4
  · rw [h2 h0, (hz h0).1]
    exact ListQ.nil _ _

set_option maxRecDepth 100000 in
set_option maxHeartbeats 6400000 in
theorem deltaTakes_walk (A0 : Option Addr) (n0 c0 : Nat) (bs0 : List Int) (at_ : Int) (A1 : Option Addr) (n1 c1 : Nat) (was : List Hdr) (w : World)
    (hr0 : Rd w A0 n0 bs0) (hb0 : Byt bs0) (hnc0 : n0 ≤ c0) (hc0 : c0 ≤ 9223372036854775807) (h0 : -9223372036854775808 ≤ at_) (h1 : at_ ≤ 9223372036854775807) (hr1 : RdH w A1 n1 was) (hs1 : ∀ t ∈ was, t.1.size ≤ 9223372036854775807 ∧ t.2.size ≤ 9223372036854775807) (hn1 : n1 ≤ 9223372036854775807) :
    Calls Try.prog 9 #[.slice A0 n0 c0, .int .i64 at_, .slice A1 n1 c1] w fun e w' => e = .returned (.bool true) ∧ Grew w w' := by
  obtain ⟨fw, hfw⟩ : ∃ fw, fewH was = fw := ⟨_, rfl⟩
  have hf1 := fun (u : World) (hg : Grew w u) => few20_any A1 n1 c1 was u (hr1.keep hg) hs1 hn1
  rw [hfw] at hf1
  have hlw : fw.length ≤ 24 := by rw [← hfw, fewH_len]; omega
  have HF1 := Lib.hid hf1
  have HLW := Lib.hid hlw
  have hA0 : 0 < n0 → ∀ ad, A0 = some ad → ad.block < w.heap.size := fun hn ad e => by
    obtain ⟨b, o, e2, hc⟩ := hr0.cells hn
    rw [e2] at e
    cases e
    exact lt_of_cell (hc 0 hn)
  clear hf1 hlw hfw hr1 hs1 hn1
  obtain ⟨k0, hk0⟩ : ∃ k0, min n0 3000 = k0 := ⟨_, rfl⟩
  obtain ⟨x, hx⟩ : ∃ x, bs0.take k0 = x := ⟨_, rfl⟩
  have hrx : Rd w A0 k0 x := by rw [← hx]; exact hr0.take (by omega)
  have hbx : Byt x := fun y hy => hb0 y (by rw [← hx] at hy; exact List.mem_of_mem_take hy)
  have hax : 0 < k0 → ∀ ad, A0 = some ad → ad.block < w.heap.size := fun h => hA0 (by omega)
  have hkc : k0 ≤ 3000 := by omega
  have hkc0 : k0 ≤ c0 := by omega
  have HRX := Lib.hid hrx
  have HAX := Lib.hid hax
  have HBX := Lib.hid hbx
  have hz0 : (takeD [] x at_ fw).2.2.1 ≠ 0 → (takeD [] x at_ fw).1 = [] ∧ (takeD [] x at_ fw).2.1 = 0 := takeD_err0
  have hdt := fun (u : World) (hg : Grew w u) (p mb : Nat) (hT : TabI u p (.slice none 0 0) mb []) (hp : w.heap.size ≤ p) (hm : w.heap.size ≤ mb) (v : Value) (h2 : OwnH u w.heap.size v fw) =>
    show Calls Try.prog 33 #[.slice A0 k0 c0, .int .i64 at_, .pointer (some ⟨p, 0, none⟩), v] u (fun e w' => ∃ v', e = .returned (.tuple #[v', .int .i64 (takeD [] x at_ fw).2.1, .int .i64 (takeD [] x at_ fw).2.2.1]) ∧ TakeQ u w' p (.slice none 0 0) mb (takeD [] x at_ fw).2.2.2 ∧ ListQ u w' v' (takeD [] x at_ fw).1) from by
      obtain ⟨B1, d1, rfl, e1, m1, r1⟩ := h2.rd
      have hlw := HLW.out
      refine Calls.mono (dtake_any p (.slice none 0 0) mb [] A0 k0 c0 x at_ B1 fw.length d1 fw u hT (HRX.out.keep hg) r1 (fun h0 ad e h => by have h1 := HAX.out h0 ad e; have h2 := ftpN h; omega) (fun _ ad e => h2.tabH hT (by rw [e]; rfl)) HBX.out hkc0 hc0 (by omega) (by omega) e1 m1 (by simp) h0 h1) ?_
      exact fun e w' h => h.list hz0
  have hrt := fun (u : World) (hg : Grew w u) (q : Nat) (hT : RefI u q (.slice none 0 0) []) (hp : w.heap.size ≤ q) (v : Value) (h2 : OwnH u w.heap.size v fw) =>
    show Calls Try.prog 34 #[.slice A0 k0 c0, .int .i64 at_, .pointer (some ⟨q, 0, none⟩), v] u (fun e w' => ∃ v', e = .returned (.tuple #[v', .int .i64 (takeD [] x at_ fw).2.1, .int .i64 (takeD [] x at_ fw).2.2.1]) ∧ RTakeQ u w' q (.slice none 0 0) (takeD [] x at_ fw).2.2.2 ∧ ListQ u w' v' (takeD [] x at_ fw).1) from by
      obtain ⟨B1, d1, rfl, e1, m1, r1⟩ := h2.rd
      have hlw := HLW.out
      refine Calls.mono (rdtake_any q (.slice none 0 0) [] A0 k0 c0 x at_ B1 fw.length d1 fw u hT (HRX.out.keep hg) r1 (fun h0 ad e h => by have h1 := HAX.out h0 ad e; have h2 := ftrN h; omega) (fun _ ad e => h2.refH hT (by rw [e]; rfl)) HBX.out hkc0 hc0 (by omega) (by omega) e1 m1 (by simp) h0 h1) ?_
      exact fun e w' h => h.list hz0
  obtain ⟨⟨l, nx, er, ts⟩, hz⟩ : ∃ z, takeD [] x at_ fw = z := ⟨_, rfl⟩
  rw [hz] at hdt hrt
  dsimp only at hdt hrt
  have HDT := Lib.hid hdt
  have HRT := Lib.hid hrt
  clear hdt hrt hx hrx hax hbx hr0 hb0 hA0 hz0 hz
  by_cases hbig : 3000 < n0
  · obtain rfl : 3000 = k0 := by omega
    have hcut := cut_hi (kh := .i64) A0 n0 c0 3000 (by omega)
    clear hk0
    go_enter Try.func9, Try.ntmps9
    go_wp2_with (go_at_call 21; refine Calls.mono (tnew_any _) ?_; rintro e w1 ⟨p, mb, rfl, hT1, hg1, hp1, hm1⟩)
    have hG1 : Grew w w1 := hg1
    obtain ⟨wz, hwz⟩ : ∃ wz, w1.alloc (.cells #[.slice none 0 0] 50) = wz := ⟨_, rfl⟩
    have hgz : Grew w1 wz := by rw [← hwz]; exact (Grew.rf w1).al _
    have hRz : RefI wz w1.heap.size (.slice none 0 0) [] := by rw [← hwz]; exact ⟨heap_alloc_new w1 _, OwnV.nil _ _ _ _, by simp, by simp⟩
    rw [hwz]
    obtain ⟨q, hq⟩ : ∃ q, w1.heap.size = q := ⟨_, rfl⟩
    have hqw : w.heap.size ≤ q := by rw [← hq]; exact hG1.size
    rw [hq] at hRz ⊢
    have hTz := hT1.keep hgz
    have hGz := hG1.tr hgz
    clear hwz hq hT1 hgz hG1 hg1
    refine Calls.mono (HF1.out _ hGz) ?_
    rintro e w2 ⟨v2, rfl, ho2, hg2⟩
    have ho2' := ho2.lower hGz.size
    have hG2 := hGz.tr hg2
    have hT2 := hTz.keep hg2
    have hR2 := hRz.keep hg2
    have htk := HDT.out _ hG2 p mb hT2 hp1 hm1 v2 ho2'
    have HTK := Lib.hid htk
    have HG2 := Lib.hid hG2
    have HR2 := Lib.hid hR2
    have HT2 := Lib.hid hT2
    clear htk hG2 hR2 hT2 ho2 ho2' hg2 hGz hTz hRz
    go_wp2_with fail
    refine Calls.mono HTK.out ?_
    rintro e w3 ⟨v3, rfl, ⟨⟨l3, hT3, hF3⟩, hC3⟩, hL3⟩
    have hG3 : Grew w w3 := grew_chg HG2.out hC3 (fun k hk => by have := ftpN hk; omega)
    have hR3 : RefI w3 q (.slice none 0 0) [] := HR2.out.chg hC3 (fun k hk h => tab_ref_apart2 HT2.out HR2.out k h hk)
    have HT3 := Lib.hid hT3
    have HG3 := Lib.hid hG3
    have HR3 := Lib.hid hR3
    have HL3 := Lib.hid hL3
    clear hT3 hF3 hC3 hL3 hG3 hR3 HTK HT2 HR2
    go_wp2_with fail
    refine Calls.mono (HF1.out _ HG3.out) ?_
    rintro e w4 ⟨v4, rfl, ho4, hg4⟩
    have ho4' := ho4.lower HG3.out.size
    have htk := HRT.out _ (HG3.out.tr hg4) q (HR3.out.keep hg4) hqw v4 ho4'
    have HTK := Lib.hid htk
    have HG4 := Lib.hid hg4
    clear htk ho4 ho4' hg4
    go_wp2_with fail
    refine Calls.mono HTK.out ?_
    rintro e w5 ⟨v5, rfl, ⟨⟨l5, hR5, hF5⟩, hC5⟩, hL5⟩
    have hT5 : TabI w5 p l3 mb ts := (HT3.out.keep HG4.out).chg hC5 (tab_ref_apart2 (HT3.out.keep HG4.out) (HR3.out.keep HG4.out))
    have hG5 : Grew w w5 := grew_chg (HG3.out.tr HG4.out) hC5 (fun k hk => by have := ftrN hk; omega)
    obtain ⟨B3, n3, d3, rfl, r3, e3, m3, b3⟩ := HL3.out.rd
    obtain ⟨B5, n5, d5, rfl, r5, e5, m5, b5⟩ := hL5.rd
    have hr3 : RdH w5 B3 n3 l := (r3.keep HG4.out).chg hC5 (fun _ ad e h => by
      have := ftrN h
      obtain ⟨cs, fr, hb⟩ := (b3 ad e).2
      have hc := (HR3.out).cells
      rw [← this, hb] at hc
      simp only [Option.some.injEq, Obj.cells.injEq] at hc
      exact absurd hc.2.1 (by decide))
    have hsm := fun (u : World) (hg : Grew w5 u) => same_any B3 n3 d3 l B5 n5 d5 l u (hr3.keep hg) (r5.keep hg) (by omega) (by omega)
    rw [show decide (l = l) = true by simp] at hsm
    obtain ⟨AL, cL, hl5, hnL, hcL, hrL⟩ := hR5.list.rd
    have hcell : w5.cell? ⟨q, 0, none⟩ = some (.slice AL ts.length cL) := by
      have h := hR5.cells
      rw [hl5] at h
      exact cell_of_heap (i := 0) h rfl
    have htl := fun (u : World) (h : Grew w5 u) => tlen_any p l3 mb ts u (hT5.keep h)
    have HSM := Lib.hid hsm
    have HTL := Lib.hid htl
    have HG5 := Lib.hid hG5
    clear hsm htl hG5 hT5 hR5 hF5 hC5 hL5 r3 e3 m3 b3 r5 e5 m5 b5 hr3 hl5 hnL hcL hrL HTK HL3 HG4 HR3 HT3 HG3 HG2
    dsimp only
    go_wp2_with fail
    refine region_grew [[], [(0, 45)], [(1, 46)], [(1, 46)], [(1, 46), (2, 47), (3, 48)], [(1, 46), (4, 49)], [(5, 50)], [(6, 51)], [(6, 51)], [(6, 51), (7, 52), (8, 53)], [(6, 51), (9, 54)], [(10, 55)], [(11, 56)], [(11, 56)], [(11, 56), (12, 57), (13, 58)], [(11, 56), (14, 59)], [(15, 60)], [(16, 61)], [(16, 61), (17, 62)], [(16, 61)], [(16, 61), (19, 64)], [(16, 61), (20, 65)], [(16, 61), (21, 66)], [(16, 61), (22, 67)], [(16, 61), (18, 63), (23, 68)], [(16, 61), (24, 69)], [(25, 70)]] [(0, 45), (1, 46), (2, 47), (3, 48), (4, 49), (5, 50), (6, 51), (7, 52), (8, 53), (9, 54), (10, 55), (11, 56), (12, 57), (13, 58), (14, 59), (15, 60), (16, 61), (17, 62), (18, 63), (19, 64), (20, 65), (21, 66), (22, 67), (23, 68), (24, 69), (25, 70), (26, 6)] (fun
      | 0 => .eqv (.bool true) | 1 => .eqv (.bool true) | 2 => .eqv (.slice B3 n3 d3) | 3 => .eqv (.slice B5 n5 d5) | 4 => .eqv (.bool true) | 5 => .eqv (.bool true) | 6 => .eqv (.bool true) | 7 => .eqv (.int .i64 nx) | 8 => .eqv (.int .i64 nx) | 9 => .eqv (.bool true) | 10 => .eqv (.bool true) | 11 => .eqv (.bool true) | 12 => .eqv (.int .i64 er) | 13 => .eqv (.int .i64 er) | 14 => .eqv (.bool true) | 15 => .eqv (.bool true) | 16 => .eqv (.bool true) | 17 => .eqv (.pointer (some ⟨p, 0, none⟩)) | 18 => .eqv (.int .i64 (ts.length : Int)) | 19 => .eqv (.pointer (some ⟨q, 0, none⟩)) | 20 => .eqv (.pointer (some ⟨q, 0, none⟩)) | 21 => .eqv (.pointer (some ⟨q, 0, none⟩)) | 22 => .eqv (.slice AL ts.length cL) | 23 => .eqv (.int .i64 (ts.length : Int)) | 24 => .eqv (.bool true) | 25 => .eqv (.bool true) | 26 => .eqv (.bool true) | _ => .any) (by kernel_rfl) ?_ ?_
    · refine ⟨fun u hu => ?_, fun u hu => ?_, fun u hu => ?_, fun u hu => ?_, fun u hu => ?_, fun u hu => ?_, fun u hu => ?_, fun u hu => ?_, fun u hu => ?_, fun u hu => ?_, fun u hu => ?_, fun u hu => ?_, fun u hu => ?_, fun u hu => ?_, fun u hu => ?_, fun u hu => ?_, fun u hu => ?_, fun u hu => ?_, fun u hu => ?_, fun u hu => ?_, fun u hu => ?_, fun u hu => ?_, fun u hu => ?_, fun u hu => ?_, fun u hu => ?_, fun u hu => ?_, fun u hu => ?_, trivial⟩
      · refine StepGoal.nil ?_
        go_wp2_with (go_at_call 29; refine Calls.mono (awake20_any _) ?_; rintro e w' ⟨rfl, hg⟩)
        exact ⟨rfl, rfl, hg, rfl⟩
      · rintro _ rfl
        refine StepGoal.nil ?_
        simp only [Act.put, List.setIfInBounds_toArray, List.set_cons_zero, List.set_cons_succ]
        go_wp2
        exact ⟨rfl, rfl, Grew.rf _, rfl⟩
      · rintro _ rfl
        refine StepGoal.nil ?_
        simp only [Act.put, List.setIfInBounds_toArray, List.set_cons_zero, List.set_cons_succ]
        go_wp2
        exact ⟨rfl, rfl, Grew.rf _, rfl⟩
      · rintro _ rfl
        refine StepGoal.nil ?_
        simp only [Act.put, List.setIfInBounds_toArray, List.set_cons_zero, List.set_cons_succ]
        go_wp2
        exact ⟨rfl, rfl, Grew.rf _, rfl⟩
      · rintro _ rfl _ rfl _ rfl
        refine StepGoal.nil ?_
        simp only [Act.put, List.setIfInBounds_toArray, List.set_cons_zero, List.set_cons_succ]
        go_wp2_with (go_at_call 35; refine Calls.mono (HSM.out _ hu) ?_; rintro e w' ⟨rfl, hg⟩)
        exact ⟨rfl, rfl, hg, rfl⟩
      · rintro _ rfl _ rfl
        refine StepGoal.nil ?_
        simp only [Act.put, List.setIfInBounds_toArray, List.set_cons_zero, List.set_cons_succ]
        go_wp2
        exact ⟨rfl, rfl, Grew.rf _, rfl⟩
      · rintro _ rfl
        refine StepGoal.nil ?_
        simp only [Act.put, List.setIfInBounds_toArray, List.set_cons_zero, List.set_cons_succ]
        go_wp2
        exact ⟨rfl, rfl, Grew.rf _, rfl⟩
      · rintro _ rfl
        refine StepGoal.nil ?_
        simp only [Act.put, List.setIfInBounds_toArray, List.set_cons_zero, List.set_cons_succ]
        go_wp2
        exact ⟨rfl, rfl, Grew.rf _, rfl⟩
      · rintro _ rfl
        refine StepGoal.nil ?_
        simp only [Act.put, List.setIfInBounds_toArray, List.set_cons_zero, List.set_cons_succ]
        go_wp2
        exact ⟨rfl, rfl, Grew.rf _, rfl⟩
      · rintro _ rfl _ rfl _ rfl
        refine StepGoal.nil ?_
        simp only [Act.put, List.setIfInBounds_toArray, List.set_cons_zero, List.set_cons_succ]
        go_wp2
        exact ⟨rfl, rfl, Grew.rf _, rfl⟩
      · rintro _ rfl _ rfl
        refine StepGoal.nil ?_
        simp only [Act.put, List.setIfInBounds_toArray, List.set_cons_zero, List.set_cons_succ]
        go_wp2
        exact ⟨rfl, rfl, Grew.rf _, rfl⟩
      · rintro _ rfl
        refine StepGoal.nil ?_
        simp only [Act.put, List.setIfInBounds_toArray, List.set_cons_zero, List.set_cons_succ]
        go_wp2
        exact ⟨rfl, rfl, Grew.rf _, rfl⟩
      · rintro _ rfl
        refine StepGoal.nil ?_
        simp only [Act.put, List.setIfInBounds_toArray, List.set_cons_zero, List.set_cons_succ]
        go_wp2
        exact ⟨rfl, rfl, Grew.rf _, rfl⟩
      · rintro _ rfl
        refine StepGoal.nil ?_
        simp only [Act.put, List.setIfInBounds_toArray, List.set_cons_zero, List.set_cons_succ]
        go_wp2
        exact ⟨rfl, rfl, Grew.rf _, rfl⟩
      · rintro _ rfl _ rfl _ rfl
        refine StepGoal.nil ?_
        simp only [Act.put, List.setIfInBounds_toArray, List.set_cons_zero, List.set_cons_succ]
        go_wp2
        exact ⟨rfl, rfl, Grew.rf _, rfl⟩
      · rintro _ rfl _ rfl
        refine StepGoal.nil ?_
        simp only [Act.put, List.setIfInBounds_toArray, List.set_cons_zero, List.set_cons_succ]
        go_wp2
        exact ⟨rfl, rfl, Grew.rf _, rfl⟩
      · rintro _ rfl
        refine StepGoal.nil ?_
        simp only [Act.put, List.setIfInBounds_toArray, List.set_cons_zero, List.set_cons_succ]
        go_wp2
        exact ⟨rfl, rfl, Grew.rf _, rfl⟩
      · rintro _ rfl
        refine StepGoal.nil ?_
        simp only [Act.put, List.setIfInBounds_toArray, List.set_cons_zero, List.set_cons_succ]
        go_wp2
        exact ⟨rfl, rfl, Grew.rf _, rfl⟩
      · rintro _ rfl _ rfl
        refine StepGoal.nil ?_
        simp only [Act.put, List.setIfInBounds_toArray, List.set_cons_zero, List.set_cons_succ]
        go_wp2_with (go_at_call 25; refine Calls.mono (HTL.out _ hu) ?_; rintro e w' ⟨rfl, rfl⟩)
        exact ⟨rfl, rfl, Grew.rf _, rfl⟩
      · rintro _ rfl
        refine StepGoal.nil ?_
        simp only [Act.put, List.setIfInBounds_toArray, List.set_cons_zero, List.set_cons_succ]
        go_wp2
        exact ⟨rfl, rfl, Grew.rf _, rfl⟩
      · rintro _ rfl _ rfl
        refine StepGoal.nil ?_
        simp only [Act.put, List.setIfInBounds_toArray, List.set_cons_zero, List.set_cons_succ]
        go_wp2
        exact ⟨rfl, rfl, Grew.rf _, rfl⟩
      · rintro _ rfl _ rfl
        refine StepGoal.nil ?_
        simp only [Act.put, List.setIfInBounds_toArray, List.set_cons_zero, List.set_cons_succ]
        go_wp2
        exact ⟨rfl, rfl, Grew.rf _, rfl⟩
      · rintro _ rfl _ rfl
        have hce := hu.ce hcell
        refine StepGoal.nil ?_
        simp only [Act.put, List.setIfInBounds_toArray, List.set_cons_zero, List.set_cons_succ]
        go_wp2
        exact ⟨rfl, rfl, Grew.rf _, rfl⟩
      · rintro _ rfl _ rfl
        refine StepGoal.nil ?_
        simp only [Act.put, List.setIfInBounds_toArray, List.set_cons_zero, List.set_cons_succ]
        go_wp2
        exact ⟨rfl, rfl, Grew.rf _, rfl⟩
      · rintro _ rfl _ rfl _ rfl
        refine StepGoal.nil ?_
        simp only [Act.put, List.setIfInBounds_toArray, List.set_cons_zero, List.set_cons_succ]
        go_wp2
        exact ⟨rfl, rfl, Grew.rf _, rfl⟩
      · rintro _ rfl _ rfl
        refine StepGoal.nil ?_
        simp only [Act.put, List.setIfInBounds_toArray, List.set_cons_zero, List.set_cons_succ]
        go_wp2
        exact ⟨rfl, rfl, Grew.rf _, rfl⟩
      · rintro _ rfl
        refine StepGoal.nil ?_
        simp only [Act.put, List.setIfInBounds_toArray, List.set_cons_zero, List.set_cons_succ]
        go_wp2
        exact ⟨rfl, rfl, Grew.rf _, rfl⟩
    · intro u hu
      rintro _ rfl _ rfl _ rfl _ rfl _ rfl _ rfl _ rfl _ rfl _ rfl _ rfl _ rfl _ rfl _ rfl _ rfl _ rfl _ rfl _ rfl _ rfl _ rfl _ rfl _ rfl _ rfl _ rfl _ rfl _ rfl _ rfl _ rfl
      refine StepGoal.nil ?_
      simp only [Act.put, List.setIfInBounds_toArray, List.set_cons_zero, List.set_cons_succ]
      go_wp2
      go_ret
      exact ⟨rfl, HG5.out.tr hu⟩
  · obtain rfl : n0 = k0 := by omega
    clear hk0 hbig
    go_enter Try.func9, Try.ntmps9
    go_wp2_with (go_at_call 21; refine Calls.mono (tnew_any _) ?_; rintro e w1 ⟨p, mb, rfl, hT1, hg1, hp1, hm1⟩)
    have hG1 : Grew w w1 := hg1
    obtain ⟨wz, hwz⟩ : ∃ wz, w1.alloc (.cells #[.slice none 0 0] 50) = wz := ⟨_, rfl⟩
    have hgz : Grew w1 wz := by rw [← hwz]; exact (Grew.rf w1).al _
    have hRz : RefI wz w1.heap.size (.slice none 0 0) [] := by rw [← hwz]; exact ⟨heap_alloc_new w1 _, OwnV.nil _ _ _ _, by simp, by simp⟩
    rw [hwz]
    obtain ⟨q, hq⟩ : ∃ q, w1.heap.size = q := ⟨_, rfl⟩
    have hqw : w.heap.size ≤ q := by rw [← hq]; exact hG1.size
    rw [hq] at hRz ⊢
    have hTz := hT1.keep hgz
    have hGz := hG1.tr hgz
    clear hwz hq hT1 hgz hG1 hg1
    refine Calls.mono (HF1.out _ hGz) ?_
    rintro e w2 ⟨v2, rfl, ho2, hg2⟩
    have ho2' := ho2.lower hGz.size
    have hG2 := hGz.tr hg2
    have hT2 := hTz.keep hg2
    have hR2 := hRz.keep hg2
    have htk := HDT.out _ hG2 p mb hT2 hp1 hm1 v2 ho2'
    have HTK := Lib.hid htk
    have HG2 := Lib.hid hG2
    have HR2 := Lib.hid hR2
    have HT2 := Lib.hid hT2
    clear htk hG2 hR2 hT2 ho2 ho2' hg2 hGz hTz hRz
    go_wp2_with fail
    refine Calls.mono HTK.out ?_
    rintro e w3 ⟨v3, rfl, ⟨⟨l3, hT3, hF3⟩, hC3⟩, hL3⟩
    have hG3 : Grew w w3 := grew_chg HG2.out hC3 (fun k hk => by have := ftpN hk; omega)
    have hR3 : RefI w3 q (.slice none 0 0) [] := HR2.out.chg hC3 (fun k hk h => tab_ref_apart2 HT2.out HR2.out k h hk)
    have HT3 := Lib.hid hT3
    have HG3 := Lib.hid hG3
    have HR3 := Lib.hid hR3
    have HL3 := Lib.hid hL3
    clear hT3 hF3 hC3 hL3 hG3 hR3 HTK HT2 HR2
    go_wp2_with fail
    refine Calls.mono (HF1.out _ HG3.out) ?_
    rintro e w4 ⟨v4, rfl, ho4, hg4⟩
    have ho4' := ho4.lower HG3.out.size
    have htk := HRT.out _ (HG3.out.tr hg4) q (HR3.out.keep hg4) hqw v4 ho4'
    have HTK := Lib.hid htk
    have HG4 := Lib.hid hg4
    clear htk ho4 ho4' hg4
    go_wp2_with fail
    refine Calls.mono HTK.out ?_
    rintro e w5 ⟨v5, rfl, ⟨⟨l5, hR5, hF5⟩, hC5⟩, hL5⟩
    have hT5 : TabI w5 p l3 mb ts := (HT3.out.keep HG4.out).chg hC5 (tab_ref_apart2 (HT3.out.keep HG4.out) (HR3.out.keep HG4.out))
    have hG5 : Grew w w5 := grew_chg (HG3.out.tr HG4.out) hC5 (fun k hk => by have := ftrN hk; omega)
    obtain ⟨B3, n3, d3, rfl, r3, e3, m3, b3⟩ := HL3.out.rd
    obtain ⟨B5, n5, d5, rfl, r5, e5, m5, b5⟩ := hL5.rd
    have hr3 : RdH w5 B3 n3 l := (r3.keep HG4.out).chg hC5 (fun _ ad e h => by
      have := ftrN h
      obtain ⟨cs, fr, hb⟩ := (b3 ad e).2
      have hc := (HR3.out).cells
      rw [← this, hb] at hc
      simp only [Option.some.injEq, Obj.cells.injEq] at hc
      exact absurd hc.2.1 (by decide))
    have hsm := fun (u : World) (hg : Grew w5 u) => same_any B3 n3 d3 l B5 n5 d5 l u (hr3.keep hg) (r5.keep hg) (by omega) (by omega)
    rw [show decide (l = l) = true by simp] at hsm
    obtain ⟨AL, cL, hl5, hnL, hcL, hrL⟩ := hR5.list.rd
    have hcell : w5.cell? ⟨q, 0, none⟩ = some (.slice AL ts.length cL) := by
      have h := hR5.cells
      rw [hl5] at h
      exact cell_of_heap (i := 0) h rfl
    have htl := fun (u : World) (h : Grew w5 u) => tlen_any p l3 mb ts u (hT5.keep h)
    have HSM := Lib.hid hsm
    have HTL := Lib.hid htl
    have HG5 := Lib.hid hG5
    clear hsm htl hG5 hT5 hR5 hF5 hC5 hL5 r3 e3 m3 b3 r5 e5 m5 b5 hr3 hl5 hnL hcL hrL HTK HL3 HG4 HR3 HT3 HG3 HG2
    dsimp only
    go_wp2_with fail
    refine region_grew [[], [(0, 45)], [(1, 46)], [(1, 46)], [(1, 46), (2, 47), (3, 48)], [(1, 46), (4, 49)], [(5, 50)], [(6, 51)], [(6, 51)], [(6, 51), (7, 52), (8, 53)], [(6, 51), (9, 54)], [(10, 55)], [(11, 56)], [(11, 56)], [(11, 56), (12, 57), (13, 58)], [(11, 56), (14, 59)], [(15, 60)], [(16, 61)], [(16, 61), (17, 62)], [(16, 61)], [(16, 61), (19, 64)], [(16, 61), (20, 65)], [(16, 61), (21, 66)], [(16, 61), (22, 67)], [(16, 61), (18, 63), (23, 68)], [(16, 61), (24, 69)], [(25, 70)]] [(0, 45), (1, 46), (2, 47), (3, 48), (4, 49), (5, 50), (6, 51), (7, 52), (8, 53), (9, 54), (10, 55), (11, 56), (12, 57), (13, 58), (14, 59), (15, 60), (16, 61), (17, 62), (18, 63), (19, 64), (20, 65), (21, 66), (22, 67), (23, 68), (24, 69), (25, 70), (26, 6)] (fun
      | 0 => .eqv (.bool true) | 1 => .eqv (.bool true) | 2 => .eqv (.slice B3 n3 d3) | 3 => .eqv (.slice B5 n5 d5) | 4 => .eqv (.bool true) | 5 => .eqv (.bool true) | 6 => .eqv (.bool true) | 7 => .eqv (.int .i64 nx) | 8 => .eqv (.int .i64 nx) | 9 => .eqv (.bool true) | 10 => .eqv (.bool true) | 11 => .eqv (.bool true) | 12 => .eqv (.int .i64 er) | 13 => .eqv (.int .i64 er) | 14 => .eqv (.bool true) | 15 => .eqv (.bool true) | 16 => .eqv (.bool true) | 17 => .eqv (.pointer (some ⟨p, 0, none⟩)) | 18 => .eqv (.int .i64 (ts.length : Int)) | 19 => .eqv (.pointer (some ⟨q, 0, none⟩)) | 20 => .eqv (.pointer (some ⟨q, 0, none⟩)) | 21 => .eqv (.pointer (some ⟨q, 0, none⟩)) | 22 => .eqv (.slice AL ts.length cL) | 23 => .eqv (.int .i64 (ts.length : Int)) | 24 => .eqv (.bool true) | 25 => .eqv (.bool true) | 26 => .eqv (.bool true) | _ => .any) (by kernel_rfl) ?_ ?_
    · refine ⟨fun u hu => ?_, fun u hu => ?_, fun u hu => ?_, fun u hu => ?_, fun u hu => ?_, fun u hu => ?_, fun u hu => ?_, fun u hu => ?_, fun u hu => ?_, fun u hu => ?_, fun u hu => ?_, fun u hu => ?_, fun u hu => ?_, fun u hu => ?_, fun u hu => ?_, fun u hu => ?_, fun u hu => ?_, fun u hu => ?_, fun u hu => ?_, fun u hu => ?_, fun u hu => ?_, fun u hu => ?_, fun u hu => ?_, fun u hu => ?_, fun u hu => ?_, fun u hu => ?_, fun u hu => ?_, trivial⟩
      · refine StepGoal.nil ?_
        go_wp2_with (go_at_call 29; refine Calls.mono (awake20_any _) ?_; rintro e w' ⟨rfl, hg⟩)
        exact ⟨rfl, rfl, hg, rfl⟩
      · rintro _ rfl
        refine StepGoal.nil ?_
        simp only [Act.put, List.setIfInBounds_toArray, List.set_cons_zero, List.set_cons_succ]
        go_wp2
        exact ⟨rfl, rfl, Grew.rf _, rfl⟩
      · rintro _ rfl
        refine StepGoal.nil ?_
        simp only [Act.put, List.setIfInBounds_toArray, List.set_cons_zero, List.set_cons_succ]
        go_wp2
        exact ⟨rfl, rfl, Grew.rf _, rfl⟩
      · rintro _ rfl
        refine StepGoal.nil ?_
        simp only [Act.put, List.setIfInBounds_toArray, List.set_cons_zero, List.set_cons_succ]
        go_wp2
        exact ⟨rfl, rfl, Grew.rf _, rfl⟩
      · rintro _ rfl _ rfl _ rfl
        refine StepGoal.nil ?_
        simp only [Act.put, List.setIfInBounds_toArray, List.set_cons_zero, List.set_cons_succ]
        go_wp2_with (go_at_call 35; refine Calls.mono (HSM.out _ hu) ?_; rintro e w' ⟨rfl, hg⟩)
        exact ⟨rfl, rfl, hg, rfl⟩
      · rintro _ rfl _ rfl
        refine StepGoal.nil ?_
        simp only [Act.put, List.setIfInBounds_toArray, List.set_cons_zero, List.set_cons_succ]
        go_wp2
        exact ⟨rfl, rfl, Grew.rf _, rfl⟩
      · rintro _ rfl
        refine StepGoal.nil ?_
        simp only [Act.put, List.setIfInBounds_toArray, List.set_cons_zero, List.set_cons_succ]
        go_wp2
        exact ⟨rfl, rfl, Grew.rf _, rfl⟩
      · rintro _ rfl
        refine StepGoal.nil ?_
        simp only [Act.put, List.setIfInBounds_toArray, List.set_cons_zero, List.set_cons_succ]
        go_wp2
        exact ⟨rfl, rfl, Grew.rf _, rfl⟩
      · rintro _ rfl
        refine StepGoal.nil ?_
        simp only [Act.put, List.setIfInBounds_toArray, List.set_cons_zero, List.set_cons_succ]
        go_wp2
        exact ⟨rfl, rfl, Grew.rf _, rfl⟩
      · rintro _ rfl _ rfl _ rfl
        refine StepGoal.nil ?_
        simp only [Act.put, List.setIfInBounds_toArray, List.set_cons_zero, List.set_cons_succ]
        go_wp2
        exact ⟨rfl, rfl, Grew.rf _, rfl⟩
      · rintro _ rfl _ rfl
        refine StepGoal.nil ?_
        simp only [Act.put, List.setIfInBounds_toArray, List.set_cons_zero, List.set_cons_succ]
        go_wp2
        exact ⟨rfl, rfl, Grew.rf _, rfl⟩
      · rintro _ rfl
        refine StepGoal.nil ?_
        simp only [Act.put, List.setIfInBounds_toArray, List.set_cons_zero, List.set_cons_succ]
        go_wp2
        exact ⟨rfl, rfl, Grew.rf _, rfl⟩
      · rintro _ rfl
        refine StepGoal.nil ?_
        simp only [Act.put, List.setIfInBounds_toArray, List.set_cons_zero, List.set_cons_succ]
        go_wp2
        exact ⟨rfl, rfl, Grew.rf _, rfl⟩
      · rintro _ rfl
        refine StepGoal.nil ?_
        simp only [Act.put, List.setIfInBounds_toArray, List.set_cons_zero, List.set_cons_succ]
        go_wp2
        exact ⟨rfl, rfl, Grew.rf _, rfl⟩
      · rintro _ rfl _ rfl _ rfl
        refine StepGoal.nil ?_
        simp only [Act.put, List.setIfInBounds_toArray, List.set_cons_zero, List.set_cons_succ]
        go_wp2
        exact ⟨rfl, rfl, Grew.rf _, rfl⟩
      · rintro _ rfl _ rfl
        refine StepGoal.nil ?_
        simp only [Act.put, List.setIfInBounds_toArray, List.set_cons_zero, List.set_cons_succ]
        go_wp2
        exact ⟨rfl, rfl, Grew.rf _, rfl⟩
      · rintro _ rfl
        refine StepGoal.nil ?_
        simp only [Act.put, List.setIfInBounds_toArray, List.set_cons_zero, List.set_cons_succ]
        go_wp2
        exact ⟨rfl, rfl, Grew.rf _, rfl⟩
      · rintro _ rfl
        refine StepGoal.nil ?_
        simp only [Act.put, List.setIfInBounds_toArray, List.set_cons_zero, List.set_cons_succ]
        go_wp2
        exact ⟨rfl, rfl, Grew.rf _, rfl⟩
      · rintro _ rfl _ rfl
        refine StepGoal.nil ?_
        simp only [Act.put, List.setIfInBounds_toArray, List.set_cons_zero, List.set_cons_succ]
        go_wp2_with (go_at_call 25; refine Calls.mono (HTL.out _ hu) ?_; rintro e w' ⟨rfl, rfl⟩)
        exact ⟨rfl, rfl, Grew.rf _, rfl⟩
      · rintro _ rfl
        refine StepGoal.nil ?_
        simp only [Act.put, List.setIfInBounds_toArray, List.set_cons_zero, List.set_cons_succ]
        go_wp2
        exact ⟨rfl, rfl, Grew.rf _, rfl⟩
      · rintro _ rfl _ rfl
        refine StepGoal.nil ?_
        simp only [Act.put, List.setIfInBounds_toArray, List.set_cons_zero, List.set_cons_succ]
        go_wp2
        exact ⟨rfl, rfl, Grew.rf _, rfl⟩
      · rintro _ rfl _ rfl
        refine StepGoal.nil ?_
        simp only [Act.put, List.setIfInBounds_toArray, List.set_cons_zero, List.set_cons_succ]
        go_wp2
        exact ⟨rfl, rfl, Grew.rf _, rfl⟩
      · rintro _ rfl _ rfl
        have hce := hu.ce hcell
        refine StepGoal.nil ?_
        simp only [Act.put, List.setIfInBounds_toArray, List.set_cons_zero, List.set_cons_succ]
        go_wp2
        exact ⟨rfl, rfl, Grew.rf _, rfl⟩
      · rintro _ rfl _ rfl
        refine StepGoal.nil ?_
        simp only [Act.put, List.setIfInBounds_toArray, List.set_cons_zero, List.set_cons_succ]
        go_wp2
        exact ⟨rfl, rfl, Grew.rf _, rfl⟩
      · rintro _ rfl _ rfl _ rfl
        refine StepGoal.nil ?_
        simp only [Act.put, List.setIfInBounds_toArray, List.set_cons_zero, List.set_cons_succ]
        go_wp2
        exact ⟨rfl, rfl, Grew.rf _, rfl⟩
      · rintro _ rfl _ rfl
        refine StepGoal.nil ?_
        simp only [Act.put, List.setIfInBounds_toArray, List.set_cons_zero, List.set_cons_succ]
        go_wp2
        exact ⟨rfl, rfl, Grew.rf _, rfl⟩
      · rintro _ rfl
        refine StepGoal.nil ?_
        simp only [Act.put, List.setIfInBounds_toArray, List.set_cons_zero, List.set_cons_succ]
        go_wp2
        exact ⟨rfl, rfl, Grew.rf _, rfl⟩
    · intro u hu
      rintro _ rfl _ rfl _ rfl _ rfl _ rfl _ rfl _ rfl _ rfl _ rfl _ rfl _ rfl _ rfl _ rfl _ rfl _ rfl _ rfl _ rfl _ rfl _ rfl _ rfl _ rfl _ rfl _ rfl _ rfl _ rfl _ rfl _ rfl
      refine StepGoal.nil ?_
      simp only [Act.put, List.setIfInBounds_toArray, List.set_cons_zero, List.set_cons_succ]
      go_wp2
      go_ret
      exact ⟨rfl, HG5.out.tr hu⟩
end Go.Proofs.Ytbkcpgaicoagfaa
