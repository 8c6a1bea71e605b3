/- Delta's laws: the walk of DeltaPuts. -/
import Derived.Test.YtbkcpgaicoagfaaDel11
set_option linter.unusedVariables false
set_option linter.unusedSimpArgs false
namespace Go.Proofs.Ytbkcpgaicoagfaa
open Go.RowKit

/-- A new table changes; nothing else of what lay there. -/
def GN (w : World) (u u' : World) : Prop := ∃ p mb, TabI u p (.slice none 0 0) mb [] ∧ w.heap.size ≤ p ∧ w.heap.size ≤ mb ∧ Chg (ftp p (.slice none 0 0) mb) u u'
def GRN (w : World) (u u' : World) : Prop := ∃ q, RefI u q (.slice none 0 0) [] ∧ w.heap.size ≤ q ∧ Chg (ftr q (.slice none 0 0)) u u'
theorem tab_ref_apart {u : World} {p mb q : Nat} {ts us : List ByteArray} (hT : TabI u p (.slice none 0 0) mb ts) (hR : RefI u q (.slice none 0 0) us) : ∀ k, ftp p (.slice none 0 0) mb k → ¬ ftr q (.slice none 0 0) k := by
  rintro k hk (rfl | h)
  · rcases hk with rfl | rfl | h
    · have := hT.cells
      rw [hR.cells] at this
      simp only [Option.some.injEq, Obj.cells.injEq] at this
      exact absurd this.2.1 (by decide)
    · obtain ⟨es, c, hm⟩ := hT.map.isMap
      rw [hR.cells] at hm; cases hm
    · cases h
  · cases h
theorem ftpN {p mb k : Nat} (h : ftp p (.slice none 0 0) mb k) : k = p ∨ k = mb := by
  rcases h with h | h | h
  · exact .inl h
  · exact .inr h
  · cases h
theorem ftrN {q k : Nat} (h : ftr q (.slice none 0 0) k) : k = q := by
  rcases h with h | h
  · exact h
  · cases h
def pxNew (w : World) : Px (GN w) (GRN w) where
  p := fun v u => ∃ p mb, v = .pointer (some ⟨p, 0, none⟩) ∧ TabI u p (.slice none 0 0) mb [] ∧ w.heap.size ≤ p ∧ w.heap.size ≤ mb
  s1 := false
  s2 := true
  m0 := fun v u u' ⟨p, mb, h1, h2, h3⟩ hg => ⟨p, mb, h1, h2.keep hg, h3⟩
  m1 := fun h => by cases h
  m2 := fun _ v u u' ⟨p, mb, h1, h2, h3⟩ ⟨q, h4, h5, h6⟩ => ⟨p, mb, h1, h2.chg h6 (tab_ref_apart h2 h4), h3⟩
def pxBox (w : World) : Px (GN w) (GRN w) where
  p := fun v u => ∃ q, v = .pointer (some ⟨q, 0, none⟩) ∧ RefI u q (.slice none 0 0) [] ∧ w.heap.size ≤ q
  s1 := true
  s2 := false
  m0 := fun v u u' ⟨q, h1, h2, h3⟩ hg => ⟨q, h1, h2.keep hg, h3⟩
  m1 := fun _ v u u' ⟨q, h1, h2, h3⟩ ⟨p, mb, h4, _, _, h6⟩ => ⟨q, h1, h2.chg h6 (fun k hk h => tab_ref_apart h4 h2 k h hk), h3⟩
  m2 := fun h => by cases h
def pxH (w : World) (l : List Hdr) : Px (GN w) (GRN w) where
  p := fun v u => OwnH u w.heap.size v l
  s1 := true
  s2 := true
  m0 := fun v u u' h hg => h.keep hg
  m1 := fun _ v u u' h ⟨p, mb, h4, _, _, h6⟩ => h.chg h6 (fun k hk => h.tabH h4 hk)
  m2 := fun _ v u u' h ⟨q, h4, _, h6⟩ => h.chg h6 (fun k hk => h.refH h4 hk)
def pxB (w : World) (out : List Int) : Px (GN w) (GRN w) where
  p := fun v u => ∃ B m d, v = .slice B m d ∧ Rd u B m out ∧ m ≤ d ∧ U8 u B
  s1 := true
  s2 := true
  m0 := fun v u u' ⟨B, m, d, h1, h2, h3, h4⟩ hg => ⟨B, m, d, h1, h2.keep hg, h3, h4.keep hg⟩
  m1 := fun _ v u u' ⟨B, m, d, h1, h2, h3, h4⟩ ⟨p, mb, h5, _, _, h6⟩ => ⟨B, m, d, h1, h2.chgT h6 (h4.tab h5), h3, h4.chg h6 (h4.tab h5)⟩
  m2 := fun _ v u u' ⟨B, m, d, h1, h2, h3, h4⟩ ⟨q, h5, _, h6⟩ => ⟨B, m, d, h1, h2.chgT h6 (h4.ref h5), h3, h4.chg h6 (h4.ref h5)⟩
theorem twoN (w : World) : TwoK true true (GN w) (GRN w) (fun _ => True) (fun _ => True) (Grew w) :=
  ⟨fun _ _ h hg => h.tr hg, fun _ _ h ⟨p, mb, _, h1, h2, h3⟩ => grew_chg h h3 (fun k hk => (ftpN hk).elim (fun e => by omega) (fun e => by omega)),
    fun _ _ h ⟨q, _, h1, h3⟩ => grew_chg h h3 (fun k hk => by have := ftrN hk; omega), fun _ _ _ _ => trivial, fun _ _ _ _ _ => trivial, fun _ _ _ _ => trivial, fun _ _ _ _ _ => trivial⟩

set_option maxRecDepth 100000 in
set_option maxHeartbeats 6400000 in
theorem deltaPuts_walk (A0 : Option Addr) (n0 c0 : Nat) (bs0 : List Int) (A1 : Option Addr) (n1 c1 : Nat) (was : List Hdr) (A2 : Option Addr) (n2 c2 : Nat) (list : List Hdr) (w : World)
    (hr0 : Rd w A0 n0 bs0) (hnc0 : n0 ≤ c0) (hc0 : c0 ≤ 9223372036854775807) (hr1 : RdH w A1 n1 was) (hs1 : ∀ t ∈ was, t.1.size ≤ 9223372036854775807 ∧ t.2.size ≤ 9223372036854775807) (hn1 : n1 ≤ 9223372036854775807) (hr2 : RdH w A2 n2 list) (hs2 : ∀ t ∈ list, t.1.size ≤ 9223372036854775807 ∧ t.2.size ≤ 9223372036854775807) (hn2 : n2 ≤ 9223372036854775807) :
    Calls Try.prog 8 #[.slice A0 n0 c0, .slice A1 n1 c1, .slice A2 n2 c2] w fun e w' => e = .returned (.bool true) ∧ Grew w w' := by
  obtain ⟨fw, hfw⟩ : ∃ fw, fewH was = fw := ⟨_, rfl⟩
  obtain ⟨fl, hfl⟩ : ∃ fl, fewH list = fl := ⟨_, rfl⟩
  have hf1 := fun (u : World) (hg : Grew w u) => few20_any A1 n1 c1 was u (hr1.keep hg) hs1 hn1
  have hf2 := fun (u : World) (hg : Grew w u) => few20_any A2 n2 c2 list u (hr2.keep hg) hs2 hn2
  rw [hfw] at hf1
  rw [hfl] at hf2
  have hlw : fw.length ≤ 24 := by rw [← hfw, fewH_len]; omega
  have hll : fl.length ≤ 24 := by rw [← hfl, fewH_len]; omega
  have hzl : ∀ h ∈ fl, h.1.size ≤ 10000 ∧ h.2.size ≤ 10000 := fun h hh => by rw [← hfl] at hh; have := fewH_size list h hh; omega
  have HF1 := Lib.hid hf1
  have HF2 := Lib.hid hf2
  have HLW := Lib.hid hlw
  have HLL := Lib.hid hll
  have HZL := Lib.hid hzl
  have hA0 : 0 < n0 → ∀ ad, A0 = some ad → ad.block < w.heap.size := fun hn ad e => by
    obtain ⟨b, o, e2, hc⟩ := hr0.cells hn
    rw [e2] at e
    cases e
    exact lt_of_cell (hc 0 hn)
  clear hf1 hf2 hlw hll hzl hfw hfl hr1 hs1 hr2 hs2 hn1 hn2
  obtain ⟨k0, hk0⟩ : ∃ k0, min n0 100 = k0 := ⟨_, rfl⟩
  obtain ⟨x, hx⟩ : ∃ x, bs0.take k0 = x := ⟨_, rfl⟩
  have hrx : Rd w A0 k0 x := by rw [← hx]; exact hr0.take (by omega)
  have hax : 0 < k0 → ∀ ad, A0 = some ad → ad.block < w.heap.size := fun h => hA0 (by omega)
  have hkc : k0 ≤ 100 := by omega
  have hkc0 : k0 ≤ c0 := by omega
  obtain ⟨out, hout⟩ : ∃ out, x ++ (putD [] fw fl).1 = out := ⟨_, rfl⟩
  have HRX := Lib.hid hrx
  have HAX := Lib.hid hax
  have HOUT := Lib.hid hout
  have hput := fun (u : World) (hg : Grew w u) (p mb : Nat) (hT : TabI u p (.slice none 0 0) mb []) (hp : w.heap.size ≤ p) (hm : w.heap.size ≤ mb) (v1 v2 : Value) (h1 : OwnH u w.heap.size v1 fw) (h2 : OwnH u w.heap.size v2 fl) =>
    show Calls Try.prog 30 #[.slice A0 k0 c0, .pointer (some ⟨p, 0, none⟩), v1, v2] u fun e w' => ∃ B m d, e = .returned (.slice B m d) ∧ GN w u w' ∧ Rd w' B m out ∧ m ≤ d ∧ U8 w' B from by
      obtain ⟨B1, d1, rfl, _, _, r1⟩ := h1.rd
      obtain ⟨B2, d2, rfl, e2, m2, r2⟩ := h2.rd
      have hlw := HLW.out
      have hll := HLL.out
      refine Calls.mono (dput_any p (.slice none 0 0) mb [] A0 k0 c0 x B1 fw.length d1 fw B2 fl.length d2 fl u hT (HRX.out.keep hg) r1 r2 (fun h0 ad e h => by have h1 := HAX.out h0 ad e; have h2 := ftpN h; omega) (fun _ ad e => h2.tabH hT (by rw [e]; rfl)) (by omega) (by omega) e2 m2 (by omega) HZL.out (by simp; omega)) ?_
      rintro e w' ⟨B, m, d, rfl, Q⟩
      have hrd := Q.rd
      rw [HOUT.out] at hrd
      exact ⟨B, m, d, rfl, ⟨p, mb, hT, hp, hm, Q.chg⟩, hrd, Q.le, Q.u8⟩
  have hrput := fun (u : World) (hg : Grew w u) (q : Nat) (hT : RefI u q (.slice none 0 0) []) (hp : w.heap.size ≤ q) (v1 v2 : Value) (h1 : OwnH u w.heap.size v1 fw) (h2 : OwnH u w.heap.size v2 fl) =>
    show Calls Try.prog 32 #[.slice A0 k0 c0, .pointer (some ⟨q, 0, none⟩), v1, v2] u fun e w' => ∃ B m d, e = .returned (.slice B m d) ∧ GRN w u w' ∧ Rd w' B m out ∧ m ≤ d ∧ U8 w' B from by
      obtain ⟨B1, d1, rfl, _, _, r1⟩ := h1.rd
      obtain ⟨B2, d2, rfl, e2, m2, r2⟩ := h2.rd
      have hlw := HLW.out
      have hll := HLL.out
      refine Calls.mono (rdput_any q (.slice none 0 0) [] A0 k0 c0 x B1 fw.length d1 fw B2 fl.length d2 fl u hT (HRX.out.keep hg) r1 r2 (fun _ ad e => h2.refH hT (by rw [e]; rfl)) (by omega) (by omega) (by omega) HZL.out (by simp; omega)) ?_
      rintro e w' ⟨B, m, d, rfl, Q⟩
      have hrd := Q.rd
      rw [HOUT.out] at hrd
      exact ⟨B, m, d, rfl, ⟨q, hT, hp, Q.chg⟩, hrd, Q.le, Q.u8⟩
  have HPUT := Lib.hid hput
  have HRPUT := Lib.hid hrput
  have hS := twoN w
  clear hput hrput hout hx hrx hax hr0 hA0
  by_cases hbig : 100 < n0
  · obtain rfl : 100 = k0 := by omega
    have hcut := cut_hi (kh := .i64) A0 n0 c0 100 (by omega)
    clear hk0
    go_enter Try.func8, Try.ntmps8
    go_wp2_with fail
    refine region_twok 8 17 hS (Grew.rf w) trivial trivial [(8, 3), (17, 12)] [[], [(0, 14)], [(1, 15)], [(1, 15)], [(1, 15)], [(1, 15), (4, 18)], [(1, 15)], [(1, 15), (6, 20)], [(1, 15), (2, 16), (3, 17), (5, 19), (7, 21)], [(1, 15), (8, 22)], [(1, 15)], [(1, 15)], [(1, 15), (11, 25)], [(1, 15)], [(1, 15), (13, 27)], [(1, 15)], [(1, 15), (15, 29)], [(1, 15), (10, 24), (12, 26), (14, 28), (16, 30)], [(1, 15), (17, 31)], [(1, 15), (9, 23), (18, 32)], [(1, 15), (19, 33)], [(20, 34)]] [(0, 14), (1, 15), (2, 16), (3, 17), (4, 18), (5, 19), (6, 20), (7, 21), (8, 22), (9, 23), (10, 24), (11, 25), (12, 26), (13, 27), (14, 28), (15, 29), (16, 30), (17, 31), (18, 32), (19, 33), (20, 34), (21, 6)] (fun
      | 0 => .eqv (.bool true) | 1 => .eqv (.bool true) | 2 => .eqv (.slice A0 100 c0) | 3 => pxNew w | 4 => .eqv (.slice A1 n1 c1) | 5 => pxH w fw | 6 => .eqv (.slice A2 n2 c2) | 7 => pxH w fl | 8 => pxB w out | 9 => .eqv (.string (strOfNums out)) | 10 => .eqv (.slice A0 100 c0) | 11 => .eqv (.agg #[.slice none 0 0]) | 12 => pxBox w | 13 => .eqv (.slice A1 n1 c1) | 14 => pxH w fw | 15 => .eqv (.slice A2 n2 c2) | 16 => pxH w fl | 17 => pxB w out | 18 => .eqv (.string (strOfNums out)) | 19 => .eqv (.bool true) | 20 => .eqv (.bool true) | 21 => .eqv (.bool true) | _ => .any) rfl (by kernel_rfl) (by kernel_rfl) ?_ ?_
    · refine ⟨fun u hu hx => ?_, fun u hu hx => ?_, fun u hu hx => ?_, fun u hu hx => ?_, fun u hu hx => ?_, fun u hu hx => ?_, fun u hu hx => ?_, fun u hu hx => ?_, fun u hu hx => ?_, fun u hu hx => ?_, fun u hu hx => ?_, fun u hu hx => ?_, fun u hu hx => ?_, fun u hu hx => ?_, fun u hu hx => ?_, fun u hu hx => ?_, fun u hu hx => ?_, fun u hu hx => ?_, fun u hu hx => ?_, fun u hu hx => ?_, fun u hu hx => ?_, fun u hu hx => ?_, trivial⟩
      · refine StepGoal.nil ?_
        go_wp2_with (go_at_call 29; refine Calls.mono (awake20_any _) ?_; rintro e w' ⟨rfl, hg⟩)
        exact ⟨rfl, rfl, hg, rfl⟩
      · rintro _ rfl
        refine StepGoal.nil ?_
        simp only [Act.put, List.setIfInBounds_toArray, List.set_cons_zero, List.set_cons_succ]
        go_wp2
        exact ⟨rfl, rfl, Grew.rf _, rfl⟩
      · rintro _ rfl
        refine StepGoal.nil ?_
        simp only [Act.put, List.setIfInBounds_toArray, List.set_cons_zero, List.set_cons_succ]
        go_wp2
        exact ⟨rfl, rfl, Grew.rf _, rfl⟩
      · rintro _ rfl
        refine StepGoal.nil ?_
        simp only [Act.put, List.setIfInBounds_toArray, List.set_cons_zero, List.set_cons_succ]
        go_wp2_with (go_at_call 21; refine Calls.mono (tnew_any _) ?_; rintro e w1 ⟨p, mb, rfl, hT1, hg1, hp1, hm1⟩)
        exact ⟨rfl, rfl, hg1, p, mb, rfl, hT1, Nat.le_trans hu.size hp1, Nat.le_trans hu.size hm1⟩
      · rintro _ rfl
        refine StepGoal.nil ?_
        simp only [Act.put, List.setIfInBounds_toArray, List.set_cons_zero, List.set_cons_succ]
        go_wp2
        exact ⟨rfl, rfl, Grew.rf _, rfl⟩
      · rintro _ rfl _ rfl
        refine StepGoal.nil ?_
        simp only [Act.put, List.setIfInBounds_toArray, List.set_cons_zero, List.set_cons_succ]
        go_wp2_with (go_at_call 31; refine Calls.mono (HF1.out _ hu) ?_; rintro e w1 ⟨v, rfl, ho, hg⟩)
        exact ⟨rfl, rfl, hg, ho.lower hu.size⟩
      · rintro _ rfl
        refine StepGoal.nil ?_
        simp only [Act.put, List.setIfInBounds_toArray, List.set_cons_zero, List.set_cons_succ]
        go_wp2
        exact ⟨rfl, rfl, Grew.rf _, rfl⟩
      · rintro _ rfl _ rfl
        refine StepGoal.nil ?_
        simp only [Act.put, List.setIfInBounds_toArray, List.set_cons_zero, List.set_cons_succ]
        go_wp2_with (go_at_call 31; refine Calls.mono (HF2.out _ hu) ?_; rintro e w1 ⟨v, rfl, ho, hg⟩)
        exact ⟨rfl, rfl, hg, ho.lower hu.size⟩
      · rintro _ rfl _ rfl v17 h17 v19 h19 v21 h21
        obtain ⟨p, mb, rfl, hT, hp, hm⟩ : (pxNew w).p v17 u := h17
        refine StepGoal.nil ?_
        simp only [Act.put, List.setIfInBounds_toArray, List.set_cons_zero, List.set_cons_succ]
        go_wp2_with (go_at_call 30; refine Calls.mono (HPUT.out _ hu p mb hT hp hm _ _ h19 h21) ?_; rintro e w' ⟨B, m, d, rfl, hG, hb⟩)
        exact ⟨rfl, rfl, hG, B, m, d, rfl, hb⟩
      · rintro _ rfl v22 h22
        obtain ⟨B, m, d, rfl, hr, _⟩ : (pxB w out).p v22 u := h22; have hs := RdK.str (c := d) hr
        refine StepGoal.nil ?_
        simp only [Act.put, List.setIfInBounds_toArray, List.set_cons_zero, List.set_cons_succ]
        go_wp2
        exact ⟨rfl, rfl, Grew.rf _, rfl⟩
      · rintro _ rfl
        refine StepGoal.nil ?_
        simp only [Act.put, List.setIfInBounds_toArray, List.set_cons_zero, List.set_cons_succ]
        go_wp2
        exact ⟨rfl, rfl, Grew.rf _, rfl⟩
      · rintro _ rfl
        refine StepGoal.nil ?_
        simp only [Act.put, List.setIfInBounds_toArray, List.set_cons_zero, List.set_cons_succ]
        go_wp2
        exact ⟨rfl, rfl, Grew.rf _, rfl⟩
      · rintro _ rfl _ rfl
        refine StepGoal.nil ?_
        simp only [Act.put, List.setIfInBounds_toArray, List.set_cons_zero, List.set_cons_succ]
        go_wp2
        exact ⟨rfl, rfl, (Grew.rf _).al _, _, rfl, ⟨heap_alloc_new u _, OwnV.nil _ _ _ _, by simp, by simp⟩, hu.size⟩
      · rintro _ rfl
        refine StepGoal.nil ?_
        simp only [Act.put, List.setIfInBounds_toArray, List.set_cons_zero, List.set_cons_succ]
        go_wp2
        exact ⟨rfl, rfl, Grew.rf _, rfl⟩
      · rintro _ rfl _ rfl
        refine StepGoal.nil ?_
        simp only [Act.put, List.setIfInBounds_toArray, List.set_cons_zero, List.set_cons_succ]
        go_wp2_with (go_at_call 31; refine Calls.mono (HF1.out _ hu) ?_; rintro e w1 ⟨v, rfl, ho, hg⟩)
        exact ⟨rfl, rfl, hg, ho.lower hu.size⟩
      · rintro _ rfl
        refine StepGoal.nil ?_
        simp only [Act.put, List.setIfInBounds_toArray, List.set_cons_zero, List.set_cons_succ]
        go_wp2
        exact ⟨rfl, rfl, Grew.rf _, rfl⟩
      · rintro _ rfl _ rfl
        refine StepGoal.nil ?_
        simp only [Act.put, List.setIfInBounds_toArray, List.set_cons_zero, List.set_cons_succ]
        go_wp2_with (go_at_call 31; refine Calls.mono (HF2.out _ hu) ?_; rintro e w1 ⟨v, rfl, ho, hg⟩)
        exact ⟨rfl, rfl, hg, ho.lower hu.size⟩
      · rintro _ rfl _ rfl v26 h26 v28 h28 v30 h30
        obtain ⟨q, rfl, hT, hp⟩ : (pxBox w).p v26 u := h26
        refine StepGoal.nil ?_
        simp only [Act.put, List.setIfInBounds_toArray, List.set_cons_zero, List.set_cons_succ]
        go_wp2_with (go_at_call 32; refine Calls.mono (HRPUT.out _ hu q hT hp _ _ h28 h30) ?_; rintro e w' ⟨B, m, d, rfl, hG, hb⟩)
        exact ⟨rfl, rfl, hG, B, m, d, rfl, hb⟩
      · rintro _ rfl v31 h31
        obtain ⟨B, m, d, rfl, hr, _⟩ : (pxB w out).p v31 u := h31; have hs := RdK.str (c := d) hr
        refine StepGoal.nil ?_
        simp only [Act.put, List.setIfInBounds_toArray, List.set_cons_zero, List.set_cons_succ]
        go_wp2
        exact ⟨rfl, rfl, Grew.rf _, rfl⟩
      · rintro _ rfl _ rfl _ rfl
        refine StepGoal.nil ?_
        simp only [Act.put, List.setIfInBounds_toArray, List.set_cons_zero, List.set_cons_succ]
        go_wp2
        exact ⟨rfl, rfl, Grew.rf _, rfl⟩
      · rintro _ rfl _ rfl
        refine StepGoal.nil ?_
        simp only [Act.put, List.setIfInBounds_toArray, List.set_cons_zero, List.set_cons_succ]
        go_wp2
        exact ⟨rfl, rfl, Grew.rf _, rfl⟩
      · rintro _ rfl
        refine StepGoal.nil ?_
        simp only [Act.put, List.setIfInBounds_toArray, List.set_cons_zero, List.set_cons_succ]
        go_wp2
        exact ⟨rfl, rfl, Grew.rf _, rfl⟩
    · intro u hu
      rintro _ rfl _ rfl _ rfl v17 _ _ rfl v19 h19 _ rfl v21 h21 v22 h22 _ rfl _ rfl _ rfl v26 _ _ rfl v28 h28 _ rfl v30 h30 v31 h31 _ rfl _ rfl _ rfl _ rfl
      refine StepGoal.nil ?_
      simp only [Act.put, List.setIfInBounds_toArray, List.set_cons_zero, List.set_cons_succ]
      go_wp2
      go_ret
      exact ⟨rfl, hu⟩
  · obtain rfl : n0 = k0 := by omega
    clear hk0 hbig
    go_enter Try.func8, Try.ntmps8
    go_wp2_with fail
    refine region_twok 8 17 hS (Grew.rf w) trivial trivial [(8, 3), (17, 12)] [[], [(0, 14)], [(1, 15)], [(1, 15)], [(1, 15)], [(1, 15), (4, 18)], [(1, 15)], [(1, 15), (6, 20)], [(1, 15), (2, 16), (3, 17), (5, 19), (7, 21)], [(1, 15), (8, 22)], [(1, 15)], [(1, 15)], [(1, 15), (11, 25)], [(1, 15)], [(1, 15), (13, 27)], [(1, 15)], [(1, 15), (15, 29)], [(1, 15), (10, 24), (12, 26), (14, 28), (16, 30)], [(1, 15), (17, 31)], [(1, 15), (9, 23), (18, 32)], [(1, 15), (19, 33)], [(20, 34)]] [(0, 14), (1, 15), (2, 16), (3, 17), (4, 18), (5, 19), (6, 20), (7, 21), (8, 22), (9, 23), (10, 24), (11, 25), (12, 26), (13, 27), (14, 28), (15, 29), (16, 30), (17, 31), (18, 32), (19, 33), (20, 34), (21, 6)] (fun
      | 0 => .eqv (.bool true) | 1 => .eqv (.bool true) | 2 => .eqv (.slice A0 n0 c0) | 3 => pxNew w | 4 => .eqv (.slice A1 n1 c1) | 5 => pxH w fw | 6 => .eqv (.slice A2 n2 c2) | 7 => pxH w fl | 8 => pxB w out | 9 => .eqv (.string (strOfNums out)) | 10 => .eqv (.slice A0 n0 c0) | 11 => .eqv (.agg #[.slice none 0 0]) | 12 => pxBox w | 13 => .eqv (.slice A1 n1 c1) | 14 => pxH w fw | 15 => .eqv (.slice A2 n2 c2) | 16 => pxH w fl | 17 => pxB w out | 18 => .eqv (.string (strOfNums out)) | 19 => .eqv (.bool true) | 20 => .eqv (.bool true) | 21 => .eqv (.bool true) | _ => .any) rfl (by kernel_rfl) (by kernel_rfl) ?_ ?_
    · refine ⟨fun u hu hx => ?_, fun u hu hx => ?_, fun u hu hx => ?_, fun u hu hx => ?_, fun u hu hx => ?_, fun u hu hx => ?_, fun u hu hx => ?_, fun u hu hx => ?_, fun u hu hx => ?_, fun u hu hx => ?_, fun u hu hx => ?_, fun u hu hx => ?_, fun u hu hx => ?_, fun u hu hx => ?_, fun u hu hx => ?_, fun u hu hx => ?_, fun u hu hx => ?_, fun u hu hx => ?_, fun u hu hx => ?_, fun u hu hx => ?_, fun u hu hx => ?_, fun u hu hx => ?_, trivial⟩
      · refine StepGoal.nil ?_
        go_wp2_with (go_at_call 29; refine Calls.mono (awake20_any _) ?_; rintro e w' ⟨rfl, hg⟩)
        exact ⟨rfl, rfl, hg, rfl⟩
      · rintro _ rfl
        refine StepGoal.nil ?_
        simp only [Act.put, List.setIfInBounds_toArray, List.set_cons_zero, List.set_cons_succ]
        go_wp2
        exact ⟨rfl, rfl, Grew.rf _, rfl⟩
      · rintro _ rfl
        refine StepGoal.nil ?_
        simp only [Act.put, List.setIfInBounds_toArray, List.set_cons_zero, List.set_cons_succ]
        go_wp2
        exact ⟨rfl, rfl, Grew.rf _, rfl⟩
      · rintro _ rfl
        refine StepGoal.nil ?_
        simp only [Act.put, List.setIfInBounds_toArray, List.set_cons_zero, List.set_cons_succ]
        go_wp2_with (go_at_call 21; refine Calls.mono (tnew_any _) ?_; rintro e w1 ⟨p, mb, rfl, hT1, hg1, hp1, hm1⟩)
        exact ⟨rfl, rfl, hg1, p, mb, rfl, hT1, Nat.le_trans hu.size hp1, Nat.le_trans hu.size hm1⟩
      · rintro _ rfl
        refine StepGoal.nil ?_
        simp only [Act.put, List.setIfInBounds_toArray, List.set_cons_zero, List.set_cons_succ]
        go_wp2
        exact ⟨rfl, rfl, Grew.rf _, rfl⟩
      · rintro _ rfl _ rfl
        refine StepGoal.nil ?_
        simp only [Act.put, List.setIfInBounds_toArray, List.set_cons_zero, List.set_cons_succ]
        go_wp2_with (go_at_call 31; refine Calls.mono (HF1.out _ hu) ?_; rintro e w1 ⟨v, rfl, ho, hg⟩)
        exact ⟨rfl, rfl, hg, ho.lower hu.size⟩
      · rintro _ rfl
        refine StepGoal.nil ?_
        simp only [Act.put, List.setIfInBounds_toArray, List.set_cons_zero, List.set_cons_succ]
        go_wp2
        exact ⟨rfl, rfl, Grew.rf _, rfl⟩
      · rintro _ rfl _ rfl
        refine StepGoal.nil ?_
        simp only [Act.put, List.setIfInBounds_toArray, List.set_cons_zero, List.set_cons_succ]
        go_wp2_with (go_at_call 31; refine Calls.mono (HF2.out _ hu) ?_; rintro e w1 ⟨v, rfl, ho, hg⟩)
        exact ⟨rfl, rfl, hg, ho.lower hu.size⟩
      · rintro _ rfl _ rfl v17 h17 v19 h19 v21 h21
        obtain ⟨p, mb, rfl, hT, hp, hm⟩ : (pxNew w).p v17 u := h17
        refine StepGoal.nil ?_
        simp only [Act.put, List.setIfInBounds_toArray, List.set_cons_zero, List.set_cons_succ]
        go_wp2_with (go_at_call 30; refine Calls.mono (HPUT.out _ hu p mb hT hp hm _ _ h19 h21) ?_; rintro e w' ⟨B, m, d, rfl, hG, hb⟩)
        exact ⟨rfl, rfl, hG, B, m, d, rfl, hb⟩
      · rintro _ rfl v22 h22
        obtain ⟨B, m, d, rfl, hr, _⟩ : (pxB w out).p v22 u := h22; have hs := RdK.str (c := d) hr
        refine StepGoal.nil ?_
        simp only [Act.put, List.setIfInBounds_toArray, List.set_cons_zero, List.set_cons_succ]
        go_wp2
        exact ⟨rfl, rfl, Grew.rf _, rfl⟩
      · rintro _ rfl
        refine StepGoal.nil ?_
        simp only [Act.put, List.setIfInBounds_toArray, List.set_cons_zero, List.set_cons_succ]
        go_wp2
        exact ⟨rfl, rfl, Grew.rf _, rfl⟩
      · rintro _ rfl
        refine StepGoal.nil ?_
        simp only [Act.put, List.setIfInBounds_toArray, List.set_cons_zero, List.set_cons_succ]
        go_wp2
        exact ⟨rfl, rfl, Grew.rf _, rfl⟩
      · rintro _ rfl _ rfl
        refine StepGoal.nil ?_
        simp only [Act.put, List.setIfInBounds_toArray, List.set_cons_zero, List.set_cons_succ]
        go_wp2
        exact ⟨rfl, rfl, (Grew.rf _).al _, _, rfl, ⟨heap_alloc_new u _, OwnV.nil _ _ _ _, by simp, by simp⟩, hu.size⟩
      · rintro _ rfl
        refine StepGoal.nil ?_
        simp only [Act.put, List.setIfInBounds_toArray, List.set_cons_zero, List.set_cons_succ]
        go_wp2
        exact ⟨rfl, rfl, Grew.rf _, rfl⟩
      · rintro _ rfl _ rfl
        refine StepGoal.nil ?_
        simp only [Act.put, List.setIfInBounds_toArray, List.set_cons_zero, List.set_cons_succ]
        go_wp2_with (go_at_call 31; refine Calls.mono (HF1.out _ hu) ?_; rintro e w1 ⟨v, rfl, ho, hg⟩)
        exact ⟨rfl, rfl, hg, ho.lower hu.size⟩
      · rintro _ rfl
        refine StepGoal.nil ?_
        simp only [Act.put, List.setIfInBounds_toArray, List.set_cons_zero, List.set_cons_succ]
        go_wp2
        exact ⟨rfl, rfl, Grew.rf _, rfl⟩
      · rintro _ rfl _ rfl
        refine StepGoal.nil ?_
        simp only [Act.put, List.setIfInBounds_toArray, List.set_cons_zero, List.set_cons_succ]
        go_wp2_with (go_at_call 31; refine Calls.mono (HF2.out _ hu) ?_; rintro e w1 ⟨v, rfl, ho, hg⟩)
        exact ⟨rfl, rfl, hg, ho.lower hu.size⟩
      · rintro _ rfl _ rfl v26 h26 v28 h28 v30 h30
        obtain ⟨q, rfl, hT, hp⟩ : (pxBox w).p v26 u := h26
        refine StepGoal.nil ?_
        simp only [Act.put, List.setIfInBounds_toArray, List.set_cons_zero, List.set_cons_succ]
        go_wp2_with (go_at_call 32; refine Calls.mono (HRPUT.out _ hu q hT hp _ _ h28 h30) ?_; rintro e w' ⟨B, m, d, rfl, hG, hb⟩)
        exact ⟨rfl, rfl, hG, B, m, d, rfl, hb⟩
      · rintro _ rfl v31 h31
        obtain ⟨B, m, d, rfl, hr, _⟩ : (pxB w out).p v31 u := h31; have hs := RdK.str (c := d) hr
        refine StepGoal.nil ?_
        simp only [Act.put, List.setIfInBounds_toArray, List.set_cons_zero, List.set_cons_succ]
        go_wp2
        exact ⟨rfl, rfl, Grew.rf _, rfl⟩
      · rintro _ rfl _ rfl _ rfl
        refine StepGoal.nil ?_
        simp only [Act.put, List.setIfInBounds_toArray, List.set_cons_zero, List.set_cons_succ]
        go_wp2
        exact ⟨rfl, rfl, Grew.rf _, rfl⟩
      · rintro _ rfl _ rfl
        refine StepGoal.nil ?_
        simp only [Act.put, List.setIfInBounds_toArray, List.set_cons_zero, List.set_cons_succ]
        go_wp2
        exact ⟨rfl, rfl, Grew.rf _, rfl⟩
      · rintro _ rfl
        refine StepGoal.nil ?_
        simp only [Act.put, List.setIfInBounds_toArray, List.set_cons_zero, List.set_cons_succ]
        go_wp2
        exact ⟨rfl, rfl, Grew.rf _, rfl⟩
    · intro u hu
      rintro _ rfl _ rfl _ rfl v17 _ _ rfl v19 h19 _ rfl v21 h21 v22 h22 _ rfl _ rfl _ rfl v26 _ _ rfl v28 h28 _ rfl v30 h30 v31 h31 _ rfl _ rfl _ rfl _ rfl
      refine StepGoal.nil ?_
      simp only [Act.put, List.setIfInBounds_toArray, List.set_cons_zero, List.set_cons_succ]
      go_wp2
      go_ret
      exact ⟨rfl, hu⟩
end Go.Proofs.Ytbkcpgaicoagfaa
