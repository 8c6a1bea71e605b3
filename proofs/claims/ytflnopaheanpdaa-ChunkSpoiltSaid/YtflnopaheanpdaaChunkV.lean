/- Chunk: the walk of the answer's Unpack. -/
import Derived.Test.YtflnopaheanpdaaChunkU
set_option linter.unusedVariables false
set_option linter.unusedSimpArgs false
namespace Go.Proofs.Ytflnopaheanpdaa
open Go.RowKit

theorem str_dec {a b : List Int} (ha : Byt a) (hb : Byt b) : ((strOfNums a).toList == (strOfNums b).toList) = decide (a = b) := by
  by_cases h : a = b
  · rw [str_eq h, decide_eq_true h]
  · rw [str_ne ha hb h, decide_eq_false h]
theorem rtake_to3 (A : Option Addr) (n c : Nat) (bs : List Int) (at_ : Int) (v nx e : Int) (he : lebTake bs at_ = (v, nx, e)) (w : World) (hr : Rd w A n bs) (hb : Byt bs) (hnc : n ≤ c) (hn : c ≤ 9223372036854775807) (hn2 : n ≤ 1000000) (h0 : -9223372036854775808 ≤ at_) (h1 : at_ ≤ 9223372036854775807) :
    Calls Try.prog 30 #[.slice A n c, .int .i64 at_] w fun ee w' => ee = .returned (.tuple #[.int .u64 v, .int .i64 nx, .int .i64 e]) ∧ Grew w w' := by
  have := rtake_any A n c bs at_ w hr hb hnc hn (by omega) h0 h1
  rw [he] at this
  exact this
theorem unpackF_err {T s : List Int} {k : Nat} {a : Int} {full : Bool} {acc p : List Int} {x e : Int} (h : oneP T s a full = (p, x, e)) (he : e ≠ 0) : unpackF T s (k + 1) a full acc = ([], 0, e) := by
  rw [unpackF, h]; simp only; rw [if_pos he]
theorem unpackF_end {T s : List Int} {k : Nat} {a : Int} {full : Bool} {acc : List Int} {x : Int} (h : oneP T s a full = ([], x, 0)) : unpackF T s (k + 1) a full acc = (acc, x, 0) := by
  rw [unpackF, h]; simp
theorem unpackF_go {T s : List Int} {k : Nat} {a : Int} {full : Bool} {acc p : List Int} {x : Int} (h : oneP T s a full = (p, x, 0)) (hp : p ≠ []) : unpackF T s (k + 1) a full acc = unpackF T s k x (decide (p.length = 256)) (acc ++ p) := by
  rw [unpackF, h]; simp only; rw [if_neg (by simp), if_neg hp]

set_option maxRecDepth 100000 in
set_option maxHeartbeats 3200000 in
theorem runpack_any (T : List Int) (hT : T.length = 256) (hW : Wrd T) (A : Option Addr) (n c : Nat) (s : List Int) (at_ : Int) (w : World) (hr : Rd w A n s) (hb : Byt s) (hnc : n ≤ c) (hc : c ≤ 9223372036854775807) (hn : n ≤ 1000000) (h0 : -9223372036854775808 ≤ at_) (h1 : at_ ≤ 9223372036854775807) :
    Calls Try.prog 37 #[tabV T, .slice A n c, .int .i64 at_] w fun e w' => ∃ B m d, e = .returned (.tuple #[.slice B m d, .int .i64 (unpackL T s at_).2.1, .int .i64 (unpackL T s at_).2.2]) ∧ Rd w' B m (unpackL T s at_).1 ∧ m ≤ d ∧ d ≤ 9223372036854775807 ∧ Grew w w' := by
  obtain ⟨⟨ru, rn, re⟩, hres⟩ : ∃ r, unpackL T s at_ = r := ⟨_, rfl⟩
  rw [hres]
  go_enter Try.func37, Try.ntmps37
  go_wp2_with (refine tab_box rfl rfl rfl hT ?_; intro HT)
  have hg1 : Grew w (w.alloc (.cells (nums .u32 T).toArray 24)) := (Grew.rf w).al _
  have hr1 := hr.keep hg1
  have hs1 : (w.alloc (.cells (nums .u32 T).toArray 24)).heap.size = w.heap.size + 1 := World.size_alloc _ _
  obtain ⟨w1, hw1⟩ : ∃ w1, w.alloc (.cells (nums .u32 T).toArray 24) = w1 := ⟨_, rfl⟩
  rw [hw1] at HT hg1 hr1 hs1 ⊢
  obtain ⟨g, hgs⟩ : ∃ g, w.heap.size = g := ⟨_, rfl⟩
  rw [hgs] at HT hs1 ⊢
  rw [← hs1]
  clear hw1 hs1
  have HTT := Lib.hid HT
  have HB := Lib.hid hb
  clear HT hb hr
  go_loopw [2, 9, 10] (fun a v f wr => ∃ (a' : Int) (last : Int) (fuel : Nat) (acc : List Int), a = .int .i64 a' ∧ f = .int .i64 last ∧ 0 ≤ last ∧ last ≤ 256 ∧ -9223372036854775808 ≤ a' ∧ a' ≤ 9223372036854775807 ∧ Own wr w1.heap.size v acc ∧ Grew w1 wr ∧ unpackF T s fuel a' (decide (last = 256)) acc = (ru, rn, re) ∧ ((fuel = n + 1 ∧ acc = []) ∨ (0 ≤ a' ∧ a' ≤ n ∧ (n : Int) + 1 - a' ≤ fuel ∧ (acc.length : Int) ≤ a')))
    (fun a _ _ _ => n + 1 - (intOf a).toNat)
  case atStart => exact ⟨at_, 256, n + 1, [], rfl, rfl, by decide, by decide, h0, h1, own_lit0 w1, (Grew.rf w1).al _, by rw [← hres, unpackL, hr1.len]; rfl, .inl ⟨rfl, rfl⟩⟩
  case round =>
    obtain ⟨a', last, fuel, acc, rfl, rfl, hla0, hla1, hl0, hl1, hO, hB, hF, hor⟩ := hrel
    obtain ⟨k, rfl⟩ : ∃ k, fuel = k + 1 := ⟨fuel - 1, by omega⟩
    obtain ⟨⟨v, nx, er⟩, hq⟩ : ∃ r, lebTake s a' = r := ⟨_, rfl⟩
    have htk := fun (u : World) (hg : Grew w1 u) => rtake_to3 A n c s a' v nx er hq u (hr1.keep hg) HB.out hnc hc hn hl0 hl1
    have HTK := Lib.hid htk
    clear htk
    obtain ⟨full, hfull⟩ : ∃ full, decide (last = 256) = full := ⟨_, rfl⟩
    rw [hfull] at hF
    by_cases c1 : er = 0
    · subst c1
      obtain ⟨q0, q1, q2, _, q4, q5⟩ := lebTake_exact HB.out hq
      rw [hr1.len] at q2
      by_cases c2 : 256 < v
      · have hone : oneP T s a' full = ([], 0, 2) := by unfold oneP; rw [hq]; simp only; rw [if_neg (by simp), if_pos c2]
        rw [unpackF_err hone (by decide)] at hF
        cases hF
        go_wp2_with (first | (go_at_call 30; refine Calls.mono (HTK.out _ hB) ?_; rintro e w2 ⟨rfl, hg2⟩))
        go_ret3
        exact ⟨_, _, _, rfl, RdK.nil _ _ _, by omega, by omega, hg1.tr (hB.tr hg2)⟩
      · by_cases c3 : 0 < v ∧ last < 256
        · have hf : full = false := by rw [← hfull]; exact decide_eq_false (by omega)
          have hone : oneP T s a' full = ([], 0, 9) := by unfold oneP; rw [hq]; simp only; rw [if_neg (by simp), if_neg c2, if_pos ⟨c3.1, hf⟩]
          rw [unpackF_err hone (by decide)] at hF
          cases hF
          obtain ⟨c3a, c3b⟩ := c3
          clear hone
          go_wp2_with (first | (go_at_call 30; refine Calls.mono (HTK.out _ hB) ?_; rintro e w2 ⟨rfl, hg2⟩))
          go_ret3
          exact ⟨_, _, _, rfl, RdK.nil _ _ _, by omega, by omega, hg1.tr (hB.tr hg2)⟩
        · have hf : ¬ (0 < v ∧ full = false) := by
            rintro ⟨e1, e2⟩
            rw [← hfull] at e2
            have := of_decide_eq_false e2
            omega
          by_cases c4 : (n : Int) < nx + v + 4
          · have hone : oneP T s a' full = ([], 0, 7) := by unfold oneP; rw [hq]; simp only; rw [if_neg (by simp), if_neg c2, if_neg hf, hr1.len, if_pos c4]
            rw [unpackF_err hone (by decide)] at hF
            cases hF
            clear hone hf hfull full
            by_cases cv : 0 < v
            · obtain rfl : last = 256 := by omega
              go_wp2_with (first | (go_at_call 30; refine Calls.mono (HTK.out _ hB) ?_; rintro e w2 ⟨rfl, hg2⟩))
              go_ret3
              exact ⟨_, _, _, rfl, RdK.nil _ _ _, by omega, by omega, hg1.tr (hB.tr hg2)⟩
            · obtain rfl : v = 0 := by omega
              go_wp2_with (first | (go_at_call 30; refine Calls.mono (HTK.out _ hB) ?_; rintro e w2 ⟨rfl, hg2⟩))
              go_ret3
              exact ⟨_, _, _, rfl, RdK.nil _ _ _, by omega, by omega, hg1.tr (hB.tr hg2)⟩
          · obtain ⟨a, rfl⟩ := Int.eq_ofNat_of_zero_le q0
            obtain ⟨f, rfl⟩ := Int.eq_ofNat_of_zero_le (show 0 ≤ nx by omega)
            obtain ⟨m, rfl⟩ := Int.eq_ofNat_of_zero_le q4
            have hto : ((f : Int) + (m : Int)).toNat = f + m := by omega
            have hone : oneP T s a full = if fourB (cSum T ((s.take (f + m)).drop a)) = (s.take (f + m + 4)).drop (f + m) then ((s.take (f + m)).drop f, (f : Int) + (m : Int) + 4, (0 : Int)) else ([], 0, 6) := by
              unfold oneP; rw [hq]; simp only; rw [if_neg (by simp), if_neg c2, if_neg hf, hr1.len, if_neg c4, hto, Int.toNat_natCast, Int.toNat_natCast]
            obtain ⟨A1, hcut1, hA1⟩ := cut_lh (kl := .i64) (kh := .i64) A n c a (f + m) (by omega) (by omega) hnc
            obtain ⟨A2, hcut2, hA2⟩ := cut_lh (kl := .i64) (kh := .i64) A n c (f + m) (f + m + 4) (by omega) (by omega) hnc
            obtain ⟨A3, hcut3, hA3⟩ := cut_lh (kl := .i64) (kh := .i64) A n c f (f + m) (by omega) (by omega) hnc
            have hr11 := hA1 hr1
            have hr12 := hA2 hr1
            have hr13 := hA3 hr1
            rw [show f + m + 4 - (f + m) = 4 by omega] at hcut2 hr12
            rw [show f + m - f = m by omega] at hcut3 hr13
            rw [show ((f + m : Nat) : Int) = (f : Int) + (m : Int) by omega] at hcut1 hcut3
            rw [show ((f + m + 4 : Nat) : Int) = (f : Int) + (m : Int) + 4 by omega, show ((f + m : Nat) : Int) = (f : Int) + (m : Int) by omega] at hcut2
            have hbp : Byt ((s.take (f + m)).drop a) := (HB.out.take _).drop _
            have hbq : Byt ((s.take (f + m + 4)).drop (f + m)) := (HB.out.take _).drop _
            generalize (s.take (f + m)).drop a = ps at *
            generalize (s.take (f + m + 4)).drop (f + m) = qs at *
            generalize (s.take (f + m)).drop f = rs at *
            obtain ⟨R, hR⟩ : ∃ R, cSum T ps = R := ⟨_, rfl⟩
            have hRl : R < 4294967296 := by rw [← hR]; exact cSum_lt hW _
            have hby := fun (u : World) A m c (hr : Rd u A m ps) (hm : m ≤ 9223372036854775807) => by_any T hT hW A m c _ u hr hbp hm
            rw [← sum_by hW, hR] at hby
            rw [hR] at hone
            have hal2 : (acc.length : Int) ≤ a ∧ (n : Int) - a ≤ k := by
              rcases hor with ⟨h, rfl⟩ | h
              · exact ⟨by simp, by omega⟩
              · omega
            have hm256 : m ≤ 256 := by omega
            have hfm : f + m + 4 ≤ n := by omega
            have haf : a < f := by omega
            have hlast : 0 < m → last = 256 := fun h => by omega
            have HBY := Lib.hid hby
            have HR1 := Lib.hid hr11
            have HR2 := Lib.hid hr12
            have HR3 := Lib.hid hr13
            have HBQ := Lib.hid hbq
            have HRL := Lib.hid hRl
            have HONE := Lib.hid hone
            have HF := Lib.hid hF
            have HOR := Lib.hid hor
            clear hby hr11 hr12 hr13 hbp hbq hRl hR hA1 hA2 hA3 hto hone hF hor hq c2 c3 c4 q0 q1 q2 q4 q5 hf hl0 hl1
            by_cases cv : 0 < (m : Int)
            · obtain rfl : last = 256 := hlast (by omega)
              go_wp2_with (first | (go_at_call 30; refine Calls.mono (HTK.out _ hB) ?_; rintro e w2 ⟨rfl, hg2⟩; have hG2 : Grew w1 w2 := hB.tr hg2))
              have hbb0 := str_dec (fourB_byt HRL.out) HBQ.out
              obtain ⟨bb, hbb⟩ : ∃ bb, ((strOfNums (fourB R)).toList == (strOfNums qs).toList) = bb := ⟨_, rfl⟩
              rw [hbb] at hbb0
              have HBB := Lib.hid hbb
              clear hbb
              refine region_grew [[], [], [], [], [(1, 44), (2, 45), (3, 46)], [(0, 43), (4, 47)], [(5, 48)], [(6, 49)], [], [], [], [(10, 53)], [(8, 51), (9, 52), (11, 54)], [(12, 55)], [(7, 50), (13, 56)]] [(0, 43), (1, 44), (2, 45), (3, 46), (4, 47), (5, 48), (6, 49), (7, 50), (8, 51), (9, 52), (10, 53), (11, 54), (12, 55), (13, 56), (14, 57)] (fun
                | 0 => .eqv (tabV T) | 1 => .eqv (.slice A n c) | 2 => .eqv (.int .i64 (a : Int)) | 3 => .eqv (.int .i64 ((f : Int) + (m : Int))) | 4 => .eqv (.slice A1 (f + m - a) (c - a)) | 5 => .eqv (.int .u32 R) | 6 => .own w2.heap.size (fourB R) | 7 => .eqv (.string (strOfNums (fourB R))) | 8 => .eqv (.slice A n c) | 9 => .eqv (.int .i64 ((f : Int) + (m : Int))) | 10 => .eqv (.int .i64 ((f : Int) + (m : Int))) | 11 => .eqv (.int .i64 (((f : Int) + (m : Int)) + 4)) | 12 => .eqv (.slice A2 4 (c - (f + m))) | 13 => .eqv (.string (strOfNums qs)) | 14 => .eqv (.bool (!bb)) | _ => .any) (by kernel_rfl) ?_ ?_
              · refine ⟨fun u hu => ?_, fun u hu => ?_, fun u hu => ?_, fun u hu => ?_, fun u hu => ?_, fun u hu => ?_, fun u hu => ?_, fun u hu => ?_, fun u hu => ?_, fun u hu => ?_, fun u hu => ?_, fun u hu => ?_, fun u hu => ?_, fun u hu => ?_, fun u hu => ?_, trivial⟩
                · refine StepGoal.nil ?_
                  go_wp2_with (refine tab_load2 (.inr rfl) rfl rfl (HTT.out.keep (hG2.tr hu)) ?_)
                  exact ⟨rfl, rfl, Grew.rf _, rfl⟩
                · refine StepGoal.nil ?_
                  go_wp2
                  exact ⟨rfl, rfl, Grew.rf _, rfl⟩
                · refine StepGoal.nil ?_
                  go_wp2
                  exact ⟨rfl, rfl, Grew.rf _, rfl⟩
                · refine StepGoal.nil ?_
                  go_wp2
                  exact ⟨rfl, rfl, Grew.rf _, rfl⟩
                · rintro _ rfl _ rfl _ rfl
                  refine StepGoal.nil ?_
                  simp only [Act.put, List.setIfInBounds_toArray, List.set_cons_zero, List.set_cons_succ]
                  go_wp2
                  exact ⟨rfl, rfl, Grew.rf _, rfl⟩
                · rintro _ rfl _ rfl
                  refine StepGoal.nil ?_
                  simp only [Act.put, List.setIfInBounds_toArray, List.set_cons_zero, List.set_cons_succ]
                  go_wp2_with (go_at_call 23; refine Calls.mono (HBY.out _ _ _ _ (HR1.out.keep (hG2.tr hu)) (by omega)) ?_; rintro e w' ⟨rfl, hg⟩)
                  exact ⟨rfl, rfl, hg, rfl⟩
                · rintro _ rfl
                  refine StepGoal.nil ?_
                  simp only [Act.put, List.setIfInBounds_toArray, List.set_cons_zero, List.set_cons_succ]
                  go_wp2_with (go_at_call 22; refine Calls.mono (four_any R _ HRL.out) ?_; rintro e w1 ⟨x, rfl, ho, hg⟩)
                  exact ⟨rfl, rfl, hg, ho.lower hu.size⟩
                · rintro v49 h49
                  obtain ⟨A7, c7, rfl, _, _, hr7⟩ := h49.rd' (n := 4) rfl ; have hs := RdK.str (c := c7) hr7
                  refine StepGoal.nil ?_
                  simp only [Act.put, List.setIfInBounds_toArray, List.set_cons_zero, List.set_cons_succ]
                  go_wp2
                  exact ⟨rfl, rfl, Grew.rf _, rfl⟩
                · refine StepGoal.nil ?_
                  go_wp2
                  exact ⟨rfl, rfl, Grew.rf _, rfl⟩
                · refine StepGoal.nil ?_
                  go_wp2
                  exact ⟨rfl, rfl, Grew.rf _, rfl⟩
                · refine StepGoal.nil ?_
                  go_wp2
                  exact ⟨rfl, rfl, Grew.rf _, rfl⟩
                · rintro _ rfl
                  refine StepGoal.nil ?_
                  simp only [Act.put, List.setIfInBounds_toArray, List.set_cons_zero, List.set_cons_succ]
                  go_wp2
                  exact ⟨rfl, rfl, Grew.rf _, rfl⟩
                · rintro _ rfl _ rfl _ rfl
                  refine StepGoal.nil ?_
                  simp only [Act.put, List.setIfInBounds_toArray, List.set_cons_zero, List.set_cons_succ]
                  go_wp2
                  exact ⟨rfl, rfl, Grew.rf _, rfl⟩
                · rintro _ rfl
                  have hs := RdK.str (c := (c - (f + m))) (HR2.out.keep (hG2.tr hu))
                  refine StepGoal.nil ?_
                  simp only [Act.put, List.setIfInBounds_toArray, List.set_cons_zero, List.set_cons_succ]
                  go_wp2
                  exact ⟨rfl, rfl, Grew.rf _, rfl⟩
                · rintro _ rfl _ rfl
                  have hsd := HBB.out
                  refine StepGoal.nil ?_
                  simp only [Act.put, List.setIfInBounds_toArray, List.set_cons_zero, List.set_cons_succ]
                  go_wp2
                  refine ⟨rfl, rfl, Grew.rf _, ?_⟩; simp [leftIn, Pd.eqv, hsd]; exact hbb0.symm
              · intro u hu
                rintro _ rfl _ rfl _ rfl _ rfl _ rfl _ rfl v49 h49 _ rfl _ rfl _ rfl _ rfl _ rfl _ rfl _ rfl _ rfl
                refine StepGoal.nil ?_
                simp only [Act.put, List.setIfInBounds_toArray, List.set_cons_zero, List.set_cons_succ]
                have hG := hG2.tr hu
                by_cases c5 : fourB R = qs
                · have e := HONE.out
                  rw [if_pos c5] at e
                  rw [decide_eq_true c5] at hbb0
                  obtain rfl : bb = true := hbb0
                  have HC5 := Lib.hid c5
                  clear c5
                  have hne : rs ≠ [] := fun h => by have := HR3.out.len; rw [h] at this; simp at this; omega
                  have hF2 := HF.out
                  rw [unpackF_go e hne, HR3.out.len] at hF2
                  have HF2 := Lib.hid hF2
                  clear e HONE HF hF2
                  have hOu := hO.keep (hg2.tr hu)
                  go_wp2_with ((with_reducible refine gate_b .append #[.tmp 63, .tmp 67] _ rfl ?_); refine apps rfl rfl rfl rfl hOu (HR3.out.keep hG) hG hG.size (by omega) ?_; intro v2 w3 ho3 hg3 hb3)
                  go_roundw
                  case rel => exact ⟨(f : Int) + (m : Int) + 4, (m : Int), k, acc ++ rs, rfl, rfl, by omega, by omega, by omega, by omega, ho3, hg3, by rw [← HF2.out]; congr 1; rw [decide_eq_decide]; omega, .inr ⟨by omega, by omega, by omega, by rw [List.length_append, HR3.out.len]; omega⟩⟩
                  case measure => simp [intOf]; omega
                · have e := HONE.out
                  rw [if_neg c5] at e
                  rw [decide_eq_false c5] at hbb0
                  obtain rfl : bb = false := hbb0
                  have HC5 := Lib.hid c5
                  have hF2 := HF.out
                  rw [unpackF_err e (by decide)] at hF2
                  clear c5 e HONE HF
                  cases hF2
                  go_wp2_with fail
                  go_ret3
                  exact ⟨_, _, _, rfl, RdK.nil _ _ _, by omega, by omega, hg1.tr hG⟩
            · obtain rfl : m = 0 := by omega
              simp only [Nat.add_zero, Int.natCast_zero, Int.add_zero, Int.ofNat_zero] at hcut1 hcut2 hcut3 HONE HR1 HR2 HR3 HTK hfm
              have hrs : rs = [] := List.eq_nil_of_length_eq_zero HR3.out.len
              subst hrs
              go_wp2_with (first | (go_at_call 30; refine Calls.mono (HTK.out _ hB) ?_; rintro e w2 ⟨rfl, hg2⟩; have hG2 : Grew w1 w2 := hB.tr hg2))
              have hbb0 := str_dec (fourB_byt HRL.out) HBQ.out
              obtain ⟨bb, hbb⟩ : ∃ bb, ((strOfNums (fourB R)).toList == (strOfNums qs).toList) = bb := ⟨_, rfl⟩
              rw [hbb] at hbb0
              have HBB := Lib.hid hbb
              clear hbb
              refine region_grew [[], [], [], [], [(1, 44), (2, 45), (3, 46)], [(0, 43), (4, 47)], [(5, 48)], [(6, 49)], [], [], [], [(10, 53)], [(8, 51), (9, 52), (11, 54)], [(12, 55)], [(7, 50), (13, 56)]] [(0, 43), (1, 44), (2, 45), (3, 46), (4, 47), (5, 48), (6, 49), (7, 50), (8, 51), (9, 52), (10, 53), (11, 54), (12, 55), (13, 56), (14, 57)] (fun
                | 0 => .eqv (tabV T) | 1 => .eqv (.slice A n c) | 2 => .eqv (.int .i64 (a : Int)) | 3 => .eqv (.int .i64 (f : Int)) | 4 => .eqv (.slice A1 (f - a) (c - a)) | 5 => .eqv (.int .u32 R) | 6 => .own w2.heap.size (fourB R) | 7 => .eqv (.string (strOfNums (fourB R))) | 8 => .eqv (.slice A n c) | 9 => .eqv (.int .i64 (f : Int)) | 10 => .eqv (.int .i64 (f : Int)) | 11 => .eqv (.int .i64 ((f : Int) + 4)) | 12 => .eqv (.slice A2 4 (c - f)) | 13 => .eqv (.string (strOfNums qs)) | 14 => .eqv (.bool (!bb)) | _ => .any) (by kernel_rfl) ?_ ?_
              · refine ⟨fun u hu => ?_, fun u hu => ?_, fun u hu => ?_, fun u hu => ?_, fun u hu => ?_, fun u hu => ?_, fun u hu => ?_, fun u hu => ?_, fun u hu => ?_, fun u hu => ?_, fun u hu => ?_, fun u hu => ?_, fun u hu => ?_, fun u hu => ?_, fun u hu => ?_, trivial⟩
                · refine StepGoal.nil ?_
                  go_wp2_with (refine tab_load2 (.inr rfl) rfl rfl (HTT.out.keep (hG2.tr hu)) ?_)
                  exact ⟨rfl, rfl, Grew.rf _, rfl⟩
                · refine StepGoal.nil ?_
                  go_wp2
                  exact ⟨rfl, rfl, Grew.rf _, rfl⟩
                · refine StepGoal.nil ?_
                  go_wp2
                  exact ⟨rfl, rfl, Grew.rf _, rfl⟩
                · refine StepGoal.nil ?_
                  go_wp2
                  exact ⟨rfl, rfl, Grew.rf _, rfl⟩
                · rintro _ rfl _ rfl _ rfl
                  refine StepGoal.nil ?_
                  simp only [Act.put, List.setIfInBounds_toArray, List.set_cons_zero, List.set_cons_succ]
                  go_wp2
                  exact ⟨rfl, rfl, Grew.rf _, rfl⟩
                · rintro _ rfl _ rfl
                  refine StepGoal.nil ?_
                  simp only [Act.put, List.setIfInBounds_toArray, List.set_cons_zero, List.set_cons_succ]
                  go_wp2_with (go_at_call 23; refine Calls.mono (HBY.out _ _ _ _ (HR1.out.keep (hG2.tr hu)) (by omega)) ?_; rintro e w' ⟨rfl, hg⟩)
                  exact ⟨rfl, rfl, hg, rfl⟩
                · rintro _ rfl
                  refine StepGoal.nil ?_
                  simp only [Act.put, List.setIfInBounds_toArray, List.set_cons_zero, List.set_cons_succ]
                  go_wp2_with (go_at_call 22; refine Calls.mono (four_any R _ HRL.out) ?_; rintro e w1 ⟨x, rfl, ho, hg⟩)
                  exact ⟨rfl, rfl, hg, ho.lower hu.size⟩
                · rintro v49 h49
                  obtain ⟨A7, c7, rfl, _, _, hr7⟩ := h49.rd' (n := 4) rfl ; have hs := RdK.str (c := c7) hr7
                  refine StepGoal.nil ?_
                  simp only [Act.put, List.setIfInBounds_toArray, List.set_cons_zero, List.set_cons_succ]
                  go_wp2
                  exact ⟨rfl, rfl, Grew.rf _, rfl⟩
                · refine StepGoal.nil ?_
                  go_wp2
                  exact ⟨rfl, rfl, Grew.rf _, rfl⟩
                · refine StepGoal.nil ?_
                  go_wp2
                  exact ⟨rfl, rfl, Grew.rf _, rfl⟩
                · refine StepGoal.nil ?_
                  go_wp2
                  exact ⟨rfl, rfl, Grew.rf _, rfl⟩
                · rintro _ rfl
                  refine StepGoal.nil ?_
                  simp only [Act.put, List.setIfInBounds_toArray, List.set_cons_zero, List.set_cons_succ]
                  go_wp2
                  exact ⟨rfl, rfl, Grew.rf _, rfl⟩
                · rintro _ rfl _ rfl _ rfl
                  refine StepGoal.nil ?_
                  simp only [Act.put, List.setIfInBounds_toArray, List.set_cons_zero, List.set_cons_succ]
                  go_wp2
                  exact ⟨rfl, rfl, Grew.rf _, rfl⟩
                · rintro _ rfl
                  have hs := RdK.str (c := (c - f)) (HR2.out.keep (hG2.tr hu))
                  refine StepGoal.nil ?_
                  simp only [Act.put, List.setIfInBounds_toArray, List.set_cons_zero, List.set_cons_succ]
                  go_wp2
                  exact ⟨rfl, rfl, Grew.rf _, rfl⟩
                · rintro _ rfl _ rfl
                  have hsd := HBB.out
                  refine StepGoal.nil ?_
                  simp only [Act.put, List.setIfInBounds_toArray, List.set_cons_zero, List.set_cons_succ]
                  go_wp2
                  refine ⟨rfl, rfl, Grew.rf _, ?_⟩; simp [leftIn, Pd.eqv, hsd]; exact hbb0.symm
              · intro u hu
                rintro _ rfl _ rfl _ rfl _ rfl _ rfl _ rfl v49 h49 _ rfl _ rfl _ rfl _ rfl _ rfl _ rfl _ rfl _ rfl
                refine StepGoal.nil ?_
                simp only [Act.put, List.setIfInBounds_toArray, List.set_cons_zero, List.set_cons_succ]
                have hG := hG2.tr hu
                by_cases c5 : fourB R = qs
                · have e := HONE.out
                  rw [if_pos c5] at e
                  rw [decide_eq_true c5] at hbb0
                  obtain rfl : bb = true := hbb0
                  have HC5 := Lib.hid c5
                  clear c5
                  have hF2 := HF.out
                  rw [unpackF_end e] at hF2
                  clear e HONE HF
                  have hOu := hO.keep (hg2.tr hu)
                  obtain ⟨A6, c6, rfl, hc6, hc7, hr6⟩ := hOu.rd
                  cases hF2
                  go_wp2_with fail
                  go_ret3
                  exact ⟨_, _, _, rfl, hr6, by omega, by omega, hg1.tr hG⟩
                · have e := HONE.out
                  rw [if_neg c5] at e
                  rw [decide_eq_false c5] at hbb0
                  obtain rfl : bb = false := hbb0
                  have HC5 := Lib.hid c5
                  have hF2 := HF.out
                  rw [unpackF_err e (by decide)] at hF2
                  clear c5 e HONE HF
                  cases hF2
                  go_wp2_with fail
                  go_ret3
                  exact ⟨_, _, _, rfl, RdK.nil _ _ _, by omega, by omega, hg1.tr hG⟩
    · have hone : oneP T s a' full = ([], 0, er) := by unfold oneP; rw [hq]; simp only; rw [if_pos c1]
      rw [unpackF_err hone c1] at hF
      have hc1 : decide (er = 0) = false := decide_eq_false c1
      cases hF
      clear hone
      go_wp2_with (first | (go_at_call 30; refine Calls.mono (HTK.out _ hB) ?_; rintro e w2 ⟨rfl, hg2⟩))
      go_ret3
      exact ⟨_, _, _, rfl, RdK.nil _ _ _, by omega, by omega, hg1.tr (hB.tr hg2)⟩
end Go.Proofs.Ytflnopaheanpdaa
