/- Memo's reference: Put. -/
import Derived.Test.YtcllmhabhbnihaaMemo17
set_option linter.unusedVariables false
set_option linter.unusedSimpArgs false
namespace Go.Proofs.Ytcllmhabhbnihaa
open Go.RowKit

theorem OwnV.mono_base {e : TypeId} {sz : Nat} {w : World} {b1 b2 : Nat} {v : Value} {n : Nat} {vs : List Value} (h : OwnV e sz w b1 v n vs) (hb : b2 ≤ b1) : OwnV e sz w b2 v n vs := by
  refine ⟨⟨h.own.1, ?_⟩⟩
  rcases h.own.2 with h2 | ⟨g, cap, cur, hv, hg, r⟩
  · exact .inl h2
  · exact .inr ⟨g, cap, cur, hv, Nat.le_trans hb hg, r⟩

set_option maxRecDepth 100000 in
set_option maxHeartbeats 6400000 in
theorem rput_any (q : Nat) (A : Option Addr) (n c m : Nat) (l : List Ask) (x : Ask) (now : Int) (w : World) (hI : RmI w q A n c m l) :
    Calls Try.prog 14 #[.pointer (some ⟨q, 0, none⟩), aV x, .int .i64 now] w fun e w' => e = .returned (.tuple #[]) ∧ RmQ w w' q m (putM m l x now) := by
  have hq := hI.lt
  have hl := hI.rd.lenA
  have hfew := hI.few
  have hmm := hI.most
  have hpos := hI.pos
  obtain ⟨hnc, hcc⟩ := hI.cap
  have hx := six_new w x 32
  obtain ⟨xb, hxb⟩ : ∃ xb, w.heap.size = xb := ⟨_, rfl⟩
  obtain ⟨W, hW⟩ : ∃ W, w.alloc (.cells #[.string x.1, .string x.2.1, .bool x.2.2.1, .string x.2.2.2.1, .string x.2.2.2.2.1, .int .i64 x.2.2.2.2.2] 32) = W := ⟨_, rfl⟩
  have hg : Grew w W := by rw [← hW]; exact (Grew.rf w).al _
  have hws : W.heap.size = xb + 1 := by rw [← hW, World.size_alloc, hxb]
  have hqx : q < xb := by rw [← hxb]; exact hq
  rw [hxb, hW] at hx
  have HIW := Lib.hid (hI.keep hg)
  have HL := Lib.hid hl
  have HX := Lib.hid hx
  have HG0 := Lib.hid hg
  have HW := Lib.hid hW
  have HXB := Lib.hid hxb
  have HWS := Lib.hid hws
  clear hI hl hx hg hW hxb hws hq
  go_enter Try.func14, Try.ntmps14
  go_upto_region 1 with fail
  rw [HW.out, HXB.out]
  go_wp2_with fail
  go_loopw [6] (fun s6 wr => ∃ (i : Nat), s6 = .int .i64 (i : Int) ∧ i ≤ n ∧ RowKit.Hid (∀ j y, j < i → l[j]? = some y → sameA x y = false) ∧ RowKit.Hid (Grew W wr)) (fun s6 _ => n - (intOf s6).toNat)
  case atStart => exact ⟨0, rfl, by omega, Lib.hid (fun j y h => absurd h (by omega)), Lib.hid (Grew.rf W)⟩
  case round =>
    obtain ⟨i, rfl, hin, HN, HG⟩ := hrel
    have HI := Lib.hid (HIW.out.keep HG.out)
    have hc1 := cell_of_heap (i := 1) HI.out.cells rfl
    have hc0 := cell_of_heap (i := 0) HI.out.cells rfl
    simp only [List.getElem_toArray, List.getElem_cons_zero, List.getElem_cons_succ] at hc1 hc0
    by_cases hlt : i < n
    · obtain ⟨b, o, y, rfl, hy, h6⟩ := HI.out.rd.atA hlt
      have HY := Lib.hid hy
      have H6 := Lib.hid h6
      have HX6 := Lib.hid (HX.out.keep HG.out)
      have hsm := fun (u : World) => same15_any y x u
      have HSM := Lib.hid hsm
      clear hy h6 hsm
      go_upto_region 4 with fail
      go_cut [26] from 18 to 26 (fun f wx => f = .bool (decide (thA y = thA x)) ∧ Grew wr wx)
      case first =>
        refine region_split 8 [[], [(0, 18)], [(0, 18), (1, 19)], [(0, 18), (1, 19), (2, 20)], [], [(0, 18), (1, 19), (2, 20), (3, 21), (4, 22)], [(0, 18), (1, 19), (2, 20), (3, 21), (4, 22), (5, 23)], [], [(0, 18), (1, 19), (2, 20), (3, 21), (4, 22), (5, 23), (6, 24), (7, 25)]] [(0, 18), (1, 19), (2, 20), (3, 21), (4, 22), (5, 23), (6, 24), (7, 25)] (fun
          | 0 => .eqv (.pointer (some ⟨q, 0, none⟩)) | 1 => .eqv (.pointer (some ⟨q, 0, none⟩)) | 2 => .eqv (.pointer (some ⟨q, 1, none⟩)) | 3 => .eqv (.slice (some ⟨b, o, none⟩) n c) | 4 => .eqv (.int .i64 (i : Int)) | 5 => .eqv (.pointer (some ⟨b, o + i * 6, none⟩)) | 6 => .eqv (aV y) | 7 => .eqv (aV x) | _ => .any) (by kernel_rfl) ?_ ?_
        · refine ⟨fun u hu => ?_, fun u hu => ?_, fun u hu => ?_, fun u hu => ?_, fun u hu => ?_, fun u hu => ?_, fun u hu => ?_, fun u hu => ?_, trivial⟩
          · refine StepGoal.nil ?_
            go_wp2
            exact ⟨rfl, rfl, Grew.rf _, rfl⟩
          · rintro _ rfl
            refine StepGoal.nil ?_
            simp only [Act.put, List.setIfInBounds_toArray, List.set_cons_zero, List.set_cons_succ]
            go_wp2
            exact ⟨rfl, rfl, Grew.rf _, rfl⟩
          · rintro _ rfl _ rfl
            refine StepGoal.nil ?_
            simp only [Act.put, List.setIfInBounds_toArray, List.set_cons_zero, List.set_cons_succ]
            go_wp2
            exact ⟨rfl, rfl, Grew.rf _, rfl⟩
          · rintro _ rfl _ rfl _ rfl
            have hce := hu.ce hc1
            refine StepGoal.nil ?_
            simp only [Act.put, List.setIfInBounds_toArray, List.set_cons_zero, List.set_cons_succ]
            go_wp2
            exact ⟨rfl, rfl, Grew.rf _, rfl⟩
          · refine StepGoal.nil ?_
            go_wp2
            exact ⟨rfl, rfl, Grew.rf _, rfl⟩
          · rintro _ rfl _ rfl _ rfl _ rfl _ rfl
            refine StepGoal.nil ?_
            simp only [Act.put, List.setIfInBounds_toArray, List.set_cons_zero, List.set_cons_succ]
            go_wp2
            exact ⟨rfl, rfl, Grew.rf _, rfl⟩
          · rintro _ rfl _ rfl _ rfl _ rfl _ rfl _ rfl
            obtain ⟨c0, c1, c2, c3, c4, c5⟩ := H6.out.keep hu
            refine StepGoal.nil ?_
            simp only [Act.put, List.setIfInBounds_toArray, List.set_cons_zero, List.set_cons_succ]
            go_wp2
            exact ⟨rfl, rfl, Grew.rf _, rfl⟩
          · obtain ⟨c0, c1, c2, c3, c4, c5⟩ := HX6.out.keep hu
            refine StepGoal.nil ?_
            go_wp2
            exact ⟨rfl, rfl, Grew.rf _, rfl⟩
        · intro u hu
          rintro _ rfl _ rfl _ rfl _ rfl _ rfl _ rfl _ rfl _ rfl
          refine StepGoal.nil ?_
          simp only [Act.put, List.setIfInBounds_toArray, List.set_cons_zero, List.set_cons_succ]; simp only [List.drop_succ_cons, List.drop_zero]
          have HU := Lib.hid hu
          clear hu
          go_wp2_with (go_at_call 27; refine Calls.mono (HSM.out _) ?_; rintro e w3 ⟨rfl, hg3⟩; have HG3 := Lib.hid (HU.out.tr hg3); clear hg3)
          go_meet
          exact ⟨rfl, HG3.out⟩
      case rest =>
        obtain ⟨rfl, hgc⟩ := hcut
        have HI2 := Lib.hid (HI.out.keep hgc)
        have HG2 := Lib.hid (HG.out.tr hgc)
        have hc12 := hgc.ce hc1
        clear hc1 hc0 hgc HI HX6 H6
        by_cases hs : thA y = thA x
        · rw [decide_eq_true hs]
          have HS := Lib.hid hs
          clear hs
          have hpm : putM m l x now = l.set i x := by
            have hil : i < l.length := by rw [HL.out]; exact hlt
            have hfi : l.findIdx (sameA x) = i := by
              rw [List.findIdx_eq hil]
              refine ⟨?_, fun j hj => HN.out j _ hj (List.getElem?_eq_getElem _)⟩
              have := (List.getElem?_eq_some_iff.1 HY.out).2
              rw [this]
              exact decide_eq_true HS.out.symm
            unfold putM
            rw [hfi, if_pos hil]
          have HPM := Lib.hid hpm
          have hwx : xb + 1 ≤ wc.heap.size := by have := HG2.out.size; rw [HWS.out] at this; exact this
          clear hpm
          have hc13 := ((Grew.rf wc).al (.cells #[] 32)).ce hc12
          go_upto_region 6 with ((with_reducible refine gate_b .append #[.tmp 28, .tmp 32] _ rfl ?_); refine appE Try.underlying39 infoA zero_ask (by decide) (by decide) (.inl rfl) rfl rfl rfl (ownV_lit0 32 6 wc) (HI2.out.rd.keep ((Grew.rf wc).al _)) (acs_one _) (by rw [World.size_alloc]; omega) (by omega) ?_; intro v1 w1 ho1 hg1; obtain ⟨A1, c1, rfl, -, -, -⟩ := ho1.rd; have hq1 := heap_keep (((Grew.rf wc).al _).tr hg1) HI2.out.cells; have hce1 := cell_of_heap (i := 1) hq1 rfl; have hfz1 := frozen_of_heap (i := 1) hq1; have HO1 := Lib.hid ho1; have HQ1 := Lib.hid hq1; have HG3 := Lib.hid (((Grew.rf wc).al _).tr hg1); clear ho1 hg1 hq1)
          have hA1 : ∃ gb, A1 = some ⟨gb, 0, none⟩ := by
            rcases HO1.out.own.2 with ⟨hv, h0⟩ | ⟨gb, cp, cur, hv, _⟩
            · omega
            · simp only [Value.slice.injEq] at hv; exact ⟨gb, hv.1⟩
          obtain ⟨gb, rfl⟩ := hA1
          have hgb : wc.heap.size ≤ gb := HO1.out.base_le gb rfl
          have hq2 := setCell_heap_same HQ1.out (i := 1) (.slice (some ⟨gb, 0, none⟩) n c1)
          have ho2 := HO1.out.chg (F := fun k => k = q) (Chg.ofBy (setCell_by w1 ⟨q, 1, none⟩ (.slice (some ⟨gb, 0, none⟩) n c1)) (fun b hb => by cases hb; rfl)) (fun k hk h => by have e : gb = k := (by simpa [Value.ownBlock] using hk); omega)
          have hch2 : Chg (fun k => k = q) wc (w1.setCell ⟨q, 1, none⟩ (.slice (some ⟨gb, 0, none⟩) n c1)) := (Chg.of HG3.out).tr (Chg.ofBy (setCell_by w1 _ _) (fun b hb => by cases hb; exact .inl rfl))
          have hx2 := (HX.out.keep HG2.out).chg hch2 (fun h => by omega)
          obtain ⟨w2, hw2⟩ : ∃ w2, w1.setCell ⟨q, 1, none⟩ (.slice (some ⟨gb, 0, none⟩) n c1) = w2 := ⟨_, rfl⟩
          rw [hw2] at hq2 ho2 hch2 hx2 ⊢
          have HQ2 : RowKit.Hid (w2.heap[q]? = some (.cells #[.int .i64 (m : Int), .slice (some ⟨gb, 0, none⟩) n c1] 42)) := hq2
          have HO2 := Lib.hid ho2
          have HCH2 := Lib.hid hch2
          have HX2 := Lib.hid hx2
          clear hw2 hq2 ho2 hch2 hx2 hce1 hfz1
          refine region_split 9 [[], [(0, 36)], [(1, 37)], [(2, 38)], [], [], [(5, 41)], [(3, 39), (4, 40)], [(7, 43)], [(0, 36), (1, 37), (2, 38), (3, 39), (4, 40), (5, 41), (6, 42), (7, 43), (8, 44)]] [(0, 36), (1, 37), (2, 38), (3, 39), (4, 40), (5, 41), (6, 42), (7, 43), (8, 44)] (fun
            | 0 => .eqv (.pointer (some ⟨q, 0, none⟩)) | 1 => .eqv (.pointer (some ⟨q, 0, none⟩)) | 2 => .eqv (.pointer (some ⟨q, 1, none⟩)) | 3 => .eqv (.slice (some ⟨gb, 0, none⟩) n c1) | 4 => .eqv (.int .i64 (i : Int)) | 5 => .eqv (.pointer (some ⟨xb, 5, none⟩)) | 6 => .eqv (.int .i64 x.2.2.2.2.2) | 7 => .eqv (.pointer (some ⟨gb, i * 6, none⟩)) | 8 => .eqv (.pointer (some ⟨gb, i * 6 + 5, none⟩)) | _ => .any) (by kernel_rfl) ?_ ?_
          · refine ⟨fun u hu => ?_, fun u hu => ?_, fun u hu => ?_, fun u hu => ?_, fun u hu => ?_, fun u hu => ?_, fun u hu => ?_, fun u hu => ?_, fun u hu => ?_, trivial⟩
            · refine StepGoal.nil ?_
              go_wp2
              exact ⟨rfl, rfl, Grew.rf _, rfl⟩
            · rintro _ rfl
              refine StepGoal.nil ?_
              simp only [Act.put, List.setIfInBounds_toArray, List.set_cons_zero, List.set_cons_succ]
              go_wp2
              exact ⟨rfl, rfl, Grew.rf _, rfl⟩
            · rintro _ rfl
              refine StepGoal.nil ?_
              simp only [Act.put, List.setIfInBounds_toArray, List.set_cons_zero, List.set_cons_succ]
              go_wp2
              exact ⟨rfl, rfl, Grew.rf _, rfl⟩
            · rintro _ rfl
              have hce := hu.ce (cell_of_heap (i := 1) HQ2.out rfl); simp only [List.getElem_toArray, List.getElem_cons_zero, List.getElem_cons_succ] at hce
              refine StepGoal.nil ?_
              simp only [Act.put, List.setIfInBounds_toArray, List.set_cons_zero, List.set_cons_succ]
              go_wp2
              exact ⟨rfl, rfl, Grew.rf _, rfl⟩
            · refine StepGoal.nil ?_
              go_wp2
              exact ⟨rfl, rfl, Grew.rf _, rfl⟩
            · refine StepGoal.nil ?_
              go_wp2
              exact ⟨rfl, rfl, Grew.rf _, rfl⟩
            · rintro _ rfl
              have hce := hu.ce HX2.out.c5
              refine StepGoal.nil ?_
              simp only [Act.put, List.setIfInBounds_toArray, List.set_cons_zero, List.set_cons_succ]
              go_wp2
              exact ⟨rfl, rfl, Grew.rf _, rfl⟩
            · rintro _ rfl _ rfl
              refine StepGoal.nil ?_
              simp only [Act.put, List.setIfInBounds_toArray, List.set_cons_zero, List.set_cons_succ]
              go_wp2
              exact ⟨rfl, rfl, Grew.rf _, rfl⟩
            · rintro _ rfl
              refine StepGoal.nil ?_
              simp only [Act.put, List.setIfInBounds_toArray, List.set_cons_zero, List.set_cons_succ]
              go_wp2
              exact ⟨rfl, rfl, Grew.rf _, rfl⟩
          · intro u hu
            rintro _ rfl _ rfl _ rfl _ rfl _ rfl _ rfl _ rfl _ rfl _ rfl
            refine StepGoal.nil ?_
            simp only [Act.put, List.setIfInBounds_toArray, List.set_cons_zero, List.set_cons_succ]; simp only [List.drop_succ_cons, List.drop_zero]
            have ho3 := HO2.out.keep hu
            obtain ⟨z, z0, z1, z2, z3, z4, z5⟩ := ho3.sixA HL.out hlt
            obtain ⟨cur, hcur⟩ := ho3.block rfl
            have f5 := frozen_of_heap (i := i * 6 + 5) hcur
            have HO3 := Lib.hid ho3
            have HU := Lib.hid hu
            clear ho3 hcur hu z0 z1 z2 z3 z4
            go_wp2
            refine bodyPost_ret (results_none rfl _ _ _) rfl ⟨rfl, ?_⟩
            rw [HPM.out]
            have hst := HO3.out.stored (i * 6 + 5) (.int .i64 x.2.2.2.2.2)
            rw [← acs_until l i y x.2.2.2.2.2 HY.out, th_until HS.out] at hst
            have hln : (l.set i x).length = n := by rw [List.length_set]; exact HL.out
            have hqf : (u.setCell ⟨gb, i * 6 + 5, none⟩ (.int .i64 x.2.2.2.2.2)).heap[q]? = some (.cells #[.int .i64 (m : Int), .slice (some ⟨gb, 0, none⟩) n c1] 42) := (setCell_heap_other _ _ _ (by simp only; omega)).trans (heap_keep HU.out HQ2.out)
            obtain ⟨h1, h2⟩ := rm_mk (base := wc.heap.size) hqf (by show OwnV _ _ _ _ _ _ _; rw [hln]; exact hst) hln (by omega) hfew hpos hmm
            have hxw := HXB.out
            exact ⟨⟨_, _, _, h1, fun ad e => by have := h2 ad e; omega⟩, (Chg.of (HG0.out.tr HG2.out)).tr ((HCH2.out.mono fun k hk => .inl hk).tr ((Chg.of HU.out).tr (Chg.ofBy (setCell_by u _ _) (fun b hb => by cases hb; exact .inl (.inr hgb)))))⟩
        · rw [decide_eq_false hs]
          have HS := Lib.hid hs
          clear hs
          go_wp2_with fail
          go_roundw
          case rel =>
            refine ⟨i + 1, by go_num, by omega, Lib.hid (fun j z hj hz => ?_), HG2⟩
            rcases (by omega : j < i ∨ j = i) with h | h
            · exact HN.out j z h hz
            · subst h
              rw [HY.out] at hz
              cases hz
              exact decide_eq_false (fun e => HS.out e.symm)
          case measure => simp [intOf]; omega
    · have hii : i = n := by omega
      have hpm : putM m l x now = room2 m (room1 m l now) ++ [x] := by
        unfold putM
        rw [if_neg]
        intro h
        have h3 := List.findIdx_getElem (w := h)
        have := HN.out _ _ (by rw [hii, ← HL.out]; exact h) (List.getElem?_eq_getElem h)
        rw [h3] at this
        cases this
      have HPM := Lib.hid hpm
      clear hpm hii HN
      go_upto_region 7 with fail
      clear hlt
      go_cut [54] from 45 to 54 (fun f wx => f = .bool (decide (m ≤ n)) ∧ Grew wr wx)
      case first =>
        refine region_grew [[], [(0, 45)], [(1, 46)], [(2, 47)], [(3, 48)], [], [(5, 50)], [(6, 51)], [(7, 52)], [(4, 49), (8, 53)]] [(0, 45), (1, 46), (2, 47), (3, 48), (4, 49), (5, 50), (6, 51), (7, 52), (8, 53), (9, 54)] (fun
          | 0 => .eqv (.pointer (some ⟨q, 0, none⟩)) | 1 => .eqv (.pointer (some ⟨q, 0, none⟩)) | 2 => .eqv (.pointer (some ⟨q, 1, none⟩)) | 3 => .eqv (.slice A n c) | 4 => .eqv (.int .i64 (n : Int)) | 5 => .eqv (.pointer (some ⟨q, 0, none⟩)) | 6 => .eqv (.pointer (some ⟨q, 0, none⟩)) | 7 => .eqv (.pointer (some ⟨q, 0, none⟩)) | 8 => .eqv (.int .i64 (m : Int)) | 9 => .eqv (.bool (decide (m ≤ n))) | _ => .any) (by kernel_rfl) ?_ ?_
        · refine ⟨fun u hu => ?_, fun u hu => ?_, fun u hu => ?_, fun u hu => ?_, fun u hu => ?_, fun u hu => ?_, fun u hu => ?_, fun u hu => ?_, fun u hu => ?_, fun u hu => ?_, trivial⟩
          · refine StepGoal.nil ?_
            go_wp2
            exact ⟨rfl, rfl, Grew.rf _, rfl⟩
          · rintro _ rfl
            refine StepGoal.nil ?_
            simp only [Act.put, List.setIfInBounds_toArray, List.set_cons_zero, List.set_cons_succ]
            go_wp2
            exact ⟨rfl, rfl, Grew.rf _, rfl⟩
          · rintro _ rfl
            refine StepGoal.nil ?_
            simp only [Act.put, List.setIfInBounds_toArray, List.set_cons_zero, List.set_cons_succ]
            go_wp2
            exact ⟨rfl, rfl, Grew.rf _, rfl⟩
          · rintro _ rfl
            have hce := hu.ce hc1
            refine StepGoal.nil ?_
            simp only [Act.put, List.setIfInBounds_toArray, List.set_cons_zero, List.set_cons_succ]
            go_wp2
            exact ⟨rfl, rfl, Grew.rf _, rfl⟩
          · rintro _ rfl
            refine StepGoal.nil ?_
            simp only [Act.put, List.setIfInBounds_toArray, List.set_cons_zero, List.set_cons_succ]
            go_wp2
            exact ⟨rfl, rfl, Grew.rf _, rfl⟩
          · refine StepGoal.nil ?_
            go_wp2
            exact ⟨rfl, rfl, Grew.rf _, rfl⟩
          · rintro _ rfl
            refine StepGoal.nil ?_
            simp only [Act.put, List.setIfInBounds_toArray, List.set_cons_zero, List.set_cons_succ]
            go_wp2
            exact ⟨rfl, rfl, Grew.rf _, rfl⟩
          · rintro _ rfl
            refine StepGoal.nil ?_
            simp only [Act.put, List.setIfInBounds_toArray, List.set_cons_zero, List.set_cons_succ]
            go_wp2
            exact ⟨rfl, rfl, Grew.rf _, rfl⟩
          · rintro _ rfl
            have hce := hu.ce hc0
            refine StepGoal.nil ?_
            simp only [Act.put, List.setIfInBounds_toArray, List.set_cons_zero, List.set_cons_succ]
            go_wp2
            exact ⟨rfl, rfl, Grew.rf _, rfl⟩
          · rintro _ rfl _ rfl
            refine StepGoal.nil ?_
            simp only [Act.put, List.setIfInBounds_toArray, List.set_cons_zero, List.set_cons_succ]
            go_wp2
            exact ⟨rfl, rfl, Grew.rf _, rfl⟩
        · intro u hu
          rintro _ rfl _ rfl _ rfl _ rfl _ rfl _ rfl _ rfl _ rfl _ rfl _ rfl
          refine StepGoal.nil ?_
          simp only [Act.put, List.setIfInBounds_toArray, List.set_cons_zero, List.set_cons_succ]
          go_wp2_with fail
          go_meet
          exact ⟨rfl, hu⟩
      case rest =>
        obtain ⟨rfl, hgc⟩ := hcut
        have HI2 := Lib.hid (HI.out.keep hgc)
        have HG2 := Lib.hid (HG.out.tr hgc)
        clear hc0 hc1 hgc HI
        go_upto_if 54 with fail
        go_cut [] from 7 to 88 (fun wx => ∃ A1 n1 c1, RmI wx q A1 n1 c1 m (room1 m l now) ∧ Chg (fun k => k = q) W wx)
        case first =>
          by_cases hnm : n = m
          · rw [decide_eq_true (show m ≤ n by omega)]
            have hrm : room1 m l now = l.filter (fun y => !decide (y.2.2.2.2.2 ≤ now)) := by unfold room1; rw [HL.out, if_pos hnm]
            have HRM := Lib.hid hrm
            have hwx : xb + 1 ≤ wc.heap.size := by have := HG2.out.size; rw [HWS.out] at this; exact this
            clear hrm hnm
            go_wp2_with fail
            have hO0 := ownV_lit0 32 6 wc
            have hg0 := (Grew.rf wc).al (.cells #[] 32)
            go_loopw [7, 8] (fun s7 s8 wl => ∃ (j : Nat), s8 = .int .i64 (j : Int) ∧ j ≤ n ∧ RowKit.Hid (OwnA wl wc.heap.size s7 ((l.take j).filter (fun y => !decide (y.2.2.2.2.2 ≤ now)))) ∧ RowKit.Hid (Grew wc wl)) (fun _ s8 _ => n - (intOf s8).toNat)
            case atStart => exact ⟨0, rfl, by omega, Lib.hid hO0, Lib.hid hg0⟩
            case round =>
              rename World => wl
              clear hO0 hg0
              obtain ⟨j, rfl, hjn, HO, HGL⟩ := hrel
              have hce := cell_of_heap (i := 1) (HI2.out.keep HGL.out).cells rfl
              simp only [List.getElem_toArray, List.getElem_cons_zero, List.getElem_cons_succ] at hce
              by_cases hlt : j < n
              · obtain ⟨b, o, y, rfl, hy, h6⟩ := HI2.out.rd.atA hlt
                obtain ⟨c0, c1, c2, c3, c4, c5⟩ := h6.keep HGL.out
                have HSN := Lib.hid (flt_snoc (p := fun y => !decide (y.2.2.2.2.2 ≤ now)) hy)
                clear hy h6
                obtain ⟨f, hf⟩ : ∃ f, (l.take j).filter (fun y => !decide (y.2.2.2.2.2 ≤ now)) = f := ⟨_, rfl⟩
                have hfl : f.length ≤ n := by rw [← hf]; exact Nat.le_trans (List.length_filter_le _ _) (Nat.le_trans (List.length_take_le _ _) hjn)
                rw [hf] at HO HSN
                clear hf
                have hws := HGL.out.size
                by_cases hk : now < y.2.2.2.2.2
                · have HK : RowKit.Hid (decide (y.2.2.2.2.2 ≤ now) = false) := decide_eq_false (by omega)
                  go_wp2_with ((with_reducible refine gate_b .append #[.tmp 75, .tmp 83] _ rfl ?_); refine appV Try.underlying39 infoA zero_ask (by decide) (by decide) (.inl rfl) rfl rfl rfl (HO.out.keep ((Grew.rf wl).al _)) (rdA_new wl y _) (acs_one _) (by rw [World.size_alloc]; omega) (by omega) ?_; intro v1 w1 ho1 hg1 hat1; have hsn := snocA HO.out HGL.out ho1 hg1; have HSA := Lib.hid hsn; clear ho1 hg1 hat1 hsn)
                  go_roundw
                  case rel => exact ⟨j + 1, by go_num, by omega, Lib.hid (by rw [HSN.out, HK.out]; exact HSA.out.1), Lib.hid HSA.out.2⟩
                  case measure => simp [intOf]; omega
                · have HK : RowKit.Hid (decide (y.2.2.2.2.2 ≤ now) = true) := decide_eq_true (by omega)
                  go_wp2
                  go_roundw
                  case rel => exact ⟨j + 1, by go_num, by omega, Lib.hid (by rw [HSN.out, HK.out]; simpa using HO.out), HGL⟩
                  case measure => simp [intOf]; omega
              · have hO := HO.out
                rw [List.take_of_length_le (by rw [HL.out]; omega)] at hO
                have hfl : (l.filter (fun y => !decide (y.2.2.2.2.2 ≤ now))).length ≤ n := by rw [← HL.out]; exact List.length_filter_le _ _
                obtain ⟨f, hf⟩ : ∃ f, (l.filter (fun y => !decide (y.2.2.2.2.2 ≤ now))) = f := ⟨_, rfl⟩
                rw [hf] at hO hfl
                have HF := Lib.hid hf
                obtain ⟨A1, c1, rfl, -, -, -⟩ := hO.rd
                obtain ⟨k, hk⟩ : ∃ k, f.length = k := ⟨_, rfl⟩
                rw [hk] at hO hfl
                have hcq := (HI2.out.keep HGL.out).cells
                have hfz := frozen_of_heap (i := 1) hcq
                have HO2 := Lib.hid hO
                have HK := Lib.hid hk
                have HCQ := Lib.hid hcq
                clear hf hO hcq HO
                rw [HK.out]
                go_wp2
                go_meet
                obtain ⟨h1, h2⟩ := rm_set HCQ.out HO2.out HK.out (by omega) (by omega) hpos hmm
                rw [HRM.out, HF.out]
                exact ⟨A1, k, c1, h1, (Chg.of (HG2.out.tr HGL.out)).tr (Chg.ofBy (setCell_by _ _ _) (fun b hb => by cases hb; exact .inl rfl))⟩
          · rw [decide_eq_false (show ¬ m ≤ n by omega)]
            have hrm : room1 m l now = l := by unfold room1; rw [HL.out, if_neg hnm]
            have HRM := Lib.hid hrm
            clear hrm
            go_wp2
            go_meet
            rw [HRM.out]
            exact ⟨A, n, c, HI2.out, Chg.of HG2.out⟩
        case rest =>
          obtain ⟨A1, n1, c1, hI1, hch1⟩ := hcut
          obtain ⟨wd, rfl⟩ : ∃ wd, wd = wc := ⟨_, rfl⟩
          obtain ⟨l1, hl1⟩ : ∃ l1, room1 m l now = l1 := ⟨_, rfl⟩
          rw [hl1] at hI1
          have hd0 := cell_of_heap (i := 0) hI1.cells rfl
          have hd1 := cell_of_heap (i := 1) hI1.cells rfl
          simp only [List.getElem_toArray, List.getElem_cons_zero, List.getElem_cons_succ] at hd0 hd1
          have hf1 := hI1.few
          have HI1 := Lib.hid hI1
          have HCH1 := Lib.hid hch1
          have HL1 := Lib.hid hl1
          have hws : xb + 1 ≤ wd.heap.size := by have := hch1.size; rw [HWS.out] at this; exact this
          clear hI1 hch1 hl1 HI2 HG2 HIW HG
          go_upto_region 15 with fail
          go_cut [98] from 89 to 98 (fun f wx => f = .bool (decide (m ≤ n1)) ∧ Grew wd wx)
          case first =>
            refine region_grew [[], [(0, 89)], [(1, 90)], [(2, 91)], [(3, 92)], [], [(5, 94)], [(6, 95)], [(7, 96)], [(4, 93), (8, 97)]] [(0, 89), (1, 90), (2, 91), (3, 92), (4, 93), (5, 94), (6, 95), (7, 96), (8, 97), (9, 98)] (fun
              | 0 => .eqv (.pointer (some ⟨q, 0, none⟩)) | 1 => .eqv (.pointer (some ⟨q, 0, none⟩)) | 2 => .eqv (.pointer (some ⟨q, 1, none⟩)) | 3 => .eqv (.slice A1 n1 c1) | 4 => .eqv (.int .i64 (n1 : Int)) | 5 => .eqv (.pointer (some ⟨q, 0, none⟩)) | 6 => .eqv (.pointer (some ⟨q, 0, none⟩)) | 7 => .eqv (.pointer (some ⟨q, 0, none⟩)) | 8 => .eqv (.int .i64 (m : Int)) | 9 => .eqv (.bool (decide (m ≤ n1))) | _ => .any) (by kernel_rfl) ?_ ?_
            · refine ⟨fun u hu => ?_, fun u hu => ?_, fun u hu => ?_, fun u hu => ?_, fun u hu => ?_, fun u hu => ?_, fun u hu => ?_, fun u hu => ?_, fun u hu => ?_, fun u hu => ?_, trivial⟩
              · refine StepGoal.nil ?_
                go_wp2
                exact ⟨rfl, rfl, Grew.rf _, rfl⟩
              · rintro _ rfl
                refine StepGoal.nil ?_
                simp only [Act.put, List.setIfInBounds_toArray, List.set_cons_zero, List.set_cons_succ]
                go_wp2
                exact ⟨rfl, rfl, Grew.rf _, rfl⟩
              · rintro _ rfl
                refine StepGoal.nil ?_
                simp only [Act.put, List.setIfInBounds_toArray, List.set_cons_zero, List.set_cons_succ]
                go_wp2
                exact ⟨rfl, rfl, Grew.rf _, rfl⟩
              · rintro _ rfl
                have hce := hu.ce hd1
                refine StepGoal.nil ?_
                simp only [Act.put, List.setIfInBounds_toArray, List.set_cons_zero, List.set_cons_succ]
                go_wp2
                exact ⟨rfl, rfl, Grew.rf _, rfl⟩
              · rintro _ rfl
                refine StepGoal.nil ?_
                simp only [Act.put, List.setIfInBounds_toArray, List.set_cons_zero, List.set_cons_succ]
                go_wp2
                exact ⟨rfl, rfl, Grew.rf _, rfl⟩
              · refine StepGoal.nil ?_
                go_wp2
                exact ⟨rfl, rfl, Grew.rf _, rfl⟩
              · rintro _ rfl
                refine StepGoal.nil ?_
                simp only [Act.put, List.setIfInBounds_toArray, List.set_cons_zero, List.set_cons_succ]
                go_wp2
                exact ⟨rfl, rfl, Grew.rf _, rfl⟩
              · rintro _ rfl
                refine StepGoal.nil ?_
                simp only [Act.put, List.setIfInBounds_toArray, List.set_cons_zero, List.set_cons_succ]
                go_wp2
                exact ⟨rfl, rfl, Grew.rf _, rfl⟩
              · rintro _ rfl
                have hce := hu.ce hd0
                refine StepGoal.nil ?_
                simp only [Act.put, List.setIfInBounds_toArray, List.set_cons_zero, List.set_cons_succ]
                go_wp2
                exact ⟨rfl, rfl, Grew.rf _, rfl⟩
              · rintro _ rfl _ rfl
                refine StepGoal.nil ?_
                simp only [Act.put, List.setIfInBounds_toArray, List.set_cons_zero, List.set_cons_succ]
                go_wp2
                exact ⟨rfl, rfl, Grew.rf _, rfl⟩
            · intro u hu
              rintro _ rfl _ rfl _ rfl _ rfl _ rfl _ rfl _ rfl _ rfl _ rfl _ rfl
              refine StepGoal.nil ?_
              simp only [Act.put, List.setIfInBounds_toArray, List.set_cons_zero, List.set_cons_succ]
              go_wp2_with fail
              go_meet
              exact ⟨rfl, hu⟩
          case rest =>
            obtain ⟨rfl, hgc⟩ := hcut
            obtain ⟨we, rfl⟩ : ∃ we, we = wc := ⟨_, rfl⟩
            have HI3 := Lib.hid (HI1.out.keep hgc)
            have HC3 := Lib.hid (HCH1.out.tr (Chg.of hgc))
            have hd2 := hgc.ce hd1
            have hwe : xb + 1 ≤ we.heap.size := Nat.le_trans hws hgc.size
            clear hd0 hd1 hgc HI1 HCH1 hws
            go_upto_if 98 with fail
            go_cut [] from 98 to 106 (fun wx => ∃ A2 n2 c2, RmI wx q A2 n2 c2 m (room2 m l1) ∧ Chg (fun k => k = q) W wx)
            case first =>
              by_cases hnm : n1 = m
              · rw [decide_eq_true (show m ≤ n1 by omega)]
                have hrm : room2 m l1 = l1.drop 1 := by unfold room2; rw [HI3.out.rd.lenA, if_pos hnm]
                have HRM := Lib.hid hrm
                obtain ⟨hcp1, hcp2⟩ := HI3.out.cap
                have hcut1 := cutA_lo (kl := .i64) A1 n1 c1 1 (by omega) hcp1
                obtain ⟨A2, hA2⟩ : ∃ A2, (if c1 = 1 then A1 else A1.map (·.add (1 * 6))) = A2 := ⟨_, rfl⟩
                have hr2 := RdV.dropA (c := c1) HI3.out.rd (i := 1) (by omega) hcp1
                rw [hA2] at hcut1 hr2
                have hblk : ∀ ad, A2 = some ad → ∃ a0, A1 = some a0 ∧ a0.block = ad.block := fun ad e => by
                  rw [← hA2] at e
                  split at e
                  · exact ⟨ad, e, rfl⟩
                  · cases A1 with
                    | none => cases e
                    | some a0 => simp only [Option.map_some, Option.some.injEq] at e; subst e; exact ⟨a0, rfl, rfl⟩
                have hnil : A2 = none → n1 - 1 = 0 ∧ c1 - 1 = 0 := fun e => by
                  rw [← hA2] at e
                  have hz : A1 = none := by
                    split at e
                    · exact e
                    · cases A1 with
                      | none => rfl
                      | some a0 => cases e
                  have := HI3.out.nil hz
                  omega
                have HR2 := Lib.hid hr2
                have HBLK := Lib.hid hblk
                have HNIL := Lib.hid hnil
                simp only [show ((1 : Nat) : Int) = 1 from rfl] at hcut1
                have hcq := HI3.out.cells
                have hfz := frozen_of_heap (i := 1) hcq
                have HCQ := Lib.hid hcq
                clear hrm hnm hA2 hr2 hblk hnil hcq
                go_wp2
                go_meet
                rw [HRM.out]
                refine ⟨A2, n1 - 1, c1 - 1, ⟨by rw [setCell_heap_same HCQ.out]; rfl, HR2.out.chg (F := fun k => k = q) (Chg.ofBy (setCell_by _ _ _) (fun b hb => by cases hb; rfl)) (fun _ ad e => ?_), HNIL.out, ⟨by omega, by omega⟩, by omega, hpos, hmm, fun ad e => ?_, fun ad e => ?_⟩, HC3.out.tr (Chg.ofBy (setCell_by _ _ _) (fun b hb => by cases hb; exact .inl rfl))⟩
                · obtain ⟨a0, h1, h2⟩ := HBLK.out ad e
                  rw [← h2]; exact HI3.out.apart a0 h1
                · obtain ⟨a0, h1, h2⟩ := HBLK.out ad e
                  rw [← h2]; exact HI3.out.apart a0 h1
                · obtain ⟨a0, h1, h2⟩ := HBLK.out ad e
                  rw [← h2, setCell_size]; exact HI3.out.low a0 h1
              · rw [decide_eq_false (show ¬ m ≤ n1 by omega)]
                have hrm : room2 m l1 = l1 := by unfold room2; rw [HI3.out.rd.lenA, if_neg hnm]
                have HRM := Lib.hid hrm
                clear hrm
                go_wp2
                go_meet
                rw [HRM.out]
                exact ⟨A1, n1, c1, HI3.out, HC3.out⟩
            case rest =>
              obtain ⟨A2, n2, c2, hI4, hch4⟩ := hcut
              obtain ⟨wz, rfl⟩ : ∃ wz, wz = wc := ⟨_, rfl⟩
              obtain ⟨l2, hl2⟩ : ∃ l2, room2 m l1 = l2 := ⟨_, rfl⟩
              have hlt2 : l2.length < m := by rw [← hl2]; exact room2_lt m l1 (by rw [HI3.out.rd.lenA]; exact hf1) hpos
              rw [hl2] at hI4
              have hln := hI4.rd.lenA
              have hwz : xb + 1 ≤ wz.heap.size := by have := hch4.size; rw [HWS.out] at this; exact this
              have h64 : SixC wz xb 0 x := HX.out.chg hch4 (fun h => by omega)
              have hrq : putM m l x now = l2 ++ [x] := by rw [HPM.out, HL1.out, hl2]
              have HRQ := Lib.hid hrq
              have HI4 := Lib.hid hI4
              have HCH4 := Lib.hid hch4
              clear hrq hl2 hch4 hI4 hd2 HI3 HC3
              rw [hln] at hlt2
              have hlow2 : ∀ ad, A2 = some ad → ¬ ad.block = q ∧ ad.block < wz.heap.size := fun ad e => ⟨HI4.out.apart ad e, HI4.out.low ad e⟩
              have HLW := Lib.hid hlow2
              have HLN := Lib.hid hln
              clear hlow2 hln
              obtain ⟨n0, hn0, hn1⟩ : ∃ n0, n0 ≤ wz.heap.size ∧ wz.heap.size ≤ n0 := ⟨_, Nat.le_refl _, Nat.le_refl _⟩
              go_upto_region 17 with fail
              have hS : TwoZ (GF n0) (GQ q) (fun _ => True) (fun u => u.heap[q]? = some (.cells #[.int .i64 (m : Int), .slice A2 n2 c2] 42) ∧ SixC u xb 0 x) (fun u => Chg (fun k => k = q) wz u) := tzR (by omega) (by omega) (by omega)
              have hZ0 : wz.heap[q]? = some (.cells #[.int .i64 (m : Int), .slice A2 n2 c2] 42) ∧ SixC wz xb 0 x := ⟨HI4.out.cells, h64⟩
              clear h64
              refine region_twoz 9 12 hS (Chg.of (Grew.rf wz)) trivial hZ0 [(9, 1), (12, 1), (9, 6), (12, 6), (9, 8), (12, 8), (12, 9)] [[], [], [], [(2, 109)], [(3, 110)], [(4, 111)], [(1, 108), (5, 112)], [], [(7, 114)], [(6, 113), (8, 115)], [(0, 107)], [(10, 117)], [(9, 116), (11, 118)]] [(0, 107), (1, 108), (2, 109), (3, 110), (4, 111), (5, 112), (6, 113), (7, 114), (8, 115), (9, 116), (10, 117), (11, 118)] (fun
                | 0 => .eqv (.pointer (some ⟨q, 0, none⟩)) | 1 => pxE q n0 | 2 => .eqv (.pointer (some ⟨q, 0, none⟩)) | 3 => .eqv (.pointer (some ⟨q, 0, none⟩)) | 4 => .eqv (.pointer (some ⟨q, 1, none⟩)) | 5 => .eqv (.slice A2 n2 c2) | 6 => pxO q n0 l2 | 7 => .eqv (aV x) | 8 => pxL q n0 x | 9 => pxO q n0 (l2 ++ [x]) | 10 => .eqv (.pointer (some ⟨q, 0, none⟩)) | 11 => .eqv (.pointer (some ⟨q, 1, none⟩)) | 12 => pxQ q n0 m (l2 ++ [x]) | _ => .any) rfl (by kernel_rfl) (by kernel_rfl) ?_ ?_
              · refine ⟨fun u hu hx => ?_, fun u hu hx => ?_, fun u hu hx => ?_, fun u hu hx => ?_, fun u hu hx => ?_, fun u hu hx => ?_, fun u hu hx => ?_, fun u hu hx => ?_, fun u hu hx => ?_, fun u hu hx => ?_, fun u hu hx => ?_, fun u hu hx => ?_, fun u hu hx => ?_, trivial⟩
                · refine StepGoal.nil ?_
                  go_wp2
                  exact ⟨rfl, rfl, Grew.rf _, rfl⟩
                · have hsz := hu.size
                  refine StepGoal.nil ?_
                  go_wp2
                  exact ⟨rfl, rfl, (Grew.rf u).al _, ⟨_, rfl, (ownV_lit0 32 6 u).mono_base (by omega)⟩⟩
                · refine StepGoal.nil ?_
                  go_wp2
                  exact ⟨rfl, rfl, Grew.rf _, rfl⟩
                · rintro _ rfl
                  refine StepGoal.nil ?_
                  simp only [Act.put, List.setIfInBounds_toArray, List.set_cons_zero, List.set_cons_succ]
                  go_wp2
                  exact ⟨rfl, rfl, Grew.rf _, rfl⟩
                · rintro _ rfl
                  refine StepGoal.nil ?_
                  simp only [Act.put, List.setIfInBounds_toArray, List.set_cons_zero, List.set_cons_succ]
                  go_wp2
                  exact ⟨rfl, rfl, Grew.rf _, rfl⟩
                · rintro _ rfl
                  have hz : u.heap[q]? = some (.cells #[.int .i64 (m : Int), .slice A2 n2 c2] 42) ∧ SixC u xb 0 x := hx; have hce := cell_of_heap (i := 1) hz.1 rfl; simp only [List.getElem_toArray, List.getElem_cons_zero, List.getElem_cons_succ] at hce; clear hz hx
                  refine StepGoal.nil ?_
                  simp only [Act.put, List.setIfInBounds_toArray, List.set_cons_zero, List.set_cons_succ]
                  go_wp2
                  exact ⟨rfl, rfl, Grew.rf _, rfl⟩
                · rintro v108 h108 _ rfl
                  obtain ⟨gb, rfl, ho8⟩ : ∃ g, v108 = .slice (some ⟨g, 0, none⟩) 0 0 ∧ OwnV 32 6 u n0 (.slice (some ⟨g, 0, none⟩) 0 0) 0 [] := h108; have hrd := HI4.out.rd.chg hu (fun _ ad e => (HLW.out ad e).1); have hsz := hu.size
                  refine StepGoal.nil ?_
                  simp only [Act.put, List.setIfInBounds_toArray, List.set_cons_zero, List.set_cons_succ]
                  refine appE Try.underlying39 infoA zero_ask (by decide) (by decide) (.inl rfl) rfl rfl rfl ho8 hrd (acs_one _) (by omega) (by omega) ?_; intro v1 w1 ho1 hg1; go_wp2
                  exact ⟨rfl, rfl, hg1, by show OwnV _ _ _ _ _ _ _; rw [HLN.out]; exact ho1⟩
                · have hz : u.heap[q]? = some (.cells #[.int .i64 (m : Int), .slice A2 n2 c2] 42) ∧ SixC u xb 0 x := hx; obtain ⟨c0, c1, c2, c3, c4, c5⟩ := hz.2
                  refine StepGoal.nil ?_
                  go_wp2
                  exact ⟨rfl, rfl, Grew.rf _, rfl⟩
                · rintro _ rfl
                  refine StepGoal.nil ?_
                  simp only [Act.put, List.setIfInBounds_toArray, List.set_cons_zero, List.set_cons_succ]
                  go_wp2
                  exact ⟨rfl, rfl, (Grew.rf u).al _, ⟨_, rfl, rdA_new u x _⟩⟩
                · rintro v113 h113 v115 h115
                  obtain ⟨gb, rfl, hr15⟩ : ∃ gb, v115 = .slice (some ⟨gb, 0, none⟩) 1 1 ∧ RdA u (some ⟨gb, 0, none⟩) 1 [x] := h115; have ho13 : OwnA u n0 v113 l2 := h113; have hsz := hu.size; have hll := HLN.out
                  refine StepGoal.nil ?_
                  simp only [Act.put, List.setIfInBounds_toArray, List.set_cons_zero, List.set_cons_succ]
                  refine appV Try.underlying39 infoA zero_ask (by decide) (by decide) (.inl rfl) rfl rfl rfl ho13 hr15 (acs_one _) (by omega) (by omega) ?_; intro v1 w1 ho1 hg1 hat1; go_wp2
                  exact ⟨rfl, rfl, Chg.ofBy hg1 (fun b hb => ho13.base_le b hb), pxO_mk ho1⟩
                · rintro _ rfl
                  refine StepGoal.nil ?_
                  simp only [Act.put, List.setIfInBounds_toArray, List.set_cons_zero, List.set_cons_succ]
                  go_wp2
                  exact ⟨rfl, rfl, Grew.rf _, rfl⟩
                · rintro _ rfl
                  refine StepGoal.nil ?_
                  simp only [Act.put, List.setIfInBounds_toArray, List.set_cons_zero, List.set_cons_succ]
                  go_wp2
                  exact ⟨rfl, rfl, Grew.rf _, rfl⟩
                · rintro v116 h116 _ rfl
                  have hz : u.heap[q]? = some (.cells #[.int .i64 (m : Int), .slice A2 n2 c2] 42) ∧ SixC u xb 0 x := hx; have ho16 : OwnA u n0 v116 (l2 ++ [x]) := h116; obtain ⟨A5, c5, rfl, -, -, -⟩ := ho16.rd; have hce5 := cell_of_heap (i := 1) hz.1 rfl; have hfz5 := frozen_of_heap (i := 1) hz.1; have HZ := Lib.hid hz; have HO5 := Lib.hid ho16; clear hz ho16 hx h116
                  refine StepGoal.nil ?_
                  simp only [Act.put, List.setIfInBounds_toArray, List.set_cons_zero, List.set_cons_succ]
                  go_wp2
                  exact ⟨rfl, rfl, Chg.ofBy (setCell_by u _ _) (fun b hb => by cases hb; rfl), by have h5 := rm_set2 HZ.out.1 HO5.out rfl (by omega) (by rw [List.length_append, HLN.out]; exact hlt2) hpos hmm n0 rfl; rw [List.length_append] at h5; exact h5⟩
              · intro u hu hall
                rintro _ rfl v108 _ _ rfl _ rfl _ rfl _ rfl v113 _ _ rfl v115 _ v116 _ _ rfl _ rfl
                refine StepGoal.nil ?_
                simp only [Act.put, List.setIfInBounds_toArray, List.set_cons_zero, List.set_cons_succ]
                obtain ⟨v12, h12⟩ := hall 12 (by decide)
                have hq12 : ∃ A n c, RmI u q A n c m (l2 ++ [x]) ∧ ∀ ad, A = some ad → n0 ≤ ad.block := h12
                have HQ := Lib.hid hq12
                have HU := Lib.hid hu
                clear hq12 h12 hall hS hZ0 hu
                go_wp2
                refine bodyPost_end (results_none rfl _ _ _) rfl ⟨rfl, ?_⟩
                rw [HRQ.out]
                obtain ⟨A9, n9, c9, h9, hb9⟩ := HQ.out
                have hxw := HXB.out
                exact ⟨⟨A9, n9, c9, h9, fun ad e => by have := hb9 ad e; omega⟩, (Chg.of HG0.out).tr ((HCH4.out.mono fun k hk => .inl hk).tr (HU.out.mono fun k hk => .inl (.inl hk)))⟩
end Go.Proofs.Ytcllmhabhbnihaa
