/- Memo: the walk of MemoKeeps. -/
import Derived.Test.YtcllmhabhbnihaaMemo12
set_option linter.unusedVariables false
set_option linter.unusedSimpArgs false
namespace Go.Proofs.Ytcllmhabhbnihaa
open Go.RowKit

/-- A memo made behind the world W, its entries once each. -/
structure Kept (W u : World) (p k : Nat) (l : List Ask) : Prop where
  memo : ∃ lv, MemoI u p lv k l ∧ ∀ j, ftm p lv j → W.heap.size ≤ j
  grew : Grew W u
  once : Once l
theorem kept_put (W u : World) (p k : Nat) (l : List Ask) (x : Ask) (now : Int) (h : Kept W u p k l) :
    Calls Try.prog 13 #[.pointer (some ⟨p, 0, none⟩), aV x, .int .i64 now] u fun e w' => e = .returned (.tuple #[]) ∧ Kept W w' p k (putM k l x now) := by
  obtain ⟨⟨lv, h1, h2⟩, h3, h4⟩ := h
  refine Calls.mono (mput_any p lv k l x now u h1) ?_
  rintro e w' ⟨rfl, ⟨⟨lv', h5, h6⟩, h7⟩⟩
  exact ⟨rfl, ⟨⟨lv', h5, fun j hj => (h6 j hj).elim (h2 j) (fun h => Nat.le_trans h3.size h)⟩, grew_chg h3 h7 h2, (once_put k l x now h4).1⟩⟩
theorem Kept.keep {W u u' : World} {p k : Nat} {l : List Ask} (h : Kept W u p k l) (hg : Grew u u') : Kept W u' p k l := by
  obtain ⟨⟨lv, h1, h2⟩, h3, h4⟩ := h
  exact ⟨⟨lv, h1.keep hg, h2⟩, h3.tr hg, h4⟩
theorem kept_has (W u : World) (p k : Nat) (l : List Ask) (x : Ask) (now : Int) (h : Kept W u p k l) :
    Calls Try.prog 11 #[.pointer (some ⟨p, 0, none⟩), aV x, .int .i64 now] u fun e w' => e = .returned (.bool (l.any (hasP x now))) ∧ Grew u w' := by
  obtain ⟨⟨lv, h1, h2⟩, h3, h4⟩ := h
  exact mhas_any p lv k l x now u h1
theorem kept_list (W u : World) (p k : Nat) (l : List Ask) (h : Kept W u p k l) :
    Calls Try.prog 16 #[.pointer (some ⟨p, 0, none⟩)] u fun e w' => ∃ B, e = .returned (.slice B l.length l.length) ∧ RdA w' B l.length l ∧ Grew u w' := by
  obtain ⟨⟨lv, h1, h2⟩, h3, h4⟩ := h
  refine Calls.mono (mlist_any p lv k l u h1) ?_
  rintro e w' ⟨B, c, rfl, hO, hg⟩
  obtain ⟨A, c', e, -, -, hr⟩ := hO.rd
  cases e
  exact ⟨B, rfl, hr, hg⟩
theorem kept_drop (W u : World) (p k : Nat) (l : List Ask) (fr ur : ByteArray) (h : Kept W u p k l) :
    Calls Try.prog 9 #[.pointer (some ⟨p, 0, none⟩), .string fr, .string ur] u fun e w' => e = .returned (.tuple #[]) ∧ Kept W w' p k (l.filter fun y => !decide (y.1 = fr ∧ y.2.1 = ur)) := by
  obtain ⟨⟨lv, h1, h2⟩, h3, h4⟩ := h
  refine Calls.mono (mdrop_any p lv k l fr ur u h1) ?_
  rintro e w' ⟨rfl, ⟨⟨lv', h5, h6⟩, h7⟩⟩
  exact ⟨rfl, ⟨⟨lv', h5, fun j hj => (h6 j hj).elim (h2 j) (fun h => Nat.le_trans h3.size h)⟩, grew_chg h3 h7 h2, once_sub h4 List.filter_sublist⟩⟩
theorem Kept.few {W u : World} {p k : Nat} {l : List Ask} (h : Kept W u p k l) : l.length ≤ k := by
  obtain ⟨⟨lv, h1, h2⟩, h3, h4⟩ := h
  exact h1.few

set_option maxRecDepth 100000 in
set_option maxHeartbeats 3200000 in
theorem keeps_any (a0 : Int) (A : Option Addr) (n c : Nat) (ds : List Dee) (x : Ask) (now : Int) (w : World) (w0 : (Lit.int .u8 a0).wf = true) (hr : RdD w A n ds) (hn : n ≤ c) (hc : c ≤ 9223372036854775807) :
    Calls Try.prog 4 #[.int .u8 a0, .slice A n c, aV x, .int .i64 now] w fun e w' => e = .returned (.bool true) ∧ Below w.heap.size w w' := by
  have hx := six_new w x 32
  obtain ⟨hb, hhb⟩ : ∃ hb, w.heap.size = hb := ⟨_, rfl⟩
  obtain ⟨W, hW⟩ : ∃ W, w.alloc (.cells #[.string x.1, .string x.2.1, .bool x.2.2.1, .string x.2.2.2.1, .string x.2.2.2.2.1, .int .i64 x.2.2.2.2.2] 32) = W := ⟨_, rfl⟩
  have hg : Grew w W := by rw [← hW]; exact (Grew.rf w).al _
  rw [hhb, hW] at hx
  have ha0 : IntKind.u8.min ≤ a0 ∧ a0 ≤ IntKind.u8.max := by simpa [Lit.wf] using w0
  have ha : 0 ≤ a0 ∧ a0 ≤ 255 := ha0
  obtain ⟨b0, rfl⟩ : ∃ b : Nat, a0 = (b : Int) := ⟨a0.toNat, by omega⟩
  have hb0 : b0 < 256 := by omega
  have hnew := fun (u : World) => mnew_any (b0 % 64 + 1) u (by omega) (by omega)
  have HX := Lib.hid hx
  have HG := Lib.hid hg
  have HHB := Lib.hid hhb
  have HW := Lib.hid hW
  have HNEW := Lib.hid hnew
  have HR := Lib.hid (hr.keep hg)
  clear hx hg hhb hW hnew hr w0 ha ha0
  go_enter Try.func4, Try.ntmps4
  go_upto_region 1 with fail
  rw [HW.out, HHB.out]
  go_upto_region 2 with fail
  rw [show (1 + (b0 : Int) % 64) = ((b0 % 64 + 1 : Nat) : Int) by omega]
  have hk : 1 ≤ b0 % 64 + 1 ∧ b0 % 64 + 1 ≤ 64 := by omega
  generalize b0 % 64 + 1 = k at hk HNEW ⊢
  go_wp2_with (go_at_call 6; refine Calls.mono (HNEW.out _) ?_; rintro e w1 ⟨p, rfl, hM1, hg1, hwp⟩; have hK1 : Kept W w1 p k [] := ⟨⟨_, hM1, fun j hj => hj.elim (fun h => h ▸ hwp) (fun h => by cases h)⟩, hg1, once_nil⟩; have HK1 := Lib.hid hK1; clear hM1 hg1 hK1)
  go_loopw [12] (fun s12 wr => ∃ (i : Nat) (l : List Ask), s12 = .int .i64 (i : Int) ∧ i ≤ n ∧ i ≤ 70 ∧ RowKit.Hid (Kept W wr p k l)) (fun s12 _ => n - (intOf s12).toNat)
  case atStart => exact ⟨0, [], rfl, by omega, by omega, HK1⟩
  case round =>
    obtain ⟨i, l, rfl, hin, hi70, HK⟩ := hrel
    go_upto_region 6 with fail
    go_cut [35] from 28 to 35 (fun f wx => f = .bool (decide (i < n ∧ i < 70)) ∧ wx = wr)
    case first =>
      by_cases hlt : i < n
      · by_cases h7 : i < 70
        · have hd := decide_eq_true (p := i < n ∧ i < 70) ⟨hlt, h7⟩
          have HD := Lib.hid hd
          clear hd
          go_wp2
          go_meet
          exact ⟨by rw [HD.out, decide_eq_true (p := (i : Int) < 70) (by omega)], rfl⟩
        · have hd := decide_eq_false (p := i < n ∧ i < 70) (fun h => h7 h.2)
          have HD := Lib.hid hd
          clear hd
          go_wp2
          go_meet
          exact ⟨by rw [HD.out, decide_eq_false (p := (i : Int) < 70) (by omega)], rfl⟩
      · have hd := decide_eq_false (p := i < n ∧ i < 70) (fun h => hlt h.1)
        have HD := Lib.hid hd
        clear hd
        go_wp2
        go_meet
        exact ⟨by rw [HD.out], rfl⟩
    case rest =>
      obtain ⟨rfl, rfl⟩ := hcut
      by_cases hlt : i < n ∧ i < 70
      · rw [decide_eq_true hlt]
        obtain ⟨hlt, h7⟩ := hlt
        obtain ⟨b, o, d, rfl, hdi, dk, d6, dn⟩ := HR.out.atD hlt
        have D6 := Lib.hid (d6.keep HK.out.grew)
        have DN := Lib.hid (HK.out.grew.ce dn)
        clear hdi dk d6 dn
        go_upto_region 8 with fail
        refine region_split 11 [[], [], [], [(1, 39), (2, 40)], [(1, 39), (2, 40), (3, 41)], [(1, 39), (2, 40), (3, 41), (4, 42)], [], [], [(6, 44), (7, 45)], [(6, 44), (7, 45), (8, 46)], [(6, 44), (7, 45), (8, 46), (9, 47)], [(0, 38), (1, 39), (2, 40), (3, 41), (4, 42), (5, 43), (6, 44), (7, 45), (8, 46), (9, 47), (10, 48)]] [(0, 38), (1, 39), (2, 40), (3, 41), (4, 42), (5, 43), (6, 44), (7, 45), (8, 46), (9, 47), (10, 48)] (fun
          | 0 => .eqv (.pointer (some ⟨p, 0, none⟩)) | 1 => .eqv (.slice (some ⟨b, o, none⟩) n c) | 2 => .eqv (.int .i64 (i : Int)) | 3 => .eqv (.pointer (some ⟨b, o + i * 8, none⟩)) | 4 => .eqv (.pointer (some ⟨b, o + i * 8 + 1, none⟩)) | 5 => .eqv (aV d.2.1) | 6 => .eqv (.slice (some ⟨b, o, none⟩) n c) | 7 => .eqv (.int .i64 (i : Int)) | 8 => .eqv (.pointer (some ⟨b, o + i * 8, none⟩)) | 9 => .eqv (.pointer (some ⟨b, o + i * 8 + 7, none⟩)) | 10 => .eqv (.int .i64 d.2.2) | _ => .any) (by kernel_rfl) ?_ ?_
        · refine ⟨fun u hu => ?_, fun u hu => ?_, fun u hu => ?_, fun u hu => ?_, fun u hu => ?_, fun u hu => ?_, fun u hu => ?_, fun u hu => ?_, fun u hu => ?_, fun u hu => ?_, fun u hu => ?_, trivial⟩
          · refine StepGoal.nil ?_
            go_wp2
            exact ⟨rfl, rfl, Grew.rf _, rfl⟩
          · refine StepGoal.nil ?_
            go_wp2
            exact ⟨rfl, rfl, Grew.rf _, rfl⟩
          · refine StepGoal.nil ?_
            go_wp2
            exact ⟨rfl, rfl, Grew.rf _, rfl⟩
          · rintro _ rfl _ rfl
            refine StepGoal.nil ?_
            simp only [Act.put, List.setIfInBounds_toArray, List.set_cons_zero, List.set_cons_succ]
            go_wp2
            exact ⟨rfl, rfl, Grew.rf _, rfl⟩
          · rintro _ rfl _ rfl _ rfl
            refine StepGoal.nil ?_
            simp only [Act.put, List.setIfInBounds_toArray, List.set_cons_zero, List.set_cons_succ]
            go_wp2
            exact ⟨rfl, rfl, Grew.rf _, rfl⟩
          · rintro _ rfl _ rfl _ rfl _ rfl
            obtain ⟨c0, c1, c2, c3, c4, c5⟩ := D6.out.keep hu
            refine StepGoal.nil ?_
            simp only [Act.put, List.setIfInBounds_toArray, List.set_cons_zero, List.set_cons_succ]
            go_wp2
            exact ⟨rfl, rfl, Grew.rf _, rfl⟩
          · refine StepGoal.nil ?_
            go_wp2
            exact ⟨rfl, rfl, Grew.rf _, rfl⟩
          · refine StepGoal.nil ?_
            go_wp2
            exact ⟨rfl, rfl, Grew.rf _, rfl⟩
          · rintro _ rfl _ rfl
            refine StepGoal.nil ?_
            simp only [Act.put, List.setIfInBounds_toArray, List.set_cons_zero, List.set_cons_succ]
            go_wp2
            exact ⟨rfl, rfl, Grew.rf _, rfl⟩
          · rintro _ rfl _ rfl _ rfl
            refine StepGoal.nil ?_
            simp only [Act.put, List.setIfInBounds_toArray, List.set_cons_zero, List.set_cons_succ]
            go_wp2
            exact ⟨rfl, rfl, Grew.rf _, rfl⟩
          · rintro _ rfl _ rfl _ rfl _ rfl
            have hce := hu.ce DN.out
            refine StepGoal.nil ?_
            simp only [Act.put, List.setIfInBounds_toArray, List.set_cons_zero, List.set_cons_succ]
            go_wp2
            exact ⟨rfl, rfl, Grew.rf _, rfl⟩
        · intro u hu
          rintro _ rfl _ rfl _ rfl _ rfl _ rfl _ rfl _ rfl _ rfl _ rfl _ rfl _ rfl
          refine StepGoal.nil ?_
          simp only [Act.put, List.setIfInBounds_toArray, List.set_cons_zero, List.set_cons_succ]; simp only [List.drop_succ_cons, List.drop_zero]
          have HK2 := Lib.hid (HK.out.keep hu)
          clear hu
          go_wp2_with (go_at_call 13; refine Calls.mono (kept_put _ _ _ _ _ _ _ HK2.out) ?_; rintro e w3 ⟨rfl, hK3⟩; have HK3 := Lib.hid hK3; clear hK3)
          go_roundw
          case rel => exact ⟨i + 1, _, by go_num, by omega, by omega, HK3⟩
          case measure => simp [intOf]; omega
      · rw [decide_eq_false hlt]
        clear hlt HNEW
        have h61 := HX.out.keep HK.out.grew
        obtain ⟨c0, c1, c2, c3, c4, c5⟩ := h61
        go_upto_region 10 with (go_at_call 13; refine Calls.mono (kept_put _ _ _ _ _ _ _ HK.out) ?_; rintro e w3 ⟨rfl, hK3⟩; have HK3 := Lib.hid hK3; clear hK3 c0 c1 c2 c3 c4 c5)
        have h62 := HX.out.keep HK3.out.grew
        obtain ⟨c0, c1, c2, c3, c4, c5⟩ := h62
        go_upto_region 11 with (go_at_call 13; refine Calls.mono (kept_put _ _ _ _ _ _ _ HK3.out) ?_; rintro e w4 ⟨rfl, hK4⟩; have HK4 := Lib.hid hK4; clear hK4 c0 c1 c2 c3 c4 c5)
        have hin2 := (once_put k (putM k l x now) x now (once_put k l x now HK.out.once).1).2
        obtain ⟨l2, hl2⟩ : ∃ l2, putM k (putM k l x now) x now = l2 := ⟨_, rfl⟩
        rw [hl2] at hin2 HK4
        have HIN := Lib.hid hin2
        clear hin2 hl2
        go_wp2_with (go_at_call 16; refine Calls.mono (kept_list _ _ _ _ _ HK4.out) ?_; rintro e w5 ⟨B, rfl, hB, hg5⟩; have HK5 := Lib.hid (HK4.out.keep hg5); have HB := Lib.hid hB; clear hB hg5)
        obtain ⟨n2, hn2⟩ : ∃ n2, l2.length = n2 := ⟨_, rfl⟩
        rw [hn2] at HB ⊢
        have hn2k : n2 ≤ k := by rw [← hn2]; exact HK5.out.few
        have HN2 := Lib.hid hn2
        clear hn2
        go_loopw [14, 15] (fun s14 s15 wr => ∃ (j : Nat), s14 = .int .i64 (cntA x (l2.take j) : Int) ∧ s15 = .int .i64 (j : Int) ∧ j ≤ n2 ∧ RowKit.Hid (Grew w5 wr)) (fun _ s15 _ => n2 - (intOf s15).toNat)
        case atStart => exact ⟨0, rfl, rfl, by omega, Lib.hid (Grew.rf _)⟩
        case round =>
          obtain ⟨j, rfl, rfl, hjn, HGJ⟩ := hrel
          by_cases hlt : j < n2
          · obtain ⟨b, o, y, rfl, hy, h6⟩ := HB.out.atA hlt
            obtain ⟨c0, c1, c2, c3, c4, c5⟩ := h6.keep HGJ.out
            have HY := Lib.hid hy
            clear hy h6
            go_upto_region 17 with fail
            have hyn := heap_alloc_new wr (.cells #[.string y.1, .string y.2.1, .bool y.2.2.1, .string y.2.2.2.1, .string y.2.2.2.2.1, .int .i64 y.2.2.2.2.2] 32)
            have hgy := (Grew.rf wr).al (.cells #[.string y.1, .string y.2.1, .bool y.2.2.1, .string y.2.2.2.1, .string y.2.2.2.2.1, .int .i64 y.2.2.2.2.2] 32)
            obtain ⟨Wy, hWy⟩ : ∃ Wy, wr.alloc (.cells #[.string y.1, .string y.2.1, .bool y.2.2.1, .string y.2.2.2.1, .string y.2.2.2.2.1, .int .i64 y.2.2.2.2.2] 32) = Wy := ⟨_, rfl⟩
            obtain ⟨yb, hyb⟩ : ∃ yb, wr.heap.size = yb := ⟨_, rfl⟩
            rw [hWy] at hyn hgy ⊢
            rw [hyb] at hyn ⊢
            have hys := setCell_heap_same hyn (i := 5) (.int .i64 x.2.2.2.2.2)
            have hgs : Grew wr (Wy.setCell ⟨yb, 5, none⟩ (.int .i64 x.2.2.2.2.2)) := hgy.st (by simp only; omega) _
            have d5 := (HX.out.keep (HK5.out.grew.tr (HGJ.out.tr hgy))).c5
            have e5 := cell_of_heap (i := 5) hyn rfl
            have f5 := frozen_of_heap (i := 5) hyn
            have HYS := Lib.hid hys
            have HGS := Lib.hid hgs
            clear hWy hyb hyn hgy hys hgs c0 c1 c2 c3 c4 c5
            go_upto_region 18 with fail
            obtain ⟨Wz, hWz⟩ : ∃ Wz, Wy.setCell ⟨yb, 5, none⟩ (.int .i64 x.2.2.2.2.2) = Wz := ⟨_, rfl⟩
            rw [hWz] at HYS HGS ⊢
            have HY2 : RowKit.Hid (Wz.heap[yb]? = some (.cells #[.string y.1, .string y.2.1, .bool y.2.2.1, .string y.2.2.2.1, .string y.2.2.2.2.1, .int .i64 x.2.2.2.2.2] 32)) := HYS.out
            clear d5 e5 f5 HYS hWz
            have c0 := cell_of_heap (i := 0) HY2.out rfl
            have c1 := cell_of_heap (i := 1) HY2.out rfl
            have c2 := cell_of_heap (i := 2) HY2.out rfl
            have c3 := cell_of_heap (i := 3) HY2.out rfl
            have c4 := cell_of_heap (i := 4) HY2.out rfl
            have c5 := cell_of_heap (i := 5) HY2.out rfl
            obtain ⟨d0, d1, d2, d3, d4, d5⟩ := HX.out.keep (HK5.out.grew.tr (HGJ.out.tr HGS.out))
            have hgd := ask_guard
            have hbe := fun (w : World) => ask_eql (y.1, y.2.1, y.2.2.1, y.2.2.2.1, y.2.2.2.2.1, x.2.2.2.2.2) x w
            have hbi := fun (w : World) => ask_eqIn (y.1, y.2.1, y.2.2.1, y.2.2.2.1, y.2.2.2.2.1, x.2.2.2.2.2) x w
            rw [until_eq] at hbe hbi
            have hsn : cntA x (l2.take (j + 1)) = cntA x (l2.take j) + (if thA y = thA x then 1 else 0) := by
              unfold cntA
              rw [List.take_add_one, HY.out]
              simp [List.countP_append, List.countP_cons]
            have hcl := Nat.le_trans (List.countP_le_length (p := fun y => decide (thA y = thA x)) (l := l2.take j)) (Nat.le_trans (List.length_take_le _ _) hjn)
            have hcl : cntA x (l2.take j) ≤ n2 := hcl
            have HSN := Lib.hid hsn
            obtain ⟨cj, hcj⟩ : ∃ cj, cntA x (l2.take j) = cj := ⟨_, rfl⟩
            rw [hcj] at hcl HSN ⊢
            clear hcj hsn
            cases htt : decide (thA y = thA x) with
            | true =>
              rw [htt] at hbe hbi
              have HT := Lib.hid htt
              clear htt
              go_wp2
              go_roundw
              case rel => exact ⟨j + 1, by rw [HSN.out, if_pos (of_decide_eq_true HT.out)]; go_num, by go_num, by omega, Lib.hid (HGJ.out.tr HGS.out)⟩
              case measure => simp [intOf]; omega
            | false =>
              rw [htt] at hbe hbi
              have HT := Lib.hid htt
              clear htt
              go_wp2
              go_roundw
              case rel => exact ⟨j + 1, by rw [HSN.out, if_neg (of_decide_eq_false HT.out)]; rfl, by go_num, by omega, Lib.hid (HGJ.out.tr HGS.out)⟩
              case measure => simp [intOf]; omega
          · have hj : j = n2 := by omega
            have hc1 : cntA x (l2.take j) = 1 := by rw [List.take_of_length_le (by rw [HN2.out]; omega)]; exact cnt_one x l2 HK5.out.once HIN.out
            have hc1' : ((cntA x (l2.take j) : Nat) : Int) = 1 := by rw [hc1]; rfl
            rw [hc1']
            have HGR := Lib.hid (HK5.out.grew.tr HGJ.out)
            clear hc1 hc1' hj
            go_upto_region 20 with fail
            clear hlt
            by_cases hgt : now < x.2.2.2.2.2
            · have hha := fun (u : World) (hu : Grew wr u) => kept_has W u p k l2 x now (HK5.out.keep (HGJ.out.tr hu))
              rw [has_in x now l2 HIN.out hgt] at hha
              have HHA := Lib.hid hha
              clear hha
              refine region_grew [[], [(0, 78)], [], [(1, 79), (2, 80)], [(3, 81)], [(4, 82)], [(4, 82), (5, 83)], [(4, 82), (6, 84)], [(7, 85)], [(8, 86)], [(8, 86)], [(8, 86)], [(8, 86), (9, 87), (10, 88), (11, 89)], [(8, 86)], [(8, 86), (13, 91)], [(8, 86)], [(8, 86), (14, 92), (15, 93)], [(8, 86), (12, 90), (16, 94)], [(8, 86), (17, 95)], [(18, 96)], [(18, 96), (19, 97)], [(18, 96)], [(18, 96), (20, 98), (21, 99)], [(8, 86), (18, 96), (22, 100)], [(8, 86), (23, 101)]] [(0, 78), (1, 79), (2, 80), (3, 81), (4, 82), (5, 83), (6, 84), (7, 85), (8, 86), (9, 87), (10, 88), (11, 89), (12, 90), (13, 91), (14, 92), (15, 93), (16, 94), (17, 95), (18, 96), (19, 97), (20, 98), (21, 99), (22, 100), (23, 101), (24, 102)] (fun
                | 0 => .eqv (.slice B n2 n2) | 1 => .eqv (.int .i64 (n2 : Int)) | 2 => .eqv (.int .i64 (k : Int)) | 3 => .eqv (.bool false) | 4 => .eqv (.bool false) | 5 => .eqv (.int .i64 1) | 6 => .eqv (.bool false) | 7 => .eqv (.bool false) | 8 => .eqv (.bool false) | 9 => .eqv (.pointer (some ⟨p, 0, none⟩)) | 10 => .eqv (aV x) | 11 => .eqv (.int .i64 now) | 12 => .eqv (.bool true) | 13 => .eqv (.pointer (some ⟨hb, 5, none⟩)) | 14 => .eqv (.int .i64 x.2.2.2.2.2) | 15 => .eqv (.int .i64 now) | 16 => .eqv (.bool true) | 17 => .eqv (.bool false) | 18 => .eqv (.bool false) | 19 => .eqv undef | 20 => .eqv undef | 21 => .eqv undef | 22 => .eqv undef | 23 => .eqv (.bool false) | 24 => .eqv (.bool false) | _ => .any) (by kernel_rfl) ?_ ?_
              · refine ⟨fun u hu => ?_, fun u hu => ?_, fun u hu => ?_, fun u hu => ?_, fun u hu => ?_, fun u hu => ?_, fun u hu => ?_, fun u hu => ?_, fun u hu => ?_, fun u hu => ?_, fun u hu => ?_, fun u hu => ?_, fun u hu => ?_, fun u hu => ?_, fun u hu => ?_, fun u hu => ?_, fun u hu => ?_, fun u hu => ?_, fun u hu => ?_, fun u hu => ?_, fun u hu => ?_, fun u hu => ?_, fun u hu => ?_, fun u hu => ?_, fun u hu => ?_, trivial⟩
                · refine StepGoal.nil ?_
                  go_wp2
                  exact ⟨rfl, rfl, Grew.rf _, rfl⟩
                · rintro _ rfl
                  refine StepGoal.nil ?_
                  simp only [Act.put, List.setIfInBounds_toArray, List.set_cons_zero, List.set_cons_succ]
                  go_wp2
                  exact ⟨rfl, rfl, Grew.rf _, rfl⟩
                · refine StepGoal.nil ?_
                  go_wp2
                  exact ⟨rfl, rfl, Grew.rf _, rfl⟩
                · rintro _ rfl _ rfl
                  refine StepGoal.nil ?_
                  simp only [Act.put, List.setIfInBounds_toArray, List.set_cons_zero, List.set_cons_succ]
                  go_wp2
                  exact ⟨rfl, rfl, Grew.rf _, congrArg Value.bool (decide_eq_false (by omega))⟩
                · rintro _ rfl
                  refine StepGoal.nil ?_
                  simp only [Act.put, List.setIfInBounds_toArray, List.set_cons_zero, List.set_cons_succ]
                  go_wp2
                  exact ⟨rfl, rfl, Grew.rf _, rfl⟩
                · rintro _ rfl
                  refine StepGoal.nil ?_
                  simp only [Act.put, List.setIfInBounds_toArray, List.set_cons_zero, List.set_cons_succ]
                  go_wp2
                  exact ⟨rfl, rfl, Grew.rf _, rfl⟩
                · rintro _ rfl _ rfl
                  refine StepGoal.nil ?_
                  simp only [Act.put, List.setIfInBounds_toArray, List.set_cons_zero, List.set_cons_succ]
                  go_wp2
                  exact ⟨rfl, rfl, Grew.rf _, rfl⟩
                · rintro _ rfl _ rfl
                  refine StepGoal.nil ?_
                  simp only [Act.put, List.setIfInBounds_toArray, List.set_cons_zero, List.set_cons_succ]
                  go_wp2
                  exact ⟨rfl, rfl, Grew.rf _, rfl⟩
                · rintro _ rfl
                  refine StepGoal.nil ?_
                  simp only [Act.put, List.setIfInBounds_toArray, List.set_cons_zero, List.set_cons_succ]
                  go_wp2
                  exact ⟨rfl, rfl, Grew.rf _, rfl⟩
                · rintro _ rfl
                  refine StepGoal.nil ?_
                  simp only [Act.put, List.setIfInBounds_toArray, List.set_cons_zero, List.set_cons_succ]
                  go_wp2
                  exact ⟨rfl, rfl, Grew.rf _, rfl⟩
                · rintro _ rfl
                  have h6 := HX.out.keep (HGR.out.tr hu); obtain ⟨c0, c1, c2, c3, c4, c5⟩ := h6
                  refine StepGoal.nil ?_
                  simp only [Act.put, List.setIfInBounds_toArray, List.set_cons_zero, List.set_cons_succ]
                  go_wp2
                  exact ⟨rfl, rfl, Grew.rf _, rfl⟩
                · rintro _ rfl
                  refine StepGoal.nil ?_
                  simp only [Act.put, List.setIfInBounds_toArray, List.set_cons_zero, List.set_cons_succ]
                  go_wp2
                  exact ⟨rfl, rfl, Grew.rf _, rfl⟩
                · rintro _ rfl _ rfl _ rfl _ rfl
                  have hha := HHA.out u hu
                  refine StepGoal.nil ?_
                  simp only [Act.put, List.setIfInBounds_toArray, List.set_cons_zero, List.set_cons_succ]
                  go_wp2_with (go_at_call 11; refine Calls.mono hha ?_; rintro e w' ⟨rfl, hg⟩)
                  exact ⟨rfl, rfl, hg, rfl⟩
                · rintro _ rfl
                  refine StepGoal.nil ?_
                  simp only [Act.put, List.setIfInBounds_toArray, List.set_cons_zero, List.set_cons_succ]
                  go_wp2
                  exact ⟨rfl, rfl, Grew.rf _, rfl⟩
                · rintro _ rfl _ rfl
                  have hce := (HX.out.keep (HGR.out.tr hu)).c5
                  refine StepGoal.nil ?_
                  simp only [Act.put, List.setIfInBounds_toArray, List.set_cons_zero, List.set_cons_succ]
                  go_wp2
                  exact ⟨rfl, rfl, Grew.rf _, rfl⟩
                · rintro _ rfl
                  refine StepGoal.nil ?_
                  simp only [Act.put, List.setIfInBounds_toArray, List.set_cons_zero, List.set_cons_succ]
                  go_wp2
                  exact ⟨rfl, rfl, Grew.rf _, rfl⟩
                · rintro _ rfl _ rfl _ rfl
                  refine StepGoal.nil ?_
                  simp only [Act.put, List.setIfInBounds_toArray, List.set_cons_zero, List.set_cons_succ]
                  go_wp2
                  exact ⟨rfl, rfl, Grew.rf _, rfl⟩
                · rintro _ rfl _ rfl _ rfl
                  refine StepGoal.nil ?_
                  simp only [Act.put, List.setIfInBounds_toArray, List.set_cons_zero, List.set_cons_succ]
                  go_wp2
                  exact ⟨rfl, rfl, Grew.rf _, rfl⟩
                · rintro _ rfl _ rfl
                  refine StepGoal.nil ?_
                  simp only [Act.put, List.setIfInBounds_toArray, List.set_cons_zero, List.set_cons_succ]
                  go_wp2
                  exact ⟨rfl, rfl, Grew.rf _, rfl⟩
                · rintro _ rfl
                  refine StepGoal.nil ?_
                  simp only [Act.put, List.setIfInBounds_toArray, List.set_cons_zero, List.set_cons_succ]
                  go_wp2
                  exact ⟨rfl, rfl, Grew.rf _, rfl⟩
                · rintro _ rfl _ rfl
                  refine StepGoal.nil ?_
                  simp only [Act.put, List.setIfInBounds_toArray, List.set_cons_zero, List.set_cons_succ]
                  go_wp2
                  exact ⟨rfl, rfl, Grew.rf _, rfl⟩
                · rintro _ rfl
                  refine StepGoal.nil ?_
                  simp only [Act.put, List.setIfInBounds_toArray, List.set_cons_zero, List.set_cons_succ]
                  go_wp2
                  exact ⟨rfl, rfl, Grew.rf _, rfl⟩
                · rintro _ rfl _ rfl _ rfl
                  refine StepGoal.nil ?_
                  simp only [Act.put, List.setIfInBounds_toArray, List.set_cons_zero, List.set_cons_succ]
                  go_wp2
                  exact ⟨rfl, rfl, Grew.rf _, rfl⟩
                · rintro _ rfl _ rfl _ rfl
                  refine StepGoal.nil ?_
                  simp only [Act.put, List.setIfInBounds_toArray, List.set_cons_zero, List.set_cons_succ]
                  go_wp2
                  exact ⟨rfl, rfl, Grew.rf _, rfl⟩
                · rintro _ rfl _ rfl
                  refine StepGoal.nil ?_
                  simp only [Act.put, List.setIfInBounds_toArray, List.set_cons_zero, List.set_cons_succ]
                  go_wp2
                  exact ⟨rfl, rfl, Grew.rf _, rfl⟩
              · intro u hu
                rintro _ rfl _ rfl _ rfl _ rfl _ rfl _ rfl _ rfl _ rfl _ rfl _ rfl _ rfl _ rfl _ rfl _ rfl _ rfl _ rfl _ rfl _ rfl _ rfl _ rfl _ rfl _ rfl _ rfl _ rfl _ rfl
                refine StepGoal.nil ?_
                simp only [Act.put, List.setIfInBounds_toArray, List.set_cons_zero, List.set_cons_succ]
                have HK6 := Lib.hid (HK5.out.keep (HGJ.out.tr hu))
                have HGU := Lib.hid (HGR.out.tr hu)
                clear hu
                obtain ⟨c0, c1, c2, c3, c4, c5⟩ := HX.out.keep HGU.out
                go_upto_region 23 with (go_at_call 9; refine Calls.mono (kept_drop _ _ _ _ _ _ _ HK6.out) ?_; rintro e w7 ⟨rfl, hK7⟩; have HK7 := Lib.hid hK7; clear hK7 c0 c1 c2 c3 c4 c5)
                go_wp2_with (first | (go_at_call 8; refine Calls.mono (awake15_any _) ?_; rintro e w8 ⟨rfl, hg8⟩; obtain ⟨c0, c1, c2, c3, c4, c5⟩ := HX.out.keep (HK7.out.grew.tr hg8); have HK8 := Lib.hid (HK7.out.keep hg8); clear hg8) | (go_at_call 11; refine Calls.mono (kept_has _ _ _ _ _ x now HK8.out) ?_; rw [has_out]; rintro e w9 ⟨rfl, hg9⟩; have HK9 := Lib.hid (HK8.out.keep hg9); clear hg9))
                go_ret
                exact ⟨rfl, HG.out.tr HK9.out.grew⟩
            · have hha := fun (u : World) (hu : Grew wr u) => kept_has W u p k l2 x now (HK5.out.keep (HGJ.out.tr hu))
              cases hav : l2.any (hasP x now) with
              | true =>
                rw [hav] at hha
                have HHA := Lib.hid hha
                clear hha hav
                refine region_grew [[], [(0, 78)], [], [(1, 79), (2, 80)], [(3, 81)], [(4, 82)], [(4, 82), (5, 83)], [(4, 82), (6, 84)], [(7, 85)], [(8, 86)], [(8, 86)], [(8, 86)], [(8, 86), (9, 87), (10, 88), (11, 89)], [(8, 86)], [(8, 86), (13, 91)], [(8, 86)], [(8, 86), (14, 92), (15, 93)], [(8, 86), (12, 90), (16, 94)], [(8, 86), (17, 95)], [(18, 96)], [(18, 96), (19, 97)], [(18, 96)], [(18, 96), (20, 98), (21, 99)], [(8, 86), (18, 96), (22, 100)], [(8, 86), (23, 101)]] [(0, 78), (1, 79), (2, 80), (3, 81), (4, 82), (5, 83), (6, 84), (7, 85), (8, 86), (9, 87), (10, 88), (11, 89), (12, 90), (13, 91), (14, 92), (15, 93), (16, 94), (17, 95), (18, 96), (19, 97), (20, 98), (21, 99), (22, 100), (23, 101), (24, 102)] (fun
                  | 0 => .eqv (.slice B n2 n2) | 1 => .eqv (.int .i64 (n2 : Int)) | 2 => .eqv (.int .i64 (k : Int)) | 3 => .eqv (.bool false) | 4 => .eqv (.bool false) | 5 => .eqv (.int .i64 1) | 6 => .eqv (.bool false) | 7 => .eqv (.bool false) | 8 => .eqv (.bool false) | 9 => .eqv (.pointer (some ⟨p, 0, none⟩)) | 10 => .eqv (aV x) | 11 => .eqv (.int .i64 now) | 12 => .eqv (.bool true) | 13 => .eqv (.pointer (some ⟨hb, 5, none⟩)) | 14 => .eqv (.int .i64 x.2.2.2.2.2) | 15 => .eqv (.int .i64 now) | 16 => .eqv (.bool false) | 17 => .eqv (.bool true) | 18 => .eqv (.bool true) | 19 => .eqv (.pointer (some ⟨hb, 5, none⟩)) | 20 => .eqv (.int .i64 x.2.2.2.2.2) | 21 => .eqv (.int .i64 now) | 22 => .eqv (.bool false) | 23 => .eqv (.bool false) | 24 => .eqv (.bool false) | _ => .any) (by kernel_rfl) ?_ ?_
                · refine ⟨fun u hu => ?_, fun u hu => ?_, fun u hu => ?_, fun u hu => ?_, fun u hu => ?_, fun u hu => ?_, fun u hu => ?_, fun u hu => ?_, fun u hu => ?_, fun u hu => ?_, fun u hu => ?_, fun u hu => ?_, fun u hu => ?_, fun u hu => ?_, fun u hu => ?_, fun u hu => ?_, fun u hu => ?_, fun u hu => ?_, fun u hu => ?_, fun u hu => ?_, fun u hu => ?_, fun u hu => ?_, fun u hu => ?_, fun u hu => ?_, fun u hu => ?_, trivial⟩
                  · refine StepGoal.nil ?_
                    go_wp2
                    exact ⟨rfl, rfl, Grew.rf _, rfl⟩
                  · rintro _ rfl
                    refine StepGoal.nil ?_
                    simp only [Act.put, List.setIfInBounds_toArray, List.set_cons_zero, List.set_cons_succ]
                    go_wp2
                    exact ⟨rfl, rfl, Grew.rf _, rfl⟩
                  · refine StepGoal.nil ?_
                    go_wp2
                    exact ⟨rfl, rfl, Grew.rf _, rfl⟩
                  · rintro _ rfl _ rfl
                    refine StepGoal.nil ?_
                    simp only [Act.put, List.setIfInBounds_toArray, List.set_cons_zero, List.set_cons_succ]
                    go_wp2
                    exact ⟨rfl, rfl, Grew.rf _, congrArg Value.bool (decide_eq_false (by omega))⟩
                  · rintro _ rfl
                    refine StepGoal.nil ?_
                    simp only [Act.put, List.setIfInBounds_toArray, List.set_cons_zero, List.set_cons_succ]
                    go_wp2
                    exact ⟨rfl, rfl, Grew.rf _, rfl⟩
                  · rintro _ rfl
                    refine StepGoal.nil ?_
                    simp only [Act.put, List.setIfInBounds_toArray, List.set_cons_zero, List.set_cons_succ]
                    go_wp2
                    exact ⟨rfl, rfl, Grew.rf _, rfl⟩
                  · rintro _ rfl _ rfl
                    refine StepGoal.nil ?_
                    simp only [Act.put, List.setIfInBounds_toArray, List.set_cons_zero, List.set_cons_succ]
                    go_wp2
                    exact ⟨rfl, rfl, Grew.rf _, rfl⟩
                  · rintro _ rfl _ rfl
                    refine StepGoal.nil ?_
                    simp only [Act.put, List.setIfInBounds_toArray, List.set_cons_zero, List.set_cons_succ]
                    go_wp2
                    exact ⟨rfl, rfl, Grew.rf _, rfl⟩
                  · rintro _ rfl
                    refine StepGoal.nil ?_
                    simp only [Act.put, List.setIfInBounds_toArray, List.set_cons_zero, List.set_cons_succ]
                    go_wp2
                    exact ⟨rfl, rfl, Grew.rf _, rfl⟩
                  · rintro _ rfl
                    refine StepGoal.nil ?_
                    simp only [Act.put, List.setIfInBounds_toArray, List.set_cons_zero, List.set_cons_succ]
                    go_wp2
                    exact ⟨rfl, rfl, Grew.rf _, rfl⟩
                  · rintro _ rfl
                    have h6 := HX.out.keep (HGR.out.tr hu); obtain ⟨c0, c1, c2, c3, c4, c5⟩ := h6
                    refine StepGoal.nil ?_
                    simp only [Act.put, List.setIfInBounds_toArray, List.set_cons_zero, List.set_cons_succ]
                    go_wp2
                    exact ⟨rfl, rfl, Grew.rf _, rfl⟩
                  · rintro _ rfl
                    refine StepGoal.nil ?_
                    simp only [Act.put, List.setIfInBounds_toArray, List.set_cons_zero, List.set_cons_succ]
                    go_wp2
                    exact ⟨rfl, rfl, Grew.rf _, rfl⟩
                  · rintro _ rfl _ rfl _ rfl _ rfl
                    have hha := HHA.out u hu
                    refine StepGoal.nil ?_
                    simp only [Act.put, List.setIfInBounds_toArray, List.set_cons_zero, List.set_cons_succ]
                    go_wp2_with (go_at_call 11; refine Calls.mono hha ?_; rintro e w' ⟨rfl, hg⟩)
                    exact ⟨rfl, rfl, hg, rfl⟩
                  · rintro _ rfl
                    refine StepGoal.nil ?_
                    simp only [Act.put, List.setIfInBounds_toArray, List.set_cons_zero, List.set_cons_succ]
                    go_wp2
                    exact ⟨rfl, rfl, Grew.rf _, rfl⟩
                  · rintro _ rfl _ rfl
                    have hce := (HX.out.keep (HGR.out.tr hu)).c5
                    refine StepGoal.nil ?_
                    simp only [Act.put, List.setIfInBounds_toArray, List.set_cons_zero, List.set_cons_succ]
                    go_wp2
                    exact ⟨rfl, rfl, Grew.rf _, rfl⟩
                  · rintro _ rfl
                    refine StepGoal.nil ?_
                    simp only [Act.put, List.setIfInBounds_toArray, List.set_cons_zero, List.set_cons_succ]
                    go_wp2
                    exact ⟨rfl, rfl, Grew.rf _, rfl⟩
                  · rintro _ rfl _ rfl _ rfl
                    refine StepGoal.nil ?_
                    simp only [Act.put, List.setIfInBounds_toArray, List.set_cons_zero, List.set_cons_succ]
                    go_wp2
                    exact ⟨rfl, rfl, Grew.rf _, rfl⟩
                  · rintro _ rfl _ rfl _ rfl
                    refine StepGoal.nil ?_
                    simp only [Act.put, List.setIfInBounds_toArray, List.set_cons_zero, List.set_cons_succ]
                    go_wp2
                    exact ⟨rfl, rfl, Grew.rf _, rfl⟩
                  · rintro _ rfl _ rfl
                    refine StepGoal.nil ?_
                    simp only [Act.put, List.setIfInBounds_toArray, List.set_cons_zero, List.set_cons_succ]
                    go_wp2
                    exact ⟨rfl, rfl, Grew.rf _, rfl⟩
                  · rintro _ rfl
                    refine StepGoal.nil ?_
                    simp only [Act.put, List.setIfInBounds_toArray, List.set_cons_zero, List.set_cons_succ]
                    go_wp2
                    exact ⟨rfl, rfl, Grew.rf _, rfl⟩
                  · rintro _ rfl _ rfl
                    have hce := (HX.out.keep (HGR.out.tr hu)).c5
                    refine StepGoal.nil ?_
                    simp only [Act.put, List.setIfInBounds_toArray, List.set_cons_zero, List.set_cons_succ]
                    go_wp2
                    exact ⟨rfl, rfl, Grew.rf _, rfl⟩
                  · rintro _ rfl
                    refine StepGoal.nil ?_
                    simp only [Act.put, List.setIfInBounds_toArray, List.set_cons_zero, List.set_cons_succ]
                    go_wp2
                    exact ⟨rfl, rfl, Grew.rf _, rfl⟩
                  · rintro _ rfl _ rfl _ rfl
                    refine StepGoal.nil ?_
                    simp only [Act.put, List.setIfInBounds_toArray, List.set_cons_zero, List.set_cons_succ]
                    go_wp2
                    exact ⟨rfl, rfl, Grew.rf _, rfl⟩
                  · rintro _ rfl _ rfl _ rfl
                    refine StepGoal.nil ?_
                    simp only [Act.put, List.setIfInBounds_toArray, List.set_cons_zero, List.set_cons_succ]
                    go_wp2
                    exact ⟨rfl, rfl, Grew.rf _, rfl⟩
                  · rintro _ rfl _ rfl
                    refine StepGoal.nil ?_
                    simp only [Act.put, List.setIfInBounds_toArray, List.set_cons_zero, List.set_cons_succ]
                    go_wp2
                    exact ⟨rfl, rfl, Grew.rf _, rfl⟩
                · intro u hu
                  rintro _ rfl _ rfl _ rfl _ rfl _ rfl _ rfl _ rfl _ rfl _ rfl _ rfl _ rfl _ rfl _ rfl _ rfl _ rfl _ rfl _ rfl _ rfl _ rfl _ rfl _ rfl _ rfl _ rfl _ rfl _ rfl
                  refine StepGoal.nil ?_
                  simp only [Act.put, List.setIfInBounds_toArray, List.set_cons_zero, List.set_cons_succ]
                  have HK6 := Lib.hid (HK5.out.keep (HGJ.out.tr hu))
                  have HGU := Lib.hid (HGR.out.tr hu)
                  clear hu
                  obtain ⟨c0, c1, c2, c3, c4, c5⟩ := HX.out.keep HGU.out
                  go_upto_region 23 with (go_at_call 9; refine Calls.mono (kept_drop _ _ _ _ _ _ _ HK6.out) ?_; rintro e w7 ⟨rfl, hK7⟩; have HK7 := Lib.hid hK7; clear hK7 c0 c1 c2 c3 c4 c5)
                  go_wp2_with (first | (go_at_call 8; refine Calls.mono (awake15_any _) ?_; rintro e w8 ⟨rfl, hg8⟩; obtain ⟨c0, c1, c2, c3, c4, c5⟩ := HX.out.keep (HK7.out.grew.tr hg8); have HK8 := Lib.hid (HK7.out.keep hg8); clear hg8) | (go_at_call 11; refine Calls.mono (kept_has _ _ _ _ _ x now HK8.out) ?_; rw [has_out]; rintro e w9 ⟨rfl, hg9⟩; have HK9 := Lib.hid (HK8.out.keep hg9); clear hg9))
                  go_ret
                  exact ⟨rfl, HG.out.tr HK9.out.grew⟩
              | false =>
                rw [hav] at hha
                have HHA := Lib.hid hha
                clear hha hav
                refine region_grew [[], [(0, 78)], [], [(1, 79), (2, 80)], [(3, 81)], [(4, 82)], [(4, 82), (5, 83)], [(4, 82), (6, 84)], [(7, 85)], [(8, 86)], [(8, 86)], [(8, 86)], [(8, 86), (9, 87), (10, 88), (11, 89)], [(8, 86)], [(8, 86), (13, 91)], [(8, 86)], [(8, 86), (14, 92), (15, 93)], [(8, 86), (12, 90), (16, 94)], [(8, 86), (17, 95)], [(18, 96)], [(18, 96), (19, 97)], [(18, 96)], [(18, 96), (20, 98), (21, 99)], [(8, 86), (18, 96), (22, 100)], [(8, 86), (23, 101)]] [(0, 78), (1, 79), (2, 80), (3, 81), (4, 82), (5, 83), (6, 84), (7, 85), (8, 86), (9, 87), (10, 88), (11, 89), (12, 90), (13, 91), (14, 92), (15, 93), (16, 94), (17, 95), (18, 96), (19, 97), (20, 98), (21, 99), (22, 100), (23, 101), (24, 102)] (fun
                  | 0 => .eqv (.slice B n2 n2) | 1 => .eqv (.int .i64 (n2 : Int)) | 2 => .eqv (.int .i64 (k : Int)) | 3 => .eqv (.bool false) | 4 => .eqv (.bool false) | 5 => .eqv (.int .i64 1) | 6 => .eqv (.bool false) | 7 => .eqv (.bool false) | 8 => .eqv (.bool false) | 9 => .eqv (.pointer (some ⟨p, 0, none⟩)) | 10 => .eqv (aV x) | 11 => .eqv (.int .i64 now) | 12 => .eqv (.bool false) | 13 => .eqv (.pointer (some ⟨hb, 5, none⟩)) | 14 => .eqv (.int .i64 x.2.2.2.2.2) | 15 => .eqv (.int .i64 now) | 16 => .eqv (.bool false) | 17 => .eqv (.bool false) | 18 => .eqv (.bool false) | 19 => .eqv undef | 20 => .eqv undef | 21 => .eqv undef | 22 => .eqv undef | 23 => .eqv (.bool false) | 24 => .eqv (.bool false) | _ => .any) (by kernel_rfl) ?_ ?_
                · refine ⟨fun u hu => ?_, fun u hu => ?_, fun u hu => ?_, fun u hu => ?_, fun u hu => ?_, fun u hu => ?_, fun u hu => ?_, fun u hu => ?_, fun u hu => ?_, fun u hu => ?_, fun u hu => ?_, fun u hu => ?_, fun u hu => ?_, fun u hu => ?_, fun u hu => ?_, fun u hu => ?_, fun u hu => ?_, fun u hu => ?_, fun u hu => ?_, fun u hu => ?_, fun u hu => ?_, fun u hu => ?_, fun u hu => ?_, fun u hu => ?_, fun u hu => ?_, trivial⟩
                  · refine StepGoal.nil ?_
                    go_wp2
                    exact ⟨rfl, rfl, Grew.rf _, rfl⟩
                  · rintro _ rfl
                    refine StepGoal.nil ?_
                    simp only [Act.put, List.setIfInBounds_toArray, List.set_cons_zero, List.set_cons_succ]
                    go_wp2
                    exact ⟨rfl, rfl, Grew.rf _, rfl⟩
                  · refine StepGoal.nil ?_
                    go_wp2
                    exact ⟨rfl, rfl, Grew.rf _, rfl⟩
                  · rintro _ rfl _ rfl
                    refine StepGoal.nil ?_
                    simp only [Act.put, List.setIfInBounds_toArray, List.set_cons_zero, List.set_cons_succ]
                    go_wp2
                    exact ⟨rfl, rfl, Grew.rf _, congrArg Value.bool (decide_eq_false (by omega))⟩
                  · rintro _ rfl
                    refine StepGoal.nil ?_
                    simp only [Act.put, List.setIfInBounds_toArray, List.set_cons_zero, List.set_cons_succ]
                    go_wp2
                    exact ⟨rfl, rfl, Grew.rf _, rfl⟩
                  · rintro _ rfl
                    refine StepGoal.nil ?_
                    simp only [Act.put, List.setIfInBounds_toArray, List.set_cons_zero, List.set_cons_succ]
                    go_wp2
                    exact ⟨rfl, rfl, Grew.rf _, rfl⟩
                  · rintro _ rfl _ rfl
                    refine StepGoal.nil ?_
                    simp only [Act.put, List.setIfInBounds_toArray, List.set_cons_zero, List.set_cons_succ]
                    go_wp2
                    exact ⟨rfl, rfl, Grew.rf _, rfl⟩
                  · rintro _ rfl _ rfl
                    refine StepGoal.nil ?_
                    simp only [Act.put, List.setIfInBounds_toArray, List.set_cons_zero, List.set_cons_succ]
                    go_wp2
                    exact ⟨rfl, rfl, Grew.rf _, rfl⟩
                  · rintro _ rfl
                    refine StepGoal.nil ?_
                    simp only [Act.put, List.setIfInBounds_toArray, List.set_cons_zero, List.set_cons_succ]
                    go_wp2
                    exact ⟨rfl, rfl, Grew.rf _, rfl⟩
                  · rintro _ rfl
                    refine StepGoal.nil ?_
                    simp only [Act.put, List.setIfInBounds_toArray, List.set_cons_zero, List.set_cons_succ]
                    go_wp2
                    exact ⟨rfl, rfl, Grew.rf _, rfl⟩
                  · rintro _ rfl
                    have h6 := HX.out.keep (HGR.out.tr hu); obtain ⟨c0, c1, c2, c3, c4, c5⟩ := h6
                    refine StepGoal.nil ?_
                    simp only [Act.put, List.setIfInBounds_toArray, List.set_cons_zero, List.set_cons_succ]
                    go_wp2
                    exact ⟨rfl, rfl, Grew.rf _, rfl⟩
                  · rintro _ rfl
                    refine StepGoal.nil ?_
                    simp only [Act.put, List.setIfInBounds_toArray, List.set_cons_zero, List.set_cons_succ]
                    go_wp2
                    exact ⟨rfl, rfl, Grew.rf _, rfl⟩
                  · rintro _ rfl _ rfl _ rfl _ rfl
                    have hha := HHA.out u hu
                    refine StepGoal.nil ?_
                    simp only [Act.put, List.setIfInBounds_toArray, List.set_cons_zero, List.set_cons_succ]
                    go_wp2_with (go_at_call 11; refine Calls.mono hha ?_; rintro e w' ⟨rfl, hg⟩)
                    exact ⟨rfl, rfl, hg, rfl⟩
                  · rintro _ rfl
                    refine StepGoal.nil ?_
                    simp only [Act.put, List.setIfInBounds_toArray, List.set_cons_zero, List.set_cons_succ]
                    go_wp2
                    exact ⟨rfl, rfl, Grew.rf _, rfl⟩
                  · rintro _ rfl _ rfl
                    have hce := (HX.out.keep (HGR.out.tr hu)).c5
                    refine StepGoal.nil ?_
                    simp only [Act.put, List.setIfInBounds_toArray, List.set_cons_zero, List.set_cons_succ]
                    go_wp2
                    exact ⟨rfl, rfl, Grew.rf _, rfl⟩
                  · rintro _ rfl
                    refine StepGoal.nil ?_
                    simp only [Act.put, List.setIfInBounds_toArray, List.set_cons_zero, List.set_cons_succ]
                    go_wp2
                    exact ⟨rfl, rfl, Grew.rf _, rfl⟩
                  · rintro _ rfl _ rfl _ rfl
                    refine StepGoal.nil ?_
                    simp only [Act.put, List.setIfInBounds_toArray, List.set_cons_zero, List.set_cons_succ]
                    go_wp2
                    exact ⟨rfl, rfl, Grew.rf _, rfl⟩
                  · rintro _ rfl _ rfl _ rfl
                    refine StepGoal.nil ?_
                    simp only [Act.put, List.setIfInBounds_toArray, List.set_cons_zero, List.set_cons_succ]
                    go_wp2
                    exact ⟨rfl, rfl, Grew.rf _, rfl⟩
                  · rintro _ rfl _ rfl
                    refine StepGoal.nil ?_
                    simp only [Act.put, List.setIfInBounds_toArray, List.set_cons_zero, List.set_cons_succ]
                    go_wp2
                    exact ⟨rfl, rfl, Grew.rf _, rfl⟩
                  · rintro _ rfl
                    refine StepGoal.nil ?_
                    simp only [Act.put, List.setIfInBounds_toArray, List.set_cons_zero, List.set_cons_succ]
                    go_wp2
                    exact ⟨rfl, rfl, Grew.rf _, rfl⟩
                  · rintro _ rfl _ rfl
                    refine StepGoal.nil ?_
                    simp only [Act.put, List.setIfInBounds_toArray, List.set_cons_zero, List.set_cons_succ]
                    go_wp2
                    exact ⟨rfl, rfl, Grew.rf _, rfl⟩
                  · rintro _ rfl
                    refine StepGoal.nil ?_
                    simp only [Act.put, List.setIfInBounds_toArray, List.set_cons_zero, List.set_cons_succ]
                    go_wp2
                    exact ⟨rfl, rfl, Grew.rf _, rfl⟩
                  · rintro _ rfl _ rfl _ rfl
                    refine StepGoal.nil ?_
                    simp only [Act.put, List.setIfInBounds_toArray, List.set_cons_zero, List.set_cons_succ]
                    go_wp2
                    exact ⟨rfl, rfl, Grew.rf _, rfl⟩
                  · rintro _ rfl _ rfl _ rfl
                    refine StepGoal.nil ?_
                    simp only [Act.put, List.setIfInBounds_toArray, List.set_cons_zero, List.set_cons_succ]
                    go_wp2
                    exact ⟨rfl, rfl, Grew.rf _, rfl⟩
                  · rintro _ rfl _ rfl
                    refine StepGoal.nil ?_
                    simp only [Act.put, List.setIfInBounds_toArray, List.set_cons_zero, List.set_cons_succ]
                    go_wp2
                    exact ⟨rfl, rfl, Grew.rf _, rfl⟩
                · intro u hu
                  rintro _ rfl _ rfl _ rfl _ rfl _ rfl _ rfl _ rfl _ rfl _ rfl _ rfl _ rfl _ rfl _ rfl _ rfl _ rfl _ rfl _ rfl _ rfl _ rfl _ rfl _ rfl _ rfl _ rfl _ rfl _ rfl
                  refine StepGoal.nil ?_
                  simp only [Act.put, List.setIfInBounds_toArray, List.set_cons_zero, List.set_cons_succ]
                  have HK6 := Lib.hid (HK5.out.keep (HGJ.out.tr hu))
                  have HGU := Lib.hid (HGR.out.tr hu)
                  clear hu
                  obtain ⟨c0, c1, c2, c3, c4, c5⟩ := HX.out.keep HGU.out
                  go_upto_region 23 with (go_at_call 9; refine Calls.mono (kept_drop _ _ _ _ _ _ _ HK6.out) ?_; rintro e w7 ⟨rfl, hK7⟩; have HK7 := Lib.hid hK7; clear hK7 c0 c1 c2 c3 c4 c5)
                  go_wp2_with (first | (go_at_call 8; refine Calls.mono (awake15_any _) ?_; rintro e w8 ⟨rfl, hg8⟩; obtain ⟨c0, c1, c2, c3, c4, c5⟩ := HX.out.keep (HK7.out.grew.tr hg8); have HK8 := Lib.hid (HK7.out.keep hg8); clear hg8) | (go_at_call 11; refine Calls.mono (kept_has _ _ _ _ _ x now HK8.out) ?_; rw [has_out]; rintro e w9 ⟨rfl, hg9⟩; have HK9 := Lib.hid (HK8.out.keep hg9); clear hg9))
                  go_ret
                  exact ⟨rfl, HG.out.tr HK9.out.grew⟩
end Go.Proofs.Ytcllmhabhbnihaa
