/- Memo's reference: same, New, Drop, Same. -/
import Derived.Test.YtcllmhabhbnihaaMemo13
set_option linter.unusedVariables false
set_option linter.unusedSimpArgs false
namespace Go.Proofs.Ytcllmhabhbnihaa
open Go.RowKit

set_option maxHeartbeats 1600000 in
theorem same15_any (a b : Ask) (w : World) : Calls Try.prog 27 #[aV a, aV b] w fun e w' => e = .returned (.bool (decide (thA a = thA b))) ∧ Grew w w' := by
  by_cases h0 : a.1 = b.1
  · have e0 : (a.1.toList == b.1.toList) = true := by simp [h0]
    by_cases h1 : a.2.1 = b.2.1
    · have e1 : (a.2.1.toList == b.2.1.toList) = true := by simp [h1]
      by_cases h2 : a.2.2.1 = b.2.2.1
      · have e2 : (a.2.2.1 == b.2.2.1) = true := by simp [h2]
        by_cases h3 : a.2.2.2.1 = b.2.2.2.1
        · have e3 : (a.2.2.2.1.toList == b.2.2.2.1.toList) = true := by simp [h3]
          by_cases h4 : a.2.2.2.2.1 = b.2.2.2.2.1
          · have e4 : (a.2.2.2.2.1.toList == b.2.2.2.2.1.toList) = true := by simp [h4]
            have HD : RowKit.Hid (decide (thA a = thA b) = true) := decide_eq_true (by simp [thA, h0, h1, h2, h3, h4])
            clear h0 h1 h2 h3 h4
            go_enter Try.func27, Try.ntmps27
            go_wp2
            go_ret
            exact ⟨by rw [HD.out]; rfl, ((Grew.rf w).al _).al _⟩
          · have e4 : (a.2.2.2.2.1.toList == b.2.2.2.2.1.toList) = false := by simpa [toList_eq_iff] using h4
            have HD : RowKit.Hid (decide (thA a = thA b) = false) := decide_eq_false (fun e => h4 (by simpa [thA] using congrArg (fun q : Ask => q.2.2.2.2.1) e))
            clear h0 h1 h2 h3 h4
            go_enter Try.func27, Try.ntmps27
            go_wp2
            go_ret
            exact ⟨by rw [HD.out]; rfl, ((Grew.rf w).al _).al _⟩
        · have e3 : (a.2.2.2.1.toList == b.2.2.2.1.toList) = false := by simpa [toList_eq_iff] using h3
          have HD : RowKit.Hid (decide (thA a = thA b) = false) := decide_eq_false (fun e => h3 (by simpa [thA] using congrArg (fun q : Ask => q.2.2.2.1) e))
          clear h0 h1 h2 h3
          go_enter Try.func27, Try.ntmps27
          go_wp2
          go_ret
          exact ⟨by rw [HD.out]; rfl, ((Grew.rf w).al _).al _⟩
      · have e2 : (a.2.2.1 == b.2.2.1) = false := by simp [h2]
        have HD : RowKit.Hid (decide (thA a = thA b) = false) := decide_eq_false (fun e => h2 (by simpa [thA] using congrArg (fun q : Ask => q.2.2.1) e))
        clear h0 h1 h2
        go_enter Try.func27, Try.ntmps27
        go_wp2
        go_ret
        exact ⟨by rw [HD.out]; rfl, ((Grew.rf w).al _).al _⟩
    · have e1 : (a.2.1.toList == b.2.1.toList) = false := by simpa [toList_eq_iff] using h1
      have HD : RowKit.Hid (decide (thA a = thA b) = false) := decide_eq_false (fun e => h1 (by simpa [thA] using congrArg (fun q : Ask => q.2.1) e))
      clear h0 h1
      go_enter Try.func27, Try.ntmps27
      go_wp2
      go_ret
      exact ⟨by rw [HD.out]; rfl, ((Grew.rf w).al _).al _⟩
  · have e0 : (a.1.toList == b.1.toList) = false := by simpa [toList_eq_iff] using h0
    have HD : RowKit.Hid (decide (thA a = thA b) = false) := decide_eq_false (fun e => h0 (by simpa [thA] using congrArg (fun q : Ask => q.1) e))
    clear h0
    go_enter Try.func27, Try.ntmps27
    go_wp2
    go_ret
    exact ⟨by rw [HD.out]; rfl, ((Grew.rf w).al _).al _⟩

/-- The reference's memo at block q. -/
structure RmI (w : World) (q : Nat) (A : Option Addr) (n c : Nat) (most : Nat) (l : List Ask) : Prop where
  cells : w.heap[q]? = some (.cells #[.int .i64 (most : Int), .slice A n c] 42)
  rd : RdA w A n l
  nil : A = none → n = 0 ∧ c = 0
  cap : n ≤ c ∧ c ≤ 9223372036854775807
  few : n ≤ most
  pos : 1 ≤ most
  most : most ≤ 64
  apart : ∀ ad, A = some ad → ad.block ≠ q
  low : ∀ ad, A = some ad → ad.block < w.heap.size
theorem RmI.chg {w w' : World} {q n c m : Nat} {A : Option Addr} {l : List Ask} {F : Nat → Prop} (h : RmI w q A n c m l) (hg : Chg F w w') (hq : ¬ F q) (hF : ∀ ad, A = some ad → ¬ F ad.block) : RmI w' q A n c m l :=
  ⟨hg.by_ h.cells hq, h.rd.chg hg (fun _ => hF), h.nil, h.cap, h.few, h.pos, h.most, h.apart, fun ad e => Nat.lt_of_lt_of_le (h.low ad e) hg.size⟩
theorem RmI.keep {w w' : World} {q n c m : Nat} {A : Option Addr} {l : List Ask} (h : RmI w q A n c m l) (hg : Grew w w') : RmI w' q A n c m l := h.chg (F := fun _ => False) (Chg.of hg) (fun h => h) (fun _ _ h => h)
theorem RmI.lt {w : World} {q n c m : Nat} {A : Option Addr} {l : List Ask} (h : RmI w q A n c m l) : q < w.heap.size := (Array.getElem?_eq_some_iff.1 h.cells).1
/-- What a deed leaves of it. -/
structure RmQ (w w' : World) (q m : Nat) (l' : List Ask) : Prop where
  memo : ∃ A n c, RmI w' q A n c m l' ∧ ∀ ad, A = some ad → w.heap.size ≤ ad.block
  chg : Chg (fun k => k = q) w w'
theorem rnew_any (most : Nat) (w : World) (h1 : 1 ≤ most) (h2 : most ≤ 64) : Calls Try.prog 7 #[.int .i64 (most : Int)] w fun e w' => ∃ q, e = .returned (.tuple #[.pointer (some ⟨q, 0, none⟩), .int .i64 0]) ∧ RmI w' q none 0 0 most [] ∧ Grew w w' ∧ w.heap.size ≤ q := by
  go_enter Try.func7, Try.ntmps7
  go_wp2
  go_ret2
  exact ⟨_, rfl, ⟨heap_alloc_new w _, RdV.nil _ _ _, fun _ => ⟨rfl, rfl⟩, ⟨by omega, by omega⟩, by omega, h1, h2, (fun _ e => by cases e), (fun _ e => by cases e)⟩, (Grew.rf w).al _, Nat.le_refl _⟩
theorem rnew_none (most : Int) (w : World) (h1 : most < 1 ∨ 64 < most) : Calls Try.prog 7 #[.int .i64 most] w fun e w' => e = .returned (.tuple #[.pointer none, .int .i64 1]) ∧ w = w' := by
  rcases h1 with h1 | h1
  · go_enter Try.func7, Try.ntmps7
    go_wp2
    go_ret2
    exact ⟨rfl, rfl⟩
  · have h2 : ¬ most < 1 := by omega
    go_enter Try.func7, Try.ntmps7
    go_wp2
    go_ret2
    exact ⟨rfl, rfl⟩

set_option maxRecDepth 100000 in
set_option maxHeartbeats 1600000 in
theorem Same15_any (A : Option Addr) (n c : Nat) (l : List Ask) (B : Option Addr) (m d : Nat) (l2 : List Ask) (w : World) (hA : RdA w A n l) (hB : RdA w B m l2) (hn : n ≤ 64) (hm : m ≤ 64) :
    Calls Try.prog 15 #[.slice A n c, .slice B m d] w fun e w' => e = .returned (.bool (decide (l = l2))) ∧ Grew w w' := by
  have hl1 := hA.lenA
  have hl2 := hB.lenA
  have HA := Lib.hid hA
  have HB := Lib.hid hB
  have HL1 := Lib.hid hl1
  have HL2 := Lib.hid hl2
  by_cases hnm : n = m
  · subst hnm
    clear hA hB hl1 hl2
    go_enter Try.func15, Try.ntmps15
    go_wp2_with fail
    go_loopw [5] (fun s5 wr => ∃ (i : Nat), s5 = .int .i64 (i : Int) ∧ i ≤ n ∧ RowKit.Hid (l.take i = l2.take i) ∧ RowKit.Hid (Grew w wr)) (fun s5 _ => n - (intOf s5).toNat)
    case atStart => exact ⟨0, rfl, by omega, Lib.hid rfl, Lib.hid (Grew.rf w)⟩
    case round =>
      obtain ⟨i, rfl, hin, HE, HG⟩ := hrel
      by_cases hlt : i < n
      · obtain ⟨b1, o1, x, rfl, hx, h6⟩ := HA.out.atA hlt
        obtain ⟨b2, o2, y, rfl, hy, g6⟩ := HB.out.atA hlt
        have H6 := Lib.hid (h6.keep HG.out)
        have G6 := Lib.hid (g6.keep HG.out)
        have HX := Lib.hid hx
        have HY := Lib.hid hy
        clear hx hy h6 g6
        go_upto_region 6 with fail
        go_cut [25] from 11 to 25 (fun f wx => f = .bool (!decide (x = y)) ∧ Grew wr wx)
        case first =>
          refine region_grew [[], [], [(0, 17), (1, 18)], [(2, 19)], [], [], [(4, 21), (5, 22)], [(6, 23)], [(3, 20), (7, 24)]] [(0, 17), (1, 18), (2, 19), (3, 20), (4, 21), (5, 22), (6, 23), (7, 24), (8, 25)] (fun
            | 0 => .eqv (.slice (some ⟨b1, o1, none⟩) n c) | 1 => .eqv (.int .i64 (i : Int)) | 2 => .eqv (.pointer (some ⟨b1, o1 + i * 6, none⟩)) | 3 => .eqv (aV x) | 4 => .eqv (.slice (some ⟨b2, o2, none⟩) n d) | 5 => .eqv (.int .i64 (i : Int)) | 6 => .eqv (.pointer (some ⟨b2, o2 + i * 6, none⟩)) | 7 => .eqv (aV y) | 8 => .eqv (.bool (!decide (x = y))) | _ => .any) (by kernel_rfl) ?_ ?_
          · refine ⟨fun u hu => ?_, fun u hu => ?_, fun u hu => ?_, fun u hu => ?_, fun u hu => ?_, fun u hu => ?_, fun u hu => ?_, fun u hu => ?_, fun u hu => ?_, trivial⟩
            · refine StepGoal.nil ?_
              go_wp2
              exact ⟨rfl, rfl, Grew.rf _, rfl⟩
            · refine StepGoal.nil ?_
              go_wp2
              exact ⟨rfl, rfl, Grew.rf _, rfl⟩
            · rintro _ rfl _ rfl
              refine StepGoal.nil ?_
              simp only [Act.put, List.setIfInBounds_toArray, List.set_cons_zero, List.set_cons_succ]
              go_wp2
              exact ⟨rfl, rfl, Grew.rf _, rfl⟩
            · rintro _ rfl
              obtain ⟨c0, c1, c2, c3, c4, c5⟩ := H6.out.keep hu
              refine StepGoal.nil ?_
              simp only [Act.put, List.setIfInBounds_toArray, List.set_cons_zero, List.set_cons_succ]
              go_wp2
              exact ⟨rfl, rfl, Grew.rf _, rfl⟩
            · refine StepGoal.nil ?_
              go_wp2
              exact ⟨rfl, rfl, Grew.rf _, rfl⟩
            · refine StepGoal.nil ?_
              go_wp2
              exact ⟨rfl, rfl, Grew.rf _, rfl⟩
            · rintro _ rfl _ rfl
              refine StepGoal.nil ?_
              simp only [Act.put, List.setIfInBounds_toArray, List.set_cons_zero, List.set_cons_succ]
              go_wp2
              exact ⟨rfl, rfl, Grew.rf _, rfl⟩
            · rintro _ rfl
              obtain ⟨c0, c1, c2, c3, c4, c5⟩ := G6.out.keep hu
              refine StepGoal.nil ?_
              simp only [Act.put, List.setIfInBounds_toArray, List.set_cons_zero, List.set_cons_succ]
              go_wp2
              exact ⟨rfl, rfl, Grew.rf _, rfl⟩
            · rintro _ rfl _ rfl
              have hgd := ask_guard; have hbe := fun w => ask_neq x y w
              refine StepGoal.nil ?_
              simp only [Act.put, List.setIfInBounds_toArray, List.set_cons_zero, List.set_cons_succ]
              go_wp2
              exact ⟨rfl, rfl, Grew.rf _, rfl⟩
          · intro u hu
            rintro _ rfl _ rfl _ rfl _ rfl _ rfl _ rfl _ rfl _ rfl _ rfl
            refine StepGoal.nil ?_
            simp only [Act.put, List.setIfInBounds_toArray, List.set_cons_zero, List.set_cons_succ]
            go_wp2_with fail
            go_meet
            exact ⟨rfl, hu⟩
        case rest =>
          obtain ⟨rfl, hgc⟩ := hcut
          have HGC := Lib.hid (HG.out.tr hgc)
          clear hgc
          by_cases he : x = y
          · rw [decide_eq_true he]
            have HE2 := Lib.hid he
            clear he
            go_wp2
            go_roundw
            case rel =>
              refine ⟨i + 1, by go_num, by omega, Lib.hid ?_, HGC⟩
              rw [List.take_add_one, List.take_add_one, HE.out, HX.out, HY.out, HE2.out]
            case measure => simp [intOf]; omega
          · rw [decide_eq_false he]
            have HE2 := Lib.hid he
            clear he
            go_wp2
            go_ret
            have hd : decide (l = l2) = false := decide_eq_false (fun e => by
              have h1 := HX.out
              rw [e, HY.out] at h1
              exact HE2.out (Option.some.inj h1).symm)
            exact ⟨by rw [hd]; rfl, HGC.out⟩
      · have hii : i = n := by omega
        have hd : decide (l = l2) = true := by
          refine decide_eq_true ?_
          have := HE.out
          rw [List.take_of_length_le (by rw [HL1.out]; omega), List.take_of_length_le (by rw [HL2.out]; omega)] at this
          exact this
        have HD := Lib.hid hd
        clear hd hii
        go_wp2
        go_ret
        exact ⟨by rw [HD.out]; rfl, HG.out⟩
  · have hd : decide (l = l2) = false := decide_eq_false (fun e => hnm (by rw [← hl1, ← hl2, e]))
    have hnb : ((n : Int) == (m : Int)) = false := by simp; omega
    have HD := Lib.hid hd
    clear hA hB hl1 hl2 hd
    go_enter Try.func15, Try.ntmps15
    go_wp2_with fail
    go_ret
    exact ⟨by rw [HD.out]; rfl, Grew.rf w⟩
end Go.Proofs.Ytcllmhabhbnihaa
