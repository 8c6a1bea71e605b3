/- Memo's reference: Has. -/
import Derived.Test.YtcllmhabhbnihaaMemo15
set_option linter.unusedVariables false
set_option linter.unusedSimpArgs false
namespace Go.Proofs.Ytcllmhabhbnihaa
open Go.RowKit

def skipA (now : Int) (y1 x1 y2 x2 : ByteArray) (y3 x3 : Bool) (y6 : Int) : Bool := !(decide (now < y6) && (decide (y1 = x1) && (decide (y2 = x2) && (y3 || !x3))))
def methR (y4 x4 : ByteArray) (y3 : Bool) : Bool := decide (y4 = x4) || (!y3 && decide (y4 = starB) && !decide (x4 = nilB))
def headR (y5 x5 : ByteArray) (y3 : Bool) : Bool := decide (y5 = x5) || (!y3 && decide (y5 = starB) && !decide (x5 = nilB) && !decide (x5 = secB))
theorem methR_eq (x y : Ask) : methA x y = methR y.2.2.2.1 x.2.2.2.1 y.2.2.1 := by
  obtain ⟨x1, x2, x3, x4, x5, x6⟩ := x
  obtain ⟨y1, y2, y3, y4, y5, y6⟩ := y
  unfold methA methR oneA
  dsimp only
  by_cases h : x4 = secB
  · have hn : decide (x4 = nilB) = false := by subst h; decide
    rw [decide_eq_true h, hn]
    generalize decide (y4 = x4) = a
    generalize decide (y4 = starB) = b
    revert a b y3
    decide
  · rw [decide_eq_false h]
    generalize decide (y4 = x4) = a
    generalize decide (y4 = starB) = b
    generalize decide (x4 = nilB) = c
    revert a b c y3
    decide
theorem hasR_eq (x y : Ask) (now : Int) : hasP x now y = (!skipA now y.1 x.1 y.2.1 x.2.1 y.2.2.1 x.2.2.1 y.2.2.2.2.2 && (methR y.2.2.2.1 x.2.2.2.1 y.2.2.1 && headR y.2.2.2.2.1 x.2.2.2.2.1 y.2.2.1)) := by
  unfold hasP skipA
  rw [methR_eq]
  rw [show oneA y.2.2.2.2.1 x.2.2.2.2.1 (!y.2.2.1) = headR y.2.2.2.2.1 x.2.2.2.2.1 y.2.2.1 from rfl]
  rw [Bool.not_not]
  simp only [Bool.and_assoc]

set_option maxRecDepth 100000 in
set_option maxHeartbeats 3200000 in
theorem rhas_any (q : Nat) (A : Option Addr) (n c m : Nat) (l : List Ask) (x : Ask) (now : Int) (w : World) (hI : RmI w q A n c m l) :
    Calls Try.prog 12 #[.pointer (some ⟨q, 0, none⟩), aV x, .int .i64 now] w fun e w' => e = .returned (.bool (l.any (hasP x now))) ∧ Grew w w' := by
  have hl := hI.rd.lenA
  have hfew := hI.few
  have hmm := hI.most
  obtain ⟨hnc, hcc⟩ := hI.cap
  have hx := six_new w x 32
  obtain ⟨xb, hxb⟩ : ∃ xb, w.heap.size = xb := ⟨_, rfl⟩
  obtain ⟨W, hW⟩ : ∃ W, w.alloc (.cells #[.string x.1, .string x.2.1, .bool x.2.2.1, .string x.2.2.2.1, .string x.2.2.2.2.1, .int .i64 x.2.2.2.2.2] 32) = W := ⟨_, rfl⟩
  have hg : Grew w W := by rw [← hW]; exact (Grew.rf w).al _
  rw [hxb, hW] at hx
  have HI := Lib.hid hI
  have HL := Lib.hid hl
  have HX := Lib.hid hx
  have HG0 := Lib.hid hg
  have HW := Lib.hid hW
  have HXB := Lib.hid hxb
  clear hI hl hx hg hW hxb
  go_enter Try.func12, Try.ntmps12
  go_upto_region 1 with fail
  rw [HW.out, HXB.out]
  go_wp2_with fail
  go_loopw [7] (fun s7 wr => ∃ (i : Nat), s7 = .int .i64 (i : Int) ∧ i ≤ n ∧ RowKit.Hid ((l.take i).any (hasP x now) = false) ∧ RowKit.Hid (Grew W wr)) (fun s7 _ => n - (intOf s7).toNat)
  case atStart => exact ⟨0, rfl, by omega, Lib.hid rfl, Lib.hid (Grew.rf W)⟩
  case round =>
    obtain ⟨i, rfl, hin, HN, HG⟩ := hrel
    have hce := cell_of_heap (i := 1) (HI.out.keep (HG0.out.tr HG.out)).cells rfl
    simp only [List.getElem_toArray, List.getElem_cons_zero, List.getElem_cons_succ] at hce
    by_cases hlt : i < n
    · obtain ⟨b, o, y, rfl, hy, h6⟩ := HI.out.rd.atA hlt
      obtain ⟨c0, c1, c2, c3, c4, c5⟩ := h6.keep (HG0.out.tr HG.out)
      have HY := Lib.hid hy
      clear hy h6
      go_upto_region 5 with fail
      have hyn := six_new wr y 32
      have hgy := (Grew.rf wr).al (.cells #[.string y.1, .string y.2.1, .bool y.2.2.1, .string y.2.2.2.1, .string y.2.2.2.2.1, .int .i64 y.2.2.2.2.2] 32)
      obtain ⟨Wy, hWy⟩ : ∃ Wy, wr.alloc (.cells #[.string y.1, .string y.2.1, .bool y.2.2.1, .string y.2.2.2.1, .string y.2.2.2.2.1, .int .i64 y.2.2.2.2.2] 32) = Wy := ⟨_, rfl⟩
      obtain ⟨yb, hyb⟩ : ∃ yb, wr.heap.size = yb := ⟨_, rfl⟩
      rw [hWy] at hyn hgy ⊢
      rw [hyb] at hyn ⊢
      have HGY := Lib.hid (HG.out.tr hgy)
      have hev := hasR_eq x y now
      have HEV := Lib.hid hev
      have hx6 := HX.out.keep HGY.out
      obtain ⟨x1, x2, x3, x4, x5, x6⟩ := x
      obtain ⟨y1, y2, y3, y4, y5, y6⟩ := y
      clear hWy hyb hgy c0 c1 c2 c3 c4 c5 hce hev
      obtain ⟨c0, c1, c2, c3, c4, c5⟩ := hyn
      obtain ⟨d0, d1, d2, d3, d4, d5⟩ := hx6
      dsimp only at c0 c1 c2 c3 c4 c5 d0 d1 d2 d3 d4 d5
      go_cut [53] from 27 to 53 (fun f wx => f = .bool (skipA now y1 x1 y2 x2 y3 x3 y6) ∧ Wy = wx)
      case first =>
        by_cases h6 : y6 ≤ now
        · have HD6 : RowKit.Hid (decide (now < y6) = false) := decide_eq_false (by omega)
          go_wp2
          go_meet
          exact ⟨by unfold skipA; rw [HD6.out]; rfl, rfl⟩
        · have HD6 : RowKit.Hid (decide (now < y6) = true) := decide_eq_true (by omega)
          by_cases h1 : y1 = x1
          · have e1 := beqT h1
            have HD1 : RowKit.Hid (decide (y1 = x1) = true) := decide_eq_true h1
            by_cases h2 : y2 = x2
            · have e2 := beqT h2
              have HD2 : RowKit.Hid (decide (y2 = x2) = true) := decide_eq_true h2
              clear h1 h2
              cases x3 <;> cases y3 <;>
                (go_wp2
                 go_meet
                 exact ⟨by unfold skipA; rw [HD6.out, HD1.out, HD2.out]; rfl, rfl⟩)
            · have e2 := beqF h2
              have HD2 : RowKit.Hid (decide (y2 = x2) = false) := decide_eq_false h2
              clear h1 h2
              go_wp2
              go_meet
              exact ⟨by unfold skipA; rw [HD6.out, HD1.out, HD2.out]; rfl, rfl⟩
          · have e1 := beqF h1
            have HD1 : RowKit.Hid (decide (y1 = x1) = false) := decide_eq_false h1
            clear h1
            go_wp2
            go_meet
            exact ⟨by unfold skipA; rw [HD6.out, HD1.out]; rfl, rfl⟩
      case rest =>
        obtain ⟨rfl, rfl⟩ := hcut
        obtain ⟨sk, hsk⟩ : ∃ sk, skipA now y1 x1 y2 x2 y3 x3 y6 = sk := ⟨_, rfl⟩
        dsimp only at HEV
        rw [hsk] at HEV ⊢
        clear hsk
        cases sk with
        | true =>
          have hz : hasP (x1, x2, x3, x4, x5, x6) now (y1, y2, y3, y4, y5, y6) = false := by rw [HEV.out]; rfl
          have HZ := Lib.hid hz
          clear hz
          go_wp2
          go_roundw
          case rel => exact ⟨i + 1, by go_num, by omega, Lib.hid (by rw [List.take_add_one, HY.out, List.any_append, HN.out]; simp [HZ.out]), HGY⟩
          case measure => simp [intOf]; omega
        | false =>
          go_upto_region 6 with fail
          go_cut [9] from 54 to 73 (fun f wx => f = .bool (methR y4 x4 y3) ∧ Wy = wx)
          case first =>
            by_cases h1 : y4 = x4
            · have e1 := beqT h1
              have HD1 : RowKit.Hid (decide (y4 = x4) = true) := decide_eq_true h1
              clear h1
              go_wp2
              go_meet
              exact ⟨by unfold methR; rw [HD1.out]; rfl, rfl⟩
            · have e1 := beqF h1
              have HD1 : RowKit.Hid (decide (y4 = x4) = false) := decide_eq_false h1
              clear h1
              cases y3 with
              | true =>
                go_wp2
                go_meet
                exact ⟨by unfold methR; rw [HD1.out]; rfl, rfl⟩
              | false =>
                by_cases h2 : y4 = starB
                · obtain ⟨p2, e2⟩ := starT h2
                  have e5 : ([42] == x4.toList) = false := by rw [← p2]; exact e1
                  have HD2 : RowKit.Hid (decide (y4 = starB) = true) := decide_eq_true h2
                  by_cases h3 : x4 = nilB
                  · obtain ⟨p3, e3⟩ := nilT h3
                    have HD3 : RowKit.Hid (decide (x4 = nilB) = true) := decide_eq_true h3
                    clear h2 h3
                    go_wp2
                    go_meet
                    exact ⟨by unfold methR; rw [HD1.out, HD2.out, HD3.out]; rfl, rfl⟩
                  · obtain ⟨p3, e3⟩ := nilF h3
                    have HD3 : RowKit.Hid (decide (x4 = nilB) = false) := decide_eq_false h3
                    clear h2 h3
                    go_wp2
                    go_meet
                    exact ⟨by unfold methR; rw [HD1.out, HD2.out, HD3.out]; rfl, rfl⟩
                · obtain ⟨p2, e2⟩ := starF h2
                  have HD2 : RowKit.Hid (decide (y4 = starB) = false) := decide_eq_false h2
                  clear h2
                  go_wp2
                  go_meet
                  exact ⟨by unfold methR; rw [HD1.out, HD2.out]; rfl, rfl⟩
          case rest =>
            obtain ⟨rfl, rfl⟩ := hcut
            go_upto_region 7 with fail
            go_cut [10] from 74 to 98 (fun f wx => f = .bool (headR y5 x5 y3) ∧ Wy = wx)
            case first =>
              by_cases h1 : y5 = x5
              · have e1 := beqT h1
                have HD1 : RowKit.Hid (decide (y5 = x5) = true) := decide_eq_true h1
                clear h1
                go_wp2
                go_meet
                exact ⟨by unfold headR; rw [HD1.out]; rfl, rfl⟩
              · have e1 := beqF h1
                have HD1 : RowKit.Hid (decide (y5 = x5) = false) := decide_eq_false h1
                clear h1
                cases y3 with
                | true =>
                  go_wp2
                  go_meet
                  exact ⟨by unfold headR; rw [HD1.out]; rfl, rfl⟩
                | false =>
                  by_cases h2 : y5 = starB
                  · obtain ⟨p2, e2⟩ := starT h2
                    have e5 : ([42] == x5.toList) = false := by rw [← p2]; exact e1
                    have HD2 : RowKit.Hid (decide (y5 = starB) = true) := decide_eq_true h2
                    by_cases h3 : x5 = nilB
                    · obtain ⟨p3, e3⟩ := nilT h3
                      have HD3 : RowKit.Hid (decide (x5 = nilB) = true) := decide_eq_true h3
                      clear h2 h3
                      go_wp2
                      go_meet
                      exact ⟨by unfold headR; rw [HD1.out, HD2.out, HD3.out]; rfl, rfl⟩
                    · obtain ⟨p3, e3⟩ := nilF h3
                      have HD3 : RowKit.Hid (decide (x5 = nilB) = false) := decide_eq_false h3
                      by_cases h4 : x5 = secB
                      · obtain ⟨p4, e4⟩ := secT h4
                        have HD4 : RowKit.Hid (decide (x5 = secB) = true) := decide_eq_true h4
                        clear h2 h3 h4
                        go_wp2
                        go_meet
                        exact ⟨by unfold headR; rw [HD1.out, HD2.out, HD3.out, HD4.out]; rfl, rfl⟩
                      · obtain ⟨p4, e4⟩ := secF h4
                        have HD4 : RowKit.Hid (decide (x5 = secB) = false) := decide_eq_false h4
                        clear h2 h3 h4
                        go_wp2
                        go_meet
                        exact ⟨by unfold headR; rw [HD1.out, HD2.out, HD3.out, HD4.out]; rfl, rfl⟩
                  · obtain ⟨p2, e2⟩ := starF h2
                    have HD2 : RowKit.Hid (decide (y5 = starB) = false) := decide_eq_false h2
                    clear h2
                    go_wp2
                    go_meet
                    exact ⟨by unfold headR; rw [HD1.out, HD2.out]; rfl, rfl⟩
            case rest =>
              obtain ⟨rfl, rfl⟩ := hcut
              obtain ⟨mb, hmb⟩ : ∃ mb, methR y4 x4 y3 = mb := ⟨_, rfl⟩
              obtain ⟨hb, hhb⟩ : ∃ hb, headR y5 x5 y3 = hb := ⟨_, rfl⟩
              rw [hmb, hhb] at HEV ⊢
              clear hmb hhb
              cases hmh : (mb && hb) with
              | true =>
                have hz : hasP (x1, x2, x3, x4, x5, x6) now (y1, y2, y3, y4, y5, y6) = true := by rw [HEV.out, hmh]; rfl
                have HZ := Lib.hid hz
                rw [Bool.and_eq_true] at hmh
                obtain ⟨rfl, rfl⟩ := hmh
                clear hz
                go_wp2
                go_ret
                have hany : l.any (hasP (x1, x2, x3, x4, x5, x6) now) = true := List.any_eq_true.2 ⟨_, List.mem_of_getElem? HY.out, HZ.out⟩
                exact ⟨by rw [hany]; rfl, HG0.out.tr HGY.out⟩
              | false =>
                have hz : hasP (x1, x2, x3, x4, x5, x6) now (y1, y2, y3, y4, y5, y6) = false := by rw [HEV.out, hmh]; rfl
                have HZ := Lib.hid hz
                clear hz
                cases mb <;> cases hb <;> first | (cases hmh; done) | (
                  clear hmh
                  go_wp2
                  go_roundw
                  case rel => exact ⟨i + 1, by go_num, by omega, Lib.hid (by rw [List.take_add_one, HY.out, List.any_append, HN.out]; simp [HZ.out]), HGY⟩
                  case measure => simp [intOf]; omega)
    · have hii : i = n := by omega
      have hfin : l.any (hasP x now) = false := by have := HN.out; rw [List.take_of_length_le (by rw [HL.out]; omega)] at this; exact this
      have HF := Lib.hid hfin
      clear hii hfin
      go_wp2
      go_ret
      exact ⟨by rw [HF.out]; rfl, HG0.out.tr HG.out⟩
end Go.Proofs.Ytcllmhabhbnihaa
