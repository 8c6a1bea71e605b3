/- Memo: the closure of Has; IndexFunc and ContainsFunc. -/
import Derived.Test.YtcllmhabhbnihaaMemo2
set_option linter.unusedVariables false
set_option linter.unusedSimpArgs false
namespace Go.Proofs.Ytcllmhabhbnihaa
open Go.RowKit

/-- Is a method let? -/
def methA (x y : Ask) : Bool := oneA y.2.2.2.1 x.2.2.2.1 (!y.2.2.1) || (decide (y.2.2.2.1 = starB) && decide (x.2.2.2.1 = secB) && !y.2.2.1)
/-- Does an entry let what is asked for? -/
def hasP (x : Ask) (now : Int) (y : Ask) : Bool := decide (now < y.2.2.2.2.2) && (decide (y.1 = x.1) && (decide (y.2.1 = x.2.1) && ((y.2.2.1 || !x.2.2.1) && (methA x y && oneA y.2.2.2.2.1 x.2.2.2.2.1 (!y.2.2.1)))))
theorem ret_bool {a b : Bool} (h : a = b) : Ending.returned (.bool a) = Ending.returned (.bool b) := by rw [h]

set_option maxRecDepth 100000 in
set_option maxHeartbeats 3200000 in
theorem has1_any (xb nb : Nat) (x : Ask) (now : Int) (y : Ask) (w : World) (hx : SixC w xb 0 x) (hn : w.cell? ⟨nb, 0, none⟩ = some (.int .i64 now)) :
    Calls Try.prog 20 #[aV y, .pointer (some ⟨xb, 0, none⟩), .pointer (some ⟨nb, 0, none⟩)] w fun e w' => e = .returned (.bool (hasP x now y)) ∧ Grew w w' := by
  have HX := Lib.hid hx
  have HN := Lib.hid hn
  clear hx hn
  obtain ⟨y1, y2, y3, y4, y5, y6⟩ := y
  obtain ⟨x1, x2, x3, x4, x5, x6⟩ := x
  unfold hasP methA
  dsimp only
  have ho1 := fun (u : World) => one_any y4 x4 (!y3) u
  have ho2 := fun (u : World) => one_any y5 x5 (!y3) u
  obtain ⟨m1, hm1⟩ : ∃ m, oneA y4 x4 (!y3) = m := ⟨_, rfl⟩
  obtain ⟨m2, hm2⟩ : ∃ m, oneA y5 x5 (!y3) = m := ⟨_, rfl⟩
  rw [hm1] at ho1 ⊢
  rw [hm2] at ho2 ⊢
  have HO1 := Lib.hid ho1
  have HO2 := Lib.hid ho2
  clear ho1 ho2 hm1 hm2
  go_enter Try.func20, Try.ntmps20
  go_upto_region 1 with fail
  have hy := six_new w (y1, y2, y3, y4, y5, y6) 32
  dsimp only at hy
  obtain ⟨hb, hhb⟩ : ∃ hb, w.heap.size = hb := ⟨_, rfl⟩
  obtain ⟨W1, hW1⟩ : ∃ W1, w.alloc (.cells #[.string y1, .string y2, .bool y3, .string y4, .string y5, .int .i64 y6] 32) = W1 := ⟨_, rfl⟩
  have hg1 : Grew w W1 := by rw [← hW1]; exact (Grew.rf w).al _
  rw [hhb, hW1] at hy ⊢
  obtain ⟨d0, d1, d2, d3, d4, d5⟩ := hy
  obtain ⟨c0, c1, c2, c3, c4, c5⟩ := HX.out.keep hg1
  have cn := hg1.ce HN.out
  dsimp only at c0 c1 c2 c3 c4 c5 d0 d1 d2 d3 d4 d5
  have HG1 := Lib.hid hg1
  clear hW1 hhb hg1
  go_cut [5] from 6 to 28 (fun f wx => f = .bool (m1 || (decide (y4 = starB) && decide (x4 = secB) && !y3)) ∧ W1 = wx)
  case first =>
    cases m1 with
    | true =>
      go_wp2_with (go_at_call 21; refine Calls.mono (HO1.out _) ?_; rintro e w' ⟨rfl, rfl⟩)
      go_meet
      exact ⟨rfl, rfl⟩
    | false =>
      by_cases h2 : y4 = starB
      · obtain ⟨p2, e2⟩ := starT h2
        by_cases h4 : x4 = secB
        · obtain ⟨p4, e4⟩ := secT h4
          cases y3 <;>
            (have HD : RowKit.Hid (decide (y4 = starB) = true ∧ decide (x4 = secB) = true) := ⟨decide_eq_true h2, decide_eq_true h4⟩
             clear h2 h4
             go_wp2_with (go_at_call 21; refine Calls.mono (HO1.out _) ?_; rintro e w' ⟨rfl, rfl⟩)
             go_meet
             exact ⟨by rw [HD.out.1, HD.out.2]; rfl, rfl⟩)
        · obtain ⟨p4, e4⟩ := secF h4
          have HD : RowKit.Hid (decide (y4 = starB) = true ∧ decide (x4 = secB) = false) := ⟨decide_eq_true h2, decide_eq_false h4⟩
          clear h2 h4
          go_wp2_with (go_at_call 21; refine Calls.mono (HO1.out _) ?_; rintro e w' ⟨rfl, rfl⟩)
          go_meet
          exact ⟨by rw [HD.out.1, HD.out.2]; rfl, rfl⟩
      · obtain ⟨p2, e2⟩ := starF h2
        have HD : RowKit.Hid (decide (y4 = starB) = false) := decide_eq_false h2
        clear h2
        go_wp2_with (go_at_call 21; refine Calls.mono (HO1.out _) ?_; rintro e w' ⟨rfl, rfl⟩)
        go_meet
        exact ⟨by rw [HD.out]; rfl, rfl⟩
  case rest =>
  obtain ⟨rfl, rfl⟩ := hcut
  obtain ⟨mm, hmm⟩ : ∃ mm, (m1 || (decide (y4 = starB) && decide (x4 = secB) && !y3)) = mm := ⟨_, rfl⟩
  rw [hmm]
  have HMM := Lib.hid hmm
  clear hmm
  clear HO1
  by_cases h6 : now < y6
  · have HD6 : RowKit.Hid (decide (now < y6) = true) := decide_eq_true h6
    by_cases h1 : y1 = x1
    · have e1 := beqT h1
      have HD1 : RowKit.Hid (decide (y1 = x1) = true) := decide_eq_true h1
      by_cases h2 : y2 = x2
      · have e2 := beqT h2
        have HD2 : RowKit.Hid (decide (y2 = x2) = true) := decide_eq_true h2
        clear h1 h2
        cases y3 <;> cases x3 <;> cases mm <;>
          (go_wp2_with (go_at_call 21; refine Calls.mono (HO2.out _) ?_; rintro e w' ⟨rfl, rfl⟩)
           go_ret
           exact ⟨by rw [HD6.out, HD1.out, HD2.out, HMM.out]; first | rfl | (cases m2 <;> rfl), HG1.out⟩)
      · have e2 := beqF h2
        have HD2 : RowKit.Hid (decide (y2 = x2) = false) := decide_eq_false h2
        clear h1 h2
        go_wp2
        go_ret
        exact ⟨by rw [HD6.out, HD1.out, HD2.out]; rfl, HG1.out⟩
    · have e1 := beqF h1
      have HD1 : RowKit.Hid (decide (y1 = x1) = false) := decide_eq_false h1
      clear h1
      go_wp2
      go_ret
      exact ⟨by rw [HD6.out, HD1.out]; rfl, HG1.out⟩
  · have HD6 : RowKit.Hid (decide (now < y6) = false) := decide_eq_false h6
    go_wp2
    go_ret
    exact ⟨by rw [HD6.out]; rfl, HG1.out⟩

end Go.Proofs.Ytcllmhabhbnihaa
