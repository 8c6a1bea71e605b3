/- Delta: the walk of the answer's Ends. -/
import Derived.Test.YtbkcpgaicoagfaaDel1
set_option linter.unusedVariables false
set_option linter.unusedSimpArgs false
namespace Go.Proofs.Ytbkcpgaicoagfaa
open Go.RowKit

set_option maxRecDepth 100000 in
set_option maxHeartbeats 1600000 in
theorem rends_any (A : Option Addr) (n c : Nat) (was : List Hdr) (B : Option Addr) (m d : Nat) (list : List Hdr) (w : World) (hr : RdH w A n was) (hs : RdH w B m list) (hn : n ≤ 9223372036854775807) (hm : m ≤ 9223372036854775807) :
    Calls Try.prog 62 #[.slice A n c, .slice B m d] w fun e w' => e = .returned (.tuple #[.int .i64 (endsA was list : Int), .int .i64 (endsB was list : Int)]) ∧ Grew w w' := by
  have hl1 := hr.lenH
  have hl2 := hs.lenH
  have HR := Lib.hid hr
  have HS := Lib.hid hs
  have HL1 := Lib.hid hl1
  have HL2 := Lib.hid hl2
  clear hr hs hl1 hl2
  go_enter Try.func62, Try.ntmps62
  go_upto_block 0 with fail
  go_cut [6] (fun f wx => f = .int .i64 (endsA was list : Int) ∧ Grew w wx)
  case first =>
    go_wp2_with fail
    go_loopg [6] n (fun g s4 wx => ∃ j : Nat, j ≤ n ∧ j ≤ m ∧ g = n - j ∧ s4 = .int .i64 (j : Int) ∧ Grew w wx ∧ ∀ k, k < j → was[k]? = list[k]?)
    case atStart => exact ⟨0, Nat.zero_le _, Nat.zero_le _, rfl, rfl, Grew.rf _, fun k hk => by omega⟩
    case round =>
      obtain ⟨j, h1, h2, rfl, rfl, hg, hI⟩ := hrel
      have HI := Lib.hid hI
      clear hI
      by_cases hj1 : j < n
      · have hd1 : decide ((j : Int) < (n : Int)) = true := by simp; omega
        by_cases hj2 : j < m
        · have hd2 : decide ((j : Int) < (m : Int)) = true := by simp; omega
          obtain ⟨b1, o1, x, hA, hx, ha1, ha2⟩ := HR.out.atH hj1
          obtain ⟨b2, o2, y, hB, hy, hb1, hb2⟩ := HS.out.atH hj2
          subst hA; subst hB
          have ca1 := hg.ce ha1
          have ca2 := hg.ce ha2
          have cb1 := hg.ce hb1
          have cb2 := hg.ce hb2
          have HX := Lib.hid hx
          have HY := Lib.hid hy
          clear hx hy ha1 ha2 hb1 hb2
          have hgd := hdr_guard
          have hbe := fun w => hdr_eql x y w
          have hbi := fun w => hdr_eqIn x y w
          go_wp2_with fail
          go_quiet (fail)
          clear hbe hbi hgd
          by_cases hxy : x = y
          · have hdx : decide (x = y) = true := decide_eq_true hxy
            rw [hdx]
            go_wp2
            go_roundg (n - (j + 1))
            case measure => omega
            case rel =>
              refine ⟨j + 1, by omega, by omega, rfl, by go_num, hg.drN _, fun k hk => ?_⟩
              by_cases hkj : k = j
              · subst hkj; rw [HX.out, HY.out, hxy]
              · exact HI.out k (by omega)
          · have hdx : decide (x = y) = false := decide_eq_false hxy
            rw [hdx]
            go_wp2
            go_meet
            refine ⟨?_, hg.drN _⟩
            rw [endsA_eq (j := j) (by rw [HL1.out]; omega) (by rw [HL2.out]; omega) HI.out (fun _ _ => by rw [HX.out, HY.out]; simpa using hxy)]
        · have hd2 : decide ((j : Int) < (m : Int)) = false := by simp; omega
          go_wp2_with fail
          go_quiet (fail)
          go_wp2
          go_meet
          refine ⟨?_, hg.drN _⟩
          rw [endsA_eq (j := j) (by rw [HL1.out]; omega) (by rw [HL2.out]; omega) HI.out (fun h2 h3 => by rw [HL2.out] at h3; omega)]
      · have hd1 : decide ((j : Int) < (n : Int)) = false := by simp; omega
        go_wp2_with fail
        go_quiet (fail)
        go_wp2
        go_meet
        refine ⟨?_, hg.drN _⟩
        rw [endsA_eq (j := j) (by rw [HL1.out]; omega) (by rw [HL2.out]; omega) HI.out (fun h2 h3 => by rw [HL1.out] at h2; omega)]
  case rest =>
  obtain ⟨rfl, hg1⟩ := hcut
  obtain ⟨f, hf⟩ : ∃ f, endsA was list = f := ⟨_, rfl⟩
  have hfl := endsA_le was list
  rw [HL1.out, HL2.out] at hfl
  rw [hf] at hfl ⊢
  have HF := Lib.hid hf
  obtain ⟨hfn, hfm⟩ := hfl
  clear hf
  go_upto_block 2 with fail
  go_cut [7] (fun f wx => f = .int .i64 (endsB was list : Int) ∧ Grew w wx)
  case first =>
    go_wp2_with fail
    go_loopg [7] n (fun g s4 wx => ∃ j : Nat, j + f ≤ n ∧ j + f ≤ m ∧ g = n - j ∧ s4 = .int .i64 (j : Int) ∧ Grew w wx ∧ ∀ k, k < j → was[was.length - 1 - k]? = list[list.length - 1 - k]?)
    case atStart => exact ⟨0, by omega, by omega, rfl, rfl, hg1, fun k hk => by omega⟩
    case round =>
      obtain ⟨j, h1, h2, rfl, rfl, hg, hI⟩ := hrel
      have HI := Lib.hid hI
      clear hI
      obtain ⟨r, hr⟩ : ∃ r, f + j = r := ⟨_, rfl⟩
      have hw0 : IntKind.i64.wrap ((f : Int) + (j : Int)) = (r : Int) := by
        rw [IntWalk.i64_in _ ⟨by omega, by omega⟩]; omega
      have HRR := Lib.hid hr
      by_cases hr1 : r < n
      · have hd1 : decide ((r : Int) < (n : Int)) = true := by simp; omega
        by_cases hr2 : r < m
        · have hd2 : decide ((r : Int) < (m : Int)) = true := by simp; omega
          obtain ⟨n', hn'⟩ : ∃ n', n - 1 = n' := ⟨_, rfl⟩
          obtain ⟨m', hm'⟩ : ∃ m', m - 1 = m' := ⟨_, rfl⟩
          obtain ⟨i1, hi1⟩ : ∃ i1, n' - j = i1 := ⟨_, rfl⟩
          obtain ⟨i2, hi2⟩ : ∃ i2, m' - j = i2 := ⟨_, rfl⟩
          have hw1 : IntKind.i64.wrap ((n : Int) - 1) = (n' : Int) := by
            rw [IntWalk.i64_in _ ⟨by omega, by omega⟩]; omega
          have hw2 : IntKind.i64.wrap ((n' : Int) - (j : Int)) = (i1 : Int) := by
            rw [IntWalk.i64_in _ ⟨by omega, by omega⟩]; omega
          have hw3 : IntKind.i64.wrap ((m : Int) - 1) = (m' : Int) := by
            rw [IntWalk.i64_in _ ⟨by omega, by omega⟩]; omega
          have hw4 : IntKind.i64.wrap ((m' : Int) - (j : Int)) = (i2 : Int) := by
            rw [IntWalk.i64_in _ ⟨by omega, by omega⟩]; omega
          have hjb : j + 1 ≤ 9223372036854775807 := by omega
          have hj1 : i1 < n := by omega
          have hj2 : i2 < m := by omega
          have hk1 : n - 1 - j = i1 := by omega
          have hk2 : m - 1 - j = i2 := by omega
          have HK1 := Lib.hid hk1
          have HK2 := Lib.hid hk2
          have HJ : RowKit.Hid (j + 1 + f ≤ n ∧ j + 1 + f ≤ m) := ⟨by omega, by omega⟩
          obtain ⟨b1, o1, x, hA, hx, ha1, ha2⟩ := HR.out.atH hj1
          obtain ⟨b2, o2, y, hB, hy, hb1, hb2⟩ := HS.out.atH hj2
          subst hA; subst hB
          have ca1 := hg.ce ha1
          have ca2 := hg.ce ha2
          have cb1 := hg.ce hb1
          have cb2 := hg.ce hb2
          have HX := Lib.hid hx
          have HY := Lib.hid hy
          clear hx hy ha1 ha2 hb1 hb2 hk1 hk2 hn' hm' hi1 hi2 hr
          have hgd := hdr_guard
          have hbe := fun w => hdr_eql x y w
          have hbi := fun w => hdr_eqIn x y w
          go_wp2_with fail
          go_quiet (fail)
          clear hbe hbi hgd hw0 hw1 hw2 hw3 hw4
          by_cases hxy : x = y
          · have hdx : decide (x = y) = true := decide_eq_true hxy
            rw [hdx]
            go_wp2
            go_roundg (n - (j + 1))
            case measure => have := HJ.out; omega
            case rel =>
              refine ⟨j + 1, by have := HJ.out; omega, by have := HJ.out; omega, rfl, by go_num, hg.drN _, fun k hk => ?_⟩
              by_cases hkj : k = j
              · subst hkj; rw [HL1.out, HL2.out, HK1.out, HK2.out, HX.out, HY.out, hxy]
              · exact HI.out k (by omega)
          · have hdx : decide (x = y) = false := decide_eq_false hxy
            rw [hdx]
            go_wp2
            go_meet
            refine ⟨?_, hg.drN _⟩
            have := HJ.out
            rw [endsB_eq (j := j) HF.out (by rw [HL1.out]; omega) (by rw [HL2.out]; omega) HI.out (fun _ _ => by rw [HL1.out, HL2.out, HK1.out, HK2.out, HX.out, HY.out]; simpa using hxy)]
        · have hd2 : decide ((r : Int) < (m : Int)) = false := by simp; omega
          clear hr
          go_wp2_with fail
          go_quiet (fail)
          clear hw0
          go_wp2
          go_meet
          refine ⟨?_, hg.drN _⟩
          have := HRR.out
          rw [endsB_eq (j := j) HF.out (by rw [HL1.out]; omega) (by rw [HL2.out]; omega) HI.out (fun h2 h3 => by rw [HL2.out] at h3; omega)]
      · have hd1 : decide ((r : Int) < (n : Int)) = false := by simp; omega
        clear hr
        go_wp2_with fail
        go_quiet (fail)
        clear hw0
        go_wp2
        go_meet
        refine ⟨?_, hg.drN _⟩
        have := HRR.out
        rw [endsB_eq (j := j) HF.out (by rw [HL1.out]; omega) (by rw [HL2.out]; omega) HI.out (fun h2 h3 => by rw [HL1.out] at h2; omega)]
  case rest =>
  obtain ⟨rfl, hg2⟩ := hcut
  go_wp2
  go_ret2
  exact ⟨by rw [HF.out]; rfl, hg2⟩
end Go.Proofs.Ytbkcpgaicoagfaa
