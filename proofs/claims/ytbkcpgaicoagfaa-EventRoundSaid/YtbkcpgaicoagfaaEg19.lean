/- slices.Equal of headers; bare. -/
import Derived.Test.YtbkcpgaicoagfaaEg18
set_option linter.unusedVariables false
set_option linter.unusedSimpArgs false
namespace Go.Proofs.Ytbkcpgaicoagfaa
open Go.RowKit

set_option maxRecDepth 100000 in
set_option maxHeartbeats 1600000 in
theorem equalH_any (A : Option Addr) (n c : Nat) (l : List Hdr) (B : Option Addr) (m d : Nat) (k : List Hdr) (w : World) (hr : RdH w A n l) (hs : RdH w B m k) (hn : n ≤ 9223372036854775807) (hm : m ≤ 9223372036854775807) :
    Calls Try.prog 82 #[.slice A n c, .slice B m d] w fun e w' => e = .returned (.bool (decide (l = k))) ∧ Grew w w' := by
  have hl1 := hr.lenH
  have hl2 := hs.lenH
  have HR := Lib.hid hr
  have HS := Lib.hid hs
  have HL1 := Lib.hid hl1
  have HL2 := Lib.hid hl2
  by_cases hnm : n = m
  · subst hnm
    clear hr hs hl1 hl2
    go_enter Try.func82, Try.ntmps82
    go_wp2
    go_loopw [13] (fun i wr => ∃ j : Nat, i = .int .i64 (j : Int) ∧ j ≤ n ∧ Grew w wr ∧ RowKit.Hid (∀ p, p < j → l[p]? = k[p]?)) (fun i _ => n - (intOf i).toNat)
    case atStart => exact ⟨0, rfl, Nat.zero_le _, Grew.rf w, fun p hp => by omega⟩
    case round =>
      obtain ⟨j, rfl, hj, hg, HI⟩ := hrel
      by_cases hlt : j < n
      · obtain ⟨b1, o1, x, hA, hx, ha1, ha2⟩ := HR.out.atH hlt
        obtain ⟨b2, o2, y, hB, hy, hb1, hb2⟩ := HS.out.atH hlt
        subst hA; subst hB
        have ca1 := hg.ce ha1
        have ca2 := hg.ce ha2
        have cb1 := hg.ce hb1
        have cb2 := hg.ce hb2
        have HX := Lib.hid hx
        have HY := Lib.hid hy
        have HG := Lib.hid hg
        clear hx hy ha1 ha2 hb1 hb2 hg
        have hgd := hdr_guard
        have hbe := fun w => hdr_neq x y w
        have hbi := fun w => hdr_eqIn x y w
        go_wp2_with fail
        go_quiet (fail)
        clear hbe hbi hgd
        by_cases hxy : x = y
        · have hdx : decide (x = y) = true := decide_eq_true hxy
          rw [hdx]
          go_wp2
          go_roundw
          case rel =>
            refine ⟨j + 1, by go_num, by omega, HG.out.drN _, fun p hp => ?_⟩
            by_cases hpj : p = j
            · subst hpj; rw [HX.out, HY.out, hxy]
            · exact HI.out p (by omega)
          case measure => simp [intOf]; omega
        · have hdx : decide (x = y) = false := decide_eq_false hxy
          rw [hdx]
          have hf : decide (l = k) = false := decide_eq_false (list_ne HX.out HY.out hxy)
          have HF := Lib.hid hf
          clear hf
          go_wp2
          go_ret
          exact ⟨by rw [HF.out]; rfl, HG.out.drN _⟩
      · have hf : decide (l = k) = true := decide_eq_true (by
          apply List.ext_getElem?
          intro p
          by_cases hp : p < j
          · exact HI.out p hp
          · rw [List.getElem?_eq_none (by rw [HL1.out]; omega), List.getElem?_eq_none (by rw [HL2.out]; omega)])
        have HF := Lib.hid hf
        have HG := Lib.hid hg
        clear hf hg
        go_wp2
        go_ret
        exact ⟨by rw [HF.out]; rfl, HG.out⟩
  · have hf : decide (l = k) = false := decide_eq_false (fun e => by subst e; omega)
    have HF := Lib.hid hf
    have hd : decide ((n : Int) = (m : Int)) = false := decide_eq_false (by omega)
    clear hr hs hl1 hl2 hf
    go_enter Try.func82, Try.ntmps82
    go_wp2
    go_ret
    exact ⟨by rw [HF.out]; rfl, Grew.rf w⟩
end Go.Proofs.Ytbkcpgaicoagfaa
