/- The answer's Book: list. -/
import Derived.Test.YtbkcpgaicoagfaaRb1
set_option linter.unusedVariables false
set_option linter.unusedSimpArgs false
namespace Go.Proofs.Ytbkcpgaicoagfaa
open Go.RowKit

set_option maxRecDepth 100000 in
set_option maxHeartbeats 1600000 in
theorem rlist_any (p tp : Nat) (lv LV : Value) (rows : List Lnr) (k : Nat) (s : PB) (se : Int) (an : Bool) (w : World) (hB : RBI w p tp lv LV rows k s) :
    Calls Try.prog 49 #[.pointer (some ⟨p, 0, none⟩), .int .i64 se, .bool an] w fun e w' => ∃ A n c, e = .returned (.slice A n c) ∧ RdH w A n (s.L se an) ∧ (n ≤ 25 ∧ n ≤ c ∧ c ≤ 9223372036854775807) ∧ (0 < n → ∀ ad, A = some ad → ¬ ftR p tp lv LV ad.block) ∧ w = w' := by
  have hmany := hB.many
  have hkk := hB.kk
  obtain ⟨AL, cL, rfl, hnc, hc, hrl⟩ := hB.own.rd
  have hc2 : w.cell? ⟨p, 2, none⟩ = some (.slice AL rows.length cL) := cell_of_heap hB.cells rfl
  have HLI := Lib.hid hB.lines
  have HRL := Lib.hid hrl
  clear hB hrl
  go_enter Try.func49, Try.ntmps49
  go_wp2
  go_loop [7] (fun i => ∃ j : Nat, i = .int .i64 (j : Int) ∧ j ≤ rows.length ∧ RowKit.Hid (∀ (m : Nat) (q : Lnr), m < j → rows[m]? = some q → ¬ keyL q se an)) (fun i => rows.length - (intOf i).toNat)
  case atStart => exact ⟨0, rfl, by omega, Lib.hid (fun m q hm => by omega)⟩
  case round =>
    obtain ⟨j, rfl, hj, HK⟩ := hrel
    by_cases hlt : j < rows.length
    · obtain ⟨b, o, hA, hcl⟩ := HRL.out.cells (by omega)
      obtain ⟨⟨s1, a1, Ar, nr, cr⟩, hr⟩ : ∃ r, rows[j]? = some r := ⟨_, List.getElem?_eq_getElem hlt⟩
      obtain ⟨g0, g1, g2⟩ := lncs_get rows j _ hr
      have d0 := hcl _ _ g0
      have d1 := hcl _ _ g1
      have d2 := hcl _ _ g2
      rw [← Nat.add_assoc] at d1 d2
      dsimp only at d0 d1 d2
      have HR := Lib.hid hr
      subst hA
      clear hcl hr g0 g1 g2
      by_cases hs : s1 = se
      · by_cases ha : a1 = an
        · subst hs
          subst ha
          go_wp2
          go_ret
          have h25 := HLI.out.ap _ (List.mem_of_getElem? HR.out)
          exact ⟨Ar, nr, cr, rfl, HLI.out.at_ j _ HR.out HK.out, h25.1, fun h0 ad e => (h25.2 h0 ad e).1, rfl⟩
        · have e1 : (s1 == se) = true := by simpa using hs
          have e2 : (a1 == an) = false := by simpa using ha
          have HS : RowKit.Hid (¬ (a1 = an)) := ha
          clear hs ha
          go_wp2
          go_round
          case rel => exact ⟨j + 1, by go_num, by omega, Lib.hid (fun m q hm hq h => by
            by_cases he : m = j
            · subst he; rw [HR.out] at hq; obtain rfl := Option.some.inj hq; exact HS.out h.2
            · exact HK.out m q (by omega) hq h)⟩
          case measure => simp [intOf]; omega
      · have e1 : (s1 == se) = false := by simpa using hs
        have HS : RowKit.Hid (¬ (s1 = se)) := hs
        clear hs
        go_wp2
        go_round
        case rel => exact ⟨j + 1, by go_num, by omega, Lib.hid (fun m q hm hq h => by
          by_cases he : m = j
          · subst he; rw [HR.out] at hq; obtain rfl := Option.some.inj hq; exact HS.out h.1
          · exact HK.out m q (by omega) hq h)⟩
        case measure => simp [intOf]; omega
    · have hn := HLI.out.no se an (fun q hq h => by
        obtain ⟨m, hm, e⟩ := List.getElem_of_mem hq
        exact HK.out m q (by omega) (by rw [List.getElem?_eq_getElem hm, e]) h)
      have HN := Lib.hid hn
      clear hn
      go_wp2
      go_ret
      exact ⟨none, 0, 0, rfl, by rw [HN.out]; exact RdV.nil _ _ _, by omega, fun h0 => by omega, rfl⟩
end Go.Proofs.Ytbkcpgaicoagfaa
