/- The walk of cyc.Table. -/
import Derived.Test.YtflnopaheanpdaaCycW
set_option linter.unusedVariables false
set_option linter.unusedSimpArgs false
namespace Go.Proofs.Ytflnopaheanpdaa
open Go.RowKit

theorem TabAt.other {w : World} {g g' : Nat} {T : List Int} (h : TabAt w g T) (hne : g ≠ g') (i : Nat) (v : Value) : TabAt (w.setCell ⟨g', i, none⟩ v) g T := by
  refine ⟨h.len, ?_⟩
  rw [← h.heap]
  simp [World.setCell, Array.getElem?_modify, Ne.symm hne]

theorem tab_step (q : Nat) (hq : q < 4294967296) : bits .xor .u32 ((q : Int) / 2) (bits .and .u32 (-bits .and .u32 (q : Int) 1 % 4294967296) 3988292384) = ((cStep q : Nat) : Int) := by
  have ha : bits .and .u32 (q : Int) 1 = ((q % 2 : Nat) : Int) := by
    have := u32_and_nat q 1 hq (by omega)
    rw [Nat.and_one_is_mod] at this
    exact this
  rw [ha, show (q : Int) / 2 = ((q / 2 : Nat) : Int) by omega]
  unfold cStep
  by_cases h : q % 2 = 1
  · rw [if_pos h, h, show bits .and .u32 (-((1 : Nat) : Int) % 4294967296) 3988292384 = ((3988292384 : Nat) : Int) by decide +kernel]
    exact u32_xor_nat _ _ (by omega) (by omega)
  · rw [if_neg h, show q % 2 = 0 by omega, show bits .and .u32 (-((0 : Nat) : Int) % 4294967296) 3988292384 = ((0 : Nat) : Int) by decide +kernel]
    rw [u32_xor_nat _ _ (by omega) (by omega), Nat.xor_zero]

set_option maxRecDepth 100000 in
set_option maxHeartbeats 1000000 in
theorem table_any (w : World) : Calls Try.prog 16 #[] w fun e w' => e = .returned (tabV cTab) ∧ Grew w w' := by
  go_enter Try.func16, Try.ntmps16
  go_wp2_with (refine tab_alloc rfl rfl ?_; intro HT)

  rw [World.size_alloc] at HT
  have hb : Grew w ((w.alloc (.cells (nums .u32 zT).toArray 24)).alloc (.cells (nums .u32 zT).toArray 24)) := ((Grew.rf w).al _).al _
  have hA : TabAt ((w.alloc (.cells (nums .u32 zT).toArray 24)).alloc (.cells (nums .u32 zT).toArray 24)) w.heap.size zT := (TabAt.new w zT_len).keep ((Grew.rf _).al _)

  obtain ⟨u, hu⟩ : ∃ u, (w.alloc (.cells (nums .u32 zT).toArray 24)).alloc (.cells (nums .u32 zT).toArray 24) = u := ⟨_, rfl⟩
  rw [hu] at HT hb hA ⊢
  clear hu
  obtain ⟨g, hgs⟩ : ∃ g, w.heap.size = g := ⟨_, rfl⟩
  rw [hgs] at HT hA ⊢
  go_loopw [4] (fun i wr => ∃ (j : Nat) (T : List Int), i = .int .i64 j ∧ j ≤ 256 ∧ TabAt wr (g + 1) T ∧ (∀ k, k < j → T.getD k 0 = ((c8 k : Nat) : Int)) ∧ TabAt wr g zT ∧ Grew w wr) (fun i _ => 256 - (intOf i).toNat)
  case atStart => exact ⟨0, zT, rfl, by omega, HT, fun k hk => absurd hk (by omega), hA, hb⟩
  case round =>
    obtain ⟨j, T, rfl, hj, hT, hk, hA, hB⟩ := hrel
    by_cases hlt : j < 256
    · have HK := Lib.hid hk
      have HTT := Lib.hid hT
      have HA := Lib.hid hA
      have hce := hT.cell hlt
      have hfr := hT.frozen j
      obtain ⟨old, ho⟩ : ∃ old, Value.int .u32 (T.getD j 0) = old := ⟨_, rfl⟩
      rw [ho] at hce
      clear hk hT hA ho
      go_wp2
      go_loop [3, 9] (fun s k => ∃ (i q : Nat), k = .int .i64 i ∧ i ≤ 8 ∧ s = .int .u32 (q : Int) ∧ q < 4294967296 ∧ cIt i j = q) (fun _ k => 8 - (intOf k).toNat)
      case atStart => exact ⟨0, j, rfl, by omega, rfl, by omega, rfl⟩
      case round =>
        obtain ⟨i, q, rfl, hi, rfl, hq, hI⟩ := hrel
        by_cases h8 : i < 8
        · have hI2 : cIt (i + 1) j = cStep q := by rw [cIt_succ, hI]
          have hq2 := cStep_lt hq
          have hfin := tab_step q hq
          generalize cStep q = q2 at *
          have HI := Lib.hid hI
          have HI2 := Lib.hid hI2
          have HF := Lib.hid hfin
          clear hI hI2 hfin
          go_wp2
          go_round
          case rel => exact ⟨i + 1, q2, by go_num, by omega, by rw [← HF.out], hq2, HI2.out⟩
          case measure => simp [intOf]; omega
        · have hi8 : i = 8 := by omega
          subst hi8
          rw [← c8_eq] at hI
          have HI := Lib.hid hI
          clear hI
          go_wp2
          go_roundw
          case rel =>
            refine ⟨j + 1, T.set j (q : Int), by go_num, by omega, HTT.out.store j _, fun k hk => ?_, HA.out.other (by omega) _ _, ?_⟩
            · rw [List.getD_eq_getElem?_getD, List.getElem?_set]
              by_cases hkj : j = k
              · subst hkj
                rw [HI.out]
                simp [HTT.out.len, hlt]
              · rw [if_neg hkj, ← List.getD_eq_getElem?_getD]
                exact HK.out k (by omega)
            · exact hB.st (by rw [hgs]; simp) _
          case measure => simp [intOf]; omega
    · have hje : j = 256 := by omega
      subst hje
      have e : T = cTab := by
        apply List.ext_getElem?
        intro k
        by_cases hk2 : k < 256
        · have h1 := hk k hk2
          rw [← cTab_get hk2] at h1
          rw [List.getD_eq_getElem?_getD, List.getD_eq_getElem?_getD, List.getElem?_eq_getElem (by rw [hT.len]; exact hk2), List.getElem?_eq_getElem (by rw [cTab_len]; exact hk2)] at h1
          rw [List.getElem?_eq_getElem (by rw [hT.len]; exact hk2), List.getElem?_eq_getElem (by rw [cTab_len]; exact hk2)]
          simpa using h1
        · rw [List.getElem?_eq_none (by rw [hT.len]; omega), List.getElem?_eq_none (by rw [cTab_len]; omega)]
      subst e
      clear hk
      go_wp2_with (first | (refine tab_load rfl rfl rfl hT ?_) | (refine tab_store rfl rfl rfl rfl hA cTab_len ?_; intro HF))
      refine bodyPost_ret (v := tabV cTab) ?_ rfl ⟨rfl, ?_⟩
      · exact results_cell_row rfl _ _ g _ _ _ _ rfl HF.heap Try.underlying24 rfl (by rw [tabSize]; simp [nums_length, cTab_len])
      · exact below_setRow hB (by omega) _
end Go.Proofs.Ytflnopaheanpdaa
