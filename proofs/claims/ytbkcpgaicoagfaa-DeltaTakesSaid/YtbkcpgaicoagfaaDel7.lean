/- Delta: slices.Grow and slices.Concat at headers. -/
import Derived.Test.YtbkcpgaicoagfaaDel6
import Derived.Lib.AppendZeros
set_option linter.unusedVariables false
set_option linter.unusedSimpArgs false
namespace Go.Proofs.Ytbkcpgaicoagfaa
open Go.RowKit

/-- A slice of slices of headers. -/
structure PartsH (w : World) (A : Option Addr) (n : Nat) (xss : List (List Hdr)) : Prop where
  len : xss.length = n
  cells : ∀ j, j < n → ∃ b o B m c, A = some ⟨b, o, none⟩ ∧ w.cell? ⟨b, o + j, none⟩ = some (.slice B m c) ∧ m ≤ 9223372036854775807 ∧ RdH w B m (xss.getD j [])
theorem flatH_snoc {xss : List (List Hdr)} {j : Nat} (hj : j < xss.length) : (xss.take (j + 1)).flatten = (xss.take j).flatten ++ xss.getD j [] := by
  rw [List.take_add_one, List.getD_eq_getElem?_getD, List.getElem?_eq_getElem hj]
  show (List.take j xss ++ [xss[j]]).flatten = _
  rw [List.flatten_append]
  simp only [List.flatten_cons, List.flatten_nil, List.append_nil]
  rfl
theorem elemGH : Try.prog.underlying 3 = some (.int .i64) := Try.underlying3
set_option maxHeartbeats 800000 in
theorem growH_nil (n : Nat) (w : World) (hn : n ≤ 1000000) :
    Calls Try.prog 75 #[.slice none 0 0, .int .i64 (n : Int)] w fun e w' => ∃ v, e = .returned v ∧ OwnH w' w.heap.size v [] ∧ Grew w w' := by
  by_cases h0 : 0 < n
  · obtain ⟨i0, hi, hz0, hz1, hz2⟩ := info_parts infoH
    have hrun := fun (u : World) ty => Lib.run_append_nil_zeros (P := Try.prog) u 31 3 ty 124 i0 (.agg #[.string ByteArray.empty, .string ByteArray.empty]) .i64 .i64 Try.underlying31 elemGH hi hz0 n h0 (by omega) (by omega) (by rw [hz2]; omega)
    have HRUN := Lib.hid hrun
    clear hrun hi hz0 hz1 hz2
    have hge := grownCap_ge w n 0 124
    have hle := grownCap_le_maxLen w n 0 124 (by simp only [maxLen]; omega)
    go_enter Try.func75, Try.ntmps75
    have hcut0 := cutH_hi (kh := .i64) none 0 0 0 (by omega)
    have hcut := cutH_hi (kh := .i64) (some ⟨w.heap.size, 0, none⟩) n (grownCap w n 0 124) 0 (by omega)
    go_wp2_with ((with_reducible refine gate_b .append #[.tmp 20, .tmp 21] _ rfl ?_); refine Lib.wpList_append_run _ rfl _ _ _ _ rfl _ _ rfl rfl _ _ (HRUN.out _ _) ?_)
    go_ret
    have hsz : ∀ k, (Builtin.zeroCells #[Value.string ByteArray.empty, .string ByteArray.empty] k).size = k * 2 := fun k => by simp [Builtin.zeroCells]
    refine ⟨_, rfl, ⟨⟨by simp [hcs], .inr ⟨w.heap.size, _, _, rfl, Nat.le_refl _, heap_alloc_new w _, Nat.zero_le _, hle, ?_, by simp [hcs]⟩⟩⟩, ((Grew.rf w).al _).dr⟩
    rw [Array.size_append, hsz, hsz]
    omega
  · obtain rfl : n = 0 := by omega
    go_enter Try.func75, Try.ntmps75
    go_wp2
    go_ret
    exact ⟨_, rfl, OwnV.nil _ _ _ _, Grew.rf w⟩

theorem flatH_le (xss : List (List Hdr)) (j : Nat) : (xss.take j).flatten.length ≤ xss.flatten.length := by
  conv => rhs; rw [← List.take_append_drop j xss, List.flatten_append, List.length_append]
  omega
set_option maxHeartbeats 800000 in
theorem concatH_any (A : Option Addr) (n c : Nat) (xss : List (List Hdr)) (w : World) (hP : PartsH w A n xss) (hn : n ≤ 1000) (ht : xss.flatten.length ≤ 1000000) :
    Calls Try.prog 65 #[.slice A n c] w fun e w' => ∃ v, e = .returned v ∧ OwnH w' w.heap.size v xss.flatten ∧ Grew w w' := by
  have HP := Lib.hid hP
  have HT := Lib.hid ht
  clear hP ht
  go_enter Try.func65, Try.ntmps65
  go_wp2
  go_loop [3, 11] (fun s i => ∃ (j m : Nat), i = .int .i64 j ∧ j ≤ n ∧ s = .int .i64 (m : Int) ∧ m ≤ 1000000 ∧ (xss.take j).flatten.length = m) (fun _ i => n - (intOf i).toNat)
  case atStart => exact ⟨0, 0, rfl, by omega, rfl, by omega, rfl⟩
  case round =>
    obtain ⟨j, m, rfl, hj, rfl, hm, hS⟩ := hrel
    by_cases hlt : j < n
    · obtain ⟨b, o, B, k, c2, rfl, hce, hk, hr⟩ := HP.out.cells j hlt
      have hS2 : (xss.take (j + 1)).flatten.length = m + k := by rw [flatH_snoc (by rw [HP.out.len]; exact hlt), List.length_append, hS, hr.lenH]
      have hmk : m + k ≤ 1000000 := by rw [← hS2]; exact Nat.le_trans (flatH_le _ _) HT.out
      have HS2 := Lib.hid hS2
      have HS := Lib.hid hS
      clear hS2 hS
      go_wp2
      go_round
      case rel => exact ⟨j + 1, m + k, by go_num, by omega, by go_num, hmk, HS2.out⟩
      case measure => simp [intOf]; omega
    · have hje : j = n := by omega
      clear hS
      go_wp2_with (go_at_call 75; refine Calls.mono (growH_nil m _ (by omega)) ?_; rintro e w1 ⟨v1, rfl, ho1, hg1⟩)
      go_loopw [6, 27] (fun v i wr => ∃ (j : Nat), i = .int .i64 j ∧ j ≤ n ∧ OwnH wr w.heap.size v (xss.take j).flatten ∧ Grew w wr) (fun _ i _ => n - (intOf i).toNat)
      case atStart => exact ⟨0, rfl, by omega, by simpa using ho1, hg1⟩
      case round =>
        obtain ⟨i, rfl, hi, hO, hB⟩ := hrel
        by_cases hlt2 : i < n
        · obtain ⟨b, o, B, k, c2, rfl, hce, hk, hr⟩ := HP.out.cells i hlt2
          have hce2 := hB.ce hce
          have hsz := hB.size
          have hS2 : (xss.take (i + 1)).flatten = (xss.take i).flatten ++ xss.getD i [] := flatH_snoc (by rw [HP.out.len]; exact hlt2)
          have hbd : (xss.take i).flatten.length + k ≤ 1000000 := by
            have h1 := flatH_le xss (i + 1)
            rw [hS2, List.length_append, hr.lenH] at h1
            exact Nat.le_trans h1 HT.out
          have HS2 := Lib.hid hS2
          have HBD := Lib.hid hbd
          have HRL := Lib.hid hr.lenH
          clear hS2 hbd
          go_wp2_with ((with_reducible refine gate_b .append #[.tmp 31, .tmp 32] _ rfl ?_); refine appV Try.underlying31 infoH zero_hdr (by decide) (by decide) (.inl rfl) rfl rfl rfl hO (hr.keep hB) (hcs_one _) hsz (by have := HBD.out; omega) ?_; intro v2 w2 ho2 hg2 hat2)
          go_roundw
          case rel => exact ⟨i + 1, by go_num, by omega, by rw [HS2.out]; show OwnV _ _ _ _ _ _ _; rw [List.length_append, hcs_append, HRL.out]; exact ho2, hB.grown hg2 hsz (fun k e => hO.base_le k e)⟩
          case measure => simp [intOf]; omega
        · have hie : i = n := by omega
          rw [List.take_of_length_le (by rw [HP.out.len]; omega)] at hO
          go_wp2
          go_ret
          exact ⟨_, rfl, hO, hB⟩

end Go.Proofs.Ytbkcpgaicoagfaa
