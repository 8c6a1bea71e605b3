/- Intern's laws: the walk of few. -/
import Derived.Test.YtbkcpgaicoagfaaInt6
import Derived.Test.YtbkcpgaicoagfaaTwo
set_option linter.unusedVariables false
set_option linter.unusedSimpArgs false
namespace Go.Proofs.Ytbkcpgaicoagfaa
open Go.RowKit

/-- Texts, not too many, nor too long. -/
def cutT (s : ByteArray) : ByteArray := if 300 < s.size then s.extract 0 300 else s
def fewT (ts : List ByteArray) : List ByteArray := (ts.take 40).map cutT
theorem cutT_size (s : ByteArray) : (cutT s).size ≤ 300 := by
  unfold cutT
  split
  · rw [ByteArray.size_extract]; omega
  · omega
theorem fewT_len (ts : List ByteArray) : (fewT ts).length = min 40 ts.length := by simp [fewT]
theorem fewT_snoc {ts : List ByteArray} {j : Nat} {t : ByteArray} (h : ts[j]? = some t) : ((ts.take (j + 1)).map cutT) = ((ts.take j).map cutT) ++ [cutT t] := by
  have hj := (List.getElem?_eq_some_iff.1 h).1
  have h2 := (List.getElem?_eq_some_iff.1 h).2
  rw [← List.take_append_getElem hj, List.map_append, h2]
  rfl

set_option maxRecDepth 100000 in
set_option maxHeartbeats 1600000 in
theorem few_any (A : Option Addr) (n c : Nat) (ts : List ByteArray) (w : World) (hr : RdV 1 w A n (ts.map Value.string)) (hs : ∀ t ∈ ts, t.size ≤ 9223372036854775807) (hn : n ≤ 9223372036854775807) :
    Calls Try.prog 22 #[.slice A n c] w fun e w' => ∃ v, e = .returned v ∧ OwnT w' w.heap.size v (fewT ts) ∧ Grew w w' := by
  have hlen : ts.length = n := by have := hr.len; simpa using this
  have HR := Lib.hid hr
  have HS := Lib.hid hs
  have HL := Lib.hid hlen
  clear hr hs hlen
  go_enter Try.func22, Try.ntmps22
  go_wp2
  go_loopw [3, 4] (fun v i wr => ∃ j : Nat, i = .int .i64 (j : Int) ∧ j ≤ 40 ∧ j ≤ n ∧ OwnV 9 1 wr w.heap.size v j (((ts.take j).map cutT).map Value.string) ∧ Grew w wr) (fun _ i _ => 40 - (intOf i).toNat)
  case atStart => exact ⟨0, rfl, by omega, by omega, ownV_lit0 _ 1 w, (Grew.rf w).al _⟩
  case round =>
    obtain ⟨j, rfl, hj, hjn, hO, hB⟩ := hrel
    by_cases hc : j < n ∧ j < 40
    · obtain ⟨hc1, hc2⟩ := hc
      obtain ⟨g, o, hA, hcl⟩ := HR.out.cells (by omega)
      obtain ⟨t, ht⟩ : ∃ t, ts[j]? = some t := ⟨_, List.getElem?_eq_getElem (by rw [HL.out]; exact hc1)⟩
      have hce := hB.ce (hcl j (.string t) (by rw [List.getElem?_map, ht]; rfl))
      have hts := HS.out t (List.mem_of_getElem? ht)
      have hsn := fewT_snoc ht
      subst hA
      have HSN := Lib.hid hsn
      have hsz := hB.size
      clear hcl ht hsn
      by_cases hb : 300 < t.size
      · have hcu : cutT t = t.extract 0 300 := by unfold cutT; rw [if_pos hb]
        have HCU := Lib.hid hcu
        clear hcu
        go_wp2_with ((with_reducible refine gate_b .append #[.tmp 26, .tmp 28] _ rfl ?_); refine appV Try.underlying45 infostr rfl (by decide) (by decide) (.inl rfl) rfl rfl rfl (hO.keep ((Grew.rf _).al (.cells #[.string (t.extract 0 300)] 9))) (rdV_lit1 _ (.string (t.extract 0 300)) 9) (by simp [Value.oneCell']) (by simp; omega) (by omega) ?_; intro v1 w1 ho1 hg1 hat1)
        go_roundw
        case rel =>
          refine ⟨j + 1, by go_num, by omega, by omega, ?_, (hB.al _).grown hg1 (by simp; omega) (fun k e => hO.base_le k e)⟩
          rw [HSN.out, List.map_append, HCU.out]
          exact ho1
        case measure => simp [intOf]; omega
      · have hcu : cutT t = t := by unfold cutT; rw [if_neg hb]
        have HCU := Lib.hid hcu
        clear hcu
        go_wp2_with ((with_reducible refine gate_b .append #[.tmp 26, .tmp 28] _ rfl ?_); refine appV Try.underlying45 infostr rfl (by decide) (by decide) (.inl rfl) rfl rfl rfl (hO.keep ((Grew.rf _).al (.cells #[.string t] 9))) (rdV_lit1 _ (.string t) 9) (by simp [Value.oneCell']) (by simp; omega) (by omega) ?_; intro v1 w1 ho1 hg1 hat1)
        go_roundw
        case rel =>
          refine ⟨j + 1, by go_num, by omega, by omega, ?_, (hB.al _).grown hg1 (by simp; omega) (fun k e => hO.base_le k e)⟩
          rw [HSN.out, List.map_append, HCU.out]
          exact ho1
        case measure => simp [intOf]; omega
    · have hfin : (ts.take j).map cutT = fewT ts := by
        unfold fewT
        by_cases h40 : j = 40
        · rw [h40]
        · have : j = n := by omega
          rw [List.take_of_length_le (by rw [HL.out]; omega), List.take_of_length_le (by rw [HL.out]; omega)]
      have hfl : j = (fewT ts).length := by rw [fewT_len, HL.out]; omega
      rw [hfin] at hO
      have HFL := Lib.hid hfl
      clear hfin hfl
      by_cases hc1 : j < n
      · have hc2 : ¬ j < 40 := fun h => hc ⟨hc1, h⟩
        clear hc
        go_wp2
        go_ret
        exact ⟨_, rfl, HFL.out ▸ hO, hB⟩
      · clear hc
        go_wp2
        go_ret
        exact ⟨_, rfl, HFL.out ▸ hO, hB⟩
end Go.Proofs.Ytbkcpgaicoagfaa
