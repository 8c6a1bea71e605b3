/- Delta's laws: the walks of short, few, Same. -/
import Derived.Test.YtbkcpgaicoagfaaDel9
set_option linter.unusedVariables false
set_option linter.unusedSimpArgs false
namespace Go.Proofs.Ytbkcpgaicoagfaa
open Go.RowKit

/-- So many bytes at most. -/
def cutB (s : ByteArray) : ByteArray := if 2048 < s.size then s.extract 0 2048 else s
def cutHd (h : Hdr) : Hdr := (cutB h.1, cutB h.2)
def fewH (l : List Hdr) : List Hdr := (l.take 24).map cutHd
theorem cutB_size (s : ByteArray) : (cutB s).size ≤ 2048 := by
  unfold cutB
  split
  · rw [ByteArray.size_extract]; omega
  · omega
theorem fewH_len (l : List Hdr) : (fewH l).length = min 24 l.length := by simp [fewH]
theorem fewH_size (l : List Hdr) : ∀ h ∈ fewH l, h.1.size ≤ 2048 ∧ h.2.size ≤ 2048 := fun h hh => by
  obtain ⟨x, _, rfl⟩ := List.mem_map.1 hh
  exact ⟨cutB_size _, cutB_size _⟩
theorem fewH_snoc {l : List Hdr} {j : Nat} {t : Hdr} (h : l[j]? = some t) : ((l.take (j + 1)).map cutHd) = ((l.take j).map cutHd) ++ [cutHd t] := by
  have hj := (List.getElem?_eq_some_iff.1 h).1
  have h2 := (List.getElem?_eq_some_iff.1 h).2
  rw [← List.take_append_getElem hj, List.map_append, h2]
  rfl
theorem short_any (s : ByteArray) (w : World) (hs : s.size ≤ 9223372036854775807) :
    Calls Try.prog 61 #[.string s] w fun e w' => e = .returned (.string (cutB s)) ∧ w = w' := by
  unfold cutB
  by_cases h : 2048 < s.size
  · rw [if_pos h]
    go_enter Try.func61, Try.ntmps61
    go_wp2
    go_ret
    exact ⟨rfl, rfl⟩
  · rw [if_neg h]
    go_enter Try.func61, Try.ntmps61
    go_wp2
    go_ret
    exact ⟨rfl, rfl⟩
def Pd.litH (x : Hdr) : Pd := ⟨fun v u => ∃ B, v = .slice (some ⟨B, 0, none⟩) 1 1 ∧ RdH u (some ⟨B, 0, none⟩) 1 [x], fun v u u' ⟨B, h, h2⟩ hg => ⟨B, h, h2.keep hg⟩⟩

set_option maxRecDepth 100000 in
set_option maxHeartbeats 1600000 in
theorem few20_any (A : Option Addr) (n c : Nat) (l : List Hdr) (w : World) (hr : RdH w A n l) (hs : ∀ t ∈ l, t.1.size ≤ 9223372036854775807 ∧ t.2.size ≤ 9223372036854775807) (hn : n ≤ 9223372036854775807) :
    Calls Try.prog 31 #[.slice A n c] w fun e w' => ∃ v, e = .returned v ∧ OwnH w' w.heap.size v (fewH l) ∧ Grew w w' := by
  have hlen := hr.lenH
  have HR := Lib.hid hr
  have HS := Lib.hid hs
  have HL := Lib.hid hlen
  clear hr hs hlen
  go_enter Try.func31, Try.ntmps31
  go_wp2
  go_loopw [3, 4] (fun v i wr => ∃ j : Nat, i = .int .i64 (j : Int) ∧ j ≤ 24 ∧ j ≤ n ∧ OwnV 124 2 wr w.heap.size v j (hcs ((l.take j).map cutHd)) ∧ Grew w wr) (fun _ i _ => 24 - (intOf i).toNat)
  case atStart => exact ⟨0, rfl, by omega, by omega, ownV_lit0 _ 2 w, (Grew.rf w).al _⟩
  case round =>
    obtain ⟨j, rfl, hj, hjn, hO, hB⟩ := hrel
    by_cases hc : j < n ∧ j < 24
    · obtain ⟨hc1, hc2⟩ := hc
      obtain ⟨b, o, x, hA, hx, ha1, ha2⟩ := HR.out.atH hc1
      have hce1 := hB.ce ha1
      have hce2 := hB.ce ha2
      have hts := HS.out x (List.mem_of_getElem? hx)
      obtain ⟨hs1, hs2⟩ := hts
      have hsn := fewH_snoc hx
      have HSN := Lib.hid hsn
      have hsz := hB.size
      have HO := Lib.hid hO
      have HB := Lib.hid hB
      subst hA
      clear hx hsn ha1 ha2 hO hB
      go_wp2_with fail
      refine region_split 15 [[], [], [], [(1, 17), (2, 18)], [(1, 17), (2, 18), (3, 19)], [(1, 17), (2, 18), (3, 19), (4, 20)], [(1, 17), (2, 18), (3, 19), (4, 20), (5, 21)], [], [], [(7, 23), (8, 24)], [(7, 23), (8, 24), (9, 25)], [(7, 23), (8, 24), (9, 25), (10, 26)], [(7, 23), (8, 24), (9, 25), (10, 26), (11, 27)], [(1, 17), (2, 18), (3, 19), (4, 20), (5, 21), (6, 22), (7, 23), (8, 24), (9, 25), (10, 26), (12, 28)], [(1, 17), (2, 18), (3, 19), (4, 20), (5, 21), (6, 22), (7, 23), (8, 24), (9, 25), (10, 26), (13, 29)], [(0, 16), (1, 17), (2, 18), (3, 19), (4, 20), (5, 21), (6, 22), (7, 23), (8, 24), (9, 25), (10, 26), (11, 27), (12, 28), (13, 29), (14, 30)], [(0, 16), (1, 17), (2, 18), (3, 19), (4, 20), (5, 21), (6, 22), (7, 23), (8, 24), (9, 25), (10, 26), (11, 27), (12, 28), (13, 29), (14, 30), (15, 31)]] [(0, 16), (1, 17), (2, 18), (3, 19), (4, 20), (5, 21), (6, 22), (7, 23), (8, 24), (9, 25), (10, 26), (11, 27), (12, 28), (13, 29), (14, 30)] (fun
        | 0 => .eqv (u3) | 1 => .eqv (.slice (some ⟨b, o, none⟩) n c) | 2 => .eqv (.int .i64 (j : Int)) | 3 => .eqv (.pointer (some ⟨b, o + j * 2, none⟩)) | 4 => .eqv (.pointer (some ⟨b, o + j * 2, none⟩)) | 5 => .eqv (.string x.1) | 6 => .eqv (.string (cutB x.1)) | 7 => .eqv (.slice (some ⟨b, o, none⟩) n c) | 8 => .eqv (.int .i64 (j : Int)) | 9 => .eqv (.pointer (some ⟨b, o + j * 2, none⟩)) | 10 => .eqv (.pointer (some ⟨b, o + j * 2 + 1, none⟩)) | 11 => .eqv (.string x.2) | 12 => .eqv (.string (cutB x.2)) | 13 => .eqv (.agg #[.string (cutB x.1), .string (cutB x.2)]) | 14 => .litH (cutHd x) | _ => .any) (by kernel_rfl) ?_ ?_
      · refine ⟨fun u hu => ?_, fun u hu => ?_, fun u hu => ?_, fun u hu => ?_, fun u hu => ?_, fun u hu => ?_, fun u hu => ?_, fun u hu => ?_, fun u hu => ?_, fun u hu => ?_, fun u hu => ?_, fun u hu => ?_, fun u hu => ?_, fun u hu => ?_, fun u hu => ?_, trivial⟩
        · refine StepGoal.nil ?_
          go_wp2
          exact ⟨rfl, rfl, Grew.rf _, rfl⟩
        · refine StepGoal.nil ?_
          go_wp2
          exact ⟨rfl, rfl, Grew.rf _, rfl⟩
        · refine StepGoal.nil ?_
          go_wp2
          exact ⟨rfl, rfl, Grew.rf _, rfl⟩
        · rintro _ rfl _ rfl
          refine StepGoal.nil ?_
          simp only [Act.put, List.setIfInBounds_toArray, List.set_cons_zero, List.set_cons_succ]
          go_wp2
          exact ⟨rfl, rfl, Grew.rf _, rfl⟩
        · rintro _ rfl _ rfl _ rfl
          refine StepGoal.nil ?_
          simp only [Act.put, List.setIfInBounds_toArray, List.set_cons_zero, List.set_cons_succ]
          go_wp2
          exact ⟨rfl, rfl, Grew.rf _, rfl⟩
        · rintro _ rfl _ rfl _ rfl _ rfl
          have hce := hu.ce hce1
          refine StepGoal.nil ?_
          simp only [Act.put, List.setIfInBounds_toArray, List.set_cons_zero, List.set_cons_succ]
          go_wp2
          exact ⟨rfl, rfl, Grew.rf _, rfl⟩
        · rintro _ rfl _ rfl _ rfl _ rfl _ rfl
          refine StepGoal.nil ?_
          simp only [Act.put, List.setIfInBounds_toArray, List.set_cons_zero, List.set_cons_succ]
          go_wp2_with (go_at_call 61; refine Calls.mono (short_any x.1 u hs1) ?_; rintro e w' ⟨rfl, rfl⟩)
          exact ⟨rfl, rfl, Grew.rf _, rfl⟩
        · refine StepGoal.nil ?_
          go_wp2
          exact ⟨rfl, rfl, Grew.rf _, rfl⟩
        · refine StepGoal.nil ?_
          go_wp2
          exact ⟨rfl, rfl, Grew.rf _, rfl⟩
        · rintro _ rfl _ rfl
          refine StepGoal.nil ?_
          simp only [Act.put, List.setIfInBounds_toArray, List.set_cons_zero, List.set_cons_succ]
          go_wp2
          exact ⟨rfl, rfl, Grew.rf _, rfl⟩
        · rintro _ rfl _ rfl _ rfl
          refine StepGoal.nil ?_
          simp only [Act.put, List.setIfInBounds_toArray, List.set_cons_zero, List.set_cons_succ]
          go_wp2
          exact ⟨rfl, rfl, Grew.rf _, rfl⟩
        · rintro _ rfl _ rfl _ rfl _ rfl
          have hce := hu.ce hce2
          refine StepGoal.nil ?_
          simp only [Act.put, List.setIfInBounds_toArray, List.set_cons_zero, List.set_cons_succ]
          go_wp2
          exact ⟨rfl, rfl, Grew.rf _, rfl⟩
        · rintro _ rfl _ rfl _ rfl _ rfl _ rfl
          refine StepGoal.nil ?_
          simp only [Act.put, List.setIfInBounds_toArray, List.set_cons_zero, List.set_cons_succ]
          go_wp2_with (go_at_call 61; refine Calls.mono (short_any x.2 u hs2) ?_; rintro e w' ⟨rfl, rfl⟩)
          exact ⟨rfl, rfl, Grew.rf _, rfl⟩
        · rintro _ rfl _ rfl _ rfl _ rfl _ rfl _ rfl _ rfl _ rfl _ rfl _ rfl _ rfl
          refine StepGoal.nil ?_
          simp only [Act.put, List.setIfInBounds_toArray, List.set_cons_zero, List.set_cons_succ]
          go_wp2
          exact ⟨rfl, rfl, Grew.rf _, rfl⟩
        · rintro _ rfl _ rfl _ rfl _ rfl _ rfl _ rfl _ rfl _ rfl _ rfl _ rfl _ rfl
          refine StepGoal.nil ?_
          simp only [Act.put, List.setIfInBounds_toArray, List.set_cons_zero, List.set_cons_succ]
          go_wp2
          exact ⟨rfl, rfl, (Grew.rf _).al _, _, rfl, rdV_lit2 u (cutHd x) _⟩
      · intro u hu
        rintro _ rfl _ rfl _ rfl _ rfl _ rfl _ rfl _ rfl _ rfl _ rfl _ rfl _ rfl _ rfl _ rfl _ rfl v30 h30
        refine StepGoal.nil ?_
        simp only [Act.put, List.setIfInBounds_toArray, List.set_cons_zero, List.set_cons_succ]; simp only [List.drop_succ_cons, List.drop_zero]
        obtain ⟨B2, rfl, hR2⟩ : (Pd.litH (cutHd x)).p v30 u := h30
        have hsu := hu.size
        refine appV Try.underlying31 infoH zero_hdr (by decide) (by decide) (.inl rfl) rfl rfl rfl (HO.out.keep hu) hR2 (hcs_one _) (by omega) (by omega) ?_
        intro v1 w1 ho1 hg1 hat1
        have hN1 : OwnV 124 2 w1 w.heap.size v1 (j + 1) (hcs ((l.take (j + 1)).map cutHd)) := by rw [HSN.out, hcs_append]; exact ho1
        have hN2 : Grew w w1 := (HB.out.tr hu).grown hg1 (by omega) (fun k e => HO.out.base_le k e)
        have HN1 := Lib.hid hN1
        have HN2 := Lib.hid hN2
        clear hN1 hN2 ho1 hg1 hat1 hR2 hu hsu
        go_wp2_with fail
        go_roundw
        case rel => exact ⟨j + 1, by go_num, by omega, by omega, HN1.out, HN2.out⟩
        case measure => simp [intOf]; omega
    · have hfin : (l.take j).map cutHd = fewH l := by
        unfold fewH
        by_cases h40 : j = 24
        · rw [h40]
        · have : j = n := by omega
          rw [List.take_of_length_le (by rw [HL.out]; omega), List.take_of_length_le (by rw [HL.out]; omega)]
      have hfl : j = (fewH l).length := by rw [fewH_len, HL.out]; omega
      rw [hfin] at hO
      have HFL := Lib.hid hfl
      clear hfin hfl
      by_cases hc1 : j < n
      · have hc2 : ¬ j < 24 := fun h => hc ⟨hc1, h⟩
        clear hc
        go_wp2
        go_ret
        exact ⟨_, rfl, HFL.out ▸ hO, hB⟩
      · clear hc
        go_wp2
        go_ret
        exact ⟨_, rfl, HFL.out ▸ hO, hB⟩
end Go.Proofs.Ytbkcpgaicoagfaa
