/- The answer's Book: New; the length of what Put makes. -/
import Derived.Test.YtbkcpgaicoagfaaRb4
set_option linter.unusedVariables false
set_option linter.unusedSimpArgs false
namespace Go.Proofs.Ytbkcpgaicoagfaa
open Go.RowKit

theorem rbnew_any (w : World) : Calls Try.prog 13 #[] w fun e w' => ∃ p tp, e = .returned (.pointer (some ⟨p, 0, none⟩)) ∧ RBI w' p tp (.slice none 0 0) (.slice none 0 0) [] 0 ⟨[], 0, fun _ _ => []⟩ ∧ Grew w w' ∧ ∀ b, ftR p tp (.slice none 0 0) (.slice none 0 0) b → w.heap.size ≤ b := by
  go_enter Try.func13, Try.ntmps13
  go_wp2
  go_ret
  have hg1 : Grew w (w.alloc (.cells #[.slice none 0 0] 50)) := (Grew.rf w).al _
  have h1 := heap_alloc_new w (.cells #[.slice none 0 0] 50)
  have hg2 : Grew (w.alloc (.cells #[.slice none 0 0] 50)) ((w.alloc (.cells #[.slice none 0 0] 50)).alloc (.cells #[.pointer (some ⟨w.heap.size, 0, none⟩), .int .i64 0, .slice none 0 0] 87)) := (Grew.rf _).al _
  have h2 := heap_alloc_new (w.alloc (.cells #[.slice none 0 0] 50)) (.cells #[.pointer (some ⟨w.heap.size, 0, none⟩), .int .i64 0, .slice none 0 0] 87)
  rw [World.size_alloc] at h2
  have hR : RefI (w.alloc (.cells #[.slice none 0 0] 50)) w.heap.size (.slice none 0 0) [] := ⟨h1, OwnV.nil _ _ _ _, by simp, by simp⟩
  refine ⟨w.heap.size + 1, w.heap.size, rfl, ⟨h2, hR.keep hg2, OwnV.nil _ _ _ _, LinesI.nil _ _, by simp, by simp, by simp, by simp, by omega⟩, hg1.tr hg2, fun b hb => ?_⟩
  rcases hb with hb | (hb | hb) | hb
  · omega
  · omega
  · cases hb
  · cases hb
theorem putFs_len5 : ∀ (l : List Hdr) (ts : List ByteArray), (∀ h ∈ l, h.1.size ≤ 512 ∧ h.2.size ≤ 2048) → ts.length + 2 * l.length ≤ 1000000 → (putFs ts l).1.length ≤ 2600 * l.length
  | [], ts, _, _ => by simp [putFs]
  | x :: l, ts, h, hl => by
    rw [List.length_cons] at hl
    have hx := h x (List.mem_cons_self ..)
    have h1 := putT_len2 ts x.1 (by omega) (by omega)
    have h2 := putT_len2 (putT ts x.1).2 x.2 (by omega) (by omega)
    have h3 := putFs_len5 l (putT (putT ts x.1).2 x.2).2 (fun y hy => h y (List.mem_cons_of_mem _ hy)) (by omega)
    rw [putFs]
    simp only [List.length_append, List.length_cons]
    omega
theorem putD_len5 (ts : List ByteArray) (was list : List Hdr) (hl : list.length ≤ 25) (hz : ∀ h ∈ list, h.1.size ≤ 512 ∧ h.2.size ≤ 2048) (ht : ts.length ≤ 900000) : (putD ts was list).1.length ≤ 65030 := by
  have hf := freshD_len was list
  have hle := endsB_le was list
  have h1 := leb_len (v := (endsA was list : Int)) (by omega)
  have h2 := leb_len (v := (endsB was list : Int)) (by omega)
  have h3 := leb_len (v := ((freshD was list).length : Int)) (by omega)
  have hm : ∀ h ∈ freshD was list, h.1.size ≤ 512 ∧ h.2.size ≤ 2048 := fun h hh => hz h (by
    unfold freshD at hh
    exact List.mem_of_mem_take (List.mem_of_mem_drop hh))
  have hp := putFs_len5 (freshD was list) ts hm (by omega)
  simp only [putD, List.length_append]
  omega
theorem putB_len (s : PB) (x : Ev) (hG : GoodP x) (hW : EvW x) (h0 : 0 ≤ s.ti) (ht : s.ti ≤ x.ti) (hs : s.ts.length ≤ 800000) : (putB s x).1.length ≤ 110000 := by
  have hk := hG.ki
  have hw := wor_eq hk
  have hn := nums_eq hk
  have hm := mid_eq (x := x)
  have hse := hG.se
  have hti := hG.ti
  have hnn := hW.nn
  have l1 := leb_len (v := x.ki) (by omega)
  have l2 := leb_len (v := x.se) (by omega)
  have l3 := leb_len (v := x.ti - s.ti) (by omega)
  have l4 := leb_len (v := x.nn) (by omega)
  have l5 : (nCo x).length ≤ 10 := by
    unfold nCo
    split
    · rename_i h
      have h5 := hG.num 8 (by rcases h with h | h | h <;> rw [h] <;> decide)
      have : 0 ≤ x.co := by simpa [fldI] using h5.1
      have := leb_len this
      omega
    · simp
  have l6 : (nSt x).length ≤ 10 := by
    unfold nSt
    split
    · rename_i h
      have h5 := hG.num 7 (by rcases h with h | h <;> rw [h] <;> decide)
      have : 0 ≤ x.st := by simpa [fldI] using h5.1
      have := leb_len this
      omega
    · simp
  have l7 : (nCr x).length ≤ 1 := by unfold nCr; split <;> simp
  have l8 : (nNn x).length ≤ 10 := by
    unfold nNn
    split
    · omega
    · simp
  have hwl : (worE x).length ≤ 4 := by
    rw [hw]
    unfold tF tG tH
    simp only [List.length_append]
    split <;> split <;> split <;> simp
  have hpt := putTs_len (worE x) s.ts (fun t ht => by
    have a1 := hG.me
    have a2 := hG.ur
    have a3 := hG.no
    have a4 := hG.bo
    rw [hw] at ht
    unfold tF tG tH at ht
    simp only [List.mem_append] at ht
    rcases ht with (ht | ht) | ht <;> split at ht <;> simp at ht
    · rcases ht with rfl | rfl <;> omega
    · subst ht; omega
    · subst ht; omega) (by omega)
  have hd : (dltB s x (putTs s.ts (worE x)).2).1.length ≤ 65030 := by
    unfold dltB
    split
    · exact putD_len5 _ _ _ hG.hs hG.hd (by omega)
    · simp
  simp only [putB, headB, hn, hm, List.length_append]
  omega
end Go.Proofs.Ytbkcpgaicoagfaa
