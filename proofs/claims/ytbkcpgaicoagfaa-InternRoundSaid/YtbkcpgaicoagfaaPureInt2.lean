/- The plain law of InternRound: the bytes of a text, taken again. -/
import Derived.Test.YtbkcpgaicoagfaaMemV
import Derived.Test.YtbkcpgaicoagfaaPureInt
import Derived.Test.YtbkcpgaicoagfaaPureLeb3
namespace Go.Proofs.Ytbkcpgaicoagfaa

/-- One byte behind: a text that was told takes no more than its number. -/
theorem putT_told {ts : List ByteArray} {s : ByteArray} (h : idxT ts s ≠ 0) : putT ts s = (leb (idxT ts s : Int), ts) := by
  unfold putT
  rw [if_neg h]
/-- A text is in the table behind its Put. -/
theorem idxT_put (ts : List ByteArray) (s : ByteArray) : idxT (putT ts s).2 s ≠ 0 := by
  unfold putT
  by_cases h : idxT ts s = 0
  · rw [if_pos h, idxT_snoc, if_pos h, if_pos rfl]; omega
  · rw [if_neg h]; exact h
/-- What a Put leaves in the table stays there. -/
theorem idxT_keep (ts : List ByteArray) (s t : ByteArray) (h : idxT ts t ≠ 0) : idxT (putT ts s).2 t ≠ 0 := by
  unfold putT
  by_cases h2 : idxT ts s = 0
  · rw [if_pos h2]
    simp only
    rw [idxT_snoc, if_neg h]
    exact h
  · rw [if_neg h2]; exact h
/-- The bytes of a Put, taken again by another table of the same texts. -/
theorem takeT_putT {ts : List ByteArray} {s : ByteArray} {ys r : List Int} (hs : s.size ≤ 2048) (hl : ts.length ≤ 1000000) (hr : Byt r) :
    takeT ts ((ys ++ (putT ts s).1) ++ r) (ys.length : Int) = (s, (ys.length : Int) + (putT ts s).1.length, 0, (putT ts s).2) := by
  have hle := idxT_le ts s
  by_cases h : idxT ts s = 0
  · have hp : putT ts s = (leb 0 ++ (leb (s.size : Int) ++ bsOf s), ts ++ [s]) := by unfold putT; rw [if_pos h]
    rw [hp]
    have hby : Byt (leb (s.size : Int)) := leb_byte (by omega)
    have hb2 := bsOf_byt s
    have hr2 : Byt (bsOf s ++ r) := fun x hx => (List.mem_append.1 hx).elim (hb2 x) (hr x)
    have hr1 : Byt (leb (s.size : Int) ++ (bsOf s ++ r)) := fun x hx => (List.mem_append.1 hx).elim (hby x) (hr2 x)
    have e1 := lebTake_round (ys := ys) (v := 0) (r := leb (s.size : Int) ++ (bsOf s ++ r)) (by omega) (by omega) hr1
    have e2 := lebTake_round (ys := ys ++ leb 0) (v := (s.size : Int)) (r := bsOf s ++ r) (by omega) (by omega) hr2
    have eb1 : (ys ++ leb 0) ++ (leb (s.size : Int) ++ (bsOf s ++ r)) = (ys ++ (leb 0 ++ (leb (s.size : Int) ++ bsOf s))) ++ r := by simp only [List.append_assoc]
    have eb2 : ((ys ++ leb 0) ++ leb (s.size : Int)) ++ (bsOf s ++ r) = (ys ++ (leb 0 ++ (leb (s.size : Int) ++ bsOf s))) ++ r := by simp only [List.append_assoc]
    rw [eb1] at e1
    rw [eb2, List.length_append, Int.natCast_add] at e2
    unfold takeT
    simp only
    rw [e1]
    simp only
    rw [if_neg (by simp), if_neg (by omega), if_neg (by omega), e2]
    simp only
    have hbl := bsOf_len s
    have hcut : ((((ys ++ (leb 0 ++ (leb (s.size : Int) ++ bsOf s))) ++ r).take ((ys.length : Int) + (leb 0).length + (leb (s.size : Int)).length + s.size).toNat).drop ((ys.length : Int) + (leb 0).length + (leb (s.size : Int)).length).toNat) = bsOf s := by
      rw [← eb2, show ((ys.length : Int) + (leb 0).length + (leb (s.size : Int)).length + s.size).toNat = (((ys ++ leb 0) ++ leb (s.size : Int)) ++ bsOf s).length by simp only [List.length_append, hbl]; omega,
        show ((ys.length : Int) + (leb 0).length + (leb (s.size : Int)).length).toNat = ((ys ++ leb 0) ++ leb (s.size : Int)).length by simp only [List.length_append]; omega, ← List.append_assoc ((ys ++ leb 0) ++ leb (s.size : Int)), List.take_left, List.drop_left]
    rw [hcut, bsOf_str, if_neg (by simp), if_neg (by omega), if_neg (by simp only [List.length_append, hbl]; omega), if_pos h]
    simp only [List.length_append, hbl, Prod.mk.injEq, true_and, and_true]
    omega
  · have hp := putT_told h
    rw [hp]
    have e1 := lebTake_round (ys := ys) (v := (idxT ts s : Int)) (r := r) (by omega) (by omega) hr
    unfold takeT
    simp only
    rw [e1]
    simp only
    obtain ⟨k, hk⟩ : ∃ k, idxT ts s = k + 1 := ⟨idxT ts s - 1, by omega⟩
    have hg := idxT_get hk
    rw [if_neg (by simp), if_neg (by omega), if_pos (by omega)]
    have e3 : ts.getD ((idxT ts s : Int).toNat - 1) ByteArray.empty = s := by
      rw [Int.toNat_natCast, hk, Nat.add_sub_cancel, List.getD_eq_getElem?_getD, hg]
      rfl
    rw [e3]
end Go.Proofs.Ytbkcpgaicoagfaa
