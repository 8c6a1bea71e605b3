/- The plain law of InternRound: texts one behind the other. -/
import Derived.Test.YtbkcpgaicoagfaaPureInt2
namespace Go.Proofs.Ytbkcpgaicoagfaa

/-- The bytes of texts one behind the other, and the table behind them. -/
def encL : List ByteArray → List ByteArray → List Int × List ByteArray
  | ts, [] => ([], ts)
  | ts, s :: r => ((putT ts s).1 ++ (encL (putT ts s).2 r).1, (encL (putT ts s).2 r).2)

theorem putT_tab_len (ts : List ByteArray) (s : ByteArray) : (putT ts s).2.length ≤ ts.length + 1 := by
  unfold putT
  split <;> simp
theorem putT_byt (ts : List ByteArray) (s : ByteArray) : Byt (putT ts s).1 := by
  by_cases h : idxT ts s = 0
  · have hp : putT ts s = (leb 0 ++ (leb (s.size : Int) ++ bsOf s), ts ++ [s]) := by unfold putT; rw [if_pos h]
    have h0 : Byt (leb 0) := leb_byte (by omega)
    have h1 : Byt (leb (s.size : Int)) := leb_byte (by omega)
    rw [hp]
    intro x hx
    rcases List.mem_append.1 hx with h | h
    · exact h0 x h
    · rcases List.mem_append.1 h with h | h
      · exact h1 x h
      · exact bsOf_byt s x h
  · have h1 : Byt (leb (idxT ts s : Int)) := leb_byte (by omega)
    rw [putT_told h]
    generalize leb (idxT ts s : Int) = q at h1
    exact h1
theorem encL_len : ∀ (l ts : List ByteArray), (encL ts l).2.length ≤ ts.length + l.length
  | [], ts => by simp [encL]
  | s :: r, ts => by
    have h1 := encL_len r (putT ts s).2
    have h2 := putT_tab_len ts s
    simp only [encL, List.length_cons]
    omega
theorem encL_byt : ∀ (l ts : List ByteArray), Byt (encL ts l).1
  | [], ts => by intro x hx; simp [encL] at hx
  | s :: r, ts => by
    intro x hx
    simp only [encL] at hx
    rcases List.mem_append.1 hx with h | h
    · exact putT_byt ts s x h
    · exact encL_byt r _ x h
theorem encL_keep : ∀ (l ts : List ByteArray) (t : ByteArray), idxT ts t ≠ 0 → idxT (encL ts l).2 t ≠ 0
  | [], ts, t, h => by simpa [encL] using h
  | s :: r, ts, t, h => by
    simp only [encL]
    exact encL_keep r _ t (idxT_keep ts s t h)
theorem encL_has : ∀ (l ts : List ByteArray) (t : ByteArray), t ∈ l → idxT (encL ts l).2 t ≠ 0
  | s :: r, ts, t, h => by
    simp only [encL]
    rcases List.mem_cons.1 h with rfl | h
    · exact encL_keep r _ t (idxT_put ts t)
    · exact encL_has r _ t h
/-- A small number takes one byte. -/
theorem leb_one {v : Int} (h0 : 0 ≤ v) (h1 : v < 128) : (leb v).length = 1 := by
  obtain ⟨k, rfl⟩ : ∃ k : Nat, v = k := ⟨v.toNat, by omega⟩
  have : ∀ k < 128, (leb ((k : Nat) : Int)).length = 1 := by decide +kernel
  exact this k (by omega)
/-- The text at j, and those behind it. -/
theorem drop_text {l : List ByteArray} {j : Nat} {t : ByteArray} (h : l[j]? = some t) : l.drop j = t :: l.drop (j + 1) := by
  have hj := (List.getElem?_eq_some_iff.1 h).1
  rw [List.drop_eq_getElem_cons hj]
  congr 1
  exact (List.getElem?_eq_some_iff.1 h).2
end Go.Proofs.Ytbkcpgaicoagfaa
