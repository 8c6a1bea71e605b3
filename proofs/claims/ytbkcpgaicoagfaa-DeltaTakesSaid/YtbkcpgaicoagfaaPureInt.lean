/- Intern: texts and their numbers, plainly. -/
import Derived.Test.YtbkcpgaicoagfaaMemV
import Derived.Test.YtbkcpgaicoagfaaPureLeb3
set_option linter.unusedVariables false
set_option linter.unusedSimpArgs false
namespace Go.Proofs.Ytbkcpgaicoagfaa

/-- The number of a text: its place from 1 on; 0: it was not told. -/
def idxT : List ByteArray → ByteArray → Nat
  | [], _ => 0
  | t :: r, s => if t = s then 1 else if idxT r s = 0 then 0 else idxT r s + 1
theorem idxT_le (ts : List ByteArray) (s : ByteArray) : idxT ts s ≤ ts.length := by
  induction ts with
  | nil => simp [idxT]
  | cons t r ih =>
    rw [idxT, List.length_cons]
    split
    · omega
    · split <;> omega
theorem idxT_snoc (ts : List ByteArray) (t s : ByteArray) : idxT (ts ++ [t]) s = if idxT ts s = 0 then (if t = s then ts.length + 1 else 0) else idxT ts s := by
  induction ts with
  | nil => simp [idxT]
  | cons u r ih =>
    rw [List.cons_append, idxT, idxT, ih, List.length_cons]
    by_cases h1 : u = s
    · simp [h1]
    · rw [if_neg h1, if_neg h1]
      by_cases h2 : idxT r s = 0
      · rw [if_pos h2, if_pos h2, if_pos rfl]
        by_cases h3 : t = s
        · rw [if_pos h3, if_neg (by omega), if_pos h3]
        · rw [if_neg h3, if_pos rfl, if_neg h3]
      · rw [if_neg h2, if_neg h2, if_neg (by omega)]
theorem idxT_get {ts : List ByteArray} {s : ByteArray} : ∀ {k : Nat}, idxT ts s = k + 1 → ts[k]? = some s := by
  induction ts with
  | nil => intro k h; simp [idxT] at h
  | cons t r ih =>
    intro k h
    rw [idxT] at h
    by_cases h1 : t = s
    · rw [if_pos h1] at h
      obtain rfl : k = 0 := by omega
      simp [h1]
    · rw [if_neg h1] at h
      by_cases h2 : idxT r s = 0
      · rw [if_pos h2] at h; omega
      · rw [if_neg h2] at h
        obtain ⟨j, rfl⟩ : ∃ j, k = j + 1 := ⟨k - 1, by omega⟩
        rw [List.getElem?_cons_succ]
        exact ih (by omega)
/-- Bytes of a text, and the texts behind. -/
def putT (ts : List ByteArray) (s : ByteArray) : List Int × List ByteArray :=
  if idxT ts s = 0 then (leb 0 ++ (leb (s.size : Int) ++ bsOf s), ts ++ [s]) else (leb (idxT ts s : Int), ts)
/-- The text that stands at a place. -/
def takeT (ts : List ByteArray) (b : List Int) (at_ : Int) : ByteArray × Int × Int × List ByteArray :=
  let r := lebTake b at_
  if r.2.2 ≠ 0 then (ByteArray.empty, 0, r.2.2, ts)
  else if (ts.length : Int) < r.1 then (ByteArray.empty, 0, 5, ts)
  else if 0 < r.1 then (ts.getD (r.1.toNat - 1) ByteArray.empty, r.2.1, 0, ts)
  else
    let q := lebTake b r.2.1
    if q.2.2 ≠ 0 then (ByteArray.empty, 0, q.2.2, ts)
    else if 2048 < q.1 then (ByteArray.empty, 0, 2, ts)
    else if (b.length : Int) < q.2.1 + q.1 then (ByteArray.empty, 0, 7, ts)
    else
      let s := strOfNums ((b.take (q.2.1 + q.1).toNat).drop q.2.1.toNat)
      if idxT ts s = 0 then (s, q.2.1 + q.1, 0, ts ++ [s]) else (ByteArray.empty, 0, 4, ts)
end Go.Proofs.Ytbkcpgaicoagfaa
