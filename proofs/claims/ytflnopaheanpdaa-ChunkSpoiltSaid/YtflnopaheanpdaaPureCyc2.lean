/- Changed bits change the checksum. -/
import Derived.Test.YtflnopaheanpdaaPureCyc
set_option linter.unusedVariables false
set_option linter.unusedSimpArgs false
namespace Go.Proofs.Ytflnopaheanpdaa

/-- The pattern of the first i bits, those that lie within the text alone. -/
def maskB (bits p len : Nat) : Nat → Nat
  | 0 => 0
  | i + 1 => if bits.testBit i = true ∧ p + i < len then maskB bits p len i ^^^ 2 ^ i else maskB bits p len i
theorem maskB_lt (bits p len i : Nat) : maskB bits p len i < 2 ^ i := by
  induction i with
  | zero => simp [maskB]
  | succ i ih =>
    rw [maskB]
    have h1 : maskB bits p len i < 2 ^ (i + 1) := Nat.lt_of_lt_of_le ih (Nat.pow_le_pow_right (by omega) (by omega))
    split
    · exact Nat.xor_lt_two_pow h1 (by rw [Nat.pow_succ]; have := Nat.two_pow_pos i; omega)
    · exact h1
theorem maskB_bit (bits p len : Nat) : ∀ i k, (maskB bits p len i).testBit k = true → k < i ∧ p + k < len := by
  intro i
  induction i with
  | zero => intro k h; simp [maskB] at h
  | succ i ih =>
    intro k h
    rw [maskB] at h
    split at h
    · rename_i hc
      rw [Nat.testBit_xor, Nat.testBit_two_pow] at h
      by_cases hk : i = k
      · subst hk; exact ⟨by omega, hc.2⟩
      · have : (maskB bits p len i).testBit k = true := by simpa [hk] using h
        have := ih k this
        omega
    · have := ih k h
      omega
theorem maskB_succ_ne (bits p len i : Nat) (h : bits.testBit i = true ∧ p + i < len) : maskB bits p len (i + 1) ≠ 0 := by
  rw [maskB, if_pos h]
  intro e
  have h1 := maskB_lt bits p len i
  have h2 : (maskB bits p len i ^^^ 2 ^ i).testBit i = true := by
    rw [Nat.testBit_xor, Nat.testBit_two_pow, Nat.testBit_lt_two_pow h1]
    simp
  rw [e] at h2
  simp at h2

/-- One bit of a text. -/
theorem valB_flip : ∀ {xs : List Int} {k : Nat}, Byt xs → k < 8 * xs.length → valB (xs.set (k / 8) (((xs.getD (k / 8) 0).toNat ^^^ 2 ^ (k % 8) : Nat) : Int)) = valB xs ^^^ 2 ^ k
  | [], k, _, h => by simp at h
  | x :: r, k, hb, h => by
    have hx : x.toNat < 256 := byt8 hb (by simp)
    by_cases hk : k < 8
    · rw [show k / 8 = 0 by omega, show k % 8 = k by omega]
      have h2 : x.toNat ^^^ 2 ^ k < 2 ^ 8 := Nat.xor_lt_two_pow (by omega) (Nat.pow_lt_pow_right (by omega) hk)
      simp only [List.set_cons_zero, List.getD_cons_zero, valB, Int.toNat_natCast]
      have e1 := xor_low (b := valB r) 8 h2
      have e2 := xor_low (b := valB r) 8 (show x.toNat < 2 ^ 8 by omega)
      rw [show 256 * valB r = 2 ^ 8 * valB r from rfl, ← e1, ← e2, xor_rc]
    · obtain ⟨j, rfl⟩ : ∃ j, k = j + 8 := ⟨k - 8, by omega⟩
      have ih := valB_flip (xs := r) (k := j) (fun y hy => hb y (List.mem_cons_of_mem _ hy)) (by simp at h; omega)
      rw [show (j + 8) / 8 = j / 8 + 1 by omega, show (j + 8) % 8 = j % 8 by omega]
      simp only [List.set_cons_succ, List.getD_cons_succ, valB]
      rw [ih]
      have e1 := xor_low (b := valB r ^^^ 2 ^ j) 8 (show x.toNat < 2 ^ 8 by omega)
      have e2 := xor_low (b := valB r) 8 (show x.toNat < 2 ^ 8 by omega)
      rw [show 256 * (valB r ^^^ 2 ^ j) = 2 ^ 8 * (valB r ^^^ 2 ^ j) from rfl, show 256 * valB r = 2 ^ 8 * valB r from rfl, ← e1, ← e2, Nat.xor_assoc]
      congr 1
      rw [show 2 ^ (j + 8) = 2 ^ 8 * 2 ^ j by rw [Nat.pow_add, Nat.mul_comm]]
      apply Nat.eq_of_testBit_eq
      intro i
      rw [Nat.testBit_xor, Nat.testBit_two_pow_mul, Nat.testBit_two_pow_mul, Nat.testBit_two_pow_mul, Nat.testBit_xor]
      by_cases hi : 8 ≤ i <;> simp [hi]
theorem byt_flip {xs : List Int} (hb : Byt xs) (k : Nat) : Byt (xs.set (k / 8) (((xs.getD (k / 8) 0).toNat ^^^ 2 ^ (k % 8) : Nat) : Int)) := fun y hy => by
  rcases List.mem_or_eq_of_mem_set hy with h | rfl
  · exact hb y h
  · have h1 : (xs.getD (k / 8) 0).toNat < 256 := by
      rw [List.getD_eq_getElem?_getD]
      cases e : xs[k / 8]? with
      | none => simp
      | some z => exact byt8 hb (List.mem_of_getElem? e)
    have h2 := Nat.xor_lt_two_pow (n := 8) (x := (xs.getD (k / 8) 0).toNat) (y := 2 ^ (k % 8)) (by omega) (Nat.pow_lt_pow_right (by omega) (by omega))
    omega
theorem shl_xor (p a b : Nat) : 2 ^ p * (a ^^^ b) = 2 ^ p * a ^^^ 2 ^ p * b := by
  apply Nat.eq_of_testBit_eq
  intro i
  rw [Nat.testBit_xor, Nat.testBit_two_pow_mul, Nat.testBit_two_pow_mul, Nat.testBit_two_pow_mul, Nat.testBit_xor]
  by_cases hi : p ≤ i <;> simp [hi]
/-- Texts of equal length whose values differ in a pattern of 32 bits in a row have different checksums, unless the pattern is empty. -/
theorem crc_apart {xs ys : List Int} {p m : Nat} (hx : Byt xs) (hy : Byt ys) (hl : ys.length = xs.length) (hv : valB ys = valB xs ^^^ 2 ^ p * m) (hm : m < 4294967296) (hp : p ≤ 8 * xs.length) (n : Nat) : crcF n ys = crcF n xs ↔ m = 0 := by
  rw [crc_val n hx, crc_val n hy, hl, hv, ← Nat.xor_assoc, cIt_xor]
  obtain ⟨q, hq⟩ : ∃ q, 8 * xs.length = p + q := ⟨8 * xs.length - p, by omega⟩
  have e : cIt (8 * xs.length) (2 ^ p * m) = cIt q m := by rw [hq, cIt_add, cIt_pow]
  rw [e]
  constructor
  · intro h
    by_cases h0 : m = 0
    · exact h0
    · exfalso
      have h1 := cIt_ne q hm h0
      generalize cIt (8 * xs.length) (n ^^^ valB xs) = z at h
      generalize cIt q m = y at h h1
      have : z ^^^ y ^^^ z = z ^^^ z := by rw [h]
      rw [xor_rc, Nat.xor_self, Nat.zero_xor] at this
      exact h1 this
  · intro h
    rw [h, cIt_zero, Nat.xor_zero]
theorem sum_apart {xs ys : List Int} {p m : Nat} (hx : Byt xs) (hy : Byt ys) (hl : ys.length = xs.length) (hv : valB ys = valB xs ^^^ 2 ^ p * m) (hm : m < 4294967296) (hp : p ≤ 8 * xs.length) : cSum cTab ys = cSum cTab xs ↔ m = 0 := by
  unfold cSum
  rw [sum_crc _ hx, sum_crc _ hy, ← crc_apart hx hy hl hv hm hp 4294967295]
  constructor
  · intro h
    have h2 : crcF 4294967295 ys ^^^ 4294967295 ^^^ 4294967295 = crcF 4294967295 xs ^^^ 4294967295 ^^^ 4294967295 := by rw [h]
    simpa [Nat.xor_assoc] using h2
  · intro h; rw [h]
end Go.Proofs.Ytflnopaheanpdaa
