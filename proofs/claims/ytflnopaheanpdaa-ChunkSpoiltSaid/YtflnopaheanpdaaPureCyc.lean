/- The checksum, plainly. -/
import Derived.Test.YtflnopaheanpdaaReg2
set_option linter.unusedVariables false
set_option linter.unusedSimpArgs false
namespace Go.Proofs.Ytflnopaheanpdaa

def cStep (n : Nat) : Nat := if n % 2 = 1 then n / 2 ^^^ 3988292384 else n / 2
def cIt : Nat → Nat → Nat
  | 0, n => n
  | k + 1, n => cIt k (cStep n)
@[irreducible] def c8 (n : Nat) : Nat := cIt 8 n
theorem c8_eq (n : Nat) : c8 n = cIt 8 n := by unfold c8; rfl
def cTab : List Int := (List.range 256).map fun c => ((c8 c : Nat) : Int)
def sumF (T : List Int) : Nat → List Int → Nat
  | n, [] => n
  | n, x :: r => sumF T ((T.getD ((n % 256) ^^^ x.toNat) 0).toNat ^^^ n / 256) r
def crcF : Nat → List Int → Nat
  | n, [] => n
  | n, x :: r => crcF (c8 (n ^^^ x.toNat)) r
def valB : List Int → Nat
  | [] => 0
  | x :: r => x.toNat + 256 * valB r

theorem xor_half (a b : Nat) : (a ^^^ b) / 2 = a / 2 ^^^ b / 2 := Nat.xor_div_two
theorem xor_mod2 (a b : Nat) : (a ^^^ b) % 2 = (a % 2 + b % 2) % 2 := by
  have h := Nat.testBit_xor a b 0
  simp only [Nat.testBit_zero] at h
  rcases Nat.mod_two_eq_zero_or_one a with ha | ha <;> rcases Nat.mod_two_eq_zero_or_one b with hb | hb <;> rcases Nat.mod_two_eq_zero_or_one (a ^^^ b) with hc | hc <;> simp [ha, hb, hc] at h ⊢
theorem xor_ac (a b c d : Nat) : (a ^^^ b) ^^^ (c ^^^ d) = (a ^^^ c) ^^^ (b ^^^ d) := by
  apply Nat.eq_of_testBit_eq
  intro i
  simp only [Nat.testBit_xor]
  cases a.testBit i <;> cases b.testBit i <;> cases c.testBit i <;> cases d.testBit i <;> rfl
theorem xor_rc (a b c : Nat) : a ^^^ b ^^^ c = a ^^^ c ^^^ b := by rw [Nat.xor_assoc, Nat.xor_comm b, ← Nat.xor_assoc]
theorem cStep_xor (a b : Nat) : cStep (a ^^^ b) = cStep a ^^^ cStep b := by
  unfold cStep
  have h := xor_mod2 a b
  rw [xor_half]
  rcases Nat.mod_two_eq_zero_or_one a with ha | ha <;> rcases Nat.mod_two_eq_zero_or_one b with hb | hb <;> simp only [ha, hb] at h ⊢ <;> simp only [h] <;> simp
  · rw [Nat.xor_assoc]
  · rw [xor_rc]
  · have := xor_ac (a / 2) 3988292384 (b / 2) 3988292384
    rw [this]
    simp
theorem cIt_xor (k : Nat) : ∀ a b, cIt k (a ^^^ b) = cIt k a ^^^ cIt k b := by
  induction k with
  | zero => intro a b; rfl
  | succ k ih => intro a b; rw [cIt, cStep_xor, ih]; rfl
theorem cStep_even (m : Nat) : cStep (2 * m) = m := by
  unfold cStep
  rw [if_neg (by omega)]
  omega
theorem cIt_pow (k m : Nat) : cIt k (2 ^ k * m) = m := by
  induction k with
  | zero => simp [cIt]
  | succ k ih => rw [cIt, show 2 ^ (k + 1) * m = 2 * (2 ^ k * m) by rw [Nat.pow_succ]; rw [Nat.mul_comm (2 ^ k) 2, Nat.mul_assoc], cStep_even, ih]
theorem cIt_add (j : Nat) : ∀ k n, cIt (j + k) n = cIt k (cIt j n) := by
  induction j with
  | zero => intro k n; rw [Nat.zero_add]; rfl
  | succ j ih => intro k n; rw [show j + 1 + k = (j + k) + 1 by omega, cIt, ih]; rfl
theorem cIt_succ (k n : Nat) : cIt (k + 1) n = cStep (cIt k n) := by rw [cIt_add k 1 n]; rfl
theorem cStep_lt {n : Nat} (h : n < 4294967296) : cStep n < 4294967296 := by
  unfold cStep
  split
  · exact Nat.xor_lt_two_pow (n := 32) (by omega) (by omega)
  · omega
theorem cIt_lt (k : Nat) : ∀ {n : Nat}, n < 4294967296 → cIt k n < 4294967296 := by
  induction k with
  | zero => intro n h; exact h
  | succ k ih => intro n h; exact ih (cStep_lt h)
theorem cStep_ne {n : Nat} (h : n < 4294967296) (h0 : n ≠ 0) : cStep n ≠ 0 := by
  unfold cStep
  split
  · intro e
    have h2 : n / 2 ^^^ 3988292384 ^^^ 3988292384 = 0 ^^^ 3988292384 := by rw [e]
    rw [Nat.xor_assoc] at h2
    simp at h2
    omega
  · omega
theorem cIt_ne (k : Nat) : ∀ {n : Nat}, n < 4294967296 → n ≠ 0 → cIt k n ≠ 0 := by
  induction k with
  | zero => intro n h h0; exact h0
  | succ k ih => intro n h h0; exact ih (cStep_lt h) (cStep_ne h h0)
theorem cIt_zero (k : Nat) : cIt k 0 = 0 := by
  induction k with
  | zero => rfl
  | succ k ih => exact ih
/-- A low part and a high part. -/
theorem xor_low {a b : Nat} (k : Nat) (h : a < 2 ^ k) : a ^^^ 2 ^ k * b = a + 2 ^ k * b := by
  have h1 := Nat.two_pow_add_eq_or_of_lt h b
  rw [Nat.add_comm, h1]
  apply Nat.eq_of_testBit_eq
  intro i
  rw [Nat.testBit_xor, Nat.testBit_or]
  by_cases hi : i < k
  · rw [Nat.testBit_two_pow_mul]
    simp [show ¬ k ≤ i by omega]
  · rw [Nat.testBit_lt_two_pow (x := a) (Nat.lt_of_lt_of_le h (Nat.pow_le_pow_right (by omega) (by omega)))]
    simp
theorem xor_parts (n x : Nat) (hx : x < 256) : n ^^^ x = ((n % 256) ^^^ x) ^^^ 2 ^ 8 * (n / 256) := by
  have h := xor_low (a := n % 256) (b := n / 256) 8 (by omega)
  have e : n % 256 + 2 ^ 8 * (n / 256) = n := by omega
  rw [e] at h
  conv => lhs; rw [← h]
  rw [xor_rc]
theorem idx_lt (n x : Nat) (hx : x < 256) : (n % 256) ^^^ x < 256 := Nat.xor_lt_two_pow (n := 8) (by omega) hx
theorem cTab_len : cTab.length = 256 := by simp [cTab]
theorem cTab_get {j : Nat} (h : j < 256) : cTab.getD j 0 = ((c8 j : Nat) : Int) := by
  simp [cTab, List.getD_eq_getElem?_getD, h]
theorem byt8 {xs : List Int} (hb : Byt xs) {x : Int} (hx : x ∈ xs) : x.toNat < 256 := by have := hb x hx; omega
theorem sum_crc {xs : List Int} : ∀ (n : Nat), Byt xs → sumF cTab n xs = crcF n xs := by
  induction xs with
  | nil => intro n _; rfl
  | cons x r ih =>
    intro n hb
    have hx : x.toNat < 256 := byt8 hb (by simp)
    rw [sumF, crcF, ih _ (fun y hy => hb y (List.mem_cons_of_mem _ hy)), cTab_get (idx_lt n _ hx), Int.toNat_natCast]
    congr 1
    conv => rhs; rw [xor_parts n _ hx]
    rw [c8_eq, c8_eq, cIt_xor 8 _ (2 ^ 8 * (n / 256)), cIt_pow]
theorem crc_val {xs : List Int} : ∀ (n : Nat), Byt xs → crcF n xs = cIt (8 * xs.length) (n ^^^ valB xs) := by
  induction xs with
  | nil => intro n _; simp [crcF, valB, cIt]
  | cons x r ih =>
    intro n hb
    have hx : x.toNat < 256 := byt8 hb (by simp)
    rw [crcF, c8_eq, ih _ (fun y hy => hb y (List.mem_cons_of_mem _ hy)), valB, List.length_cons, show 8 * (r.length + 1) = 8 + 8 * r.length by omega, cIt_add]
    congr 1
    have := xor_low (a := x.toNat) (b := valB r) 8 hx
    rw [show 256 * valB r = 2 ^ 8 * valB r from rfl, ← this, ← Nat.xor_assoc, cIt_xor 8 _ (2 ^ 8 * valB r), cIt_pow]
theorem sumF_append (T : List Int) (xs ys : List Int) : ∀ n, sumF T n (xs ++ ys) = sumF T (sumF T n xs) ys := by
  induction xs with
  | nil => intro n; rfl
  | cons x r ih => intro n; rw [List.cons_append, sumF, sumF, ih]
theorem byt_get {xs : List Int} (hb : Byt xs) {j : Nat} (h : j < xs.length) : 0 ≤ xs.getD j 0 ∧ xs.getD j 0 ≤ 255 := by
  rw [List.getD_eq_getElem?_getD, List.getElem?_eq_getElem h]
  exact hb _ (List.getElem_mem h)
/-- Words of a table. -/
def Wrd (T : List Int) : Prop := ∀ x ∈ T, 0 ≤ x ∧ x < 4294967296
theorem Wrd.getD {T : List Int} (h : Wrd T) (j : Nat) : 0 ≤ T.getD j 0 ∧ T.getD j 0 < 4294967296 := by
  rw [List.getD_eq_getElem?_getD]
  cases e : T[j]? with
  | none => simp
  | some x => exact h x (List.mem_of_getElem? e)
theorem Wrd.set {T : List Int} (h : Wrd T) (j : Nat) {x : Int} (h0 : 0 ≤ x) (h1 : x < 4294967296) : Wrd (T.set j x) := fun y hy => by
  rcases List.mem_or_eq_of_mem_set hy with h2 | rfl
  · exact h y h2
  · exact ⟨h0, h1⟩
theorem cTab_wrd : Wrd cTab := fun x hx => by
  obtain ⟨c, hc, rfl⟩ := List.mem_map.1 hx
  have hc' : c < 256 := by simpa using hc
  have := cIt_lt 8 (n := c) (by omega)
  rw [c8_eq]
  omega
theorem sumF_lt {T : List Int} (hT : Wrd T) (xs : List Int) : ∀ n, n < 4294967296 → sumF T n xs < 4294967296 := by
  induction xs with
  | nil => intro n h; exact h
  | cons x r ih =>
    intro n h
    apply ih
    have := hT.getD ((n % 256) ^^^ x.toNat)
    exact Nat.xor_lt_two_pow (n := 32) (by omega) (by omega)
/-- The checksum by a table. -/
def cSum (T : List Int) (xs : List Int) : Nat := sumF T 4294967295 xs ^^^ 4294967295
theorem xor_all {n : Nat} (h : n < 4294967296) : n ^^^ 4294967295 = 4294967295 - n := by
  have := Nat.xor_lt_two_pow (n := 32) (x := n) (y := 4294967295) (by omega) (by omega)
  have h2 : n ^^^ 4294967295 = (2 ^ 32 - 1) - n := by
    apply Nat.eq_of_testBit_eq
    intro i
    rw [Nat.testBit_xor, show (4294967295 : Nat) = 2 ^ 32 - 1 from rfl, Nat.testBit_two_pow_sub_one, show 2 ^ 32 - 1 - n = 2 ^ 32 - (n + 1) by omega, Nat.testBit_two_pow_sub_succ (by omega)]
    by_cases hi : i < 32
    · simp [hi]
    · rw [Nat.testBit_lt_two_pow (x := n) (Nat.lt_of_lt_of_le h (show 2 ^ 32 ≤ 2 ^ i from Nat.pow_le_pow_right (by omega) (by omega)))]
      simp [hi]
  exact h2
end Go.Proofs.Ytflnopaheanpdaa
