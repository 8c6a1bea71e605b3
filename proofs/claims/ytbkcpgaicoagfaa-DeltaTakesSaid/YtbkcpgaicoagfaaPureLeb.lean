/- Plain law of layer 1 (leb): the encoding of a number and its reading, on lists of whole numbers. -/
set_option linter.unusedVariables false
set_option linter.unusedSimpArgs false
namespace Go.Proofs.Ytbkcpgaicoagfaa

/-- The encoding of a number, at most k groups. -/
def lebF : Nat → Int → List Int
  | 0, _ => []
  | k + 1, v => if v < 128 then [v] else (v % 128 + 128) :: lebF k (v / 128)
def leb (v : Int) : List Int := lebF 10 v

/-- Somewhere in the encoding of v: xs is told, n is left. -/
def LebAt (v : Int) (xs : List Int) (n : Int) : Prop := ∃ j : Nat, 1 ≤ j ∧ 0 ≤ n ∧ n < 128 ^ j ∧ xs.length + j = 10 ∧ leb v = xs ++ lebF j n
theorem LebAt.start {v : Int} (h0 : 0 ≤ v) (h1 : v < 18446744073709551616) : LebAt v [] v := by
  have h : (128 : Int) ^ 10 = 1180591620717411303424 := by decide
  exact ⟨10, by omega, h0, by omega, rfl, rfl⟩
theorem LebAt.step {v n : Int} {xs : List Int} (h : LebAt v xs n) (hn : 128 ≤ n) : LebAt v (xs ++ [n % 128 + 128]) (n / 128) := by
  obtain ⟨j, h1, h2, h3, h4, h5⟩ := h
  obtain ⟨i, rfl⟩ : ∃ i, j = i + 1 := ⟨j - 1, by omega⟩
  have h6 : n < 128 * 128 ^ i := by rw [Int.pow_succ] at h3; omega
  have hi : 1 ≤ i := by
    rcases Nat.eq_zero_or_pos i with rfl | h
    · simp at h6; omega
    · exact h
  refine ⟨i, hi, by omega, by omega, by simp; omega, ?_⟩
  rw [h5, lebF, if_neg (by omega)]
  simp
theorem LebAt.fin {v n : Int} {xs : List Int} (h : LebAt v xs n) (hn : n < 128) : leb v = xs ++ [n] := by
  obtain ⟨j, h1, h2, h3, h4, h5⟩ := h
  obtain ⟨i, rfl⟩ : ∃ i, j = i + 1 := ⟨j - 1, by omega⟩
  rw [h5, lebF, if_pos hn]
theorem LebAt.len {v n : Int} {xs : List Int} (h : LebAt v xs n) : xs.length < 10 := by
  obtain ⟨j, h1, h2, h3, h4, h5⟩ := h
  omega

theorem leb_len {v : Int} (h0 : 0 ≤ v) : 1 ≤ (leb v).length ∧ (leb v).length ≤ 10 := by
  have : ∀ k v, 1 ≤ k → 1 ≤ (lebF k v).length ∧ (lebF k v).length ≤ k := by
    intro k
    induction k with
    | zero => intro v h; omega
    | succ k ih =>
      intro v _
      rw [lebF]
      split
      · simp
      · rcases Nat.eq_zero_or_pos k with rfl | h
        · simp [lebF]
        · have := ih (v / 128) h
          simp; omega
  exact this 10 v (by omega)
theorem leb_byte {v : Int} (h0 : 0 ≤ v) : ∀ x ∈ leb v, 0 ≤ x ∧ x ≤ 255 := by
  have : ∀ k v, 0 ≤ v → ∀ x ∈ lebF k v, 0 ≤ x ∧ x ≤ 255 := by
    intro k
    induction k with
    | zero => intro v _ x hx; simp [lebF] at hx
    | succ k ih =>
      intro v h x hx
      rw [lebF] at hx
      split at hx
      · simp at hx; omega
      · simp at hx
        rcases hx with rfl | hx
        · omega
        · exact ih _ (by omega) x hx
  exact this 10 v h0

/-- How many bits a number has. -/
def blenF : Nat → Int → Int
  | 0, _ => 0
  | k + 1, v => if v < 1 then 0 else 1 + blenF k (v / 2)
theorem blenF_zero (k : Nat) {v : Int} (h : v < 1) : blenF k v = 0 := by
  cases k with
  | zero => rfl
  | succ k => rw [blenF, if_pos h]
theorem blenF_step (k : Nat) {v : Int} (h : 1 ≤ v) : blenF (k + 1) v = 1 + blenF k (v / 2) := by rw [blenF, if_neg (by omega)]
theorem blenF_nonneg : ∀ (k : Nat) (v : Int), 0 ≤ blenF k v
  | 0, _ => by simp [blenF]
  | k + 1, v => by
    have := blenF_nonneg k (v / 2)
    rw [blenF]
    split <;> omega
theorem blenF_le_fuel : ∀ (k : Nat) (v : Int), blenF k v ≤ k
  | 0, _ => by simp [blenF]
  | k + 1, v => by
    have := blenF_le_fuel k (v / 2)
    rw [blenF]
    split <;> omega
theorem blenF_more : ∀ (k : Nat) (v : Int), v < 2 ^ k → ∀ j, blenF (k + j) v = blenF k v
  | 0, v, h, j => by
    rw [blenF_zero _ (by simpa using h), blenF_zero _ (by simpa using h)]
  | k + 1, v, h, j => by
    by_cases h1 : v < 1
    · rw [blenF_zero _ h1, blenF_zero _ h1]
    · rw [show k + 1 + j = (k + j) + 1 by omega, blenF_step _ (by omega), blenF_step _ (by omega), blenF_more k (v / 2) (by rw [Int.pow_succ] at h; omega) j]
theorem blenF_odd (k : Nat) {x : Int} (h : 1 ≤ x) : blenF k (x + (1 - x % 2)) = blenF k x := by
  cases k with
  | zero => rfl
  | succ k => rw [blenF_step _ (by omega), blenF_step _ (by omega), show (x + (1 - x % 2)) / 2 = x / 2 by omega]
theorem blenF_8 (k : Nat) {v : Int} (h : 256 ≤ v) : blenF (k + 8) v = 8 + blenF k (v / 256) := by
  rw [blenF_step _ (by omega), blenF_step _ (by omega), blenF_step _ (by omega), blenF_step _ (by omega), blenF_step _ (by omega), blenF_step _ (by omega), blenF_step _ (by omega), blenF_step _ (by omega)]
  rw [show v / 2 / 2 / 2 / 2 / 2 / 2 / 2 / 2 = v / 256 by omega]
  omega
theorem blenF_16 (k : Nat) {v : Int} (h : 65536 ≤ v) : blenF (k + 16) v = 16 + blenF k (v / 65536) := by
  rw [blenF_8 (k + 8) (by omega), blenF_8 k (by omega), show v / 256 / 256 = v / 65536 by omega]
  omega
theorem blenF_32 (k : Nat) {v : Int} (h : 4294967296 ≤ v) : blenF (k + 32) v = 32 + blenF k (v / 4294967296) := by
  rw [blenF_16 (k + 16) (by omega), blenF_16 k (by omega), show v / 65536 / 65536 = v / 4294967296 by omega]
  omega
theorem blenF_7 (k : Nat) {v : Int} (h : 128 ≤ v) : blenF (k + 7) v = 7 + blenF k (v / 128) := by
  rw [blenF_step _ (by omega), blenF_step _ (by omega), blenF_step _ (by omega), blenF_step _ (by omega), blenF_step _ (by omega), blenF_step _ (by omega), blenF_step _ (by omega)]
  rw [show v / 2 / 2 / 2 / 2 / 2 / 2 / 2 = v / 128 by omega]
  omega
/-- How the code comes to it: by halves, the last eight bits by a table. -/
theorem blen_8 {v : Int} (h : v < 256) : blenF 64 v = blenF 8 v := blenF_more 8 v h 56
theorem blen_16 {v : Int} (h : v < 65536) : blenF 64 v = blenF 16 v := blenF_more 16 v h 48
theorem blen_32 {v : Int} (h : v < 4294967296) : blenF 64 v = blenF 32 v := blenF_more 32 v h 32
theorem blen_32_16 {v : Int} (h : v < 65536) : blenF 32 v = blenF 16 v := blenF_more 16 v h 16
theorem blen_16_8 {v : Int} (h : v < 256) : blenF 16 v = blenF 8 v := blenF_more 8 v h 8

theorem leb_size_aux : ∀ (j : Nat) (v : Int), 1 ≤ j → 0 ≤ v → v < 128 ^ j → (blenF (7 * j) (v + (1 - v % 2)) + 6) / 7 = ((lebF j v).length : Int)
  | 0, v, h, _, _ => by omega
  | j + 1, v, _, h0, h1 => by
    rw [lebF]
    by_cases hv : v < 128
    · rw [if_pos hv]
      have ha : blenF (7 * (j + 1)) (v + (1 - v % 2)) = blenF 7 (v + (1 - v % 2)) := by
        rw [show 7 * (j + 1) = 7 + 7 * j by omega]
        exact blenF_more 7 _ (by show _ < 128; omega) _
      have hb := blenF_le_fuel 7 (v + (1 - v % 2))
      have hc : blenF 7 (v + (1 - v % 2)) = 1 + blenF 6 ((v + (1 - v % 2)) / 2) := blenF_step 6 (by omega)
      have hd := blenF_nonneg 6 ((v + (1 - v % 2)) / 2)
      rw [ha]
      simp
      omega
    · rw [if_neg hv]
      have hj : 1 ≤ j := by
        rcases Nat.eq_zero_or_pos j with rfl | h
        · simp at h1; omega
        · exact h
      have ih := leb_size_aux j (v / 128) hj (by omega) (by rw [Int.pow_succ] at h1; omega)
      have h2 := blenF_odd (7 * j) (x := v / 128) (by omega)
      rw [h2] at ih
      rw [show 7 * (j + 1) = 7 * j + 7 by omega, blenF_7 _ (by omega), show (v + (1 - v % 2)) / 128 = v / 128 by omega]
      simp only [List.length_cons]
      omega
theorem leb_size {v : Int} (h0 : 0 ≤ v) (h1 : v < 18446744073709551616) : (blenF 64 (v + (1 - v % 2)) + 6) / 7 = ((leb v).length : Int) := by
  have h := leb_size_aux 10 v (by omega) h0 (by have h : (128 : Int) ^ 10 = 1180591620717411303424 := by decide
                                                omega)
  have e : blenF (64 + 6) (v + (1 - v % 2)) = blenF 64 (v + (1 - v % 2)) := blenF_more 64 _ (by have h : (2 : Int) ^ 64 = 18446744073709551616 := by decide
                                                                                                omega) 6
  rw [show 7 * 10 = 64 + 6 by omega, e] at h
  exact h

theorem LebAt.len2 {v n : Int} {xs : List Int} (h : LebAt v xs n) : xs.length < 10 := h.len
/-- The reading of a number, byte by byte: i bytes are read, acc is what they come to; the answer: the number, how many bytes it took, the error. -/
def tkF : Nat → Int → List Int → Int × Nat × Int
  | _, _, [] => (0, 0, 7)
  | i, acc, c :: r =>
    if i = 9 ∧ 1 < c then (0, 0, 4)
    else if 128 ≤ c then tkF (i + 1) (acc + (c - 128) * 128 ^ i) r
    else if c = 0 ∧ 0 < i then (0, 0, 4)
    else (acc + c * 128 ^ i, i + 1, 0)

/-- Take, in plain words. -/
def lebTake (bs : List Int) (at_ : Int) : Int × Int × Int :=
  if at_ < 0 then (0, 0, 1) else if (bs.length : Int) < at_ then (0, 0, 1)
  else let r := tkF 0 0 (bs.drop at_.toNat); if r.2.2 = 0 then (r.1, at_ + r.2.1, 0) else (0, 0, r.2.2)

/-- k bytes of ds are read, ac is what they come to. -/
def TkAt (ds : List Int) (k : Nat) (ac : Int) : Prop := tkF 0 0 ds = tkF k ac (ds.drop k) ∧ k ≤ 9 ∧ 0 ≤ ac ∧ ac < 128 ^ k
theorem TkAt.start (ds : List Int) : TkAt ds 0 0 := ⟨by simp, by omega, by omega, by decide⟩

theorem tk_byte {ds : List Int} (hb : ∀ x ∈ ds, 0 ≤ x ∧ x ≤ 255) {k : Nat} (hk : k < ds.length) : 0 ≤ ds.getD k 0 ∧ ds.getD k 0 ≤ 255 := by
  have : ds.getD k 0 = ds[k] := by simp [List.getD_eq_getElem?_getD, List.getElem?_eq_getElem hk]
  rw [this]
  exact hb _ (List.getElem_mem hk)
theorem drop_at {ds : List Int} {k : Nat} (hk : k < ds.length) : ds.drop k = ds.getD k 0 :: ds.drop (k + 1) := by
  rw [List.drop_eq_getElem_cons hk]
  simp [List.getD_eq_getElem?_getD, List.getElem?_eq_getElem hk]
theorem TkAt.lt {ds : List Int} {k : Nat} {ac : Int} (h : TkAt ds k ac) : ac < 9223372036854775808 := by
  obtain ⟨_, h1, _, h2⟩ := h
  have h3 : (128 : Int) ^ k ≤ 128 ^ 9 := by exact_mod_cast Nat.pow_le_pow_right (n := 128) (by omega) h1
  have h4 : (128 : Int) ^ 9 = 9223372036854775808 := by decide
  omega
theorem TkAt.more {ds : List Int} {k : Nat} {ac : Int} (h : TkAt ds k ac) (hc : 128 ≤ ds.getD k 0) (hc2 : ds.getD k 0 ≤ 255) (h9 : ¬ k = 9) (hk : k < ds.length) : TkAt ds (k + 1) (ac + (ds.getD k 0 - 128) * 128 ^ k) := by
  obtain ⟨h0, h1, h2, h3⟩ := h
  have hp : (0 : Int) < 128 ^ k := Int.pow_pos (by omega)
  refine ⟨?_, by omega, ?_, ?_⟩
  · rw [h0, drop_at hk, tkF, if_neg (by omega), if_pos hc]
  · have := Int.mul_nonneg (a := ds.getD k 0 - 128) (b := 128 ^ k) (by omega) (by omega)
    omega
  · have h5 : (ds.getD k 0 - 128) * 128 ^ k ≤ 127 * 128 ^ k := Int.mul_le_mul_of_nonneg_right (by omega) (by omega)
    rw [Int.pow_succ]
    omega

theorem TkAt.stop9 {ds : List Int} {ac : Int} (h : TkAt ds 9 ac) (hk : 9 < ds.length) (hc : 1 < ds.getD 9 0) : tkF 0 0 ds = (0, 0, 4) := by
  rw [h.1, drop_at hk, tkF, if_pos ⟨rfl, hc⟩]
theorem TkAt.stop0 {ds : List Int} {k : Nat} {ac : Int} (h : TkAt ds k ac) (hk : k < ds.length) (hc : ds.getD k 0 = 0) (h0 : 0 < k) : tkF 0 0 ds = (0, 0, 4) := by
  rw [h.1, drop_at hk, tkF, hc, if_neg (by omega), if_neg (by omega), if_pos ⟨rfl, h0⟩]
theorem TkAt.done {ds : List Int} {k : Nat} {ac : Int} (h : TkAt ds k ac) (hk : k < ds.length) (h1 : ds.getD k 0 < 128) (h2 : ¬ (k = 9 ∧ 1 < ds.getD k 0)) (h3 : ¬ (ds.getD k 0 = 0 ∧ 0 < k)) : tkF 0 0 ds = (ac + ds.getD k 0 * 128 ^ k, k + 1, 0) := by
  rw [h.1, drop_at hk, tkF, if_neg h2, if_neg (by omega), if_neg h3]
theorem TkAt.short {ds : List Int} {k : Nat} {ac : Int} (h : TkAt ds k ac) (hk : k = ds.length) : tkF 0 0 ds = (0, 0, 7) := by
  rw [h.1, hk, List.drop_length, tkF]
theorem TkAt.fits {ds : List Int} {k : Nat} {ac d : Int} (h : TkAt ds k ac) (d0 : 0 ≤ d) (hd : d < 128) (h2 : ¬ (k = 9 ∧ 1 < d)) : ac + d * 128 ^ k < 18446744073709551616 := by
  obtain ⟨_, h1, h3, h4⟩ := h
  by_cases c : k = 9
  · subst c
    have h5 : (128 : Int) ^ 9 = 9223372036854775808 := by decide
    rw [h5] at h4 ⊢
    omega
  · have h5 : (128 : Int) ^ k ≤ 128 ^ 8 := by exact_mod_cast Nat.pow_le_pow_right (n := 128) (by omega) (by omega : k ≤ 8)
    have h6 : (128 : Int) ^ 8 = 72057594037927936 := by decide
    have h7 : d * 128 ^ k ≤ 127 * 128 ^ k := Int.mul_le_mul_of_nonneg_right (by omega) (Int.le_of_lt (Int.pow_pos (by omega)))
    omega

end Go.Proofs.Ytbkcpgaicoagfaa
