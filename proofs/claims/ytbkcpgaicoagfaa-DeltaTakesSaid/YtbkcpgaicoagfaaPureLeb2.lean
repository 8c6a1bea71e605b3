/- Plain law of layer 1 (leb), second part: the reference's reading is the program's; what was written is read again. -/
import Derived.Test.YtbkcpgaicoagfaaPureLeb
set_option linter.unusedVariables false
set_option linter.unusedSimpArgs false
namespace Go.Proofs.Ytbkcpgaicoagfaa

/-- What digits to base 128 come to, the lowest first. -/
def valF : List Int → Int
  | [] => 0
  | c :: r => c % 128 + 128 * valF r
theorem valF_nonneg : ∀ l : List Int, 0 ≤ valF l
  | [] => by simp [valF]
  | c :: r => by
    have := valF_nonneg r
    simp only [valF]
    omega
theorem valF_append : ∀ (l m : List Int), valF (l ++ m) = valF l + 128 ^ l.length * valF m
  | [], m => by simp [valF]
  | c :: r, m => by
    simp only [List.cons_append, valF, valF_append r m, List.length_cons, Int.pow_succ]
    rw [Int.mul_add, Int.mul_comm (128 ^ r.length) 128, ← Int.mul_assoc]
    omega
theorem take_snoc {ds : List Int} {k : Nat} (hk : k < ds.length) : ds.take (k + 1) = ds.take k ++ [ds.getD k 0] := by
  rw [List.take_succ_eq_append_getElem hk]
  simp [List.getD_eq_getElem?_getD, List.getElem?_eq_getElem hk]
theorem valF_take {ds : List Int} {k : Nat} (hk : k < ds.length) : valF (ds.take (k + 1)) = valF (ds.take k) + (ds.getD k 0 % 128) * 128 ^ k := by
  rw [take_snoc hk, valF_append, List.length_take, Nat.min_eq_left (by omega)]
  simp only [valF]
  rw [Int.mul_comm]
  simp
/-- The code's own sums, as they wrap round. -/
def nF (ds : List Int) : Nat → Int
  | 0 => 0
  | k + 1 => (nF ds k + (ds.getD k 0 % 128) * (128 ^ k % 18446744073709551616) % 18446744073709551616) % 18446744073709551616
theorem nF_eq (ds : List Int) : ∀ k, k ≤ ds.length → nF ds k = valF (ds.take k) % 18446744073709551616
  | 0, _ => by simp [nF, valF]
  | k + 1, h => by
    rw [nF, nF_eq ds k (by omega), valF_take (by omega)]
    rw [Int.add_emod_emod, Int.emod_add_emod]
    rw [Int.add_emod, Int.mul_emod, Int.emod_emod_of_dvd _ (Int.dvd_refl _), ← Int.mul_emod, ← Int.add_emod]

theorem valF_leb : ∀ (k : Nat) (v : Int), 1 ≤ k → 0 ≤ v → v < 128 ^ k → valF (lebF k v) = v
  | 0, _, h, _, _ => by omega
  | k + 1, v, _, h0, h1 => by
    rw [lebF]
    by_cases hv : v < 128
    · rw [if_pos hv]
      simp only [valF]
      omega
    · rw [if_neg hv]
      have hk : 1 ≤ k := by
        rcases Nat.eq_zero_or_pos k with rfl | h
        · simp at h1; omega
        · exact h
      simp only [valF]
      rw [valF_leb k (v / 128) hk (by omega) (by rw [Int.pow_succ] at h1; omega)]
      omega
theorem leb_last : ∀ (k : Nat) (v : Int), 0 ≤ v → v < 128 ^ k → 2 ≤ (lebF k v).length → (lebF k v).getD ((lebF k v).length - 1) 0 ≠ 0
  | 0, v, _, _, h => by simp [lebF] at h
  | k + 1, v, h0, h1, h => by
    rw [lebF] at h ⊢
    by_cases hv : v < 128
    · rw [if_pos hv] at h
      simp at h
    · rw [if_neg hv] at h ⊢
      have hk : 1 ≤ k := by
        rcases Nat.eq_zero_or_pos k with rfl | h
        · simp [lebF] at h
        · exact h
      have hlt : v / 128 < 128 ^ k := by rw [Int.pow_succ] at h1; omega
      by_cases h2 : 2 ≤ (lebF k (v / 128)).length
      · have ih := leb_last k (v / 128) (by omega) hlt h2
        simp only [List.length_cons, Nat.add_sub_cancel]
        rw [show (lebF k (v / 128)).length = (lebF k (v / 128)).length - 1 + 1 by omega, List.getD_cons_succ]
        exact ih
      · obtain ⟨j, rfl⟩ : ∃ j, k = j + 1 := ⟨k - 1, by omega⟩
        simp only [lebF] at h h2 ⊢
        by_cases hv2 : v / 128 < 128
        · rw [if_pos hv2]
          simp
          omega
        · rw [if_neg hv2] at h h2 ⊢
          have : (lebF j (v / 128 / 128)).length = 0 := by simp only [List.length_cons] at h2; omega
          have hj : j = 0 := by
            rcases Nat.eq_zero_or_pos j with rfl | hj
            · rfl
            · exfalso
              obtain ⟨i, rfl⟩ : ∃ i, j = i + 1 := ⟨j - 1, by omega⟩
              rw [lebF] at this
              split at this <;> simp at this
          subst hj
          simp at hlt
          omega
/-- A list of groups, as it should be, is the encoding of what it comes to. -/
theorem leb_of_val : ∀ (l : List Int) (k : Nat), 1 ≤ l.length → l.length ≤ k → (∀ j, j + 1 < l.length → 128 ≤ l.getD j 0 ∧ l.getD j 0 ≤ 255) → 0 ≤ l.getD (l.length - 1) 0 → l.getD (l.length - 1) 0 < 128 → (2 ≤ l.length → l.getD (l.length - 1) 0 ≠ 0) → lebF k (valF l) = l
  | [], _, h, _, _, _, _, _ => by simp at h
  | [c], k, _, hk, _, h0, h1, _ => by
    obtain ⟨j, rfl⟩ : ∃ j, k = j + 1 := ⟨k - 1, by simp at hk; omega⟩
    simp at h0 h1
    rw [lebF, if_pos (by simp [valF]; omega)]
    simp [valF]
    omega
  | c :: d :: r, k, _, hk, hm, h0, h1, h2 => by
    obtain ⟨j, rfl⟩ : ∃ j, k = j + 1 := ⟨k - 1, by simp at hk; omega⟩
    have hc := hm 0 (by simp)
    simp at hc
    have hl : (c :: d :: r).length - 1 = (d :: r).length - 1 + 1 := by simp
    rw [hl, List.getD_cons_succ] at h0 h1 h2
    have ih := leb_of_val (d :: r) j (by simp) (by simp at hk ⊢; omega) (fun i hi => by
      have := hm (i + 1) (by simp at hi ⊢; omega)
      simpa using this) h0 h1 (fun h => h2 (by simp))
    have hpos : 1 ≤ valF (d :: r) := by
      have hn := valF_nonneg (d :: r)
      rcases Int.lt_or_le 0 (valF (d :: r)) with h | h
      · omega
      · exfalso
        have hz : valF (d :: r) = 0 := by omega
        have hlast := h2 (by simp)
        have : ∀ (l : List Int), valF l = 0 → 1 ≤ l.length → 0 ≤ l.getD (l.length - 1) 0 → l.getD (l.length - 1) 0 < 128 → l.getD (l.length - 1) 0 = 0 := by
          intro l
          induction l with
          | nil => intro _ h; simp at h
          | cons a t ih =>
            intro hz _ g0 g1
            simp only [valF] at hz
            have ht := valF_nonneg t
            cases t with
            | nil =>
              simp [valF] at hz g0 g1 ⊢
              omega
            | cons b u =>
              have hl : (a :: b :: u).length - 1 = (b :: u).length - 1 + 1 := by simp
              rw [hl, List.getD_cons_succ] at g0 g1 ⊢
              exact ih (by omega) (by simp) g0 g1
        exact hlast (this _ hz (by simp) h0 h1)
    rw [lebF, if_neg (by simp only [valF] at hpos ⊢; omega)]
    have e1 : valF (c :: d :: r) % 128 + 128 = c := by
      rw [valF]; omega
    have e2 : valF (c :: d :: r) / 128 = valF (d :: r) := by
      rw [valF]; omega
    rw [e1, e2, ih]

/-- How many bytes ahead bear the sign that more follow, of k at most. -/
def scanF : Nat → List Int → Nat
  | 0, _ => 0
  | _ + 1, [] => 0
  | k + 1, c :: r => if 128 ≤ c then scanF k r + 1 else 0
def ScAt (ds : List Int) (j : Nat) : Prop := scanF 10 ds = j + scanF (10 - j) (ds.drop j) ∧ j ≤ 10 ∧ j ≤ ds.length ∧ ∀ i, i < j → 128 ≤ ds.getD i 0
theorem ScAt.start (ds : List Int) : ScAt ds 0 := ⟨by simp, by omega, by omega, fun i h => by omega⟩
theorem ScAt.step {ds : List Int} {j : Nat} (h : ScAt ds j) (hj : j < ds.length) (h10 : j < 10) (hc : 128 ≤ ds.getD j 0) : ScAt ds (j + 1) := by
  obtain ⟨h0, h1, h2, h3⟩ := h
  refine ⟨?_, by omega, by omega, fun i hi => ?_⟩
  · rw [h0, drop_at hj, show 10 - j = (10 - (j + 1)) + 1 by omega, scanF, if_pos hc]
    omega
  · by_cases e : i = j
    · subst e; exact hc
    · exact h3 i (by omega)
/-- The reference's reading, in plain words: m bytes ahead say that more follow. -/
def rTake (ds : List Int) (m : Nat) : Int × Nat × Int :=
  if m = ds.length ∧ m < 10 then (0, 0, 7) else if m = 10 then (0, 0, 4)
  else if leb (nF ds (m + 1)) = ds.take (m + 1) then (nF ds (m + 1), m + 1, 0) else (0, 0, 4)

theorem tk_of_ge {ds : List Int} (hb : ∀ x ∈ ds, 0 ≤ x ∧ x ≤ 255) : ∀ j, j ≤ ds.length → j ≤ 9 → (∀ i, i < j → 128 ≤ ds.getD i 0) → TkAt ds j (valF (ds.take j))
  | 0, _, _, _ => by simpa [valF] using TkAt.start ds
  | j + 1, h1, h2, h3 => by
    have ih := tk_of_ge hb j (by omega) (by omega) (fun i hi => h3 i (by omega))
    have hc := h3 j (by omega)
    have hx := tk_byte hb (k := j) (by omega)
    have := ih.more hc hx.2 (by omega) (by omega)
    rw [valF_take (by omega)]
    rwa [show ds.getD j 0 % 128 = ds.getD j 0 - 128 by omega]
theorem rTake_eq {ds : List Int} (hb : ∀ x ∈ ds, 0 ≤ x ∧ x ≤ 255) {m : Nat} (hm : m ≤ ds.length) (h10 : m ≤ 10) (hge : ∀ i, i < m → 128 ≤ ds.getD i 0) (hend : m = ds.length ∨ m = 10 ∨ ds.getD m 0 < 128) :
    tkF 0 0 ds = rTake ds m := by
  unfold rTake
  by_cases c1 : m = ds.length ∧ m < 10
  · rw [if_pos c1]
    exact (tk_of_ge hb m hm (by omega) hge).short c1.1
  · rw [if_neg c1]
    by_cases c2 : m = 10
    · rw [if_pos c2]
      subst c2
      have hT := tk_of_ge hb 9 (by omega) (by omega) (fun i hi => hge i (by omega))
      exact hT.stop9 (by omega) (by have := hge 9 (by omega); omega)
    · rw [if_neg c2]
      have hml : m < ds.length := by omega
      have hc : ds.getD m 0 < 128 := by
        rcases hend with h | h | h
        · omega
        · omega
        · exact h
      have hx := tk_byte hb hml
      have hT := tk_of_ge hb m (by omega) (by omega) hge
      have hV := valF_take hml
      have hmod : ds.getD m 0 % 128 = ds.getD m 0 := by omega
      rw [hmod] at hV
      have hn := nF_eq ds (m + 1) (by omega)
      have hVn := valF_nonneg (ds.take (m + 1))
      have hlen : (ds.take (m + 1)).length = m + 1 := by rw [List.length_take]; omega
      have h128 : (128 : Int) ^ 10 = 1180591620717411303424 := by decide
      have hv : leb (nF ds (m + 1)) = ds.take (m + 1) → valF (ds.take (m + 1)) = nF ds (m + 1) := fun h => by
        rw [← h]
        exact valF_leb 10 _ (by omega) (by omega) (by omega)
      by_cases c3 : m = 9 ∧ 1 < ds.getD m 0
      · obtain ⟨rfl, c3⟩ := c3
        rw [hT.stop9 hml c3, if_neg]
        intro h
        have h9 : (128 : Int) ^ 9 = 9223372036854775808 := by decide
        have := hv h
        have hp := valF_nonneg (ds.take 9)
        rw [h9] at hV
        omega
      · by_cases c4 : ds.getD m 0 = 0 ∧ 0 < m
        · rw [hT.stop0 hml c4.1 c4.2, if_neg]
          intro h
          have hl := leb_last 10 (nF ds (m + 1)) (by omega) (by omega) (by
            have : lebF 10 (nF ds (m + 1)) = ds.take (m + 1) := h
            rw [this, hlen]; omega)
          have h' : lebF 10 (nF ds (m + 1)) = ds.take (m + 1) := h
          rw [h', hlen, Nat.add_sub_cancel] at hl
          have e2 : (ds.take (m + 1)).getD m 0 = ds.getD m 0 := by simp [List.getD_eq_getElem?_getD]
          exact hl (e2.trans c4.1)
        · rw [hT.done hml hc c3 c4]
          have hfit := hT.fits hx.1 hc c3
          have e : nF ds (m + 1) = valF (ds.take m) + ds.getD m 0 * 128 ^ m := by
            rw [hn, hV]
            have := valF_nonneg (ds.take (m + 1))
            omega
          have eV : valF (ds.take (m + 1)) = nF ds (m + 1) := by rw [hV, e]
          have hg : ∀ i, i < m + 1 → (ds.take (m + 1)).getD i 0 = ds.getD i 0 := fun i hi => by
            simp [List.getD_eq_getElem?_getD, List.getElem?_take, hi]
          rw [if_pos, e]
          rw [← eV]
          exact leb_of_val _ 10 (by omega) (by omega) (fun j hj => by
            rw [hlen] at hj
            rw [hg j (by omega)]
            exact ⟨hge j (by omega), (tk_byte hb (k := j) (by omega)).2⟩)
            (by rw [hlen, Nat.add_sub_cancel, hg m (by omega)]; exact hx.1)
            (by rw [hlen, Nat.add_sub_cancel, hg m (by omega)]; exact hc)
            (fun h2 => by rw [hlen, Nat.add_sub_cancel, hg m (by omega)]; intro h0; exact c4 ⟨h0, by rw [hlen] at h2; omega⟩)

end Go.Proofs.Ytbkcpgaicoagfaa
