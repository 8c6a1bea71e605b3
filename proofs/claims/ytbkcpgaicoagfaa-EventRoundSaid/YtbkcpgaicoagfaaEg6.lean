/- Plain law of layer 1 (leb), second part: the reference's reading is the program's; what was written is read again. -/
import Derived.Test.YtbkcpgaicoagfaaEg5
import Derived.Maps.OwnSet
import Derived.StringKeys
import Derived.Deep.WholeRow
import Derived.OrdersIn
set_option linter.unusedVariables false
set_option linter.unusedSimpArgs false
namespace Go.Proofs.Ytbkcpgaicoagfaa

/-- What digits to base 128 come to, the lowest first. -/
def valF : List Int → Int
  | [] => 0
  | c :: r => c % 128 + 128 * valF r
theorem valF_nonneg : ∀ l : List Int, 0 ≤ valF l
  | [] => by simp [valF]
  | c :: r => by
    have := valF_nonneg r
    simp only [valF]
    omega
theorem valF_append : ∀ (l m : List Int), valF (l ++ m) = valF l + 128 ^ l.length * valF m
  | [], m => by simp [valF]
  | c :: r, m => by
    simp only [List.cons_append, valF, valF_append r m, List.length_cons, Int.pow_succ]
    rw [Int.mul_add, Int.mul_comm (128 ^ r.length) 128, ← Int.mul_assoc]
    omega
theorem take_snoc {ds : List Int} {k : Nat} (hk : k < ds.length) : ds.take (k + 1) = ds.take k ++ [ds.getD k 0] := by
  rw [List.take_succ_eq_append_getElem hk]
  simp [List.getD_eq_getElem?_getD, List.getElem?_eq_getElem hk]
theorem valF_take {ds : List Int} {k : Nat} (hk : k < ds.length) : valF (ds.take (k + 1)) = valF (ds.take k) + (ds.getD k 0 % 128) * 128 ^ k := by
  rw [take_snoc hk, valF_append, List.length_take, Nat.min_eq_left (by omega)]
  simp only [valF]
  rw [Int.mul_comm]
  simp
/-- The code's own sums, as they wrap round. -/
def nF (ds : List Int) : Nat → Int
  | 0 => 0
  | k + 1 => (nF ds k + (ds.getD k 0 % 128) * (128 ^ k % 18446744073709551616) % 18446744073709551616) % 18446744073709551616
theorem nF_eq (ds : List Int) : ∀ k, k ≤ ds.length → nF ds k = valF (ds.take k) % 18446744073709551616
  | 0, _ => by simp [nF, valF]
  | k + 1, h => by
    rw [nF, nF_eq ds k (by omega), valF_take (by omega)]
    rw [Int.add_emod_emod, Int.emod_add_emod]
    rw [Int.add_emod, Int.mul_emod, Int.emod_emod_of_dvd _ (Int.dvd_refl _), ← Int.mul_emod, ← Int.add_emod]

theorem valF_leb : ∀ (k : Nat) (v : Int), 1 ≤ k → 0 ≤ v → v < 128 ^ k → valF (lebF k v) = v
  | 0, _, h, _, _ => by omega
  | k + 1, v, _, h0, h1 => by
    rw [lebF]
    by_cases hv : v < 128
    · rw [if_pos hv]
      simp only [valF]
      omega
    · rw [if_neg hv]
      have hk : 1 ≤ k := by
        rcases Nat.eq_zero_or_pos k with rfl | h
        · simp at h1; omega
        · exact h
      simp only [valF]
      rw [valF_leb k (v / 128) hk (by omega) (by rw [Int.pow_succ] at h1; omega)]
      omega
theorem leb_last : ∀ (k : Nat) (v : Int), 0 ≤ v → v < 128 ^ k → 2 ≤ (lebF k v).length → (lebF k v).getD ((lebF k v).length - 1) 0 ≠ 0
  | 0, v, _, _, h => by simp [lebF] at h
  | k + 1, v, h0, h1, h => by
    rw [lebF] at h ⊢
    by_cases hv : v < 128
    · rw [if_pos hv] at h
      simp at h
    · rw [if_neg hv] at h ⊢
      have hk : 1 ≤ k := by
        rcases Nat.eq_zero_or_pos k with rfl | h
        · simp [lebF] at h
        · exact h
      have hlt : v / 128 < 128 ^ k := by rw [Int.pow_succ] at h1; omega
      by_cases h2 : 2 ≤ (lebF k (v / 128)).length
      · have ih := leb_last k (v / 128) (by omega) hlt h2
        simp only [List.length_cons, Nat.add_sub_cancel]
        rw [show (lebF k (v / 128)).length = (lebF k (v / 128)).length - 1 + 1 by omega, List.getD_cons_succ]
        exact ih
      · obtain ⟨j, rfl⟩ : ∃ j, k = j + 1 := ⟨k - 1, by omega⟩
        simp only [lebF] at h h2 ⊢
        by_cases hv2 : v / 128 < 128
        · rw [if_pos hv2]
          simp
          omega
        · rw [if_neg hv2] at h h2 ⊢
          have : (lebF j (v / 128 / 128)).length = 0 := by simp only [List.length_cons] at h2; omega
          have hj : j = 0 := by
            rcases Nat.eq_zero_or_pos j with rfl | hj
            · rfl
            · exfalso
              obtain ⟨i, rfl⟩ : ∃ i, j = i + 1 := ⟨j - 1, by omega⟩
              rw [lebF] at this
              split at this <;> simp at this
          subst hj
          simp at hlt
          omega
/-- A list of groups, as it should be, is the encoding of what it comes to. -/
theorem leb_of_val : ∀ (l : List Int) (k : Nat), 1 ≤ l.length → l.length ≤ k → (∀ j, j + 1 < l.length → 128 ≤ l.getD j 0 ∧ l.getD j 0 ≤ 255) → 0 ≤ l.getD (l.length - 1) 0 → l.getD (l.length - 1) 0 < 128 → (2 ≤ l.length → l.getD (l.length - 1) 0 ≠ 0) → lebF k (valF l) = l
  | [], _, h, _, _, _, _, _ => by simp at h
  | [c], k, _, hk, _, h0, h1, _ => by
    obtain ⟨j, rfl⟩ : ∃ j, k = j + 1 := ⟨k - 1, by simp at hk; omega⟩
    simp at h0 h1
    rw [lebF, if_pos (by simp [valF]; omega)]
    simp [valF]
    omega
  | c :: d :: r, k, _, hk, hm, h0, h1, h2 => by
    obtain ⟨j, rfl⟩ : ∃ j, k = j + 1 := ⟨k - 1, by simp at hk; omega⟩
    have hc := hm 0 (by simp)
    simp at hc
    have hl : (c :: d :: r).length - 1 = (d :: r).length - 1 + 1 := by simp
    rw [hl, List.getD_cons_succ] at h0 h1 h2
    have ih := leb_of_val (d :: r) j (by simp) (by simp at hk ⊢; omega) (fun i hi => by
      have := hm (i + 1) (by simp at hi ⊢; omega)
      simpa using this) h0 h1 (fun h => h2 (by simp))
    have hpos : 1 ≤ valF (d :: r) := by
      have hn := valF_nonneg (d :: r)
      rcases Int.lt_or_le 0 (valF (d :: r)) with h | h
      · omega
      · exfalso
        have hz : valF (d :: r) = 0 := by omega
        have hlast := h2 (by simp)
        have : ∀ (l : List Int), valF l = 0 → 1 ≤ l.length → 0 ≤ l.getD (l.length - 1) 0 → l.getD (l.length - 1) 0 < 128 → l.getD (l.length - 1) 0 = 0 := by
          intro l
          induction l with
          | nil => intro _ h; simp at h
          | cons a t ih =>
            intro hz _ g0 g1
            simp only [valF] at hz
            have ht := valF_nonneg t
            cases t with
            | nil =>
              simp [valF] at hz g0 g1 ⊢
              omega
            | cons b u =>
              have hl : (a :: b :: u).length - 1 = (b :: u).length - 1 + 1 := by simp
              rw [hl, List.getD_cons_succ] at g0 g1 ⊢
              exact ih (by omega) (by simp) g0 g1
        exact hlast (this _ hz (by simp) h0 h1)
    rw [lebF, if_neg (by simp only [valF] at hpos ⊢; omega)]
    have e1 : valF (c :: d :: r) % 128 + 128 = c := by
      rw [valF]; omega
    have e2 : valF (c :: d :: r) / 128 = valF (d :: r) := by
      rw [valF]; omega
    rw [e1, e2, ih]

/-- How many bytes ahead bear the sign that more follow, of k at most. -/
def scanF : Nat → List Int → Nat
  | 0, _ => 0
  | _ + 1, [] => 0
  | k + 1, c :: r => if 128 ≤ c then scanF k r + 1 else 0
def ScAt (ds : List Int) (j : Nat) : Prop := scanF 10 ds = j + scanF (10 - j) (ds.drop j) ∧ j ≤ 10 ∧ j ≤ ds.length ∧ ∀ i, i < j → 128 ≤ ds.getD i 0
theorem ScAt.start (ds : List Int) : ScAt ds 0 := ⟨by simp, by omega, by omega, fun i h => by omega⟩
theorem ScAt.step {ds : List Int} {j : Nat} (h : ScAt ds j) (hj : j < ds.length) (h10 : j < 10) (hc : 128 ≤ ds.getD j 0) : ScAt ds (j + 1) := by
  obtain ⟨h0, h1, h2, h3⟩ := h
  refine ⟨?_, by omega, by omega, fun i hi => ?_⟩
  · rw [h0, drop_at hj, show 10 - j = (10 - (j + 1)) + 1 by omega, scanF, if_pos hc]
    omega
  · by_cases e : i = j
    · subst e; exact hc
    · exact h3 i (by omega)
/-- The reference's reading, in plain words: m bytes ahead say that more follow. -/
def rTake (ds : List Int) (m : Nat) : Int × Nat × Int :=
  if m = ds.length ∧ m < 10 then (0, 0, 7) else if m = 10 then (0, 0, 4)
  else if leb (nF ds (m + 1)) = ds.take (m + 1) then (nF ds (m + 1), m + 1, 0) else (0, 0, 4)

theorem tk_of_ge {ds : List Int} (hb : ∀ x ∈ ds, 0 ≤ x ∧ x ≤ 255) : ∀ j, j ≤ ds.length → j ≤ 9 → (∀ i, i < j → 128 ≤ ds.getD i 0) → TkAt ds j (valF (ds.take j))
  | 0, _, _, _ => by simpa [valF] using TkAt.start ds
  | j + 1, h1, h2, h3 => by
    have ih := tk_of_ge hb j (by omega) (by omega) (fun i hi => h3 i (by omega))
    have hc := h3 j (by omega)
    have hx := tk_byte hb (k := j) (by omega)
    have := ih.more hc hx.2 (by omega) (by omega)
    rw [valF_take (by omega)]
    rwa [show ds.getD j 0 % 128 = ds.getD j 0 - 128 by omega]
theorem rTake_eq {ds : List Int} (hb : ∀ x ∈ ds, 0 ≤ x ∧ x ≤ 255) {m : Nat} (hm : m ≤ ds.length) (h10 : m ≤ 10) (hge : ∀ i, i < m → 128 ≤ ds.getD i 0) (hend : m = ds.length ∨ m = 10 ∨ ds.getD m 0 < 128) :
    tkF 0 0 ds = rTake ds m := by
  unfold rTake
  by_cases c1 : m = ds.length ∧ m < 10
  · rw [if_pos c1]
    exact (tk_of_ge hb m hm (by omega) hge).short c1.1
  · rw [if_neg c1]
    by_cases c2 : m = 10
    · rw [if_pos c2]
      subst c2
      have hT := tk_of_ge hb 9 (by omega) (by omega) (fun i hi => hge i (by omega))
      exact hT.stop9 (by omega) (by have := hge 9 (by omega); omega)
    · rw [if_neg c2]
      have hml : m < ds.length := by omega
      have hc : ds.getD m 0 < 128 := by
        rcases hend with h | h | h
        · omega
        · omega
        · exact h
      have hx := tk_byte hb hml
      have hT := tk_of_ge hb m (by omega) (by omega) hge
      have hV := valF_take hml
      have hmod : ds.getD m 0 % 128 = ds.getD m 0 := by omega
      rw [hmod] at hV
      have hn := nF_eq ds (m + 1) (by omega)
      have hVn := valF_nonneg (ds.take (m + 1))
      have hlen : (ds.take (m + 1)).length = m + 1 := by rw [List.length_take]; omega
      have h128 : (128 : Int) ^ 10 = 1180591620717411303424 := by decide
      have hv : leb (nF ds (m + 1)) = ds.take (m + 1) → valF (ds.take (m + 1)) = nF ds (m + 1) := fun h => by
        rw [← h]
        exact valF_leb 10 _ (by omega) (by omega) (by omega)
      by_cases c3 : m = 9 ∧ 1 < ds.getD m 0
      · obtain ⟨rfl, c3⟩ := c3
        rw [hT.stop9 hml c3, if_neg]
        intro h
        have h9 : (128 : Int) ^ 9 = 9223372036854775808 := by decide
        have := hv h
        have hp := valF_nonneg (ds.take 9)
        rw [h9] at hV
        omega
      · by_cases c4 : ds.getD m 0 = 0 ∧ 0 < m
        · rw [hT.stop0 hml c4.1 c4.2, if_neg]
          intro h
          have hl := leb_last 10 (nF ds (m + 1)) (by omega) (by omega) (by
            have : lebF 10 (nF ds (m + 1)) = ds.take (m + 1) := h
            rw [this, hlen]; omega)
          have h' : lebF 10 (nF ds (m + 1)) = ds.take (m + 1) := h
          rw [h', hlen, Nat.add_sub_cancel] at hl
          have e2 : (ds.take (m + 1)).getD m 0 = ds.getD m 0 := by simp [List.getD_eq_getElem?_getD]
          exact hl (e2.trans c4.1)
        · rw [hT.done hml hc c3 c4]
          have hfit := hT.fits hx.1 hc c3
          have e : nF ds (m + 1) = valF (ds.take m) + ds.getD m 0 * 128 ^ m := by
            rw [hn, hV]
            have := valF_nonneg (ds.take (m + 1))
            omega
          have eV : valF (ds.take (m + 1)) = nF ds (m + 1) := by rw [hV, e]
          have hg : ∀ i, i < m + 1 → (ds.take (m + 1)).getD i 0 = ds.getD i 0 := fun i hi => by
            simp [List.getD_eq_getElem?_getD, List.getElem?_take, hi]
          rw [if_pos, e]
          rw [← eV]
          exact leb_of_val _ 10 (by omega) (by omega) (fun j hj => by
            rw [hlen] at hj
            rw [hg j (by omega)]
            exact ⟨hge j (by omega), (tk_byte hb (k := j) (by omega)).2⟩)
            (by rw [hlen, Nat.add_sub_cancel, hg m (by omega)]; exact hx.1)
            (by rw [hlen, Nat.add_sub_cancel, hg m (by omega)]; exact hc)
            (fun h2 => by rw [hlen, Nat.add_sub_cancel, hg m (by omega)]; intro h0; exact c4 ⟨h0, by rw [hlen] at h2; omega⟩)

end Go.Proofs.Ytbkcpgaicoagfaa
/- Plain law of layer 1 (leb), third part: what was written is read again; what is read is what would be written. -/
set_option linter.unusedVariables false
set_option linter.unusedSimpArgs false
namespace Go.Proofs.Ytbkcpgaicoagfaa

theorem leb_shape : ∀ (k : Nat) (v : Int), 1 ≤ k → 0 ≤ v → v < 128 ^ k → 1 ≤ (lebF k v).length ∧ (∀ i, i + 1 < (lebF k v).length → 128 ≤ (lebF k v).getD i 0) ∧ (lebF k v).getD ((lebF k v).length - 1) 0 < 128
  | 0, _, h, _, _ => by omega
  | k + 1, v, _, h0, h1 => by
    rw [lebF]
    by_cases hv : v < 128
    · rw [if_pos hv]
      simp
      exact hv
    · rw [if_neg hv]
      have hk : 1 ≤ k := by
        rcases Nat.eq_zero_or_pos k with rfl | h
        · simp at h1; omega
        · exact h
      obtain ⟨g1, g2, g3⟩ := leb_shape k (v / 128) hk (by omega) (by rw [Int.pow_succ] at h1; omega)
      refine ⟨by simp, fun i hi => ?_, ?_⟩
      · cases i with
        | zero => simp; omega
        | succ i =>
          rw [List.getD_cons_succ]
          exact g2 i (by simp at hi; omega)
      · rw [List.length_cons, Nat.add_sub_cancel]
        rw [show (lebF k (v / 128)).length = (lebF k (v / 128)).length - 1 + 1 by omega, List.getD_cons_succ]
        exact g3
theorem leb_shape' {v : Int} (h0 : 0 ≤ v) (h1 : v < 18446744073709551616) : 1 ≤ (leb v).length ∧ (∀ i, i + 1 < (leb v).length → 128 ≤ (leb v).getD i 0) ∧ (leb v).getD ((leb v).length - 1) 0 < 128 :=
  leb_shape 10 v (by omega) h0 (by have h : (128 : Int) ^ 10 = 1180591620717411303424 := by decide
                                   omega)
theorem valF_leb' {v : Int} (h0 : 0 ≤ v) (h1 : v < 18446744073709551616) : valF (leb v) = v :=
  valF_leb 10 v (by omega) h0 (by have h : (128 : Int) ^ 10 = 1180591620717411303424 := by decide
                                  omega)
theorem getD_app {l r : List Int} {i : Nat} (h : i < l.length) : (l ++ r).getD i 0 = l.getD i 0 := by
  simp [List.getD_eq_getElem?_getD, List.getElem?_append_left h]

/-- A number is read again, whatever stands behind it. -/
theorem tk_round {v : Int} {r : List Int} (h0 : 0 ≤ v) (h1 : v < 18446744073709551616) (hr : ∀ x ∈ r, 0 ≤ x ∧ x ≤ 255) : tkF 0 0 (leb v ++ r) = (v, (leb v).length, 0) := by
  obtain ⟨s1, s2, s3⟩ := leb_shape' h0 h1
  have hl := leb_len h0
  have hb : ∀ x ∈ leb v ++ r, 0 ≤ x ∧ x ≤ 255 := fun x hx => by
    rcases List.mem_append.1 hx with h | h
    · exact leb_byte h0 x h
    · exact hr x h
  have ht : (leb v ++ r).take ((leb v).length - 1 + 1) = leb v := by
    rw [show (leb v).length - 1 + 1 = (leb v).length by omega, List.take_left]
  have hn : nF (leb v ++ r) ((leb v).length - 1 + 1) = v := by
    rw [nF_eq _ _ (by simp; omega), ht, valF_leb' h0 h1]
    omega
  rw [rTake_eq hb (m := (leb v).length - 1) (by simp; omega) (by omega) (fun i hi => by rw [getD_app (by omega)]; exact s2 i (by omega)) (.inr (.inr (by rw [getD_app (by omega)]; exact s3)))]
  unfold rTake
  rw [if_neg (by simp; omega), if_neg (by omega), ht, hn, if_pos rfl, show (leb v).length - 1 + 1 = (leb v).length by omega]
/-- A byte fewer, and it is too short. -/
theorem tk_short {v : Int} (h0 : 0 ≤ v) (h1 : v < 18446744073709551616) : tkF 0 0 ((leb v).take ((leb v).length - 1)) = (0, 0, 7) := by
  obtain ⟨s1, s2, s3⟩ := leb_shape' h0 h1
  have hl := leb_len h0
  have hlen : ((leb v).take ((leb v).length - 1)).length = (leb v).length - 1 := by rw [List.length_take]; omega
  rw [rTake_eq (fun x hx => leb_byte h0 x (List.mem_of_mem_take hx)) (m := (leb v).length - 1) (by omega) (by omega) (fun i hi => by
    have := s2 i (by omega)
    have e : ((leb v).take ((leb v).length - 1)).getD i 0 = (leb v).getD i 0 := by
      rw [List.getD_eq_getElem?_getD, List.getElem?_take, if_pos hi, ← List.getD_eq_getElem?_getD]
    rw [e]
    exact this) (.inl hlen.symm)]
  unfold rTake
  rw [if_pos ⟨hlen.symm, by omega⟩]
/-- Where the reading of any bytes stands still. -/
theorem scan_ends (ds : List Int) : ∃ m, m ≤ ds.length ∧ m ≤ 10 ∧ (∀ i, i < m → 128 ≤ ds.getD i 0) ∧ (m = ds.length ∨ m = 10 ∨ ds.getD m 0 < 128) := by
  have : ∀ d j, ScAt ds j → 10 - j ≤ d → ∃ m, m ≤ ds.length ∧ m ≤ 10 ∧ (∀ i, i < m → 128 ≤ ds.getD i 0) ∧ (m = ds.length ∨ m = 10 ∨ ds.getD m 0 < 128) := by
    intro d
    induction d with
    | zero =>
      intro j h hd
      exact ⟨j, h.2.2.1, h.2.1, h.2.2.2, .inr (.inl (by have := h.2.1; omega))⟩
    | succ d ih =>
      intro j h hd
      by_cases h1 : j < ds.length
      · by_cases h2 : j < 10
        · by_cases h3 : 128 ≤ ds.getD j 0
          · exact ih (j + 1) (h.step h1 h2 h3) (by omega)
          · exact ⟨j, h.2.2.1, h.2.1, h.2.2.2, .inr (.inr (by omega))⟩
        · exact ⟨j, h.2.2.1, h.2.1, h.2.2.2, .inr (.inl (by have := h.2.1; omega))⟩
      · exact ⟨j, h.2.2.1, h.2.1, h.2.2.2, .inl (by have := h.2.2.1; omega)⟩
  exact this 10 0 (ScAt.start ds) (by omega)
/-- What is read has just these bytes. -/
theorem tk_exact {ds : List Int} (hb : ∀ x ∈ ds, 0 ≤ x ∧ x ≤ 255) {v : Int} {n : Nat} (h : tkF 0 0 ds = (v, n, 0)) : n ≤ ds.length ∧ 1 ≤ n ∧ leb v = ds.take n ∧ 0 ≤ v ∧ v < 18446744073709551616 := by
  obtain ⟨m, h1, h2, h3, h4⟩ := scan_ends ds
  rw [rTake_eq hb h1 h2 h3 h4] at h
  unfold rTake at h
  by_cases c1 : m = ds.length ∧ m < 10
  · rw [if_pos c1] at h; simp at h
  · rw [if_neg c1] at h
    by_cases c2 : m = 10
    · rw [if_pos c2] at h; simp at h
    · rw [if_neg c2] at h
      by_cases c3 : leb (nF ds (m + 1)) = ds.take (m + 1)
      · rw [if_pos c3] at h
        simp only [Prod.mk.injEq] at h
        obtain ⟨rfl, rfl, _⟩ := h
        have hn := nF_eq ds (m + 1) (by omega)
        refine ⟨by omega, by omega, c3, by omega, by omega⟩
      · rw [if_neg c3] at h; simp at h

theorem lebTake_round {ys r : List Int} {v : Int} (h0 : 0 ≤ v) (h1 : v < 18446744073709551616) (hr : ∀ x ∈ r, 0 ≤ x ∧ x ≤ 255) : lebTake ((ys ++ leb v) ++ r) (ys.length : Int) = (v, (ys.length : Int) + (leb v).length, 0) := by
  unfold lebTake
  rw [if_neg (by omega), if_neg (by simp; omega), Int.toNat_natCast, List.append_assoc, List.drop_left, tk_round h0 h1 hr]
  simp
theorem lebTake_short {ys : List Int} {v : Int} (h0 : 0 ≤ v) (h1 : v < 18446744073709551616) : lebTake ((ys ++ leb v).take (ys.length + (leb v).length - 1)) (ys.length : Int) = (0, 0, 7) := by
  have hl := leb_len h0
  have e : (ys ++ leb v).take (ys.length + (leb v).length - 1) = ys ++ (leb v).take ((leb v).length - 1) := by
    rw [List.take_append, List.take_of_length_le (by omega)]
    congr 2
    omega
  unfold lebTake
  rw [e, if_neg (by omega), if_neg (by simp; omega), Int.toNat_natCast, List.drop_left, tk_short h0 h1]
  simp
theorem lebTake_exact {ds : List Int} (hb : ∀ x ∈ ds, 0 ≤ x ∧ x ≤ 255) {at_ v n : Int} (h : lebTake ds at_ = (v, n, 0)) : 0 ≤ at_ ∧ at_ < n ∧ n ≤ ds.length ∧ leb v = (ds.take n.toNat).drop at_.toNat ∧ 0 ≤ v ∧ v < 18446744073709551616 := by
  unfold lebTake at h
  by_cases c0 : at_ < 0
  · rw [if_pos c0] at h; simp at h
  · rw [if_neg c0] at h
    by_cases c1 : (ds.length : Int) < at_
    · rw [if_pos c1] at h; simp at h
    · rw [if_neg c1] at h
      have hb' : ∀ x ∈ ds.drop at_.toNat, 0 ≤ x ∧ x ≤ 255 := fun x hx => hb x (List.mem_of_mem_drop hx)
      generalize hr : tkF 0 0 (ds.drop at_.toNat) = r at h
      obtain ⟨r1, r2, r3⟩ := r
      by_cases c2 : r3 = 0
      · subst c2
        simp only [if_true, Prod.mk.injEq] at h
        obtain ⟨rfl, rfl, _⟩ := h
        obtain ⟨g1, g2, g3, g4, g5⟩ := tk_exact hb' hr
        rw [List.length_drop] at g1
        refine ⟨by omega, by omega, by omega, ?_, g4, g5⟩
        rw [g3, show (at_ + (r2 : Int)).toNat = at_.toNat + r2 by omega, List.drop_take]
        congr 1
        omega
      · simp only [if_neg c2, Prod.mk.injEq] at h
        exact absurd h.2.2 c2
/-- Where the reading fails, number and offset are 0. -/
theorem tk_err {ds : List Int} (hb : ∀ x ∈ ds, 0 ≤ x ∧ x ≤ 255) (h : (tkF 0 0 ds).2.2 ≠ 0) : (tkF 0 0 ds).1 = 0 ∧ (tkF 0 0 ds).2.1 = 0 := by
  obtain ⟨m, h1, h2, h3, h4⟩ := scan_ends ds
  rw [rTake_eq hb h1 h2 h3 h4] at h ⊢
  unfold rTake at h ⊢
  split
  · exact ⟨rfl, rfl⟩
  · split
    · exact ⟨rfl, rfl⟩
    · split
      · rename_i c1 c2 c3
        rw [if_neg c1, if_neg c2, if_pos c3] at h
        exact absurd rfl h
      · exact ⟨rfl, rfl⟩
end Go.Proofs.Ytbkcpgaicoagfaa
/- Intern: texts and their numbers, plainly. -/
set_option linter.unusedVariables false
set_option linter.unusedSimpArgs false
namespace Go.Proofs.Ytbkcpgaicoagfaa

/-- The number of a text: its place from 1 on; 0: it was not told. -/
def idxT : List ByteArray → ByteArray → Nat
  | [], _ => 0
  | t :: r, s => if t = s then 1 else if idxT r s = 0 then 0 else idxT r s + 1
theorem idxT_le (ts : List ByteArray) (s : ByteArray) : idxT ts s ≤ ts.length := by
  induction ts with
  | nil => simp [idxT]
  | cons t r ih =>
    rw [idxT, List.length_cons]
    split
    · omega
    · split <;> omega
theorem idxT_snoc (ts : List ByteArray) (t s : ByteArray) : idxT (ts ++ [t]) s = if idxT ts s = 0 then (if t = s then ts.length + 1 else 0) else idxT ts s := by
  induction ts with
  | nil => simp [idxT]
  | cons u r ih =>
    rw [List.cons_append, idxT, idxT, ih, List.length_cons]
    by_cases h1 : u = s
    · simp [h1]
    · rw [if_neg h1, if_neg h1]
      by_cases h2 : idxT r s = 0
      · rw [if_pos h2, if_pos h2, if_pos rfl]
        by_cases h3 : t = s
        · rw [if_pos h3, if_neg (by omega), if_pos h3]
        · rw [if_neg h3, if_pos rfl, if_neg h3]
      · rw [if_neg h2, if_neg h2, if_neg (by omega)]
theorem idxT_get {ts : List ByteArray} {s : ByteArray} : ∀ {k : Nat}, idxT ts s = k + 1 → ts[k]? = some s := by
  induction ts with
  | nil => intro k h; simp [idxT] at h
  | cons t r ih =>
    intro k h
    rw [idxT] at h
    by_cases h1 : t = s
    · rw [if_pos h1] at h
      obtain rfl : k = 0 := by omega
      simp [h1]
    · rw [if_neg h1] at h
      by_cases h2 : idxT r s = 0
      · rw [if_pos h2] at h; omega
      · rw [if_neg h2] at h
        obtain ⟨j, rfl⟩ : ∃ j, k = j + 1 := ⟨k - 1, by omega⟩
        rw [List.getElem?_cons_succ]
        exact ih (by omega)
/-- Bytes of a text, and the texts behind. -/
def putT (ts : List ByteArray) (s : ByteArray) : List Int × List ByteArray :=
  if idxT ts s = 0 then (leb 0 ++ (leb (s.size : Int) ++ bsOf s), ts ++ [s]) else (leb (idxT ts s : Int), ts)
/-- The text that stands at a place. -/
def takeT (ts : List ByteArray) (b : List Int) (at_ : Int) : ByteArray × Int × Int × List ByteArray :=
  let r := lebTake b at_
  if r.2.2 ≠ 0 then (ByteArray.empty, 0, r.2.2, ts)
  else if (ts.length : Int) < r.1 then (ByteArray.empty, 0, 5, ts)
  else if 0 < r.1 then (ts.getD (r.1.toNat - 1) ByteArray.empty, r.2.1, 0, ts)
  else
    let q := lebTake b r.2.1
    if q.2.2 ≠ 0 then (ByteArray.empty, 0, q.2.2, ts)
    else if 2048 < q.1 then (ByteArray.empty, 0, 2, ts)
    else if (b.length : Int) < q.2.1 + q.1 then (ByteArray.empty, 0, 7, ts)
    else
      let s := strOfNums ((b.take (q.2.1 + q.1).toNat).drop q.2.1.toNat)
      if idxT ts s = 0 then (s, q.2.1 + q.1, 0, ts ++ [s]) else (ByteArray.empty, 0, 4, ts)
end Go.Proofs.Ytbkcpgaicoagfaa
/- A table of texts in memory: a list, and a map from each text to its number. -/
set_option linter.unusedVariables false
set_option linter.unusedSimpArgs false
namespace Go.Proofs.Ytbkcpgaicoagfaa
open Go.RowKit

abbrev OwnT (w : World) (base : Nat) (v : Value) (ts : List ByteArray) : Prop := OwnV 9 1 w base v ts.length (ts.map .string)
theorem infostr : (Try.prog.info? 9).map (fun i => (i.zero, i.size, i.bytes)) = some (some (.string ByteArray.empty), 1, 16) := by kernel_rfl
theorem infou64 : (Try.prog.info? 32).map (fun i => (i.zero, i.size)) = some (some (.int .u64 0), 1) := by kernel_rfl
theorem strs_one (ts : List ByteArray) : ∀ u ∈ ts.map Value.string, u.oneCell' = true := by
  intro u hu
  obtain ⟨_, _, rfl⟩ := List.mem_map.1 hu
  rfl

/-- Block mb is the map that tells each text's number. -/
def MapT (w : World) (mb : Nat) (ts : List ByteArray) : Prop :=
  ∃ (D : DataW Unit) (n : Nat), w.ownsMap Try.prog 9 (plainElem Try.prog 32) mb n D ∧ n ≤ ts.length ∧ Maps.IsMap D ∧
    ∀ s : ByteArray, Maps.has D (.string s.data.toList) = decide (idxT ts s ≠ 0) ∧ (idxT ts s ≠ 0 → ∀ z, D.atKey (.string s.data.toList) z = .lit (.int .u64 (idxT ts s : Int)))
theorem MapT.made (w : World) : MapT (w.alloc (.map #[] 0)) w.heap.size [] :=
  ⟨.map [], 0, World.ownsMap_made w _ _ _, Nat.le_refl _, ⟨[], rfl⟩, fun s => ⟨by simp [Maps.has, idxT], fun h => by simp [idxT] at h⟩⟩
theorem MapT.kept {w w' : World} {mb : Nat} {ts : List ByteArray} {row : Option Nat} (h : MapT w mb ts) (hg : w.grownBy w' row) (hne : some mb ≠ row) : MapT w' mb ts := by
  obtain ⟨D, n, h1, h2⟩ := h
  exact ⟨D, n, h1.kept hg hne, h2⟩
theorem MapT.keep {w w' : World} {mb : Nat} {ts : List ByteArray} (h : MapT w mb ts) (hg : Grew w w') : MapT w' mb ts := h.kept (hg.gb none) (by simp)
theorem MapT.lt {w : World} {mb : Nat} {ts : List ByteArray} (h : MapT w mb ts) : mb < w.heap.size := by
  obtain ⟨D, n, h1, _⟩ := h
  exact h1.lt
theorem MapT.isMap {w : World} {mb : Nat} {ts : List ByteArray} (h : MapT w mb ts) : ∃ es c, w.heap[mb]? = some (.map es c) := by
  obtain ⟨D, n, ⟨es, c, h1, _⟩, _⟩ := h
  exact ⟨es, c, h1⟩
theorem data_inj {s t : ByteArray} (h : Lit.string s.data.toList = Lit.string t.data.toList) : s = t := by
  cases s; cases t
  simp only [Lit.string.injEq] at h
  congr 1
  exact Array.toList_inj.1 h

section
variable {ops : Array Oper} {rest : List Oper} {o : Oper} {a : Act} {Q : Exit → Act → World → Prop} {W : World} {mb : Nat} {ts : List ByteArray}
theorem look_num (hgd : o.guard = none) {m x : Operand} (ho : o.op = .lookup 115 m x true) (hm : a.eval m = .map (some mb)) {s : ByteArray} (hx : a.eval x = .string s) (hs : s.size ≤ 9223372036854775807) (hM : MapT W mb ts)
    (h : wpList Try.prog ops Q rest (a.put o.dst (.tuple #[.int .u64 (idxT ts s : Int), .bool (decide (idxT ts s ≠ 0))])) W) : wpList Try.prog ops Q (o :: rest) a W := by
  obtain ⟨D, n, h1, h2, h3, h4⟩ := hM
  obtain ⟨h5, h6⟩ := h4 s
  refine wpList_lookup_own_ok_int W hgd m x _ ho 9 32 .u64 (Maps.string_keyed Try.underlying9) Try.underlying115 Try.underlying32 ((zero_of_info infou64).1 _) mb n D hm h1 _ (.string s.data.toList) hx (Go.WideMaps.keyOf_string_mk Try.underlying9 (by simpa [maxLen] using hs)) ?_
  intro c hat hwc
  have hc : c = (idxT ts s : Int) := by
    by_cases hz : idxT ts s = 0
    · rw [hz] at h5
      have := Maps.atKey_of_not_has (by simpa using h5) (z := (.lit (.int .u64 0) : DataW Unit))
      rw [this] at hat
      rw [hz]
      injection hat with h7
      injection h7 with h8 h9
      omega
    · rw [h6 hz] at hat
      injection hat with h7
      injection h7 with h8 h9
      omega
  rw [hc, h5]
  exact h
theorem upd_num (hgd : o.guard = none) {m x v : Operand} (ho : o.op = .mapUpdate 115 m x v) (hm : a.eval m = .map (some mb)) {s : ByteArray} (hx : a.eval x = .string s) (hv : a.eval v = .int .u64 ((ts.length : Int) + 1)) (hs : s.size ≤ 9223372036854775807) (hl : ts.length ≤ 1000000000) (hM : MapT W mb ts) (hz : idxT ts s = 0)
    (h : ∀ w', MapT w' mb (ts ++ [s]) → W.grownBy w' (some mb) → wpList Try.prog ops Q rest (a.put o.dst undef) w') : wpList Try.prog ops Q (o :: rest) a W := by
  obtain ⟨D, n, h1, h2, h3, h4⟩ := hM
  have hw : (Lit.int .u64 ((ts.length : Int) + 1)).wf = true := by
    simp only [Lit.wf, Bool.and_eq_true, decide_eq_true_eq]
    exact ⟨show (0 : Int) ≤ _ by omega, show _ ≤ (18446744073709551615 : Int) by omega⟩
  refine wpList_mapUpdate_own W hgd m x v _ ho 9 32 (Maps.string_keyed Try.underlying9) Try.underlying115 (plainElem Try.prog 32) mb n D hm h1 (by simp only [maxLen]; omega) _ _ (.string s.data.toList) hx hv (Go.WideMaps.keyOf_string_mk Try.underlying9 (by simpa [maxLen] using hs)) (.lit (.int .u64 ((ts.length : Int) + 1))) [] (plainElem_int Try.underlying32 hw) ?_
  intro w' hown hg
  refine h w' ⟨_, _, hown, by simp; omega, h3.put _ _, fun t => ?_⟩ hg
  rw [idxT_snoc]
  by_cases hst : s = t
  · subst hst
    rw [if_pos hz, if_pos rfl]
    refine ⟨?_, fun _ z => ?_⟩
    · rw [Maps.has_put_same h3 (by trivial)]; simp
    · rw [Maps.atKey_put_same h3 (by trivial)]; simp
  · have hne : Lit.string t.data.toList ≠ Lit.string s.data.toList := fun e => hst (data_inj e).symm
    obtain ⟨h5, h6⟩ := h4 t
    rw [Maps.has_put_other hne, h5]
    by_cases ht : idxT ts t = 0
    · rw [if_pos ht, if_neg hst, ht]
      exact ⟨rfl, fun h => absurd rfl h⟩
    · rw [if_neg ht]
      exact ⟨rfl, fun _ z => by rw [Maps.atKey_put_other hne]; exact h6 ht z⟩
end

/-- The table at block p. -/
structure TabI (w : World) (p : Nat) (lv : Value) (mb : Nat) (ts : List ByteArray) : Prop where
  cells : w.heap[p]? = some (.cells #[lv, .map (some mb)] 117)
  list : OwnT w 0 lv ts
  map : MapT w mb ts
  few : ts.length ≤ 1000000
  size : ∀ t ∈ ts, t.size ≤ 1000000
/-- What the table holds. -/
def ftp (p : Nat) (lv : Value) (mb k : Nat) : Prop := k = p ∨ k = mb ∨ lv.ownBlock = some k
/-- The world has grown; of what was there, only what F names may differ. -/
structure Chg (F : Nat → Prop) (w w' : World) : Prop where
  os : w'.os = w.os
  tape : w'.tape = w.tape
  output : w'.output = w.output
  size : w.heap.size ≤ w'.heap.size
  block : ∀ k, k < w.heap.size → ¬ F k → w'.heap[k]? = w.heap[k]?
theorem Chg.of {F : Nat → Prop} {w w' : World} (h : Grew w w') : Chg F w w' := ⟨h.os, h.tape, h.output, h.size, fun k hk _ => h.block k hk⟩
theorem Chg.ofBy {F : Nat → Prop} {w w' : World} {row : Option Nat} (h : w.grownBy w' row) (hr : ∀ b, row = some b → F b) : Chg F w w' :=
  ⟨h.os, h.tape, h.output, h.size, fun k hk hF => h.block k hk (fun e => hF (hr k e.symm))⟩
theorem Chg.tr {F : Nat → Prop} {a b c : World} (h : Chg F a b) (k : Chg (fun x => F x ∨ a.heap.size ≤ x) b c) : Chg F a c :=
  ⟨k.os.trans h.os, k.tape.trans h.tape, k.output.trans h.output, Nat.le_trans h.size k.size, fun x hx hF => (k.block x (Nat.lt_of_lt_of_le hx h.size) (fun hh => hh.elim hF (fun h2 => by omega))).trans (h.block x hx hF)⟩
theorem Chg.mono {F G : Nat → Prop} {w w' : World} (h : Chg F w w') (hFG : ∀ k, F k → G k) : Chg G w w' := ⟨h.os, h.tape, h.output, h.size, fun k hk hG => h.block k hk (fun hF => hG (hFG k hF))⟩
theorem Chg.low {F : Nat → Prop} {w w' : World} {n : Nat} (h : Chg F w w') (hF : ∀ k, F k → n ≤ k) (hn : n ≤ w.heap.size) : Below n w w' := ⟨h.os, h.tape, h.output, h.size, fun k hk => h.block k (by omega) (fun hh => by have := hF k hh; omega)⟩
theorem Chg.by_ {F : Nat → Prop} {w w' : World} (h : Chg F w w') {k : Nat} {o : Obj} (ho : w.heap[k]? = some o) (hF : ¬ F k) : w'.heap[k]? = some o := (h.block k (Array.getElem?_eq_some_iff.1 ho).1 hF).trans ho
theorem RdK.chg {k : IntKind} {F : Nat → Prop} {w w' : World} {A : Option Addr} {n : Nat} {xs : List Int} (h : RdK k w A n xs) (hg : Chg F w w') (hA : 0 < n → ∀ ad, A = some ad → ¬ F ad.block) : RdK k w' A n xs :=
  ⟨h.len, fun hn => by
    obtain ⟨b, o, e, hc⟩ := h.cells hn
    refine ⟨b, o, e, fun j hj => ?_⟩
    rw [← hc j hj]
    exact World.cell?_of_block (hg.block b (lt_of_cell (hc j hj)) (hA hn _ e))⟩
end Go.Proofs.Ytbkcpgaicoagfaa
/- Drawn regions in a round of a loop over a function: the same as everywhere. -/
set_option linter.unusedVariables false
set_option linter.unusedSimpArgs false
namespace Go.Proofs.Ytbkcpgaicoagfaa
open Go.RowKit

def noDefer (ops : Array Oper) : Bool := ops.toList.all fun o => match o.op with | .defer _ => false | _ => true
theorem noDefer_at {ops : Array Oper} (h : noDefer ops = true) {i : Nat} {o : Oper} (ho : ops[i]? = some o) : ∀ c, o.op ≠ .defer c := by
  intro c e
  have := (List.all_eq_true.1 h) o (by
    rw [← Array.getElem?_toList] at ho
    exact List.mem_of_getElem? ho)
  rw [e] at this
  simp at this

theorem operIn_of {l n : Nat} {P : Program} {o : Oper} {Q : Exit → Act → World → Prop} {a : Act} {w : World} {K : Act → World → Prop} (hd : ∀ c, o.op ≠ .defer c) (h : o.wp P a w K Q) : o.wpIn (Fence.wide.inRound l) n P a w K Q := by
  refine ⟨fun f _ => trivial, ?_⟩
  have e : o.semAt (Fence.wide.inRound l).round a.eval = execOp a.eval o := Oper.semAt_eq _ _ _ hd
  rw [e]
  unfold Oper.wp at h
  generalize (execOp a.eval o).run P w = r at *
  cases r with
  | ok x w' =>
    cases x with
    | value v => exact h
    | skip => exact h
    | defer d => exact h
    | enter f args =>
      exact ⟨fun hn => by simp [Fence.inRound, Fence.wide] at hn, (callsIn_wide (n := n - 1)).2 h⟩
    | row row args => exact ⟨fun hn => by simp [Fence.inRound, Fence.wide] at hn, fun c cs _ => by
        obtain ⟨v, w'', r, s⟩ := h c cs
        exact ⟨v, w'', r, stepsIn_wide.2 s⟩⟩
    | round => exact h.elim
    | _ => exact h.elim
  | halt x w' => cases x <;> exact h

theorem wpAnyIn_of {l n : Nat} {P : Program} {ops : Array Oper} {Q : Exit → Act → World → Prop} (hd : noDefer ops = true) (hq : ¬ LetsOut Q) : ∀ (fuel : Nat) (listed : Array Bool) (a : Act) (w : World),
    wpAny P .any ops Q fuel listed a w → wpAnyIn (Fence.wide.inRound l) n P .any ops Q fuel listed a w := by
  intro fuel
  induction fuel with
  | zero => intro listed a w h; exact h
  | succ fuel ih =>
    intro listed a w h
    refine ⟨h.1, fun i hi => ?_⟩
    have h2 := h.2 i hi
    unfold wpOp at h2
    unfold wpOpIn
    split at h2
    · rename_i ho
      simp only [ho]
      exact ih _ _ _ h2
    · rename_i o ho
      simp only [ho]
      split at h2
      · rename_i hw
        rw [if_pos hw]
        rcases h2 with h2 | ⟨_, h2⟩
        · exact Oper.wpIn_mono (fun a w => ih _ a w) (operIn_of (noDefer_at hd ho) h2)
        · exact (hq h2).elim
      · rename_i hw
        rw [if_neg hw]
        exact ⟨fun f _ => trivial, ih _ _ _ h2⟩
/-- region_ow in a round. -/
theorem region_ow_in {l n : Nat} {ops : List Oper} {Q : Exit → Act → World → Prop} {a0 : Act} {id : Nat} {w w0 : World} (hd : noDefer ops.toArray = true) (hq : ¬ LetsOut Q) (D : List (List (Nat × Tmp))) (E : List (Nat × Tmp)) (cs : List (Nat × Nat)) (C : List (Option Tmp)) (O : List Nat) (F : Nat → Po w0.heap.size)
    (hO : ((List.range ops.length).all fun i => (F i).own == O.contains i) = true)
    (hok : (regionOk ops.toArray a0.tmps.size (D.map (·.map (·.1))).toArray && pairsOk ops.toArray D && decide (pairsOf ops.toArray (List.range ops.length) = E)) = true)
    (hco : (consOk ops.toArray (D.map (·.map (·.1))).toArray O.contains (consOf cs) && cs.all (fun p => decide (p.1 < ops.length)) && (List.range ops.length).all (fun i => decide (consSlot ops.toArray (consOf cs) i = C.getD i none)) && cs.all (fun p => consOf cs p.1 == some p.2)) = true)
    (hB0 : Below w0.heap.size w0 w)
    (hsteps : StepsOk2 (fun i => (F i).p) O.contains (consOf cs) w0 Try.prog ops.toArray a0 ops D C 0)
    (hend : ∀ u, Below w0.heap.size w0 u → StepGoal (lastF (fun i => (F i).p) cs) u (fun a => Q .normal a u) E a0) :
    (Code.region id ops.toArray true).wpIn (Fence.wide.inRound l) n Try.prog Q a0 w :=
  wpIn_region_any follows (wpAnyIn_of hd hq _ _ _ _ (region_own_any D E O.contains cs C (fun i => (F i).p) hok hco (fun i hi v u u' row h hg hr => (F i).mono v u u' row h hg (fun b hb => ⟨(hr b hb).1, fun ho => (hr b hb).2 (by
    have := (List.all_eq_true.1 hO) i (List.mem_range.2 hi)
    rw [beq_iff_eq] at this
    rw [← this]; exact ho)⟩)) hB0 hsteps hend))
end Go.Proofs.Ytbkcpgaicoagfaa
