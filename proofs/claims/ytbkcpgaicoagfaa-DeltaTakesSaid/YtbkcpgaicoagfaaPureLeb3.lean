/- Plain law of layer 1 (leb), third part: what was written is read again; what is read is what would be written. -/
import Derived.Test.YtbkcpgaicoagfaaPureLeb2
set_option linter.unusedVariables false
set_option linter.unusedSimpArgs false
namespace Go.Proofs.Ytbkcpgaicoagfaa

theorem leb_shape : ∀ (k : Nat) (v : Int), 1 ≤ k → 0 ≤ v → v < 128 ^ k → 1 ≤ (lebF k v).length ∧ (∀ i, i + 1 < (lebF k v).length → 128 ≤ (lebF k v).getD i 0) ∧ (lebF k v).getD ((lebF k v).length - 1) 0 < 128
  | 0, _, h, _, _ => by omega
  | k + 1, v, _, h0, h1 => by
    rw [lebF]
    by_cases hv : v < 128
    · rw [if_pos hv]
      simp
      exact hv
    · rw [if_neg hv]
      have hk : 1 ≤ k := by
        rcases Nat.eq_zero_or_pos k with rfl | h
        · simp at h1; omega
        · exact h
      obtain ⟨g1, g2, g3⟩ := leb_shape k (v / 128) hk (by omega) (by rw [Int.pow_succ] at h1; omega)
      refine ⟨by simp, fun i hi => ?_, ?_⟩
      · cases i with
        | zero => simp; omega
        | succ i =>
          rw [List.getD_cons_succ]
          exact g2 i (by simp at hi; omega)
      · rw [List.length_cons, Nat.add_sub_cancel]
        rw [show (lebF k (v / 128)).length = (lebF k (v / 128)).length - 1 + 1 by omega, List.getD_cons_succ]
        exact g3
theorem leb_shape' {v : Int} (h0 : 0 ≤ v) (h1 : v < 18446744073709551616) : 1 ≤ (leb v).length ∧ (∀ i, i + 1 < (leb v).length → 128 ≤ (leb v).getD i 0) ∧ (leb v).getD ((leb v).length - 1) 0 < 128 :=
  leb_shape 10 v (by omega) h0 (by have h : (128 : Int) ^ 10 = 1180591620717411303424 := by decide
                                   omega)
theorem valF_leb' {v : Int} (h0 : 0 ≤ v) (h1 : v < 18446744073709551616) : valF (leb v) = v :=
  valF_leb 10 v (by omega) h0 (by have h : (128 : Int) ^ 10 = 1180591620717411303424 := by decide
                                  omega)
theorem getD_app {l r : List Int} {i : Nat} (h : i < l.length) : (l ++ r).getD i 0 = l.getD i 0 := by
  simp [List.getD_eq_getElem?_getD, List.getElem?_append_left h]

/-- A number is read again, whatever stands behind it. -/
theorem tk_round {v : Int} {r : List Int} (h0 : 0 ≤ v) (h1 : v < 18446744073709551616) (hr : ∀ x ∈ r, 0 ≤ x ∧ x ≤ 255) : tkF 0 0 (leb v ++ r) = (v, (leb v).length, 0) := by
  obtain ⟨s1, s2, s3⟩ := leb_shape' h0 h1
  have hl := leb_len h0
  have hb : ∀ x ∈ leb v ++ r, 0 ≤ x ∧ x ≤ 255 := fun x hx => by
    rcases List.mem_append.1 hx with h | h
    · exact leb_byte h0 x h
    · exact hr x h
  have ht : (leb v ++ r).take ((leb v).length - 1 + 1) = leb v := by
    rw [show (leb v).length - 1 + 1 = (leb v).length by omega, List.take_left]
  have hn : nF (leb v ++ r) ((leb v).length - 1 + 1) = v := by
    rw [nF_eq _ _ (by simp; omega), ht, valF_leb' h0 h1]
    omega
  rw [rTake_eq hb (m := (leb v).length - 1) (by simp; omega) (by omega) (fun i hi => by rw [getD_app (by omega)]; exact s2 i (by omega)) (.inr (.inr (by rw [getD_app (by omega)]; exact s3)))]
  unfold rTake
  rw [if_neg (by simp; omega), if_neg (by omega), ht, hn, if_pos rfl, show (leb v).length - 1 + 1 = (leb v).length by omega]
/-- A byte fewer, and it is too short. -/
theorem tk_short {v : Int} (h0 : 0 ≤ v) (h1 : v < 18446744073709551616) : tkF 0 0 ((leb v).take ((leb v).length - 1)) = (0, 0, 7) := by
  obtain ⟨s1, s2, s3⟩ := leb_shape' h0 h1
  have hl := leb_len h0
  have hlen : ((leb v).take ((leb v).length - 1)).length = (leb v).length - 1 := by rw [List.length_take]; omega
  rw [rTake_eq (fun x hx => leb_byte h0 x (List.mem_of_mem_take hx)) (m := (leb v).length - 1) (by omega) (by omega) (fun i hi => by
    have := s2 i (by omega)
    have e : ((leb v).take ((leb v).length - 1)).getD i 0 = (leb v).getD i 0 := by
      rw [List.getD_eq_getElem?_getD, List.getElem?_take, if_pos hi, ← List.getD_eq_getElem?_getD]
    rw [e]
    exact this) (.inl hlen.symm)]
  unfold rTake
  rw [if_pos ⟨hlen.symm, by omega⟩]
/-- Where the reading of any bytes stands still. -/
theorem scan_ends (ds : List Int) : ∃ m, m ≤ ds.length ∧ m ≤ 10 ∧ (∀ i, i < m → 128 ≤ ds.getD i 0) ∧ (m = ds.length ∨ m = 10 ∨ ds.getD m 0 < 128) := by
  have : ∀ d j, ScAt ds j → 10 - j ≤ d → ∃ m, m ≤ ds.length ∧ m ≤ 10 ∧ (∀ i, i < m → 128 ≤ ds.getD i 0) ∧ (m = ds.length ∨ m = 10 ∨ ds.getD m 0 < 128) := by
    intro d
    induction d with
    | zero =>
      intro j h hd
      exact ⟨j, h.2.2.1, h.2.1, h.2.2.2, .inr (.inl (by have := h.2.1; omega))⟩
    | succ d ih =>
      intro j h hd
      by_cases h1 : j < ds.length
      · by_cases h2 : j < 10
        · by_cases h3 : 128 ≤ ds.getD j 0
          · exact ih (j + 1) (h.step h1 h2 h3) (by omega)
          · exact ⟨j, h.2.2.1, h.2.1, h.2.2.2, .inr (.inr (by omega))⟩
        · exact ⟨j, h.2.2.1, h.2.1, h.2.2.2, .inr (.inl (by have := h.2.1; omega))⟩
      · exact ⟨j, h.2.2.1, h.2.1, h.2.2.2, .inl (by have := h.2.2.1; omega)⟩
  exact this 10 0 (ScAt.start ds) (by omega)
/-- What is read has just these bytes. -/
theorem tk_exact {ds : List Int} (hb : ∀ x ∈ ds, 0 ≤ x ∧ x ≤ 255) {v : Int} {n : Nat} (h : tkF 0 0 ds = (v, n, 0)) : n ≤ ds.length ∧ 1 ≤ n ∧ leb v = ds.take n ∧ 0 ≤ v ∧ v < 18446744073709551616 := by
  obtain ⟨m, h1, h2, h3, h4⟩ := scan_ends ds
  rw [rTake_eq hb h1 h2 h3 h4] at h
  unfold rTake at h
  by_cases c1 : m = ds.length ∧ m < 10
  · rw [if_pos c1] at h; simp at h
  · rw [if_neg c1] at h
    by_cases c2 : m = 10
    · rw [if_pos c2] at h; simp at h
    · rw [if_neg c2] at h
      by_cases c3 : leb (nF ds (m + 1)) = ds.take (m + 1)
      · rw [if_pos c3] at h
        simp only [Prod.mk.injEq] at h
        obtain ⟨rfl, rfl, _⟩ := h
        have hn := nF_eq ds (m + 1) (by omega)
        refine ⟨by omega, by omega, c3, by omega, by omega⟩
      · rw [if_neg c3] at h; simp at h

theorem lebTake_round {ys r : List Int} {v : Int} (h0 : 0 ≤ v) (h1 : v < 18446744073709551616) (hr : ∀ x ∈ r, 0 ≤ x ∧ x ≤ 255) : lebTake ((ys ++ leb v) ++ r) (ys.length : Int) = (v, (ys.length : Int) + (leb v).length, 0) := by
  unfold lebTake
  rw [if_neg (by omega), if_neg (by simp; omega), Int.toNat_natCast, List.append_assoc, List.drop_left, tk_round h0 h1 hr]
  simp
theorem lebTake_short {ys : List Int} {v : Int} (h0 : 0 ≤ v) (h1 : v < 18446744073709551616) : lebTake ((ys ++ leb v).take (ys.length + (leb v).length - 1)) (ys.length : Int) = (0, 0, 7) := by
  have hl := leb_len h0
  have e : (ys ++ leb v).take (ys.length + (leb v).length - 1) = ys ++ (leb v).take ((leb v).length - 1) := by
    rw [List.take_append, List.take_of_length_le (by omega)]
    congr 2
    omega
  unfold lebTake
  rw [e, if_neg (by omega), if_neg (by simp; omega), Int.toNat_natCast, List.drop_left, tk_short h0 h1]
  simp
theorem lebTake_exact {ds : List Int} (hb : ∀ x ∈ ds, 0 ≤ x ∧ x ≤ 255) {at_ v n : Int} (h : lebTake ds at_ = (v, n, 0)) : 0 ≤ at_ ∧ at_ < n ∧ n ≤ ds.length ∧ leb v = (ds.take n.toNat).drop at_.toNat ∧ 0 ≤ v ∧ v < 18446744073709551616 := by
  unfold lebTake at h
  by_cases c0 : at_ < 0
  · rw [if_pos c0] at h; simp at h
  · rw [if_neg c0] at h
    by_cases c1 : (ds.length : Int) < at_
    · rw [if_pos c1] at h; simp at h
    · rw [if_neg c1] at h
      have hb' : ∀ x ∈ ds.drop at_.toNat, 0 ≤ x ∧ x ≤ 255 := fun x hx => hb x (List.mem_of_mem_drop hx)
      generalize hr : tkF 0 0 (ds.drop at_.toNat) = r at h
      obtain ⟨r1, r2, r3⟩ := r
      by_cases c2 : r3 = 0
      · subst c2
        simp only [if_true, Prod.mk.injEq] at h
        obtain ⟨rfl, rfl, _⟩ := h
        obtain ⟨g1, g2, g3, g4, g5⟩ := tk_exact hb' hr
        rw [List.length_drop] at g1
        refine ⟨by omega, by omega, by omega, ?_, g4, g5⟩
        rw [g3, show (at_ + (r2 : Int)).toNat = at_.toNat + r2 by omega, List.drop_take]
        congr 1
        omega
      · simp only [if_neg c2, Prod.mk.injEq] at h
        exact absurd h.2.2 c2
/-- Where the reading fails, number and offset are 0. -/
theorem tk_err {ds : List Int} (hb : ∀ x ∈ ds, 0 ≤ x ∧ x ≤ 255) (h : (tkF 0 0 ds).2.2 ≠ 0) : (tkF 0 0 ds).1 = 0 ∧ (tkF 0 0 ds).2.1 = 0 := by
  obtain ⟨m, h1, h2, h3, h4⟩ := scan_ends ds
  rw [rTake_eq hb h1 h2 h3 h4] at h ⊢
  unfold rTake at h ⊢
  split
  · exact ⟨rfl, rfl⟩
  · split
    · exact ⟨rfl, rfl⟩
    · split
      · rename_i c1 c2 c3
        rw [if_neg c1, if_neg c2, if_pos c3] at h
        exact absurd rfl h
      · exact ⟨rfl, rfl⟩
end Go.Proofs.Ytbkcpgaicoagfaa
