/- Chunk: what is packed is unpacked unchanged, wherever it lies; what is unpacked is just those pieces. -/
import Derived.Test.YtflnopaheanpdaaPureChunk
import Derived.Test.YtflnopaheanpdaaChunkP
import Derived.Test.YtflnopaheanpdaaChunkV
set_option linter.unusedVariables false
set_option linter.unusedSimpArgs false
namespace Go.Proofs.Ytflnopaheanpdaa

theorem piece_size (T ys : List Int) : (pieceL T ys).length = (leb (ys.length : Int)).length + ys.length + 4 := by
  simp only [pieceL, List.length_append, fourB_len]
theorem take_app {α : Type} (a b : List α) {n : Nat} (h : n = a.length) : (a ++ b).take n = a := by subst h; simp
theorem drop_app {α : Type} (a b : List α) {n : Nat} (h : n = a.length) : (a ++ b).drop n = b := by subst h; simp

theorem packL_byt {T : List Int} (hW : Wrd T) {xs : List Int} (h : Byt xs) : Byt (packL T xs) := by
  rw [packL_done T ((xs.length + 255) / 256) xs (by omega) (by omega)]
  exact (headF_byt hW _ h).app (pieceL_byt hW (byt_of rfl) (by decide))
theorem segL (s : List Int) {a b c : Nat} (h1 : a ≤ b) (h2 : b ≤ c) : (s.take b).drop a ++ (s.take c).drop b = (s.take c).drop a := by
  have e : s.take b = (s.take c).take b := by rw [List.take_take, Nat.min_eq_left h2]
  rw [e]
  generalize s.take c = t
  rw [List.drop_take, show t.drop b = (t.drop a).drop (b - a) by rw [List.drop_drop]; congr 1; omega]
  exact List.take_append_drop _ _
/-- A piece that stands in a text is taken from it. -/
theorem oneP_piece {T pre ys post : List Int} {full : Bool} (hW : Wrd T) (hy : Byt ys) (hp : Byt post) (hl : ys.length ≤ 256) (hf : ys = [] ∨ full = true) :
    oneP T (pre ++ (pieceL T ys ++ post)) (pre.length : Int) full = (ys, (pre.length : Int) + (pieceL T ys).length, 0) := by
  have hr := lebTake_round (ys := pre) (v := (ys.length : Int)) (r := ys ++ (fourB (cSum T (leb (ys.length : Int) ++ ys)) ++ post)) (by omega) (by omega) (hy.app (Byt.app (fourB_byt (cSum_lt hW _)) hp))
  have hs : pre ++ (pieceL T ys ++ post) = (pre ++ leb (ys.length : Int)) ++ (ys ++ (fourB (cSum T (leb (ys.length : Int) ++ ys)) ++ post)) := by simp [pieceL]
  have hsz := piece_size T ys
  rw [hs]
  unfold oneP
  rw [hr]
  simp only
  obtain ⟨L, hL⟩ : ∃ L, leb (ys.length : Int) = L := ⟨_, rfl⟩
  rw [hL] at hsz ⊢
  obtain ⟨F, hF⟩ : ∃ F, fourB (cSum T (L ++ ys)) = F := ⟨_, rfl⟩
  have hFl : F.length = 4 := by rw [← hF]; rfl
  rw [hF]
  have hto : ((pre.length : Int) + (L.length : Int) + (ys.length : Int)).toNat = pre.length + L.length + ys.length := by omega
  rw [if_neg (by simp), if_neg (by omega), if_neg (by
    rintro ⟨h1, h2⟩
    rcases hf with h | h
    · subst h; simp at h1
    · rw [h] at h2; cases h2), if_neg (by simp only [List.length_append]; omega), hto]
  have e1 : ((pre ++ L ++ (ys ++ (F ++ post))).take (pre.length + L.length + ys.length)).drop pre.length = L ++ ys := by
    rw [show pre ++ L ++ (ys ++ (F ++ post)) = (pre ++ (L ++ ys)) ++ (F ++ post) by simp, take_app _ _ (by simp only [List.length_append]; omega), drop_app _ _ rfl]
  have e2 : ((pre ++ L ++ (ys ++ (F ++ post))).take (pre.length + L.length + ys.length + 4)).drop (pre.length + L.length + ys.length) = F := by
    rw [show pre ++ L ++ (ys ++ (F ++ post)) = ((pre ++ L ++ ys) ++ F) ++ post by simp, take_app _ _ (by simp only [List.length_append, hFl]), drop_app _ _ (by simp only [List.length_append])]
  have e3 : ((pre ++ L ++ (ys ++ (F ++ post))).take (pre.length + L.length + ys.length)).drop (pre.length + L.length) = ys := by
    rw [show pre ++ L ++ (ys ++ (F ++ post)) = ((pre ++ L) ++ ys) ++ (F ++ post) by simp, take_app _ _ (by simp only [List.length_append]), drop_app _ _ (by simp only [List.length_append])]
  rw [show (pre.length : Int).toNat = pre.length by omega, show ((pre.length : Int) + (L.length : Int)).toNat = pre.length + L.length by omega, e1, e2, e3, hF, if_pos rfl]
  refine Prod.ext rfl (Prod.ext ?_ rfl)
  simp only
  omega

theorem unpackF_round {T : List Int} (hW : Wrd T) : ∀ (k : Nat) (xs pre post acc : List Int) (fuel : Nat) (full : Bool), xs.length ≤ k → Byt xs → Byt post → (full = true ∨ xs = []) → xs.length + 256 ≤ 256 * fuel →
    unpackF T (pre ++ (packL T xs ++ post)) fuel (pre.length : Int) full acc = (acc ++ xs, (pre.length : Int) + (packL T xs).length, 0) := by
  intro k
  induction k with
  | zero =>
    intro xs pre post acc fuel full hk hb hp hf hfu
    obtain rfl : xs = [] := List.eq_nil_of_length_eq_zero (by omega)
    obtain ⟨j, rfl⟩ : ∃ j, fuel = j + 1 := ⟨fuel - 1, by simp at hfu; omega⟩
    rw [packL_nil, unpackF_end (oneP_piece hW (byt_of rfl) hp (by decide) (.inl rfl)), List.append_nil]
  | succ k ih =>
    intro xs pre post acc fuel full hk hb hp hf hfu
    by_cases hx : xs = []
    · exact ih xs pre post acc fuel full (by rw [hx]; simp) hb hp hf hfu
    · have hpos : 0 < xs.length := List.length_pos_iff.2 hx
      have hfull : full = true := hf.resolve_right hx
      obtain ⟨j, rfl⟩ : ∃ j, fuel = j + 1 := ⟨fuel - 1, by omega⟩
      have hyl : (xs.take 256).length = min 256 xs.length := List.length_take
      have hzl : (xs.drop 256).length = xs.length - 256 := List.length_drop
      have hcut : xs.take 256 ++ xs.drop 256 = xs := List.take_append_drop 256 xs
      have hby : Byt (xs.take 256) := hb.take 256
      have hbz : Byt (xs.drop 256) := hb.drop 256
      have hne : xs.take 256 ≠ [] := fun h => by rw [h] at hyl; simp at hyl; omega
      have hpb : Byt (packL T (xs.drop 256)) := packL_byt hW hbz
      have h1 := oneP_piece (pre := pre) (full := full) hW hby (hpb.app hp) (by omega) (.inr hfull)
      rw [packL_step T hx, List.append_assoc, unpackF_go h1 hne]
      have h2 := ih (xs.drop 256) (pre ++ pieceL T (xs.take 256)) post (acc ++ xs.take 256) j (decide ((xs.take 256).length = 256)) (by omega) hbz hp (by
        by_cases h : (xs.take 256).length = 256
        · exact .inl (decide_eq_true h)
        · exact .inr (List.eq_nil_of_length_eq_zero (by omega))) (by omega)
      rw [List.append_assoc, List.length_append, Int.natCast_add, List.append_assoc, hcut] at h2
      rw [h2, List.length_append]
      refine Prod.ext rfl (Prod.ext ?_ rfl)
      simp only
      omega
theorem packL_ge (T : List Int) : ∀ (k : Nat) (xs : List Int), xs.length ≤ k → xs.length + 5 ≤ (packL T xs).length := by
  intro k
  induction k with
  | zero =>
    intro xs h
    obtain rfl : xs = [] := List.eq_nil_of_length_eq_zero (by omega)
    rw [packL_nil]; simp [pieceL, fourB]; decide
  | succ k ih =>
    intro xs h
    by_cases hx : xs = []
    · exact ih xs (by rw [hx]; simp)
    · have hpos : 0 < xs.length := List.length_pos_iff.2 hx
      have h2 := ih (xs.drop 256) (by rw [List.length_drop]; omega)
      rw [packL_step T hx, List.length_append, piece_size]
      rw [List.length_drop] at h2
      rw [List.length_take]
      omega
/-- What is packed is unpacked unchanged. -/
theorem unpackL_round {T pre xs post : List Int} (hW : Wrd T) (hx : Byt xs) (hp : Byt post) : unpackL T (pre ++ (packL T xs ++ post)) (pre.length : Int) = (xs, (pre.length : Int) + (packL T xs).length, 0) := by
  have hge := packL_ge T xs.length xs (Nat.le_refl _)
  have h := unpackF_round hW xs.length xs pre post [] ((pre ++ (packL T xs ++ post)).length + 1) true (Nat.le_refl _) hx hp (.inl rfl) (by simp only [List.length_append]; omega)
  rw [List.nil_append] at h
  exact h

theorem oneP_exact {T s : List Int} {a nx : Int} {full : Bool} {p : List Int} (hb : Byt s) (h : oneP T s a full = (p, nx, 0)) : pieceL T p = (s.take nx.toNat).drop a.toNat ∧ (full = false → p = []) := by
  obtain ⟨⟨v, n0, er⟩, hq⟩ : ∃ r, lebTake s a = r := ⟨_, rfl⟩
  unfold oneP at h
  rw [hq] at h
  simp only at h
  by_cases c1 : er = 0
  · subst c1
    obtain ⟨q0, q1, q2, q3, q4, _⟩ := lebTake_exact hb hq
    rw [if_neg (by simp)] at h
    by_cases c2 : 256 < v
    · rw [if_pos c2] at h; cases h
    · rw [if_neg c2] at h
      by_cases c3 : 0 < v ∧ full = false
      · rw [if_pos c3] at h; cases h
      · rw [if_neg c3] at h
        by_cases c4 : (s.length : Int) < n0 + v + 4
        · rw [if_pos c4] at h; cases h
        · rw [if_neg c4] at h
          split at h
          · rename_i c5
            simp only [Prod.mk.injEq] at h
            obtain ⟨h1, h2, _⟩ := h
            obtain ⟨a', rfl⟩ := Int.eq_ofNat_of_zero_le q0
            obtain ⟨f, rfl⟩ := Int.eq_ofNat_of_zero_le (show 0 ≤ n0 by omega)
            obtain ⟨m, rfl⟩ := Int.eq_ofNat_of_zero_le q4
            have hto : ((f : Int) + (m : Int)).toNat = f + m := by omega
            have hnx : nx.toNat = f + m + 4 := by omega
            rw [hto, Int.toNat_natCast] at h1 c5
            rw [hnx, Int.toNat_natCast]
            rw [Int.toNat_natCast, Int.toNat_natCast] at q3
            have hpl : p.length = m := by rw [← h1, List.length_drop, List.length_take]; omega
            have e1 : leb (m : Int) ++ p = (s.take (f + m)).drop a' := by
              rw [q3, ← h1]
              exact segL s (by omega) (by omega)
            refine ⟨?_, fun hf => ?_⟩
            · unfold pieceL
              rw [hpl, e1, c5]
              exact segL s (by omega) (by omega)
            · have : m = 0 := by
                rcases Nat.eq_zero_or_pos m with h | h
                · exact h
                · exact absurd ⟨by omega, hf⟩ c3
              exact List.eq_nil_of_length_eq_zero (by omega)
          · cases h
  · rw [if_pos c1] at h
    simp only [Prod.mk.injEq] at h
    exact absurd h.2.2 c1
theorem unpackF_exact {T s : List Int} (hb : Byt s) : ∀ (fuel : Nat) (a : Int) (full : Bool) (acc y : List Int) (after : Int), unpackF T s fuel a full acc = (y, after, 0) →
    ∃ zs, y = acc ++ zs ∧ (full = false → zs = []) ∧ 0 ≤ a ∧ a ≤ after ∧ after ≤ s.length ∧ packL T zs = (s.take after.toNat).drop a.toNat ∧ Byt zs := by
  intro fuel
  induction fuel with
  | zero => intro a full acc y after h; rw [unpackF] at h; cases h
  | succ k ih =>
    intro a full acc y after h
    obtain ⟨⟨p, nx, er⟩, hq⟩ : ∃ r, oneP T s a full = r := ⟨_, rfl⟩
    by_cases c1 : er = 0
    · subst c1
      obtain ⟨p0, p1, p2, p3⟩ := oneP_ok hb hq
      obtain ⟨e1, e2⟩ := oneP_exact hb hq
      have hbp : Byt p := fun x hx => by
        have h1 : x ∈ pieceL T p := by simp [pieceL, hx]
        rw [e1] at h1
        exact hb x (List.mem_of_mem_take (List.mem_of_mem_drop h1))
      by_cases c2 : p = []
      · subst c2
        rw [unpackF_end hq] at h
        simp only [Prod.mk.injEq] at h
        obtain ⟨rfl, rfl, _⟩ := h
        exact ⟨[], by simp, fun _ => rfl, p0, by omega, p2, by rw [packL_nil]; exact e1, byt_of rfl⟩
      · rw [unpackF_go hq c2] at h
        obtain ⟨zs, z1, z2, z3, z4, z5, z6, z7⟩ := ih _ _ _ _ _ h
        refine ⟨p ++ zs, by rw [z1, List.append_assoc], fun hf => absurd (e2 hf) c2, p0, by omega, z5, ?_, hbp.app z7⟩
        have hne : p ++ zs ≠ [] := fun h => c2 (List.append_eq_nil_iff.1 h).1
        have hpl : 0 < p.length := List.length_pos_iff.2 c2
        have hcut : (p ++ zs).take 256 = p ∧ (p ++ zs).drop 256 = zs := by
          by_cases h256 : p.length = 256
          · exact ⟨take_app _ _ h256.symm, drop_app _ _ h256.symm⟩
          · have : zs = [] := z2 (decide_eq_false h256)
            subst this
            rw [List.append_nil]
            exact ⟨List.take_of_length_le p3, List.drop_of_length_le p3⟩
        rw [packL_step T hne, hcut.1, hcut.2, e1, z6]
        exact segL s (by omega) (by omega)
    · rw [unpackF_err hq c1] at h
      simp only [Prod.mk.injEq] at h
      exact absurd h.2.2 c1
/-- What is unpacked is just those pieces. -/
theorem unpackL_exact {T s y : List Int} {after : Int} (hb : Byt s) (h : unpackL T s 0 = (y, after, 0)) : 0 ≤ after ∧ after ≤ s.length ∧ packL T y = s.take after.toNat ∧ Byt y := by
  obtain ⟨zs, z1, _, z3, z4, z5, z6, z7⟩ := unpackF_exact hb _ _ _ _ _ _ h
  rw [List.nil_append] at z1
  subst z1
  exact ⟨by omega, z5, by simpa using z6, z7⟩
theorem unpackF_none {T s : List Int} : ∀ (fuel : Nat) (a : Int) (full : Bool) (acc y : List Int) (after e : Int), unpackF T s fuel a full acc = (y, after, e) → e ≠ 0 → y = [] ∧ after = 0 := by
  intro fuel
  induction fuel with
  | zero => intro a full acc y after e h _; rw [unpackF] at h; cases h; exact ⟨rfl, rfl⟩
  | succ k ih =>
    intro a full acc y after e h he
    obtain ⟨⟨p, nx, er⟩, hq⟩ : ∃ r, oneP T s a full = r := ⟨_, rfl⟩
    by_cases c1 : er = 0
    · subst c1
      by_cases c2 : p = []
      · subst c2
        rw [unpackF_end hq] at h
        simp only [Prod.mk.injEq] at h
        exact absurd h.2.2.symm he
      · rw [unpackF_go hq c2] at h
        exact ih _ _ _ _ _ _ h he
    · rw [unpackF_err hq c1] at h
      simp only [Prod.mk.injEq] at h
      exact ⟨h.1.symm, h.2.1.symm⟩
theorem unpackL_none {T s y : List Int} {at_ after e : Int} (h : unpackL T s at_ = (y, after, e)) (he : e ≠ 0) : y = [] ∧ after = 0 := unpackF_none _ _ _ _ _ _ _ h he
end Go.Proofs.Ytflnopaheanpdaa
