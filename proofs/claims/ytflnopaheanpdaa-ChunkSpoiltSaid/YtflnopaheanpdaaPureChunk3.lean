/- Chunk: a piece in which bits within 32 in a row are turned, but for its number of bytes, is refused. -/
import Derived.Test.YtflnopaheanpdaaPureChunk2
import Derived.Test.YtflnopaheanpdaaPureCyc2
set_option linter.unusedVariables false
set_option linter.unusedSimpArgs false
namespace Go.Proofs.Ytflnopaheanpdaa

theorem crcF_append (xs ys : List Int) : ∀ n, crcF n (xs ++ ys) = crcF (crcF n xs) ys := by
  induction xs with
  | nil => intro n; rfl
  | cons x r ih => intro n; rw [List.cons_append, crcF, crcF, ih]
theorem valB_four {n : Nat} (h : n < 4294967296) : valB (fourB n) = n := by
  simp only [fourB, valB, Int.toNat_natCast]
  omega
/-- Where a sum stands behind its text, the whole comes to one number. -/
theorem crc_residue {u q : List Int} (hu : Byt u) (h : fourB (cSum cTab u) = q) : crcF 4294967295 (u ++ q) = cIt 32 4294967295 := by
  have hl := cSum_lt cTab_wrd u
  have hq : Byt q := by rw [← h]; exact fourB_byt hl
  rw [crcF_append, crc_val _ hq, ← h, valB_four hl, fourB_len]
  unfold cSum
  rw [sum_crc _ hu, ← Nat.xor_assoc, Nat.xor_self, Nat.zero_xor]
/-- A spoilt piece: the sum does not fit. -/
theorem oneP_spoilt {pre post ys t : List Int} {p m : Nat} (hy : Byt ys) (hl : ys.length ≤ 256) (ht : Byt t) (hp : Byt post) (htl : t.length = (pieceL cTab ys).length) (hth : t.take (leb (ys.length : Int)).length = leb (ys.length : Int))
    (hv : valB t = valB (pieceL cTab ys) ^^^ 2 ^ p * m) (hm : m < 4294967296) (hp8 : p ≤ 8 * t.length) (hne : m ≠ 0) : oneP cTab (pre ++ (t ++ post)) (pre.length : Int) true = ([], 0, 6) := by
  have hsz := piece_size cTab ys
  have hlb : Byt (leb (ys.length : Int)) := leb_byte (by omega)
  have hbody : Byt (leb (ys.length : Int) ++ ys) := hlb.app hy
  have hpb : Byt (pieceL cTab ys) := pieceL_byt cTab_wrd hy hl
  have h0 : crcF 4294967295 (pieceL cTab ys) = cIt 32 4294967295 := crc_residue hbody rfl
  have hap : crcF 4294967295 t ≠ cIt 32 4294967295 := by
    rw [← h0]
    intro e
    exact hne ((crc_apart hpb ht htl hv hm (by rw [htl] at hp8; exact hp8) 4294967295).1 e)
  obtain ⟨L, hL⟩ : ∃ L, leb (ys.length : Int) = L := ⟨_, rfl⟩
  have hLr := lebTake_round (ys := pre) (v := (ys.length : Int)) (r := t.drop L.length ++ post) (by omega) (by omega) ((ht.drop _).app hp)
  rw [hL] at hLr hth hsz hlb
  have hcut : t = L ++ t.drop L.length := by
    conv => lhs; rw [← List.take_append_drop L.length t, hth]
  have hs : pre ++ (t ++ post) = (pre ++ L) ++ (t.drop L.length ++ post) := by
    conv => lhs; rw [hcut]
    simp
  rw [hs]
  unfold oneP
  rw [hLr]
  simp only
  have hto : ((pre.length : Int) + (L.length : Int) + (ys.length : Int)).toNat = pre.length + (L.length + ys.length) := by omega
  have hdl : (t.drop L.length).length = ys.length + 4 := by rw [List.length_drop]; omega
  rw [if_neg (by simp), if_neg (by omega), if_neg (by simp), if_neg (by simp only [List.length_append]; omega), hto, ← hs]
  have e1 : ((pre ++ (t ++ post)).take (pre.length + (L.length + ys.length))).drop pre.length = t.take (L.length + ys.length) := by
    rw [List.drop_take, drop_app _ _ rfl, show pre.length + (L.length + ys.length) - pre.length = L.length + ys.length by omega, List.take_append_of_le_length (by omega)]
  have e2 : ((pre ++ (t ++ post)).take (pre.length + (L.length + ys.length) + 4)).drop (pre.length + (L.length + ys.length)) = t.drop (L.length + ys.length) := by
    rw [show pre ++ (t ++ post) = (pre ++ t) ++ post by simp, take_app _ _ (by rw [List.length_append]; omega), ← List.drop_drop, drop_app _ _ rfl]
  rw [Int.toNat_natCast, e1, e2, if_neg]
  intro e
  apply hap
  have h3 := crc_residue (ht.take (L.length + ys.length)) e
  rw [List.take_append_drop] at h3
  exact h3
theorem headF_ge (T : List Int) : ∀ (k : Nat) (xs : List Int), k ≤ (headF k T xs).length := by
  intro k
  induction k with
  | zero => intro xs; omega
  | succ k ih =>
    intro xs
    rw [headF, List.length_append, piece_size]
    have := ih (xs.drop 256)
    omega
theorem unpackF_head {T : List Int} (hW : Wrd T) : ∀ (k : Nat) (xs pre rest acc : List Int) (fuel : Nat), 256 * k ≤ xs.length → Byt xs → Byt rest →
    unpackF T (pre ++ (headF k T xs ++ rest)) (fuel + k) (pre.length : Int) true acc = unpackF T (pre ++ (headF k T xs ++ rest)) fuel ((pre ++ headF k T xs).length : Int) true (acc ++ xs.take (256 * k)) := by
  intro k
  induction k with
  | zero => intro xs pre rest acc fuel _ _ _; simp [headF]
  | succ k ih =>
    intro xs pre rest acc fuel hk hb hr
    have hyl : (xs.take 256).length = 256 := by rw [List.length_take]; omega
    have hne : xs.take 256 ≠ [] := fun h => by rw [h] at hyl; simp at hyl
    have hbz : Byt (xs.drop 256) := hb.drop 256
    have h1 := oneP_piece (T := T) (pre := pre) (ys := xs.take 256) (post := headF k T (xs.drop 256) ++ rest) (full := true) hW (hb.take 256) ((headF_byt hW k hbz).app hr) (by omega) (.inr rfl)
    rw [headF, List.append_assoc, show fuel + (k + 1) = (fuel + k) + 1 by omega, unpackF_go h1 hne, hyl]
    have h2 := ih (xs.drop 256) (pre ++ pieceL T (xs.take 256)) rest (acc ++ xs.take 256) fuel (by rw [List.length_drop]; omega) hbz hr
    rw [List.append_assoc, List.length_append, Int.natCast_add] at h2
    rw [show (decide (256 = 256)) = true from rfl, h2]
    congr 1
    · simp [List.length_append]
    · rw [List.append_assoc]
      congr 1
      rw [show 256 * (k + 1) = 256 + 256 * k by omega, List.take_add]
/-- Bytes whose k-th piece is spoilt are refused. -/
theorem unpack_spoilt {x t post : List Int} {k p m : Nat} (hx : Byt x) (hk : 256 * k ≤ x.length) (ht : Byt t) (hp : Byt post) (htl : t.length = (pieceL cTab ((x.drop (256 * k)).take 256)).length)
    (hth : t.take (leb (((x.drop (256 * k)).take 256).length : Int)).length = leb (((x.drop (256 * k)).take 256).length : Int)) (hv : valB t = valB (pieceL cTab ((x.drop (256 * k)).take 256)) ^^^ 2 ^ p * m) (hm : m < 4294967296) (hp8 : p ≤ 8 * t.length) (hne : m ≠ 0) :
    unpackL cTab (headF k cTab x ++ (t ++ post)) 0 = ([], 0, 6) := by
  have hg := headF_ge cTab k x
  obtain ⟨j, hj⟩ : ∃ j, (headF k cTab x ++ (t ++ post)).length + 1 = (j + 1) + k := ⟨(headF k cTab x ++ (t ++ post)).length - k, by rw [List.length_append]; omega⟩
  have h1 := unpackF_head (T := cTab) cTab_wrd k x [] (t ++ post) [] (j + 1) hk hx (ht.app hp)
  have h2 := oneP_spoilt (pre := headF k cTab x) (post := post) (ys := (x.drop (256 * k)).take 256) ((hx.drop _).take _) (by rw [List.length_take]; omega) ht hp htl hth hv hm hp8 hne
  unfold unpackL
  rw [hj]
  rw [List.nil_append, List.nil_append, List.length_nil, Int.natCast_zero] at h1
  rw [h1]
  exact unpackF_err h2 (by decide)
theorem leb_small : ∀ n : Nat, n < 257 → (leb (n : Int)).length = if 127 < n then 2 else 1 := by decide +kernel
theorem headF_at (T xs : List Int) (i : Nat) : (headF (i + 1) T xs).length = (headF i T xs).length + ((if 127 < min 256 (xs.length - 256 * i) then 2 else 1) + min 256 (xs.length - 256 * i)) + 4 := by
  rw [headF_snoc, List.length_append, piece_size, List.length_take, List.length_drop, leb_small _ (by omega)]
  omega
/-- A packed text, at its k-th piece. -/
theorem packL_at (T : List Int) {xs : List Int} {k : Nat} (h : 256 * k < xs.length) : packL T xs = headF k T xs ++ (pieceL T ((xs.drop (256 * k)).take 256) ++ packL T (xs.drop (256 * (k + 1)))) := by
  rw [packL_head T k xs (by omega), packL_step T (xs := xs.drop (256 * k)) (fun e => by have := congrArg List.length e; rw [List.length_drop] at this; simp at this; omega), List.drop_drop, show 256 * k + 256 = 256 * (k + 1) by omega]
end Go.Proofs.Ytflnopaheanpdaa
