/- Texts and lists of headers: what is put is taken; what is taken is put. -/
import Derived.Test.YtbkcpgaicoagfaaPureRt
set_option linter.unusedVariables false
set_option linter.unusedSimpArgs false
namespace Go.Proofs.Ytbkcpgaicoagfaa
open Go.RowKit


/-- One byte behind: a text that was told takes no more than its number. -/
theorem putT_told {ts : List ByteArray} {s : ByteArray} (h : idxT ts s ≠ 0) : putT ts s = (leb (idxT ts s : Int), ts) := by
  unfold putT
  rw [if_neg h]
/-- A text is in the table behind its Put. -/
theorem idxT_put (ts : List ByteArray) (s : ByteArray) : idxT (putT ts s).2 s ≠ 0 := by
  unfold putT
  by_cases h : idxT ts s = 0
  · rw [if_pos h, idxT_snoc, if_pos h, if_pos rfl]; omega
  · rw [if_neg h]; exact h
/-- What a Put leaves in the table stays there. -/
theorem idxT_keep (ts : List ByteArray) (s t : ByteArray) (h : idxT ts t ≠ 0) : idxT (putT ts s).2 t ≠ 0 := by
  unfold putT
  by_cases h2 : idxT ts s = 0
  · rw [if_pos h2]
    simp only
    rw [idxT_snoc, if_neg h]
    exact h
  · rw [if_neg h2]; exact h
/-- The bytes of a Put, taken again by another table of the same texts. -/
theorem takeT_putT {ts : List ByteArray} {s : ByteArray} {ys r : List Int} (hs : s.size ≤ 2048) (hl : ts.length ≤ 1000000) (hr : Byt r) :
    takeT ts ((ys ++ (putT ts s).1) ++ r) (ys.length : Int) = (s, (ys.length : Int) + (putT ts s).1.length, 0, (putT ts s).2) := by
  have hle := idxT_le ts s
  by_cases h : idxT ts s = 0
  · have hp : putT ts s = (leb 0 ++ (leb (s.size : Int) ++ bsOf s), ts ++ [s]) := by unfold putT; rw [if_pos h]
    rw [hp]
    have hby : Byt (leb (s.size : Int)) := leb_byte (by omega)
    have hb2 := bsOf_byt s
    have hr2 : Byt (bsOf s ++ r) := fun x hx => (List.mem_append.1 hx).elim (hb2 x) (hr x)
    have hr1 : Byt (leb (s.size : Int) ++ (bsOf s ++ r)) := fun x hx => (List.mem_append.1 hx).elim (hby x) (hr2 x)
    have e1 := lebTake_round (ys := ys) (v := 0) (r := leb (s.size : Int) ++ (bsOf s ++ r)) (by omega) (by omega) hr1
    have e2 := lebTake_round (ys := ys ++ leb 0) (v := (s.size : Int)) (r := bsOf s ++ r) (by omega) (by omega) hr2
    have eb1 : (ys ++ leb 0) ++ (leb (s.size : Int) ++ (bsOf s ++ r)) = (ys ++ (leb 0 ++ (leb (s.size : Int) ++ bsOf s))) ++ r := by simp only [List.append_assoc]
    have eb2 : ((ys ++ leb 0) ++ leb (s.size : Int)) ++ (bsOf s ++ r) = (ys ++ (leb 0 ++ (leb (s.size : Int) ++ bsOf s))) ++ r := by simp only [List.append_assoc]
    rw [eb1] at e1
    rw [eb2, List.length_append, Int.natCast_add] at e2
    unfold takeT
    simp only
    rw [e1]
    simp only
    rw [if_neg (by simp), if_neg (by omega), if_neg (by omega), e2]
    simp only
    have hbl := bsOf_len s
    have hcut : ((((ys ++ (leb 0 ++ (leb (s.size : Int) ++ bsOf s))) ++ r).take ((ys.length : Int) + (leb 0).length + (leb (s.size : Int)).length + s.size).toNat).drop ((ys.length : Int) + (leb 0).length + (leb (s.size : Int)).length).toNat) = bsOf s := by
      rw [← eb2, show ((ys.length : Int) + (leb 0).length + (leb (s.size : Int)).length + s.size).toNat = (((ys ++ leb 0) ++ leb (s.size : Int)) ++ bsOf s).length by simp only [List.length_append, hbl]; omega,
        show ((ys.length : Int) + (leb 0).length + (leb (s.size : Int)).length).toNat = ((ys ++ leb 0) ++ leb (s.size : Int)).length by simp only [List.length_append]; omega, ← List.append_assoc ((ys ++ leb 0) ++ leb (s.size : Int)), List.take_left, List.drop_left]
    rw [hcut, bsOf_str, if_neg (by simp), if_neg (by omega), if_neg (by simp only [List.length_append, hbl]; omega), if_pos h]
    simp only [List.length_append, hbl, Prod.mk.injEq, true_and, and_true]
    omega
  · have hp := putT_told h
    rw [hp]
    have e1 := lebTake_round (ys := ys) (v := (idxT ts s : Int)) (r := r) (by omega) (by omega) hr
    unfold takeT
    simp only
    rw [e1]
    simp only
    obtain ⟨k, hk⟩ : ∃ k, idxT ts s = k + 1 := ⟨idxT ts s - 1, by omega⟩
    have hg := idxT_get hk
    rw [if_neg (by simp), if_neg (by omega), if_pos (by omega)]
    have e3 : ts.getD ((idxT ts s : Int).toNat - 1) ByteArray.empty = s := by
      rw [Int.toNat_natCast, hk, Nat.add_sub_cancel, List.getD_eq_getElem?_getD, hg]
      rfl
    rw [e3]


/-! ### A stretch of bytes -/
def seg (b : List Int) (a n : Int) : List Int := (b.take n.toNat).drop a.toNat
theorem seg_app {b : List Int} {a m n : Int} (h0 : 0 ≤ a) (h1 : a ≤ m) (h2 : m ≤ n) (h3 : n ≤ b.length) : seg b a m ++ seg b m n = seg b a n := by
  unfold seg
  apply List.ext_getElem?
  intro i
  have l1 : ((b.take m.toNat).drop a.toNat).length = m.toNat - a.toNat := by rw [List.length_drop, List.length_take]; omega
  by_cases hi : i < m.toNat - a.toNat
  · rw [List.getElem?_append_left (by omega), List.getElem?_drop, List.getElem?_drop, List.getElem?_take, List.getElem?_take, if_pos (by omega), if_pos (by omega)]
  · rw [List.getElem?_append_right (by omega), l1, List.getElem?_drop, List.getElem?_drop, List.getElem?_take, List.getElem?_take]
    have e : m.toNat + (i - (m.toNat - a.toNat)) = a.toNat + i := by omega
    rw [e]
theorem seg_nil (b : List Int) (a : Int) : seg b a a = [] := by
  unfold seg
  exact List.drop_eq_nil_of_le (by rw [List.length_take]; omega)
theorem seg_len {b : List Int} {a n : Int} (h0 : 0 ≤ a) (h1 : a ≤ n) (h3 : n ≤ b.length) : ((seg b a n).length : Int) = n - a := by
  unfold seg
  rw [List.length_drop, List.length_take]
  omega
theorem byt_seg {b : List Int} (hb : Byt b) (a n : Int) : Byt (seg b a n) := fun x hx => hb x (List.mem_of_mem_take (List.mem_of_mem_drop hx))
theorem bsOf_strOf {b : List Int} (hb : Byt b) : bsOf (strOfNums b) = b := by
  exact bsOf_nums hb
/-- No text twice. -/
def Dist (ts : List ByteArray) : Prop := ∀ i t, ts[i]? = some t → idxT ts t = i + 1
theorem Dist.nil : Dist [] := fun i t h => by simp at h
theorem Dist.push {ts : List ByteArray} (h : Dist ts) {s : ByteArray} (hs : idxT ts s = 0) : Dist (ts ++ [s]) := fun i t hi => by
  rw [idxT_snoc]
  by_cases hl : i < ts.length
  · rw [List.getElem?_append_left hl] at hi
    have := h i t hi
    rw [if_neg (by omega), this]
  · rw [List.getElem?_append_right (by omega)] at hi
    have h0 : i - ts.length = 0 := by have := (List.getElem?_eq_some_iff.1 hi).1; simp at this; omega
    rw [h0] at hi
    simp at hi
    subst hi
    rw [if_pos hs, if_pos rfl]
    omega
theorem Dist.put {ts : List ByteArray} (h : Dist ts) (s : ByteArray) : Dist (putT ts s).2 := by
  unfold putT
  split
  · exact h.push (by assumption)
  · exact h
/-- What Take accepts of the texts is what Put makes. -/
theorem putT_takeT {ts ts' : List ByteArray} {b : List Int} (hb : Byt b) (hd : Dist ts) {a n : Int} {s : ByteArray} (h : takeT ts b a = (s, n, 0, ts')) : putT ts s = (seg b a n, ts') ∧ 0 ≤ a ∧ a < n ∧ n ≤ b.length ∧ Dist ts' := by
  unfold takeT at h
  simp only at h
  obtain ⟨⟨v, m, e⟩, hv⟩ : ∃ r, lebTake b a = r := ⟨_, rfl⟩
  rw [hv] at h
  dsimp only at h
  by_cases he : e ≠ 0
  · rw [if_pos he] at h; simp only [Prod.mk.injEq] at h; exact absurd h.2.2.1 he
  · rw [if_neg he] at h
    obtain rfl : e = 0 := by simpa using he
    obtain ⟨h0, h1, h2, h3, h4, h5⟩ := lebTake_exact hb hv
    by_cases hlt : (ts.length : Int) < v
    · rw [if_pos hlt] at h; simp at h
    · rw [if_neg hlt] at h
      by_cases hp : 0 < v
      · rw [if_pos hp] at h
        simp only [Prod.mk.injEq, true_and] at h
        obtain ⟨rfl, rfl, rfl⟩ := h
        have hget : ts[v.toNat - 1]? = some (ts.getD (v.toNat - 1) ByteArray.empty) := by
          rw [List.getD_eq_getElem?_getD, List.getElem?_eq_getElem (by omega)]
          rfl
        have hi := hd _ _ hget
        have hvv : (idxT ts (ts.getD (v.toNat - 1) ByteArray.empty) : Int) = v := by rw [hi]; omega
        refine ⟨?_, h0, h1, h2, hd⟩
        rw [putT_told (by omega), hvv, h3]
        rfl
      · rw [if_neg hp] at h
        obtain rfl : v = 0 := by omega
        obtain ⟨⟨sz, m2, e2⟩, hv2⟩ : ∃ r, lebTake b m = r := ⟨_, rfl⟩
        rw [hv2] at h
        dsimp only at h
        by_cases he2 : e2 ≠ 0
        · rw [if_pos he2] at h; simp only [Prod.mk.injEq] at h; exact absurd h.2.2.1 he2
        · rw [if_neg he2] at h
          obtain rfl : e2 = 0 := by simpa using he2
          obtain ⟨g0, g1, g2, g3, g4, g5⟩ := lebTake_exact hb hv2
          by_cases hbig : 2048 < sz
          · rw [if_pos hbig] at h; simp at h
          · rw [if_neg hbig] at h
            by_cases hsh : (b.length : Int) < m2 + sz
            · rw [if_pos hsh] at h; simp at h
            · rw [if_neg hsh] at h
              by_cases hi : idxT ts (strOfNums ((b.take (m2 + sz).toNat).drop m2.toNat)) = 0
              · rw [if_pos hi] at h
                simp only [Prod.mk.injEq, true_and] at h
                obtain ⟨rfl, rfl, rfl⟩ := h
                have hby := byt_seg hb m2 (m2 + sz)
                have hsl := seg_len (b := b) (a := m2) (n := m2 + sz) (by omega) (by omega) (by omega)
                have hbs := bsOf_strOf hby
                have hsz : (strOfNums (seg b m2 (m2 + sz))).size = sz.toNat := by
                  have := bsOf_len (strOfNums (seg b m2 (m2 + sz)))
                  rw [hbs] at this
                  omega
                refine ⟨?_, h0, by omega, by omega, hd.push hi⟩
                show putT ts (strOfNums (seg b m2 (m2 + sz))) = _
                unfold putT
                have hi' : idxT ts (strOfNums (seg b m2 (m2 + sz))) = 0 := hi
                rw [if_pos hi', hbs, hsz]
                have e1 : leb 0 = seg b a m := h3
                have e2 : leb ((sz.toNat : Nat) : Int) = seg b m m2 := by rw [show ((sz.toNat : Nat) : Int) = sz by omega]; exact g3
                rw [e1, e2, seg_app (by omega) (by omega) (by omega) (by omega), seg_app (by omega) (by omega) (by omega) (by omega)]
                rfl
              · rw [if_neg hi] at h; simp at h
theorem putT_bytes (ts : List ByteArray) (s : ByteArray) : Byt (putT ts s).1 := by
  by_cases h : idxT ts s = 0
  · have hp : putT ts s = (leb 0 ++ (leb (s.size : Int) ++ bsOf s), ts ++ [s]) := by unfold putT; rw [if_pos h]
    have h0 : Byt (leb 0) := leb_byte (by omega)
    have h1 : Byt (leb (s.size : Int)) := leb_byte (by omega)
    rw [hp]
    intro x hx
    rcases List.mem_append.1 hx with h | h
    · exact h0 x h
    · rcases List.mem_append.1 h with h | h
      · exact h1 x h
      · exact bsOf_byt s x h
  · have h1 : Byt (leb (idxT ts s : Int)) := leb_byte (by omega)
    rw [putT_told h]
    generalize leb (idxT ts s : Int) = q at h1
    exact h1
theorem putFs_bytes : ∀ (l : List Hdr) (ts : List ByteArray), Byt (putFs ts l).1
  | [], ts => fun x hx => by cases hx
  | h :: l, ts => by
    intro x hx
    rw [putFs] at hx
    rcases List.mem_append.1 hx with hx | hx
    · exact putT_bytes _ _ x hx
    · rcases List.mem_append.1 hx with hx | hx
      · exact putT_bytes _ _ x hx
      · exact putFs_bytes l _ x hx
/-- New headers, put and taken. -/
theorem takeFs_putFs : ∀ (l : List Hdr) (ts : List ByteArray) (ys r : List Int), (∀ h ∈ l, h.1.size ≤ 2048 ∧ h.2.size ≤ 2048) → ts.length + 2 * l.length ≤ 1000000 → Byt r →
    takeFs ((ys ++ (putFs ts l).1) ++ r) l.length ts (ys.length : Int) = (l, (ys.length : Int) + (putFs ts l).1.length, 0, (putFs ts l).2)
  | [], ts, ys, r, _, _, _ => by simp [putFs, takeFs]
  | h :: l, ts, ys, r, hz, hl, hr => by
    rw [List.length_cons] at hl
    have hs := hz h (List.mem_cons_self ..)
    obtain ⟨p1, hp1⟩ : ∃ p, putT ts h.1 = p := ⟨_, rfl⟩
    obtain ⟨p2, hp2⟩ : ∃ p, putT p1.2 h.2 = p := ⟨_, rfl⟩
    obtain ⟨p3, hp3⟩ : ∃ p, putFs p2.2 l = p := ⟨_, rfl⟩
    have hpt : putFs ts (h :: l) = (p1.1 ++ (p2.1 ++ p3.1), p3.2) := by rw [putFs, hp1, hp2, hp3]
    have l1 := putT_len2 ts h.1 (by omega) (by omega)
    rw [hp1] at l1
    have l2 := putT_len2 p1.2 h.2 (by omega) (by omega)
    rw [hp2] at l2
    have b2 : Byt p2.1 := by rw [← hp2]; exact putT_bytes _ _
    have b3 : Byt p3.1 := by rw [← hp3]; exact putFs_bytes _ _
    have br : Byt (p3.1 ++ r) := fun x hx => (List.mem_append.1 hx).elim (b3 x) (hr x)
    have br2 : Byt (p2.1 ++ (p3.1 ++ r)) := fun x hx => (List.mem_append.1 hx).elim (b2 x) (br x)
    have t1 := takeT_putT (ts := ts) (s := h.1) (ys := ys) (r := p2.1 ++ (p3.1 ++ r)) hs.1 (by omega) br2
    have t2 := takeT_putT (ts := p1.2) (s := h.2) (ys := ys ++ p1.1) (r := p3.1 ++ r) hs.2 (by omega) br
    have t3 := takeFs_putFs l p2.2 ((ys ++ p1.1) ++ p2.1) r (fun y hy => hz y (List.mem_cons_of_mem _ hy)) (by omega) hr
    rw [hp1] at t1
    rw [hp2] at t2
    rw [hp3] at t3
    have e : (ys ++ (putFs ts (h :: l)).1) ++ r = (ys ++ p1.1) ++ (p2.1 ++ (p3.1 ++ r)) := by rw [hpt]; simp only [List.append_assoc]
    have e2 : (ys ++ p1.1) ++ (p2.1 ++ (p3.1 ++ r)) = ((ys ++ p1.1) ++ p2.1) ++ (p3.1 ++ r) := by simp only [List.append_assoc]
    have e3 : ((ys ++ p1.1) ++ p2.1) ++ (p3.1 ++ r) = (((ys ++ p1.1) ++ p2.1) ++ p3.1) ++ r := by simp only [List.append_assoc]
    rw [e, List.length_cons]
    rw [← e2] at t2
    rw [← e3, ← e2] at t3
    have e4 : ((ys ++ p1.1).length : Int) = (ys.length : Int) + p1.1.length := by rw [List.length_append, Int.natCast_add]
    have e5 : (((ys ++ p1.1) ++ p2.1).length : Int) = (ys.length : Int) + p1.1.length + p2.1.length := by rw [List.length_append, List.length_append, Int.natCast_add, Int.natCast_add]
    rw [e4] at t2
    rw [e5] at t3
    rw [takeFs_ok t1 t2, t3, hpt]
    unfold preFs
    simp only [ne_eq, not_true_eq_false, if_false, List.length_append, Prod.mk.injEq, List.singleton_append, and_true, true_and, Int.natCast_add]
    omega
/-- New headers, taken and put. -/
theorem putFs_takeFs {b : List Int} (hb : Byt b) : ∀ (k : Nat) (ts ts' : List ByteArray) (a n : Int) (l : List Hdr), Dist ts → 0 ≤ a → a ≤ b.length → takeFs b k ts a = (l, n, 0, ts') → putFs ts l = (seg b a n, ts') ∧ a ≤ n ∧ n ≤ b.length ∧ Dist ts' ∧ l.length = k
  | 0, ts, ts', a, n, l, hd, h0, h1, h => by
    simp only [takeFs, Prod.mk.injEq] at h
    obtain ⟨rfl, rfl, -, rfl⟩ := h
    exact ⟨by rw [seg_nil]; rfl, Int.le_refl _, h1, hd, rfl⟩
  | k + 1, ts, ts', a, n, l, hd, h0, h1, h => by
    obtain ⟨⟨s1, m1, e1, ts1⟩, t1⟩ : ∃ r, takeT ts b a = r := ⟨_, rfl⟩
    by_cases he1 : e1 = 0
    · subst he1
      obtain ⟨⟨s2, m2, e2, ts2⟩, t2⟩ : ∃ r, takeT ts1 b m1 = r := ⟨_, rfl⟩
      by_cases he2 : e2 = 0
      · subst he2
        obtain ⟨q1, q2, q3, q4, q5⟩ := putT_takeT hb hd t1
        obtain ⟨r1, r2, r3, r4, r5⟩ := putT_takeT hb q5 t2
        rw [takeFs_ok t1 t2] at h
        obtain ⟨⟨l3, n3, e3, ts3⟩, t3⟩ : ∃ r, takeFs b k ts2 m2 = r := ⟨_, rfl⟩
        rw [t3] at h
        unfold preFs at h
        dsimp only at h
        by_cases he3 : e3 ≠ 0
        · rw [if_pos he3] at h; simp only [Prod.mk.injEq] at h; exact absurd h.2.2.1 he3
        · rw [if_neg he3] at h
          simp only [Prod.mk.injEq, true_and] at h
          obtain ⟨rfl, rfl, rfl⟩ := h
          obtain rfl : e3 = 0 := by simpa using he3
          obtain ⟨u1, u2, u3, u4, u5⟩ := putFs_takeFs hb k ts2 ts3 m2 n3 l3 r5 (by omega) (by omega) t3
          refine ⟨?_, by omega, by omega, u4, by simp [u5]⟩
          rw [List.singleton_append, putFs, q1]
          dsimp only
          rw [r1]
          dsimp only
          rw [u1]
          dsimp only
          rw [seg_app (by omega) (by omega) (by omega) (by omega), seg_app (by omega) (by omega) (by omega) (by omega)]
      · rw [takeFs_e2 t1 t2 he2] at h; simp only [Prod.mk.injEq] at h; exact absurd h.2.2.1 he2
    · rw [takeFs_e1 t1 he1] at h; simp only [Prod.mk.injEq] at h; exact absurd h.2.2.1 he1
end Go.Proofs.Ytbkcpgaicoagfaa
