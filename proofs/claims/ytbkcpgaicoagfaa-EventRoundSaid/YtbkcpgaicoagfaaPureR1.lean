/- Lists of headers, from others on: what is put is taken; what is taken is put. -/
import Derived.Test.YtbkcpgaicoagfaaPureR0
set_option linter.unusedVariables false
set_option linter.unusedSimpArgs false
namespace Go.Proofs.Ytbkcpgaicoagfaa
open Go.RowKit

theorem endsB_get {was list : List Hdr} {k : Nat} (hk : k < endsB was list) : was[was.length - 1 - k]? = list[list.length - 1 - k]? := by
  have hle := endsB_le was list
  have h := endsA_get (a := (was.drop (endsA was list)).reverse) (b := (list.drop (endsA was list)).reverse) (k := k) hk
  rw [rev_drop_get _ _ _ (by omega), rev_drop_get _ _ _ (by omega)] at h
  exact h
theorem out_eq (was list : List Hdr) : was.take (endsA was list) ++ (freshD was list ++ was.drop (was.length - endsB was list)) = list := by
  have hle := endsB_le was list
  have hfl := freshD_len was list
  apply List.ext_getElem?
  intro i
  have l1 : (was.take (endsA was list)).length = endsA was list := by rw [List.length_take]; omega
  by_cases h1 : i < endsA was list
  · rw [List.getElem?_append_left (by omega), List.getElem?_take, if_pos h1]
    exact endsA_get h1
  · rw [List.getElem?_append_right (by omega), l1]
    by_cases h2 : i < list.length - endsB was list
    · rw [List.getElem?_append_left (by omega)]
      unfold freshD
      rw [List.getElem?_drop, List.getElem?_take, show endsA was list + (i - endsA was list) = i by omega, if_pos h2]
    · rw [List.getElem?_append_right (by omega), hfl, List.getElem?_drop]
      by_cases h3 : i < list.length
      · have h := endsB_get (was := was) (list := list) (k := list.length - 1 - i) (by omega)
        rw [show list.length - 1 - (list.length - 1 - i) = i by omega] at h
        rw [← h]
        congr 1
        omega
      · rw [List.getElem?_eq_none (by omega), List.getElem?_eq_none (by omega)]
theorem takeD_putD {ts : List ByteArray} {was list : List Hdr} {ys r : List Int} (hz : ∀ h ∈ list, h.1.size ≤ 2048 ∧ h.2.size ≤ 2048) (hl : list.length ≤ 25) (hw : was.length ≤ 1000000) (ht : ts.length + 50 ≤ 1000000) (hr : Byt r) :
    takeD ts ((ys ++ (putD ts was list).1) ++ r) (ys.length : Int) was = (list, (ys.length : Int) + (putD ts was list).1.length, 0, (putD ts was list).2) := by
  have hle := endsB_le was list
  have hfl := freshD_len was list
  have hoe := out_eq was list
  have hfz : ∀ h ∈ freshD was list, h.1.size ≤ 2048 ∧ h.2.size ≤ 2048 := fun h hh => hz h (by
    unfold freshD at hh
    exact List.mem_of_mem_take (List.mem_of_mem_drop hh))
  obtain ⟨fr, hfr⟩ : ∃ fr, freshD was list = fr := ⟨_, rfl⟩
  obtain ⟨f, hf⟩ : ∃ f, endsA was list = f := ⟨_, rfl⟩
  obtain ⟨g, hg⟩ : ∃ g, endsB was list = g := ⟨_, rfl⟩
  have hpd : putD ts was list = (leb (f : Int) ++ (leb (g : Int) ++ (leb (fr.length : Int) ++ (putFs ts fr).1)), (putFs ts fr).2) := by unfold putD; rw [hf, hg, hfr]
  rw [hfr] at hfl hoe hfz
  rw [hf, hg] at hle hoe hfl
  obtain ⟨pf, hpf⟩ : ∃ p, putFs ts fr = p := ⟨_, rfl⟩
  rw [hpf] at hpd
  have bf : Byt pf.1 := by rw [← hpf]; exact putFs_bytes _ _
  have b0 : Byt (pf.1 ++ r) := fun x hx => (List.mem_append.1 hx).elim (bf x) (hr x)
  have bq : Byt (leb (fr.length : Int)) := leb_byte (by omega)
  have bg : Byt (leb (g : Int)) := leb_byte (by omega)
  have b1 : Byt (leb (fr.length : Int) ++ (pf.1 ++ r)) := fun x hx => (List.mem_append.1 hx).elim (bq x) (b0 x)
  have b2 : Byt (leb (g : Int) ++ (leb (fr.length : Int) ++ (pf.1 ++ r))) := fun x hx => (List.mem_append.1 hx).elim (bg x) (b1 x)
  have t1 := lebTake_round (ys := ys) (v := (f : Int)) (r := leb (g : Int) ++ (leb (fr.length : Int) ++ (pf.1 ++ r))) (by omega) (by omega) b2
  have t2 := lebTake_round (ys := ys ++ leb (f : Int)) (v := (g : Int)) (r := leb (fr.length : Int) ++ (pf.1 ++ r)) (by omega) (by omega) b1
  have t3 := lebTake_round (ys := (ys ++ leb (f : Int)) ++ leb (g : Int)) (v := (fr.length : Int)) (r := pf.1 ++ r) (by omega) (by omega) b0
  have t4 := takeFs_putFs fr ts (((ys ++ leb (f : Int)) ++ leb (g : Int)) ++ leb (fr.length : Int)) r hfz (by omega) hr
  rw [hpf] at t4
  obtain ⟨lf, hlf⟩ : ∃ l, leb (f : Int) = l := ⟨_, rfl⟩
  obtain ⟨lg, hlg⟩ : ∃ l, leb (g : Int) = l := ⟨_, rfl⟩
  obtain ⟨lq, hlq⟩ : ∃ l, leb (fr.length : Int) = l := ⟨_, rfl⟩
  rw [hlf, hlg, hlq] at hpd
  rw [hlf, hlg, hlq] at t1 t4
  rw [hlf, hlg, hlq] at t2 t3
  have e0 : (ys ++ (putD ts was list).1) ++ r = (ys ++ lf) ++ (lg ++ (lq ++ (pf.1 ++ r))) := by rw [hpd]; simp only [List.append_assoc]
  have e2 : ((ys ++ lf) ++ lg) ++ (lq ++ (pf.1 ++ r)) = (ys ++ lf) ++ (lg ++ (lq ++ (pf.1 ++ r))) := by simp only [List.append_assoc]
  have e3 : (((ys ++ lf) ++ lg) ++ lq) ++ (pf.1 ++ r) = (ys ++ lf) ++ (lg ++ (lq ++ (pf.1 ++ r))) := by simp only [List.append_assoc]
  have e4 : ((((ys ++ lf) ++ lg) ++ lq) ++ pf.1) ++ r = (ys ++ lf) ++ (lg ++ (lq ++ (pf.1 ++ r))) := by simp only [List.append_assoc]
  rw [e2, List.length_append, Int.natCast_add] at t2
  rw [e3, List.length_append, List.length_append, Int.natCast_add, Int.natCast_add] at t3
  rw [e4, List.length_append, List.length_append, List.length_append, Int.natCast_add, Int.natCast_add, Int.natCast_add] at t4
  rw [e0]
  obtain ⟨B, hB⟩ : ∃ B, (ys ++ lf) ++ (lg ++ (lq ++ (pf.1 ++ r))) = B := ⟨_, rfl⟩
  rw [hB] at t1 t2 t3 t4 ⊢
  unfold takeD
  simp only
  rw [t1]
  simp only
  rw [t2]
  simp only
  rw [t3]
  simp only
  have hq : ((fr.length : Nat) : Int).toNat = fr.length := by omega
  have hf2 : ((f : Nat) : Int).toNat = f := by omega
  have hg2 : ((g : Nat) : Int).toNat = g := by omega
  rw [hq, hf2, hg2, t4]
  simp only
  rw [hoe, hf, hg]
  rw [if_neg (by simp), if_neg (by simp), if_neg (by simp), if_neg (by omega), if_neg (by omega), if_neg (by simp), if_neg (by simp)]
  rw [hpd]
  simp only [List.length_append, Int.natCast_add, Prod.mk.injEq, true_and, and_true]
  omega
theorem putD_takeD {b : List Int} (hb : Byt b) {ts ts' : List ByteArray} {was list : List Hdr} {a n : Int} (hd : Dist ts) (h : takeD ts b a was = (list, n, 0, ts')) : putD ts was list = (seg b a n, ts') ∧ 0 ≤ a ∧ a < n ∧ n ≤ b.length ∧ Dist ts' ∧ list.length ≤ 25 := by
  unfold takeD at h
  simp only at h
  obtain ⟨⟨f, m1, e1⟩, h1⟩ : ∃ r, lebTake b a = r := ⟨_, rfl⟩
  rw [h1] at h
  dsimp only at h
  by_cases he1 : e1 ≠ 0
  · rw [if_pos he1] at h; simp only [Prod.mk.injEq] at h; exact absurd h.2.2.1 he1
  rw [if_neg he1] at h
  obtain rfl : e1 = 0 := by simpa using he1
  obtain ⟨⟨g, m2, e2⟩, h2⟩ : ∃ r, lebTake b m1 = r := ⟨_, rfl⟩
  rw [h2] at h
  dsimp only at h
  by_cases he2 : e2 ≠ 0
  · rw [if_pos he2] at h; simp only [Prod.mk.injEq] at h; exact absurd h.2.2.1 he2
  rw [if_neg he2] at h
  obtain rfl : e2 = 0 := by simpa using he2
  obtain ⟨⟨q, m3, e3⟩, h3⟩ : ∃ r, lebTake b m2 = r := ⟨_, rfl⟩
  rw [h3] at h
  dsimp only at h
  by_cases he3 : e3 ≠ 0
  · rw [if_pos he3] at h; simp only [Prod.mk.injEq] at h; exact absurd h.2.2.1 he3
  rw [if_neg he3] at h
  obtain rfl : e3 = 0 := by simpa using he3
  obtain ⟨a1, a2, a3, a4, a5, a6⟩ := lebTake_exact hb h1
  obtain ⟨b1, b2, b3, b4, b5, b6⟩ := lebTake_exact hb h2
  obtain ⟨c1, c2, c3, c4, c5, c6⟩ := lebTake_exact hb h3
  by_cases hw : (was.length : Int) < f + g
  · rw [if_pos hw] at h; simp at h
  rw [if_neg hw] at h
  by_cases h25 : 25 < f + g + q
  · rw [if_pos h25] at h; simp at h
  rw [if_neg h25] at h
  obtain ⟨⟨z, m4, e4, ts4⟩, h4⟩ : ∃ r, takeFs b q.toNat ts m3 = r := ⟨_, rfl⟩
  rw [h4] at h
  dsimp only at h
  by_cases he4 : e4 ≠ 0
  · rw [if_pos he4] at h; simp only [Prod.mk.injEq] at h; exact absurd h.2.2.1 he4
  rw [if_neg he4] at h
  obtain rfl : e4 = 0 := by simpa using he4
  obtain ⟨d1, d2, d3, d4, d5⟩ := putFs_takeFs hb q.toNat ts ts4 m3 m4 z hd (by omega) (by omega) h4
  by_cases hen : endsA was (was.take f.toNat ++ (z ++ was.drop (was.length - g.toNat))) ≠ f.toNat ∨ endsB was (was.take f.toNat ++ (z ++ was.drop (was.length - g.toNat))) ≠ g.toNat
  · rw [if_pos hen] at h; simp at h
  rw [if_neg hen] at h
  simp only [Prod.mk.injEq, true_and] at h
  obtain ⟨hl, rfl, rfl⟩ := h
  rw [hl] at hen
  have hA : endsA was list = f.toNat := by
    rcases Classical.em (endsA was list = f.toNat) with h | h
    · exact h
    · exact absurd (.inl h) hen
  have hB : endsB was list = g.toNat := by
    rcases Classical.em (endsB was list = g.toNat) with h | h
    · exact h
    · exact absurd (.inr h) hen
  have l1 : (was.take f.toNat).length = f.toNat := by rw [List.length_take]; omega
  have l2 : (was.drop (was.length - g.toNat)).length = g.toNat := by rw [List.length_drop]; omega
  have hll : list.length = f.toNat + q.toNat + g.toNat := by rw [← hl, List.length_append, List.length_append, l1, l2, d5]; omega
  have hfr : freshD was list = z := by
    unfold freshD
    rw [hA, hB, hll, show f.toNat + q.toNat + g.toNat - g.toNat = f.toNat + q.toNat by omega, ← hl]
    rw [← List.append_assoc, List.take_append_of_le_length (by rw [List.length_append, l1, d5]; omega), List.take_of_length_le (by rw [List.length_append, l1, d5]; omega)]
    rw [List.drop_append_of_le_length (by omega), List.drop_of_length_le (by omega), List.nil_append]
  refine ⟨?_, a1, by omega, by omega, d4, by omega⟩
  unfold putD
  rw [hA, hB, hfr, d1, d5]
  have f2 : ((f.toNat : Nat) : Int) = f := by omega
  have g2 : ((g.toNat : Nat) : Int) = g := by omega
  have q2 : ((q.toNat : Nat) : Int) = q := by omega
  rw [f2, g2, q2, a4, b4, c4]
  dsimp only
  show (seg b a m1 ++ (seg b m1 m2 ++ (seg b m2 m3 ++ seg b m3 m4)), ts4) = (seg b a m4, ts4)
  rw [seg_app (by omega) (by omega) (by omega) (by omega), seg_app (by omega) (by omega) (by omega) (by omega), seg_app (by omega) (by omega) (by omega) (by omega)]
end Go.Proofs.Ytbkcpgaicoagfaa
