/- Delta: the walk of numbers. -/
import Derived.Test.YtbkcpgaicoagfaaDel4
set_option linter.unusedVariables false
set_option linter.unusedSimpArgs false
namespace Go.Proofs.Ytbkcpgaicoagfaa
open Go.RowKit

/-- Three numbers, and the place behind; or the first one's error. -/
def nums3 (b : List Int) (at_ : Int) (x y z a er : Int) : Prop :=
  let r0 := lebTake b at_
  let r1 := lebTake b r0.2.1
  let r2 := lebTake b r1.2.1
  (r0.2.2 ≠ 0 ∧ er = r0.2.2 ∧ a = 0) ∨ (r0.2.2 = 0 ∧ r1.2.2 ≠ 0 ∧ er = r1.2.2 ∧ a = 0) ∨ (r0.2.2 = 0 ∧ r1.2.2 = 0 ∧ r2.2.2 ≠ 0 ∧ er = r2.2.2 ∧ a = 0) ∨
  (r0.2.2 = 0 ∧ r1.2.2 = 0 ∧ r2.2.2 = 0 ∧ er = 0 ∧ x = r0.1 ∧ y = r1.1 ∧ z = r2.1 ∧ a = r2.2.1)
def NumQ (b : List Int) (at_ : Int) (w : World) (e : Ending) (w' : World) : Prop :=
  ∃ x y z a er : Int, e = .returned (.tuple #[.agg #[.int .u64 x, .int .u64 y, .int .u64 z], .int .i64 a, .int .i64 er]) ∧ Grew w w' ∧ nums3 b at_ x y z a er

def nxtN (b : List Int) (at_ : Int) : Nat → Int
  | 0 => at_
  | k + 1 => (lebTake b (nxtN b at_ k)).2.1
def NumP (b : List Int) (at_ : Int) (k : Nat) (x y z a : Int) : Prop :=
  a = nxtN b at_ k ∧ (∀ j, j < k → (lebTake b (nxtN b at_ j)).2.2 = 0) ∧ (0 < k → x = (lebTake b (nxtN b at_ 0)).1) ∧ (1 < k → y = (lebTake b (nxtN b at_ 1)).1) ∧ (2 < k → z = (lebTake b (nxtN b at_ 2)).1)
theorem NumP.pos {b : List Int} {at_ : Int} {k : Nat} {x y z a : Int} (hb : Byt b) (h : NumP b at_ k x y z a) : a = at_ ∨ (0 ≤ a ∧ a ≤ b.length) := by
  obtain ⟨rfl, h1, _⟩ := h
  cases k with
  | zero => exact .inl rfl
  | succ k =>
    right
    have h2 := h1 k (by omega)
    obtain ⟨⟨v, n, e⟩, hq⟩ : ∃ r, lebTake b (nxtN b at_ k) = r := ⟨_, rfl⟩
    rw [nxtN]
    rw [hq] at h2 ⊢
    simp only at h2 ⊢
    subst h2
    obtain ⟨q0, q1, q2, _⟩ := lebTake_exact hb hq
    omega
theorem NumP.err {b : List Int} {at_ : Int} {k : Nat} {x y z a er : Int} (h : NumP b at_ k x y z a) (hk : k < 3) (he : (lebTake b a).2.2 = er) (h0 : er ≠ 0) (x' y' z' : Int) : nums3 b at_ x' y' z' 0 er := by
  obtain ⟨rfl, h1, _⟩ := h
  unfold nums3
  rcases (by omega : k = 0 ∨ k = 1 ∨ k = 2) with rfl | rfl | rfl
  · have e0 : (lebTake b at_).2.2 = er := he
    exact .inl ⟨by rw [e0]; exact h0, e0.symm, rfl⟩
  · have e0 : (lebTake b at_).2.2 = 0 := h1 0 (by omega)
    have e1 : (lebTake b (lebTake b at_).2.1).2.2 = er := he
    exact .inr (.inl ⟨e0, by rw [e1]; exact h0, e1.symm, rfl⟩)
  · have e0 : (lebTake b at_).2.2 = 0 := h1 0 (by omega)
    have e1 : (lebTake b (lebTake b at_).2.1).2.2 = 0 := h1 1 (by omega)
    have e2 : (lebTake b (lebTake b (lebTake b at_).2.1).2.1).2.2 = er := he
    exact .inr (.inr (.inl ⟨e0, e1, by rw [e2]; exact h0, e2.symm, rfl⟩))
theorem NumP.ok {b : List Int} {at_ : Int} {x y z a : Int} (h : NumP b at_ 3 x y z a) : nums3 b at_ x y z a 0 := by
  obtain ⟨rfl, h1, h2, h3, h4⟩ := h
  unfold nums3
  exact .inr (.inr (.inr ⟨h1 0 (by omega), h1 1 (by omega), h1 2 (by omega), rfl, h2 (by omega), h3 (by omega), h4 (by omega), rfl⟩))
theorem NumP.step {b : List Int} {at_ : Int} {k : Nat} {x y z a v a' : Int} (h : NumP b at_ k x y z a) (hk : k < 3) (hq : lebTake b a = (v, a', 0)) : NumP b at_ (k + 1) (if k = 0 then v else x) (if k = 1 then v else y) (if k = 2 then v else z) a' := by
  obtain ⟨rfl, h1, h2, h3, h4⟩ := h
  refine ⟨by rw [nxtN, hq], fun j hj => ?_, fun _ => ?_, fun _ => ?_, fun _ => ?_⟩
  · by_cases e : j = k
    · subst e; rw [hq]
    · exact h1 j (by omega)
  · by_cases e : k = 0
    · subst e; rw [if_pos rfl, hq]
    · rw [if_neg e]; exact h2 (by omega)
  · by_cases e : k = 1
    · subst e; rw [if_pos rfl, hq]
    · rw [if_neg e]; exact h3 (by omega)
  · by_cases e : k = 2
    · subst e; rw [if_pos rfl, hq]
    · rw [if_neg e]; exact h4 (by omega)
theorem set3 (x y z v : Int) (k : Nat) : (#[.int .u64 x, .int .u64 y, .int .u64 z] : Array Value).setIfInBounds k (.int .u64 v) = #[.int .u64 (if k = 0 then v else x), .int .u64 (if k = 1 then v else y), .int .u64 (if k = 2 then v else z)] := by
  rcases (by omega : k = 0 ∨ k = 1 ∨ k = 2 ∨ 3 ≤ k) with rfl | rfl | rfl | h
  · rfl
  · rfl
  · rfl
  · rw [if_neg (by omega), if_neg (by omega), if_neg (by omega)]
    simp [Array.setIfInBounds, show ¬ k < 3 by omega]

set_option maxRecDepth 100000 in
set_option maxHeartbeats 1600000 in
theorem numbers_any (A : Option Addr) (n c : Nat) (b : List Int) (at_ : Int) (w : World) (hr : Rd w A n b) (hb : Byt b) (hnc : n ≤ c) (hn : n ≤ 100000000) (h0 : -9223372036854775808 ≤ at_) (h1 : at_ ≤ 9223372036854775807) :
    Calls Try.prog 63 #[.slice A n c, .int .i64 at_] w (NumQ b at_ w) := by
  have hnl := hr.len
  have HR := Lib.hid hr
  have HBY := Lib.hid hb
  have HNL := Lib.hid hnl
  clear hr hb hnl
  go_enter Try.func63, Try.ntmps63
  go_wp2
  obtain ⟨nb, hnb⟩ : ∃ nb, w.heap.size = nb := ⟨_, rfl⟩
  have hbl := heap_alloc_new w (.cells #[.int .u64 0, .int .u64 0, .int .u64 0] 128)
  rw [hnb] at hbl ⊢
  have HNB := Lib.hid hnb
  have HBL := Lib.hid hbl
  clear hnb hbl
  go_loopw [1, 6, 8] (fun a er i wr => ∃ (k : Nat) (x y z a' : Int), i = .int .i64 (k : Int) ∧ k ≤ 3 ∧ er = .int .i64 0 ∧ a = .int .i64 a' ∧ wr.heap[nb]? = some (.cells #[.int .u64 x, .int .u64 y, .int .u64 z] 128) ∧ Grew w wr ∧ NumP b at_ k x y z a') (fun _ _ i _ => 3 - (intOf i).toNat)
  case atStart => exact ⟨0, 0, 0, 0, at_, rfl, by omega, rfl, rfl, HBL.out, (Grew.rf w).al _, rfl, fun j h => by omega, fun h => by omega, fun h => by omega, fun h => by omega⟩
  case round =>
    obtain ⟨k, x, y, z, a, rfl, hk, rfl, rfl, hbk, hgk, hN⟩ := hrel
    have hc0 := cell_of_heap (i := 0) hbk rfl
    have hc1 := cell_of_heap (i := 1) hbk rfl
    have hc2 := cell_of_heap (i := 2) hbk rfl
    have hpos := hN.pos HBY.out
    rw [HNL.out] at hpos
    by_cases hk3 : k < 3
    · obtain ⟨⟨v, a', er⟩, hq⟩ : ∃ r, lebTake b a = r := ⟨_, rfl⟩
      have htk := take_to4 A n c b a v a' er hq wr (HR.out.keep hgk) HBY.out hnc (by omega) (by omega) (by omega)
      have HTK := Lib.hid htk
      have HN := Lib.hid hN
      have HQ := Lib.hid hq
      have hck : wr.cell? ⟨nb, k, none⟩ = some (.int .u64 (if k = 0 then x else if k = 1 then y else z)) := by
        rcases (by omega : k = 0 ∨ k = 1 ∨ k = 2) with rfl | rfl | rfl
        · exact hc0
        · exact hc1
        · exact hc2
      have hfz := frozen_of_heap (i := k) hbk
      have hfz0 := frozen_of_heap (i := 0) hbk
      have hfz1 := frozen_of_heap (i := 1) hbk
      have hfz2 := frozen_of_heap (i := 2) hbk
      have hbs := setCell_heap_same hbk (i := k) (.int .u64 v)
      rw [set3] at hbs
      have hgs : Grew w (wr.setCell ⟨nb, k, none⟩ (.int .u64 v)) := hgk.st (by have := HNB.out; simp only; omega) _
      have HGS := Lib.hid hgs
      have HBS := Lib.hid hbs
      have hs0 := cell_of_heap (i := 0) hbs rfl
      have hs1 := cell_of_heap (i := 1) hbs rfl
      have hs2 := cell_of_heap (i := 2) hbs rfl
      have hsf := frozen_of_heap (i := 0) hbs
      simp only [List.getElem_toArray, List.getElem_cons_zero, List.getElem_cons_succ] at hs0 hs1 hs2
      generalize (if k = 0 then x else if k = 1 then y else z) = xk at hck
      generalize hx1 : (if k = 0 then v else x) = x1 at hs0 hs1 hs2 hbs HBS
      generalize hy1 : (if k = 1 then v else y) = y1 at hs0 hs1 hs2 hbs HBS
      generalize hz1 : (if k = 2 then v else z) = z1 at hs0 hs1 hs2 hbs HBS
      have HX1 := Lib.hid hx1
      have HY1 := Lib.hid hy1
      have HZ1 := Lib.hid hz1
      clear htk hq hN hc0 hc1 hc2 hbk hbs hgs hx1 hy1 hz1
      by_cases her : er = 0
      · subst her
        clear hs0 hs1 hs2 hsf
        go_wp2_with (go_at_call 59; refine Calls.mono HTK.out ?_; rintro e w' ⟨rfl, rfl⟩)
        go_roundw
        case rel =>
          have := HN.out.step hk3 HQ.out
          rw [HX1.out, HY1.out, HZ1.out] at this
          exact ⟨k + 1, x1, y1, z1, a', by go_num, by omega, rfl, rfl, HBS.out, HGS.out, this⟩
        case measure => simp [intOf]; omega
      · have hde : decide (er = 0) = false := decide_eq_false her
        obtain ⟨W1, hW1⟩ : ∃ W1, wr.setCell ⟨nb, k, none⟩ (.int .u64 v) = W1 := ⟨_, rfl⟩
        have ha0 := setCell_heap_same HBS.out (i := 0) (.int .u64 x1)
        rw [set3] at ha0
        have ha1 := setCell_heap_same ha0 (i := 1) (.int .u64 y1)
        rw [set3] at ha1
        have ha2 := setCell_heap_same ha1 (i := 2) (.int .u64 z1)
        rw [set3] at ha2
        have hgl := ((HGS.out.st (p := ⟨nb, 0, none⟩) (by have := HNB.out; simp only; omega) (.int .u64 x1)).st (p := ⟨nb, 1, none⟩) (by have := HNB.out; simp only; omega) (.int .u64 y1)).st (p := ⟨nb, 2, none⟩) (by have := HNB.out; simp only; omega) (.int .u64 z1)
        have hl0 := cell_of_heap (i := 0) ha2 rfl
        have hl1 := cell_of_heap (i := 1) ha2 rfl
        have hl2 := cell_of_heap (i := 2) ha2 rfl
        simp only [List.getElem_toArray, List.getElem_cons_zero, List.getElem_cons_succ, if_true, Nat.one_ne_zero, if_false, Nat.reduceEqDiff] at hl0 hl1 hl2
        have HGL := Lib.hid hgl
        clear ha0 ha1 ha2 hgl
        clear hW1 W1
        go_wp2_with (go_at_call 59; refine Calls.mono HTK.out ?_; rintro e w' ⟨rfl, rfl⟩)
        exact bodyPost_ret (v := .tuple #[.agg #[.int .u64 x1, .int .u64 y1, .int .u64 z1], .int .i64 0, .int .i64 er]) (by simp [results, Try.results63, go_sem, hl0, hl1, hl2]) rfl ⟨x1, y1, z1, 0, er, rfl, HGL.out, HN.out.err hk3 (by rw [HQ.out]) her _ _ _⟩
    · obtain rfl : k = 3 := by omega
      clear hk hk3
      have HN := Lib.hid hN
      clear hN
      have hfz0 := frozen_of_heap (i := 0) hbk
      have hfz1 := frozen_of_heap (i := 1) hbk
      have hfz2 := frozen_of_heap (i := 2) hbk
      have ha0 := setCell_heap_same hbk (i := 0) (.int .u64 x)
      rw [set3] at ha0
      have ha1 := setCell_heap_same ha0 (i := 1) (.int .u64 y)
      rw [set3] at ha1
      have ha2 := setCell_heap_same ha1 (i := 2) (.int .u64 z)
      rw [set3] at ha2
      have hgl := ((hgk.st (p := ⟨nb, 0, none⟩) (by have := HNB.out; simp only; omega) (.int .u64 x)).st (p := ⟨nb, 1, none⟩) (by have := HNB.out; simp only; omega) (.int .u64 y)).st (p := ⟨nb, 2, none⟩) (by have := HNB.out; simp only; omega) (.int .u64 z)
      have hl0 := cell_of_heap (i := 0) ha2 rfl
      have hl1 := cell_of_heap (i := 1) ha2 rfl
      have hl2 := cell_of_heap (i := 2) ha2 rfl
      simp only [List.getElem_toArray, List.getElem_cons_zero, List.getElem_cons_succ, if_true, Nat.one_ne_zero, if_false, Nat.reduceEqDiff] at hl0 hl1 hl2
      have HGL := Lib.hid hgl
      clear ha0 ha1 ha2 hgl hbk
      go_wp2
      exact bodyPost_ret (v := .tuple #[.agg #[.int .u64 x, .int .u64 y, .int .u64 z], .int .i64 a, .int .i64 0]) (by simp [results, Try.results63, go_sem, hl0, hl1, hl2]) rfl ⟨x, y, z, a, 0, rfl, HGL.out, HN.out.ok⟩
end Go.Proofs.Ytbkcpgaicoagfaa
