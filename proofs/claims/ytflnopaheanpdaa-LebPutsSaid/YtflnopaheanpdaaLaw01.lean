import Derived.Test.YtflnopaheanpdaaRTake
set_option linter.unusedVariables false
set_option linter.unusedSimpArgs false
namespace Go.Proofs.Ytflnopaheanpdaa
open Go.RowKit

theorem retb {a b : Bool} (h : a = b) : Ending.returned (.bool a) = Ending.returned (.bool b) := by rw [h]
theorem take_to (A : Option Addr) (n c : Nat) (bs : List Int) (at_ : Int) (r : Int × Int × Int) (he : lebTake bs at_ = r) (w : World) (hr : Rd w A n bs) (hb : Byt bs) (hnc : n ≤ c) (hn : n ≤ 9223372036854775807) (h0 : -9223372036854775808 ≤ at_) (h1 : at_ ≤ 9223372036854775807) :
    Calls Try.prog 29 #[.slice A n c, .int .i64 at_] w fun e w' => e = .returned (.tuple #[.int .u64 r.1, .int .i64 r.2.1, .int .i64 r.2.2]) ∧ w = w' := by
  subst he
  exact take_any A n c bs at_ w hr hb hnc hn h0 h1

theorem short_cut (A : Option Addr) (n c : Nat) (w : World) (bs : List Int) (hr : Rd w A n bs) (hnc : n ≤ c) (hc : c ≤ 9223372036854775807) :
    Calls Try.prog 26 #[.slice A n c] w fun e w' => e = .returned (.slice A (min n 200) c) ∧ w = w' := by
  by_cases h : 200 < n
  · have hcut := cut_hi (kh := .i64) A n c 200 (by omega)
    have e : min n 200 = 200 := by omega
    rw [e]
    go_enter Try.func26, Try.ntmps26
    go_wp2
    go_ret
    exact ⟨rfl, rfl⟩
  · have e : min n 200 = n := by omega
    rw [e]
    go_enter Try.func26, Try.ntmps26
    go_wp2
    go_ret
    exact ⟨rfl, rfl⟩

set_option maxHeartbeats 400000 in
theorem awake_any (w : World) : Calls Try.prog 24 #[] w fun e w' => e = .returned (.bool true) ∧ Grew w w' := by
  go_enter Try.func24, Try.ntmps24
  go_wp2_with fail
  refine Calls.mono (put_any _ _ _ [9] 300 _ (rd_lit' [9] rfl rfl rfl (by decide)) (by decide) (by decide) (by decide)) ?_
  rintro e w1 ⟨v, rfl, ho, hg⟩
  rw [show [9] ++ leb 300 = [9, 172, 2] by decide] at ho
  obtain ⟨A, c, rfl, hc, hc2, hr⟩ := ho.rd' (n := 3) rfl
  go_wp2_with fail
  refine Calls.mono (take_to _ _ _ [9, 172, 2] 1 (300, 3, 0) (by decide +kernel) _ hr (byt_of (by decide)) hc (by decide) (by decide) (by decide)) ?_
  rintro e w' ⟨rfl, rfl⟩
  go_wp2_with fail
  refine Calls.mono (take_to _ _ _ [128, 0] 0 (0, 0, 4) (by decide +kernel) _ (rd_lit' [128, 0] rfl rfl rfl (by decide)) (byt_of (by decide)) (by decide) (by decide) (by decide) (by decide)) ?_
  rintro e w' ⟨rfl, rfl⟩
  go_wp2_with fail
  refine Calls.mono (take_to _ _ _ [128] 0 (0, 0, 7) (by decide +kernel) _ (rd_lit' [128] (by simp) rfl rfl (by decide)) (byt_of (by decide)) (by decide) (by decide) (by decide) (by decide)) ?_
  rintro e w' ⟨rfl, rfl⟩
  go_wp2_with fail
  refine Calls.mono (take_to _ _ _ [] 1 (0, 0, 1) (by decide +kernel) _ (RdK.nil _ _ _) (byt_of (by decide)) (by decide) (by decide) (by decide) (by decide)) ?_
  rintro e w' ⟨rfl, rfl⟩
  have hr1 := RdK.str (c := c) ((hr.al (.cells #[.int .u8 128, .int .u8 0] 5)).al (.cells #[.int .u8 128] 5))
  have hr2 : (convert 28 9 (.slice (some ⟨w1.heap.size + 1 + 1, 0, none⟩) 3 3)).run Try.prog (((w1.alloc (.cells #[.int .u8 128, .int .u8 0] 5)).alloc (.cells #[.int .u8 128] 5)).alloc (.cells #[.int .u8 9, .int .u8 172, .int .u8 2] 5)) = .ok (.string (strOfNums [9, 172, 2])) (((w1.alloc (.cells #[.int .u8 128, .int .u8 0] 5)).alloc (.cells #[.int .u8 128] 5)).alloc (.cells #[.int .u8 9, .int .u8 172, .int .u8 2] 5)) := by
    have h := RdK.str (c := 3) (rd_lit ((w1.alloc (.cells #[.int .u8 128, .int .u8 0] 5)).alloc (.cells #[.int .u8 128] 5)) [9, 172, 2] (by decide))
    simpa [nums] using h
  have hs3 := fun w => size_any 300 w (by decide) (by decide)
  rw [show ((leb 300).length : Int) = 2 by decide] at hs3
  go_wp2_with (go_at_call 28; refine Calls.mono (hs3 _) ?_; rintro e w' ⟨rfl, rfl⟩)
  go_ret
  exact ⟨rfl, ((((((Grew.rf w).al _).tr hg).al _).al _).al _)⟩

theorem leb_mono {a b : Int} (h0 : 0 ≤ a) (h : a ≤ b) : (leb a).length ≤ (leb b).length := by
  have : ∀ k a b, 0 ≤ a → a ≤ b → (lebF k a).length ≤ (lebF k b).length := by
    intro k
    induction k with
    | zero => intro a b _ _; simp [lebF]
    | succ k ih =>
      intro a b h0 h
      rw [lebF, lebF]
      by_cases ha : a < 128
      · rw [if_pos ha]
        by_cases hb : b < 128
        · rw [if_pos hb]; simp
        · rw [if_neg hb]; simp
      · rw [if_neg ha, if_neg (by omega)]
        have := ih (a / 128) (b / 128) (by omega) (by omega)
        simpa using this
  exact this 10 a b h0 h

set_option maxHeartbeats 400000 in
theorem lebOrder_walk (a b : Int) (w : World) (a0 : 0 ≤ a) (a1 : a < 18446744073709551616) (b0 : 0 ≤ b) (b1 : b < 18446744073709551616) :
    Calls Try.prog 10 #[.int .u64 a, .int .u64 b] w fun e w' => e = .returned (.bool true) ∧ Grew w w' := by
  have la := leb_len a0
  have lb := leb_len b0
  have hm : ¬ a < b → (leb b).length ≤ (leb a).length := fun h => leb_mono b0 (by omega)
  have ca := fun w => size_any a w a0 a1
  have cb := fun w => size_any b w b0 b1
  have CA := Lib.hid ca
  have CB := Lib.hid cb
  clear ca cb
  generalize (leb a).length = n at *
  generalize (leb b).length = m at *
  by_cases hlt : a < b
  · go_enter Try.func10, Try.ntmps10
    go_wp2_with (first | (go_at_call 24; refine Calls.mono (awake_any _) ?_; rintro e w1 ⟨rfl, hg⟩) | (go_at_call_of 28 (Value.int .u64 a); refine Calls.mono (CA.out _) ?_; rintro e w' ⟨rfl, rfl⟩))
    go_ret
    exact ⟨retb (by simp; omega), hg⟩
  · have hm := hm hlt
    have hlt' : decide (a < b) = false := decide_eq_false hlt
    go_enter Try.func10, Try.ntmps10
    go_wp2_with fail
    refine Calls.mono (awake_any _) ?_
    rintro e w1 ⟨rfl, hg⟩
    go_wp2_with fail
    refine Calls.mono (CA.out _) ?_
    rintro e w' ⟨rfl, rfl⟩
    go_wp2_with fail
    refine Calls.mono (CB.out _) ?_
    rintro e w' ⟨rfl, rfl⟩
    go_wp2_with fail
    refine Calls.mono (CA.out _) ?_
    rintro e w' ⟨rfl, rfl⟩
    go_wp2_with fail
    refine Calls.mono (CA.out _) ?_
    rintro e w' ⟨rfl, rfl⟩
    go_wp2
    go_ret
    exact ⟨retb (by simp; omega), hg⟩

set_option maxHeartbeats 400000 in
theorem lebTakes_walk (A : Option Addr) (n c : Nat) (bs : List Int) (at_ : Int) (w : World) (hr : Rd w A n bs) (hb : Byt bs) (hnc : n ≤ c) (hc : c ≤ 9223372036854775807) (h0 : -9223372036854775808 ≤ at_) (h1 : at_ ≤ 9223372036854775807) :
    Calls Try.prog 8 #[.slice A n c, .int .i64 at_] w fun e w' => e = .returned (.bool true) ∧ Grew w w' := by
  have hr2 := hr.take (i := min n 200) (by omega)
  have hb2 : Byt (bs.take (min n 200)) := fun x hx => hb x (List.mem_of_mem_take hx)
  obtain ⟨r, he⟩ : ∃ r, lebTake (bs.take (min n 200)) at_ = r := ⟨_, rfl⟩
  have HE := Lib.hid he
  clear he
  have hs := fun w1 (hg : Grew w w1) => short_cut A n c w1 bs (hr.keep hg) hnc hc
  have hk : min n 200 ≤ 200 := by omega
  have hk2 : min n 200 ≤ c := by omega
  have ht := fun w1 (hg : Grew w w1) => take_to A (min n 200) c _ at_ r HE.out w1 (hr2.keep hg) hb2 hk2 (by omega) h0 h1
  have hq := fun w1 (hg : Grew w w1) => rtake_any A (min n 200) c _ at_ w1 (hr2.keep hg) hb2 hk2 (by omega) (by omega) h0 h1
  rw [HE.out] at hq
  have HS := Lib.hid hs
  have HT := Lib.hid ht
  have HQ := Lib.hid hq
  clear hs ht hq
  generalize min n 200 = k at *
  obtain ⟨r1, r2, r3⟩ := r
  go_enter Try.func8, Try.ntmps8
  go_wp2_with fail
  refine Calls.mono (HS.out _ (Grew.rf w)) ?_
  rintro e w' ⟨rfl, rfl⟩
  go_wp2_with fail
  refine Calls.mono (HT.out _ (Grew.rf w)) ?_
  rintro e w' ⟨rfl, rfl⟩
  go_wp2_with fail
  refine Calls.mono (HS.out _ (Grew.rf w)) ?_
  rintro e w' ⟨rfl, rfl⟩
  go_wp2_with fail
  refine Calls.mono (HQ.out _ (Grew.rf w)) ?_
  rintro e w1 ⟨rfl, hg1⟩
  go_wp2_with fail
  refine Calls.mono (awake_any _) ?_
  rintro e w2 ⟨rfl, hg⟩
  go_wp2
  go_ret
  exact ⟨rfl, hg1.tr hg⟩
end Go.Proofs.Ytflnopaheanpdaa
