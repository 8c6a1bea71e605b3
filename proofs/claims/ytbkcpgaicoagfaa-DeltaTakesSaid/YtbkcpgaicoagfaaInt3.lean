/- Intern: the walk of Take. -/
import Derived.Test.YtbkcpgaicoagfaaInt2
set_option linter.unusedVariables false
set_option linter.unusedSimpArgs false
namespace Go.Proofs.Ytbkcpgaicoagfaa
open Go.RowKit

theorem str_size (xs : List Int) : (strOfNums xs).size = xs.length := by simp [strOfNums, ByteArray.size]
theorem take_to4 (A : Option Addr) (n c : Nat) (bs : List Int) (at_ : Int) (v nx e : Int) (he : lebTake bs at_ = (v, nx, e)) (w : World) (hr : Rd w A n bs) (hb : Byt bs) (hnc : n ≤ c) (hn : n ≤ 9223372036854775807) (h0 : -9223372036854775808 ≤ at_) (h1 : at_ ≤ 9223372036854775807) :
    Calls Try.prog 59 #[.slice A n c, .int .i64 at_] w fun ee w' => ee = .returned (.tuple #[.int .u64 v, .int .i64 nx, .int .i64 e]) ∧ w = w' := by
  have := take_any A n c bs at_ w hr hb hnc hn h0 h1
  rw [he] at this
  exact this
/-- What a table's Take leaves. -/
structure TakeQ (w w' : World) (p : Nat) (lv : Value) (mb : Nat) (ts' : List ByteArray) : Prop where
  tab : ∃ lv', TabI w' p lv' mb ts' ∧ ∀ k, ftp p lv' mb k → ftp p lv mb k ∨ w.heap.size ≤ k
  chg : Chg (ftp p lv mb) w w'
theorem TakeQ.same {w : World} {p : Nat} {lv : Value} {mb : Nat} {ts : List ByteArray} (h : TabI w p lv mb ts) : TakeQ w w p lv mb ts := ⟨⟨lv, h, fun k hk => .inl hk⟩, Chg.of (Grew.rf w)⟩

set_option maxRecDepth 100000 in
set_option maxHeartbeats 1600000 in
theorem ttake_any (p : Nat) (lv : Value) (mb : Nat) (ts : List ByteArray) (A : Option Addr) (n c : Nat) (b : List Int) (at_ : Int) (w : World) (hT : TabI w p lv mb ts) (hr : Rd w A n b) (hb : Byt b) (hnc : n ≤ c) (hc : c ≤ 9223372036854775807) (hn : n ≤ 100000000) (hf : ts.length < 1000000) (h0 : -9223372036854775808 ≤ at_) (h1 : at_ ≤ 9223372036854775807) :
    Calls Try.prog 27 #[.pointer (some ⟨p, 0, none⟩), .slice A n c, .int .i64 at_] w fun e w' => e = .returned (.tuple #[.string (takeT ts b at_).1, .int .i64 (takeT ts b at_).2.1, .int .i64 (takeT ts b at_).2.2.1]) ∧ TakeQ w w' p lv mb (takeT ts b at_).2.2.2 := by
  have HT := Lib.hid hT
  have hM := hT.map
  have hcb : w.cell? ⟨p, 1, none⟩ = some (.map (some mb)) := cell_of_heap (i := 1) hT.cells rfl
  have hca0 : w.cell? ⟨p, 0, none⟩ = some lv := cell_of_heap (i := 0) hT.cells rfl
  obtain ⟨AL, cL, hlv, hcL, hmL, hrL⟩ := hT.list.rd
  obtain ⟨⟨v, a1, er⟩, hq⟩ : ∃ r, lebTake b at_ = r := ⟨_, rfl⟩
  have htk := take_to4 A n c b at_ v a1 er hq w hr hb hnc (by omega) h0 h1
  have hca : w.cell? ⟨p, 0, none⟩ = some (.slice AL ts.length cL) := by rw [hca0, hlv]
  have HTK := Lib.hid htk
  have hnl := hr.len
  unfold takeT
  rw [hq]
  simp only
  clear htk hT hca0
  by_cases c1 : er = 0
  · subst c1
    obtain ⟨q0, q1, q2, _, q4, q5⟩ := lebTake_exact hb hq
    rw [hnl] at q2
    rw [if_neg (by simp)]
    clear hq
    by_cases c2 : (ts.length : Int) < v
    · rw [if_pos c2]
      clear hnl hlv hrL hr
      go_enter Try.func27, Try.ntmps27
      go_wp2_with (go_at_call 59; refine Calls.mono HTK.out ?_; rintro e w' ⟨rfl, rfl⟩)
      go_ret3
      exact ⟨rfl, TakeQ.same HT.out⟩
    · rw [if_neg c2]
      by_cases c3 : 0 < v
      · rw [if_pos c3]
        obtain ⟨m, rfl⟩ : ∃ m : Nat, v = (m : Int) + 1 := ⟨(v - 1).toNat, by omega⟩
        have hm : m < ts.length := by omega
        obtain ⟨g, o, rfl, hcl⟩ := hrL.cells (by omega)
        have hgm : ts[m]? = some (ts.getD m ByteArray.empty) := by rw [List.getD_eq_getElem?_getD, List.getElem?_eq_getElem hm]; rfl
        have hce := hcl m (.string (ts.getD m ByteArray.empty)) (by rw [List.getElem?_map, hgm]; rfl)
        rw [show ((m : Int) + 1).toNat - 1 = m by omega]
        obtain ⟨t, ht⟩ : ∃ t, ts.getD m ByteArray.empty = t := ⟨_, rfl⟩
        rw [ht] at hce ⊢
        clear hnl hlv hrL hr hcl hgm ht c3 q0 q1 q2 q4 q5 hn h0 h1 hc hmL hcL
        go_enter Try.func27, Try.ntmps27
        go_wp2_with (go_at_call 59; refine Calls.mono HTK.out ?_; rintro e w' ⟨rfl, rfl⟩)
        go_ret3
        exact ⟨rfl, TakeQ.same HT.out⟩
      · rw [if_neg c3]
        obtain rfl : v = 0 := by omega
        obtain ⟨⟨v2, a2, er2⟩, hq2⟩ : ∃ r, lebTake b a1 = r := ⟨_, rfl⟩
        have htk2 := take_to4 A n c b a1 v2 a2 er2 hq2 w hr hb hnc (by omega) (by omega) (by omega)
        have HTK2 := Lib.hid htk2
        rw [hq2]
        simp only
        clear htk2
        by_cases d1 : er2 = 0
        · subst d1
          obtain ⟨r0, r1, r2, _, r4, r5⟩ := lebTake_exact hb hq2
          rw [hnl] at r2
          rw [if_neg (by simp), hnl]
          clear hq2
          by_cases d2 : 2048 < v2
          · rw [if_pos d2]
            clear hnl hlv hrL hr
            go_enter Try.func27, Try.ntmps27
            go_wp2_with (first | (go_at_call 59; refine Calls.mono HTK.out ?_; rintro e w' ⟨rfl, rfl⟩; clear HTK) | (go_at_call 59; refine Calls.mono HTK2.out ?_; rintro e w' ⟨rfl, rfl⟩))
            go_ret3
            exact ⟨rfl, TakeQ.same HT.out⟩
          · rw [if_neg d2]
            by_cases d3 : (n : Int) < a2 + v2
            · rw [if_pos d3]
              clear hnl hlv hrL hr
              go_enter Try.func27, Try.ntmps27
              go_wp2_with (first | (go_at_call 59; refine Calls.mono HTK.out ?_; rintro e w' ⟨rfl, rfl⟩; clear HTK) | (go_at_call 59; refine Calls.mono HTK2.out ?_; rintro e w' ⟨rfl, rfl⟩))
              go_ret3
              exact ⟨rfl, TakeQ.same HT.out⟩
            · rw [if_neg d3]
              obtain ⟨f, rfl⟩ := Int.eq_ofNat_of_zero_le (show 0 ≤ a2 by omega)
              obtain ⟨m, rfl⟩ := Int.eq_ofNat_of_zero_le r4
              rw [show ((f : Int) + (m : Int)).toNat = f + m by omega, Int.toNat_natCast]
              obtain ⟨A3, hcut3, hA3⟩ := cut_lh (kl := .i64) (kh := .i64) A n c f (f + m) (by omega) (by omega) hnc
              have hr3 := hA3 hr
              rw [show f + m - f = m by omega] at hcut3 hr3
              rw [show ((f + m : Nat) : Int) = (f : Int) + (m : Int) by omega] at hcut3
              obtain ⟨xs, hxs⟩ : ∃ xs, (b.take (f + m)).drop f = xs := ⟨_, rfl⟩
              rw [hxs] at hr3 ⊢
              obtain ⟨s, hs⟩ : ∃ s, strOfNums xs = s := ⟨_, rfl⟩
              have hss : s.size ≤ 2048 := by rw [← hs, str_size, hr3.len]; omega
              have hstr := fun (u : World) (h : Rd u A3 m xs) => RdK.str (c := c - f) h
              rw [hs] at hstr ⊢
              have hstr2 := hstr w hr3
              have hfm : f + m ≤ n := by omega
              have hfn : f + m ≤ 100000000 := by omega
              have hm2 : m ≤ 2048 := by omega
              clear hs hxs hA3 hstr hnl hlv hrL hr hr3 d2 d3 r0 r1 r2 r4 r5 q0 q1 q2 q4 q5 hc h0 h1 hmL hcL c2 c3
              by_cases hz : idxT ts s = 0
              · rw [if_pos hz]
                have htl := tell_any p lv mb ts s w HT.out (by omega) hf hz
                have HTL := Lib.hid htl
                have hdd : decide (idxT ts s ≠ 0) = false := decide_eq_false (by simp [hz])
                clear htl hz
                go_enter Try.func27, Try.ntmps27
                go_wp2_with (first | (refine look_num rfl rfl rfl rfl (by omega) hM ?_; rw [hdd]) | (go_at_call 57; refine Calls.mono HTL.out ?_; rintro e w1 ⟨rfl, lv1, hT1, hC1, hF1⟩) | (go_at_call 59; refine Calls.mono HTK.out ?_; rintro e w' ⟨rfl, rfl⟩; clear HTK) | (go_at_call 59; refine Calls.mono HTK2.out ?_; rintro e w' ⟨rfl, rfl⟩))
                go_ret3
                exact ⟨rfl, ⟨lv1, hT1, hF1⟩, hC1⟩
              · rw [if_neg hz]
                have hdd : decide (idxT ts s ≠ 0) = true := decide_eq_true hz
                clear hz
                go_enter Try.func27, Try.ntmps27
                go_wp2_with (first | (refine look_num rfl rfl rfl rfl (by omega) hM ?_; rw [hdd]) | (go_at_call 59; refine Calls.mono HTK.out ?_; rintro e w' ⟨rfl, rfl⟩; clear HTK) | (go_at_call 59; refine Calls.mono HTK2.out ?_; rintro e w' ⟨rfl, rfl⟩))
                go_ret3
                exact ⟨rfl, TakeQ.same HT.out⟩
        · rw [if_pos d1]
          have hd1 : decide (er2 = 0) = false := decide_eq_false d1
          clear hnl hlv hrL hr hq2
          go_enter Try.func27, Try.ntmps27
          go_wp2_with (first | (go_at_call 59; refine Calls.mono HTK.out ?_; rintro e w' ⟨rfl, rfl⟩; clear HTK) | (go_at_call 59; refine Calls.mono HTK2.out ?_; rintro e w' ⟨rfl, rfl⟩))
          go_ret3
          exact ⟨rfl, TakeQ.same HT.out⟩
  · rw [if_pos c1]
    have hc1 : decide (er = 0) = false := decide_eq_false c1
    clear hnl hlv hrL hr hq
    go_enter Try.func27, Try.ntmps27
    go_wp2_with (go_at_call 59; refine Calls.mono HTK.out ?_; rintro e w' ⟨rfl, rfl⟩)
    go_ret3
    exact ⟨rfl, TakeQ.same HT.out⟩
end Go.Proofs.Ytbkcpgaicoagfaa
