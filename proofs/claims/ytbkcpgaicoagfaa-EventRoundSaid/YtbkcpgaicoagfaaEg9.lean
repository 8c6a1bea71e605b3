/- Intern: the walk of the answer's Take. -/
import Derived.Test.YtbkcpgaicoagfaaEg8
set_option linter.unusedVariables false
set_option linter.unusedSimpArgs false
namespace Go.Proofs.Ytbkcpgaicoagfaa
open Go.RowKit

theorem rtake_to4 (A : Option Addr) (n c : Nat) (bs : List Int) (at_ : Int) (v nx e : Int) (he : lebTake bs at_ = (v, nx, e)) (w : World) (hr : Rd w A n bs) (hb : Byt bs) (hnc : n ≤ c) (hc : c ≤ 9223372036854775807) (hn : n ≤ 100000000) (h0 : -9223372036854775808 ≤ at_) (h1 : at_ ≤ 9223372036854775807) :
    Calls Try.prog 56 #[.slice A n c, .int .i64 at_] w fun ee w' => ee = .returned (.tuple #[.int .u64 v, .int .i64 nx, .int .i64 e]) ∧ Grew w w' := by
  have := rtake_any A n c bs at_ w hr hb hnc hc (by omega) h0 h1
  rw [he] at this
  exact this
/-- What the answer's Take leaves. -/
structure RTakeQ (w w' : World) (q : Nat) (lv : Value) (ts' : List ByteArray) : Prop where
  tab : ∃ lv', RefI w' q lv' ts' ∧ ∀ k, ftr q lv' k → ftr q lv k ∨ w.heap.size ≤ k
  chg : Chg (ftr q lv) w w'
theorem RTakeQ.same {w w' : World} {q : Nat} {lv : Value} {ts : List ByteArray} (h : RefI w q lv ts) (hg : Grew w w') : RTakeQ w w' q lv ts := ⟨⟨lv, h.keep hg, fun k hk => .inl hk⟩, Chg.of hg⟩

set_option maxRecDepth 100000 in
set_option maxHeartbeats 1600000 in
theorem rtake19_any (p : Nat) (lv : Value) (ts : List ByteArray) (A : Option Addr) (n c : Nat) (b : List Int) (at_ : Int) (w : World) (hT : RefI w p lv ts) (hr : Rd w A n b) (hb : Byt b) (hnc : n ≤ c) (hc : c ≤ 9223372036854775807) (hn : n ≤ 100000000) (hf : ts.length < 1000000) (h0 : -9223372036854775808 ≤ at_) (h1 : at_ ≤ 9223372036854775807) :
    Calls Try.prog 28 #[.pointer (some ⟨p, 0, none⟩), .slice A n c, .int .i64 at_] w fun e w' => e = .returned (.tuple #[.string (takeT ts b at_).1, .int .i64 (takeT ts b at_).2.1, .int .i64 (takeT ts b at_).2.2.1]) ∧ RTakeQ w w' p lv (takeT ts b at_).2.2.2 := by
  have HT := Lib.hid hT
  have hca0 : w.cell? ⟨p, 0, none⟩ = some lv := cell_of_heap (i := 0) hT.cells rfl
  obtain ⟨AL, cL, hlv, hcL, hmL, hrL⟩ := hT.list.rd
  obtain ⟨⟨v, a1, er⟩, hq⟩ : ∃ r, lebTake b at_ = r := ⟨_, rfl⟩
  have htk := rtake_to4 A n c b at_ v a1 er hq w hr hb hnc hc hn h0 h1
  have hca : w.cell? ⟨p, 0, none⟩ = some (.slice AL ts.length cL) := by rw [hca0, hlv]
  have HTK := Lib.hid htk
  have hnl := hr.len
  unfold takeT
  rw [hq]
  simp only
  clear htk hT hca0
  by_cases c1 : er = 0
  · subst c1
    obtain ⟨q0, q1, q2, _, q4, q5⟩ := lebTake_exact hb hq
    rw [hnl] at q2
    rw [if_neg (by simp)]
    clear hq
    by_cases c2 : (ts.length : Int) < v
    · rw [if_pos c2]
      clear hnl hlv hrL hr
      go_enter Try.func28, Try.ntmps28
      go_wp2_with (go_at_call 56; refine Calls.mono HTK.out ?_; rintro e w1 ⟨rfl, hg1⟩; have hca1 := hg1.ce hca)
      go_ret3
      exact ⟨rfl, RTakeQ.same HT.out hg1⟩
    · rw [if_neg c2]
      by_cases c3 : 0 < v
      · rw [if_pos c3]
        obtain ⟨m, rfl⟩ : ∃ m : Nat, v = (m : Int) + 1 := ⟨(v - 1).toNat, by omega⟩
        have hm : m < ts.length := by omega
        obtain ⟨g, o, rfl, hcl⟩ := hrL.cells (by omega)
        have hgm : ts[m]? = some (ts.getD m ByteArray.empty) := by rw [List.getD_eq_getElem?_getD, List.getElem?_eq_getElem hm]; rfl
        have hce := hcl m (.string (ts.getD m ByteArray.empty)) (by rw [List.getElem?_map, hgm]; rfl)
        rw [show ((m : Int) + 1).toNat - 1 = m by omega]
        obtain ⟨t, ht⟩ : ∃ t, ts.getD m ByteArray.empty = t := ⟨_, rfl⟩
        rw [ht] at hce ⊢
        clear hnl hlv hrL hr hcl hgm ht c3 q0 q1 q2 q4 q5 hn h0 h1 hc hmL hcL
        go_enter Try.func28, Try.ntmps28
        go_wp2_with (go_at_call 56; refine Calls.mono HTK.out ?_; rintro e w1 ⟨rfl, hg1⟩; have hca1 := hg1.ce hca; have hce1 := hg1.ce hce)
        go_ret3
        exact ⟨rfl, RTakeQ.same HT.out hg1⟩
      · rw [if_neg c3]
        obtain rfl : v = 0 := by omega
        obtain ⟨⟨v2, a2, er2⟩, hq2⟩ : ∃ r, lebTake b a1 = r := ⟨_, rfl⟩
        have htk2 := fun (u : World) (hg : Grew w u) => rtake_to4 A n c b a1 v2 a2 er2 hq2 u (hr.keep hg) hb hnc hc hn (by omega) (by omega)
        have HTK2 := Lib.hid htk2
        rw [hq2]
        simp only
        clear htk2
        by_cases d1 : er2 = 0
        · subst d1
          obtain ⟨r0, r1, r2, _, r4, r5⟩ := lebTake_exact hb hq2
          rw [hnl] at r2
          rw [if_neg (by simp), hnl]
          clear hq2
          by_cases d2 : 2048 < v2
          · rw [if_pos d2]
            clear hnl hlv hrL hr
            go_enter Try.func28, Try.ntmps28
            go_wp2_with (first | (go_at_call 56; refine Calls.mono HTK.out ?_; rintro e w1 ⟨rfl, hg1⟩; have hca1 := hg1.ce hca; clear HTK) | (go_at_call 56; refine Calls.mono (HTK2.out _ hg1) ?_; rintro e w2 ⟨rfl, hg2⟩))
            go_ret3
            exact ⟨rfl, RTakeQ.same HT.out (hg1.tr hg2)⟩
          · rw [if_neg d2]
            by_cases d3 : (n : Int) < a2 + v2
            · rw [if_pos d3]
              clear hnl hlv hrL hr
              go_enter Try.func28, Try.ntmps28
              go_wp2_with (first | (go_at_call 56; refine Calls.mono HTK.out ?_; rintro e w1 ⟨rfl, hg1⟩; have hca1 := hg1.ce hca; clear HTK) | (go_at_call 56; refine Calls.mono (HTK2.out _ hg1) ?_; rintro e w2 ⟨rfl, hg2⟩))
              go_ret3
              exact ⟨rfl, RTakeQ.same HT.out (hg1.tr hg2)⟩
            · rw [if_neg d3]
              obtain ⟨f, rfl⟩ := Int.eq_ofNat_of_zero_le (show 0 ≤ a2 by omega)
              obtain ⟨m, rfl⟩ := Int.eq_ofNat_of_zero_le r4
              rw [show ((f : Int) + (m : Int)).toNat = f + m by omega, Int.toNat_natCast]
              obtain ⟨A3, hcut3, hA3⟩ := cut_lh (kl := .i64) (kh := .i64) A n c f (f + m) (by omega) (by omega) hnc
              have hr3 := hA3 hr
              rw [show f + m - f = m by omega] at hcut3 hr3
              rw [show ((f + m : Nat) : Int) = (f : Int) + (m : Int) by omega] at hcut3
              obtain ⟨xs, hxs⟩ : ∃ xs, (b.take (f + m)).drop f = xs := ⟨_, rfl⟩
              rw [hxs] at hr3 ⊢
              obtain ⟨s, hs⟩ : ∃ s, strOfNums xs = s := ⟨_, rfl⟩
              have hss : s.size ≤ 2048 := by rw [← hs, str_size, hr3.len]; omega
              have hstr := fun (u : World) (h : Rd u A3 m xs) => RdK.str (c := c - f) h
              rw [hs] at hstr ⊢
              have HR3 := Lib.hid hr3
              have HSTR := Lib.hid hstr
              have hfm : f + m ≤ n := by omega
              have hfn : f + m ≤ 100000000 := by omega
              have hm2 : m ≤ 2048 := by omega
              clear hs hxs hA3 hstr hnl hr hr3 d2 d3 r0 r1 r2 r4 r5 q0 q1 q2 q4 q5 hc h0 h1 hmL hcL c2 c3
              by_cases hz : idxT ts s = 0
              · rw [if_pos hz]
                have hat := fun (u : World) (h : RefI u p lv ts) => rat_any p lv ts s 0 hz u h
                have HAT := Lib.hid hat
                have HLV := Lib.hid hlv
                have HRL := Lib.hid hrL
                have hql : p < w.heap.size := HT.out.lt (.inl rfl)
                clear hat hz hlv hrL
                go_enter Try.func28, Try.ntmps28
                go_wp2_with (first | (go_at_call 56; refine Calls.mono HTK.out ?_; rintro e w1 ⟨rfl, hg1⟩; have hca1 := hg1.ce hca; clear HTK) | (go_at_call 56; refine Calls.mono (HTK2.out _ hg1) ?_; rintro e w2 ⟨rfl, hg2⟩; have hG2 : Grew w w2 := hg1.tr hg2; have hs2 := HSTR.out _ (HR3.out.keep hG2)) | (go_at_call 58; refine Calls.mono (HAT.out _ (HT.out.keep hG2)) ?_; rintro e w' ⟨rfl, rfl⟩; have hca2 := hG2.ce hca; have hca3 := RdK.nil .u8 w2 none; have hca4 : (w2.alloc (.cells #[] 9)).cell? ⟨p, 0, none⟩ = some (.slice AL ts.length cL) := ((Grew.rf w2).al _).ce hca2) | ((with_reducible refine gate_b .append #[.tmp 74, .tmp 78] _ rfl ?_); refine appV Try.underlying45 infostr rfl (by decide) (by decide) (.inl rfl) rfl rfl rfl (ownV_lit0 9 1 w2) (HRL.out.keep (hG2.al (.cells #[] 9))) (strs_one ts) (by simp) (by omega) ?_; intro v3 w3 ho3 hg3 hat3; simp only [Nat.zero_add, List.nil_append] at ho3; obtain ⟨A3', c3', rfl, hc3, hm3, hr3'⟩ := ho3.rd; have hG3 : Grew w2 w3 := ((Grew.rf w2).al (.cells #[] 9)).grown hg3 (by simp) (fun k e => by cases e; exact Nat.le_refl _)) | ((with_reducible refine gate_b .append #[.tmp 79, .tmp 81] _ rfl ?_); refine appV Try.underlying45 infostr rfl (by decide) (by decide) (.inl rfl) rfl rfl rfl (ho3.keep ((Grew.rf w3).al (.cells #[.string s] 9))) (rdV_lit1 w3 (.string s) 9) (by simp [Value.oneCell']) (by simp; have := hG3.size; omega) (by omega) ?_; intro v4 w4 ho4 hg4 hat4; obtain ⟨A4, c4, rfl, hc4, hm4, hr4⟩ := ho4.rd; have hG4 : Grew w2 w4 := (hG3.al (.cells #[.string s] 9)).grown hg4 (by simp; have := hG3.size; omega) (fun k e => ho3.base_le k e); have hR4 := HT.out.keep (hG2.tr hG4); have hcv4 := hG4.ce hca2; have hf4 := frozen_of_heap (i := 0) hR4.cells))
                go_ret3
                have hz2 := hG2.size
                have hz4 := hG4.size
                have hl4 : ∀ b, (Value.slice A4 (ts.length + 1) c4).ownBlock = some b → w2.heap.size ≤ b ∧ b < w4.heap.size := fun b hb => ⟨ho4.base_le b hb, ho4.lt hb⟩
                have hc5 := setCell_heap_same hR4.cells (i := 0) (.slice A4 (ts.length + 1) c4)
                refine ⟨rfl, ⟨.slice A4 (ts.length + 1) c4, ⟨by simpa using hc5, ?_, by simp; omega, ?_⟩, ?_⟩, ?_⟩
                · show OwnV _ 1 _ 0 _ (ts ++ [s]).length ((ts ++ [s]).map Value.string)
                  rw [List.map_append, List.length_append]
                  exact (ho4.kept (setCell_by _ _ _) (fun b hb he => by cases hb; have h : w2.heap.size ≤ p := (hl4 _ he).1; omega)).lower (Nat.zero_le _)
                · intro t ht
                  rcases List.mem_append.1 ht with h | h
                  · exact HT.out.size t h
                  · rw [List.mem_singleton] at h; subst h; omega
                · rintro k (rfl | hk)
                  · exact .inl (.inl rfl)
                  · exact .inr (by have := hl4 _ hk; omega)
                · exact Chg.tr (Chg.of (hG2.tr hG4)) (Chg.or (Chg.ofBy (setCell_by _ _ _) (fun b hb => by cases hb; exact .inl rfl)))
              · rw [if_neg hz]
                have hat := fun (u : World) (h : RefI u p lv ts) => rat_any p lv ts s _ rfl u h
                have hle := idxT_le ts s
                obtain ⟨z, hzz⟩ : ∃ z, idxT ts s = z := ⟨_, rfl⟩
                rw [hzz] at hat hz hle
                have hz0 : 0 < z := by omega
                have HAT := Lib.hid hat
                clear hat hz hzz hlv hrL
                go_enter Try.func28, Try.ntmps28
                go_wp2_with (first | (go_at_call 56; refine Calls.mono HTK.out ?_; rintro e w1 ⟨rfl, hg1⟩; have hca1 := hg1.ce hca; clear HTK) | (go_at_call 56; refine Calls.mono (HTK2.out _ hg1) ?_; rintro e w2 ⟨rfl, hg2⟩; have hG2 : Grew w w2 := hg1.tr hg2; have hs2 := HSTR.out _ (HR3.out.keep hG2)) | (go_at_call 58; refine Calls.mono (HAT.out _ (HT.out.keep hG2)) ?_; rintro e w' ⟨rfl, rfl⟩))
                go_ret3
                exact ⟨rfl, RTakeQ.same HT.out (hg1.tr hg2)⟩
        · rw [if_pos d1]
          have hd1 : decide (er2 = 0) = false := decide_eq_false d1
          clear hnl hlv hrL hr hq2
          go_enter Try.func28, Try.ntmps28
          go_wp2_with (first | (go_at_call 56; refine Calls.mono HTK.out ?_; rintro e w1 ⟨rfl, hg1⟩; have hca1 := hg1.ce hca; clear HTK) | (go_at_call 56; refine Calls.mono (HTK2.out _ hg1) ?_; rintro e w2 ⟨rfl, hg2⟩))
          go_ret3
          exact ⟨rfl, RTakeQ.same HT.out (hg1.tr hg2)⟩
  · rw [if_pos c1]
    have hc1 : decide (er = 0) = false := decide_eq_false c1
    clear hnl hlv hrL hr hq
    go_enter Try.func28, Try.ntmps28
    go_wp2_with (go_at_call 56; refine Calls.mono HTK.out ?_; rintro e w1 ⟨rfl, hg1⟩; have hca1 := hg1.ce hca)
    go_ret3
    exact ⟨rfl, RTakeQ.same HT.out hg1⟩
end Go.Proofs.Ytbkcpgaicoagfaa
