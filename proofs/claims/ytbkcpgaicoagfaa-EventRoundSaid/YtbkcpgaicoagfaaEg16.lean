/- Delta: the walk of the answer's Take. -/
import Derived.Test.YtbkcpgaicoagfaaEg15
set_option linter.unusedVariables false
set_option linter.unusedSimpArgs false
namespace Go.Proofs.Ytbkcpgaicoagfaa
open Go.RowKit

theorem rttake_to (p : Nat) (lv : Value) (ts : List ByteArray) (A : Option Addr) (n c : Nat) (b : List Int) (at_ : Int) (s : ByteArray) (nx er : Int) (ts' : List ByteArray) (he : takeT ts b at_ = (s, nx, er, ts')) (w : World) (hT : RefI w p lv ts) (hr : Rd w A n b) (hb : Byt b) (hnc : n ≤ c) (hc : c ≤ 9223372036854775807) (hn : n ≤ 100000000) (hf : ts.length < 1000000) (h0 : -9223372036854775808 ≤ at_) (h1 : at_ ≤ 9223372036854775807) :
    Calls Try.prog 28 #[.pointer (some ⟨p, 0, none⟩), .slice A n c, .int .i64 at_] w fun e w' => e = .returned (.tuple #[.string s, .int .i64 nx, .int .i64 er]) ∧ RTakeQ w w' p lv ts' := by
  have := rtake19_any p lv ts A n c b at_ w hT hr hb hnc hc hn hf h0 h1
  rw [he] at this
  exact this
theorem OwnV.refH {w : World} {base : Nat} {v : Value} {n : Nat} {vs : List Value} (h : OwnV 124 2 w base v n vs) {p : Nat} {lv : Value} {ts : List ByteArray} (hT : RefI w p lv ts) {k : Nat} (hk : v.ownBlock = some k) : ¬ ftr p lv k := by
  obtain ⟨cur, hc⟩ := h.block hk
  rintro (rfl | h2)
  · rw [hT.cells] at hc
    simp only [Option.some.injEq, Obj.cells.injEq] at hc
    exact absurd hc.2.1 (by decide)
  · obtain ⟨cur2, hc2⟩ := hT.list.block h2
    rw [hc] at hc2
    simp only [Option.some.injEq, Obj.cells.injEq] at hc2
    exact absurd hc2.2.1 (by decide)
/-- What the answer's Take comes to. -/
def RDTakeQ (w : World) (p : Nat) (lv : Value) (z : List Hdr × Int × Int × List ByteArray) (e : Ending) (w' : World) : Prop :=
  ∃ v, e = .returned (.tuple #[v, .int .i64 z.2.1, .int .i64 z.2.2.1]) ∧ RTakeQ w w' p lv z.2.2.2 ∧ (z.2.2.1 = 0 → OwnH w' w.heap.size v z.1) ∧ (z.2.2.1 ≠ 0 → v = .slice none 0 0)
theorem RDTakeQ.err {w w' : World} {p : Nat} {lv : Value} {ts : List ByteArray} {er : Int} (he : er ≠ 0) (h : RTakeQ w w' p lv ts) : RDTakeQ w p lv ([], 0, er, ts) (.returned (.tuple #[.slice none 0 0, .int .i64 0, .int .i64 er])) w' :=
  ⟨_, rfl, h, fun h => absurd h he, fun _ => rfl⟩

set_option maxRecDepth 100000 in
set_option maxHeartbeats 6400000 in
theorem rdtake_any (p : Nat) (lv : Value) (ts : List ByteArray) (A0 : Option Addr) (n0 c0 : Nat) (b : List Int) (at_ : Int) (A : Option Addr) (n c : Nat) (was : List Hdr) (w : World) (hT : RefI w p lv ts) (hr : Rd w A0 n0 b) (hs : RdH w A n was) (hA0 : 0 < n0 → ∀ ad, A0 = some ad → ¬ ftr p lv ad.block) (hA : 0 < n → ∀ ad, A = some ad → ¬ ftr p lv ad.block) (hb : Byt b) (hnc0 : n0 ≤ c0) (hc0 : c0 ≤ 9223372036854775807) (hn0 : n0 ≤ 100000000) (hn : n ≤ 1000) (hnc : n ≤ c) (hc : c ≤ 9223372036854775807) (hf : ts.length + 50 < 1000000) (h0 : -9223372036854775808 ≤ at_) (h1 : at_ ≤ 9223372036854775807) :
    Calls Try.prog 34 #[.slice A0 n0 c0, .int .i64 at_, .pointer (some ⟨p, 0, none⟩), .slice A n c] w (RDTakeQ w p lv (takeD ts b at_ was)) := by
  obtain ⟨⟨x, a1, e0⟩, hq0⟩ : ∃ r, lebTake b at_ = r := ⟨_, rfl⟩
  obtain ⟨⟨y, a2, e1⟩, hq1⟩ : ∃ r, lebTake b a1 = r := ⟨_, rfl⟩
  obtain ⟨⟨z, a3, e2⟩, hq2⟩ : ∃ r, lebTake b a2 = r := ⟨_, rfl⟩
  have ht0 := rtake_to4 A0 n0 c0 b at_ x a1 e0 hq0 w hr hb hnc0 hc0 hn0 h0 h1
  have HT := Lib.hid hT
  have HR := Lib.hid hr
  have HS := Lib.hid hs
  have HA0 := Lib.hid hA0
  have HA := Lib.hid hA
  have HB := Lib.hid hb
  have hnl := hr.len
  have HNL := Lib.hid hnl
  have hwl := hs.lenH
  have HWL := Lib.hid hwl
  have HT0 := Lib.hid ht0
  have HQ0 := Lib.hid hq0
  have HQ1 := Lib.hid hq1
  have HQ2 := Lib.hid hq2
  clear ht0 hT hr hs hA0 hA hb hnl hwl hq0 hq1 hq2
  by_cases he0 : e0 = 0
  · subst he0
    obtain ⟨k01, k02, k03, -, k05, k06⟩ := lebTake_exact HB.out HQ0.out
    rw [HNL.out] at k03
    have ht1 := fun (u : World) (hg : Grew w u) => rtake_to4 A0 n0 c0 b a1 y a2 e1 HQ1.out u (HR.out.keep hg) HB.out hnc0 hc0 hn0 (by omega) (by omega)
    have HT1 := Lib.hid ht1
    clear ht1
    by_cases he1 : e1 = 0
    · subst he1
      obtain ⟨k11, k12, k13, -, k15, k16⟩ := lebTake_exact HB.out HQ1.out
      rw [HNL.out] at k13
      have ht2 := fun (u : World) (hg : Grew w u) => rtake_to4 A0 n0 c0 b a2 z a3 e2 HQ2.out u (HR.out.keep hg) HB.out hnc0 hc0 hn0 (by omega) (by omega)
      have HT2 := Lib.hid ht2
      clear ht2
      by_cases he2 : e2 = 0
      · subst he2
        have hn3 : nums3 b at_ x y z a3 0 := .inr (.inr (.inr ⟨by rw [HQ0.out], by rw [HQ0.out]; simp only; rw [HQ1.out], by rw [HQ0.out]; simp only; rw [HQ1.out]; simp only; rw [HQ2.out], rfl, by rw [HQ0.out], by rw [HQ0.out]; simp only; rw [HQ1.out], by rw [HQ0.out]; simp only; rw [HQ1.out]; simp only; rw [HQ2.out], by rw [HQ0.out]; simp only; rw [HQ1.out]; simp only; rw [HQ2.out]⟩))
        have HE := Lib.hid (takeD_eq (ts := ts) (was := was) hn3 HB.out)
        obtain ⟨hx0, hy0, hz0, ha30, ha31, hx1, hy1, hz1⟩ := HE.out.2
        rw [HNL.out] at ha31
        clear hn3 k01 k02 k03 k05 k06 k11 k12 k13 k15 k16
        by_cases hxn : (n : Int) < x
        · clear hy1 hz1
          have hz : takeD ts b at_ was = ([], 0, 5, ts) := by
            rw [HE.out.1, takeD2, HWL.out, if_pos (by omega)]
          have HZ := Lib.hid hz
          clear hz
          go_enter Try.func34, Try.ntmps34
          go_wp2_with (first | (go_at_call 56; refine Calls.mono HT0.out ?_; rintro e w1 ⟨rfl, hg1⟩; clear HT0) | (go_at_call 56; refine Calls.mono (HT1.out _ hg1) ?_; rintro e w2 ⟨rfl, hg2⟩; clear HT1) | (go_at_call 56; refine Calls.mono (HT2.out _ (hg1.tr hg2)) ?_; rintro e w3 ⟨rfl, hg3⟩; clear HT2))
          go_ret3
          rw [HZ.out]
          exact RDTakeQ.err (by decide) (RTakeQ.same HT.out ((hg1.tr hg2).tr hg3))
        · have hx1' : x ≤ 1000 := by omega
          clear hx1
          by_cases hyn : (n : Int) < y
          · clear hz1
            have hz : takeD ts b at_ was = ([], 0, 5, ts) := by
              rw [HE.out.1, takeD2, HWL.out, if_pos (by omega)]
            have HZ := Lib.hid hz
            clear hz
            go_enter Try.func34, Try.ntmps34
            go_wp2_with (first | (go_at_call 56; refine Calls.mono HT0.out ?_; rintro e w1 ⟨rfl, hg1⟩; clear HT0) | (go_at_call 56; refine Calls.mono (HT1.out _ hg1) ?_; rintro e w2 ⟨rfl, hg2⟩; clear HT1) | (go_at_call 56; refine Calls.mono (HT2.out _ (hg1.tr hg2)) ?_; rintro e w3 ⟨rfl, hg3⟩; clear HT2))
            go_ret3
            rw [HZ.out]
            exact RDTakeQ.err (by decide) (RTakeQ.same HT.out ((hg1.tr hg2).tr hg3))
          · have hy1' : y ≤ 1000 := by omega
            clear hy1
            by_cases hxy : (n : Int) < x + y
            · clear hz1
              have hz : takeD ts b at_ was = ([], 0, 5, ts) := by
                rw [HE.out.1, takeD2, HWL.out, if_pos (by omega)]
              have HZ := Lib.hid hz
              clear hz
              go_enter Try.func34, Try.ntmps34
              go_wp2_with (first | (go_at_call 56; refine Calls.mono HT0.out ?_; rintro e w1 ⟨rfl, hg1⟩; clear HT0) | (go_at_call 56; refine Calls.mono (HT1.out _ hg1) ?_; rintro e w2 ⟨rfl, hg2⟩; clear HT1) | (go_at_call 56; refine Calls.mono (HT2.out _ (hg1.tr hg2)) ?_; rintro e w3 ⟨rfl, hg3⟩; clear HT2))
              go_ret3
              rw [HZ.out]
              exact RDTakeQ.err (by decide) (RTakeQ.same HT.out ((hg1.tr hg2).tr hg3))
            · by_cases hz25 : 25 < z
              · skip
                have hz : takeD ts b at_ was = ([], 0, 2, ts) := by
                  rw [HE.out.1, takeD2, HWL.out, if_neg (by omega), if_pos (by omega)]
                have HZ := Lib.hid hz
                clear hz
                go_enter Try.func34, Try.ntmps34
                go_wp2_with (first | (go_at_call 56; refine Calls.mono HT0.out ?_; rintro e w1 ⟨rfl, hg1⟩; clear HT0) | (go_at_call 56; refine Calls.mono (HT1.out _ hg1) ?_; rintro e w2 ⟨rfl, hg2⟩; clear HT1) | (go_at_call 56; refine Calls.mono (HT2.out _ (hg1.tr hg2)) ?_; rintro e w3 ⟨rfl, hg3⟩; clear HT2))
                go_ret3
                rw [HZ.out]
                exact RDTakeQ.err (by decide) (RTakeQ.same HT.out ((hg1.tr hg2).tr hg3))
              · have hz1' : z ≤ 25 := by omega
                clear hz1
                by_cases hs25 : 25 < x + y + z
                · skip
                  have hz : takeD ts b at_ was = ([], 0, 2, ts) := by
                    rw [HE.out.1, takeD2, HWL.out, if_neg (by omega), if_pos (by omega)]
                  have HZ := Lib.hid hz
                  clear hz
                  go_enter Try.func34, Try.ntmps34
                  go_wp2_with (first | (go_at_call 56; refine Calls.mono HT0.out ?_; rintro e w1 ⟨rfl, hg1⟩; clear HT0) | (go_at_call 56; refine Calls.mono (HT1.out _ hg1) ?_; rintro e w2 ⟨rfl, hg2⟩; clear HT1) | (go_at_call 56; refine Calls.mono (HT2.out _ (hg1.tr hg2)) ?_; rintro e w3 ⟨rfl, hg3⟩; clear HT2))
                  go_ret3
                  rw [HZ.out]
                  exact RDTakeQ.err (by decide) (RTakeQ.same HT.out ((hg1.tr hg2).tr hg3))
                · obtain ⟨f, rfl⟩ := Int.eq_ofNat_of_zero_le hx0
                  obtain ⟨g, rfl⟩ := Int.eq_ofNat_of_zero_le hy0
                  obtain ⟨q, rfl⟩ := Int.eq_ofNat_of_zero_le hz0
                  have hfg : f + g ≤ n := by omega
                  have hfq : f + g + q ≤ 25 := by omega
                  have hf25 : f ≤ 25 := by omega
                  have hg25 : g ≤ 25 := by omega
                  have hq25 : q ≤ 25 := by omega
                  have hcut1 := cutH_hi (kh := .i64) A n c f (by omega)
                  have htk := HS.out.takeH (i := f) (by omega)
                  have HTK := Lib.hid htk
                  have hfl : (was.take f).length = f := by rw [List.length_take, HWL.out]; omega
                  have HFL := Lib.hid hfl
                  clear hx0 hy0 hz0 hxn hyn hxy hz25 hs25 hx1' hy1' hz1' htk hfl
                  go_enter Try.func34, Try.ntmps34
                  go_wp2_with (first | (go_at_call 56; refine Calls.mono HT0.out ?_; rintro e w1 ⟨rfl, hg1⟩; clear HT0) | (go_at_call 56; refine Calls.mono (HT1.out _ hg1) ?_; rintro e w2 ⟨rfl, hg2⟩; clear HT1) | (go_at_call 56; refine Calls.mono (HT2.out _ (hg1.tr hg2)) ?_; rintro e w3 ⟨rfl, hg3⟩; clear HT2) | ((with_reducible refine gate_b .append #[.tmp 79, .tmp 83] _ rfl ?_); refine appV Try.underlying31 infoH zero_hdr (by decide) (by decide) (.inl rfl) rfl rfl rfl (ownV_lit0 124 2 w3) ((HTK.out.keep ((hg1.tr hg2).tr hg3)).keep ((Grew.rf w3).al (.cells #[] 124))) (hcs_one _) (by simp) (by omega) ?_; intro v4 w4 ho4 hg4 hat4; simp only [Nat.zero_add, List.nil_append] at ho4))
                  have hG3 : Grew w w3 := (hg1.tr hg2).tr hg3
                  have hG4 : Grew w w4 := hG3.trans ((((Grew.rf w3).al (.cells #[] 124)).grown hg4 (by rw [World.size_alloc]; omega) (fun k e => by cases e; exact Nat.le_refl _)).mono hG3.size)
                  have ho4' := ho4.lower hG3.size
                  have HO4 := Lib.hid ho4'
                  have HG4 := Lib.hid hG4
                  have HHE := Lib.hid HE
                  clear hg4 hat4 ho4 ho4' hG3 hG4 hg1 hg2 hg3 HQ0 HQ1 HQ2 hcut1 HTK
                  generalize decide ((n : Int) < (f : Int) + (g : Int)) = bb1
                  generalize decide (25 < (q : Int)) = bb2
                  generalize decide (25 < (f : Int) + (g : Int) + (q : Int)) = bb3
                  go_loopw [1, 12, 16, 17] (fun a er v i wr => ∃ (k : Nat) (l : List Hdr) (us : List ByteArray) (l1 : Value) (a' : Int), i = .int .i64 (k : Int) ∧ k ≤ q ∧ a = .int .i64 a' ∧ er = .int .i64 0 ∧ OwnV 124 2 wr w.heap.size v (f + k) (hcs (was.take f ++ l)) ∧ RefI wr p l1 us ∧ (∀ j, ftr p l1 j → ftr p lv j ∨ w.heap.size ≤ j) ∧ Chg (ftr p lv) w wr ∧ us.length ≤ ts.length + 2 * k ∧ l.length = k ∧ 0 ≤ a' ∧ a' ≤ n0 ∧ RowKit.Hid (takeFs b q ts a3 = preFs l (takeFs b (q - k) us a'))) (fun _ _ _ i _ => q - (intOf i).toNat)
                  case atStart => exact ⟨0, [], ts, lv, a3, rfl, Nat.zero_le _, rfl, rfl, by simpa using HO4.out, HT.out.keep HG4.out, fun j h => .inl h, Chg.of HG4.out, by omega, rfl, ha30, ha31, (preFs_nil _ (takeFs_err b _ _ _)).symm⟩
                  case round =>
                    obtain ⟨k, l, us, l1, a', rfl, hk, rfl, rfl, hO, hT1, hF1, hC1, hul, hll, ha0, ha1, HZ⟩ := hrel
                    have HO := Lib.hid hO
                    have HT1 := Lib.hid hT1
                    have HF1 := Lib.hid hF1
                    have HC1 := Lib.hid hC1
                    have HLL := Lib.hid hll
                    clear hO hT1 hF1 hC1 hll HO4 HG4
                    by_cases hlt : k < q
                    · obtain ⟨m, hm⟩ : ∃ m, q - k = m + 1 := ⟨q - k - 1, by omega⟩
                      have HM := Lib.hid hm
                      clear hm
                      go_wp2_with fail
                      obtain ⟨hb, hhb⟩ : ∃ hb, wr.heap.size = hb := ⟨_, rfl⟩
                      obtain ⟨W0, hW0⟩ : ∃ W0, wr.alloc (.cells #[.string ⟨#[]⟩, .string ⟨#[]⟩] 124) = W0 := ⟨_, rfl⟩
                      have hcx := heap_alloc_new wr (.cells #[.string ⟨#[]⟩, .string ⟨#[]⟩] 124)
                      have hgW : Grew wr W0 := by rw [← hW0]; exact (Grew.rf wr).al _
                      have hsW : W0.heap.size = hb + 1 := by rw [← hW0, World.size_alloc, hhb]
                      have hws := HC1.out.size
                      rw [hhb, hW0] at hcx ⊢
                      have hhF : ¬ ftr p l1 hb := fun h => by have := HT1.out.lt h; omega
                      have hTW : RefI W0 p l1 us := HT1.out.keep hgW
                      have hRW : Rd W0 A0 n0 b := (HR.out.chg HC1.out HA0.out).keep hgW
                      have hCW : Chg (ftr p lv) w W0 := HC1.out.tr (Chg.of hgW)
                      obtain ⟨⟨s, nx, er, us1⟩, hq1⟩ : ∃ r, takeT us b a' = r := ⟨_, rfl⟩
                      have hk1 := takeT_ok2 (ts := us) (at_ := a') HB.out
                      rw [hq1, HNL.out] at hk1
                      simp only at hk1
                      have htk1 := rttake_to p l1 us A0 n0 c0 b a' s nx er us1 hq1 W0 hTW hRW HB.out hnc0 hc0 hn0 (by omega) (by omega) (by omega)
                      have HTK1 := Lib.hid htk1
                      have HQ1 := Lib.hid hq1
                      have HK1 := Lib.hid hk1
                      have HHB := Lib.hid hhb
                      have HCX := Lib.hid hcx
                      have HSW := Lib.hid hsW
                      have HCW := Lib.hid hCW
                      have HHF := Lib.hid hhF
                      have HCW1 : RowKit.Hid (Chg (ftr p l1) wr W0) := Chg.of hgW
                      clear htk1 hq1 hk1 hhb hW0 hcx hsW hCW hRW hhF hTW hgW hws
                      refine Calls.mono HTK1.out ?_
                      rintro e w1 ⟨rfl, ⟨⟨l2, hT2, hF2⟩, hC2⟩⟩
                      have hx1 := hC2.by_ HCX.out HHF.out
                      have hs1 := hC2.size
                      have hcl0 := cell_of_heap (i := 0) hx1 rfl
                      have hfz0 := frozen_of_heap (i := 0) hx1
                      have hhF2 : ¬ ftr p l2 hb := fun h => (hF2 _ h).elim HHF.out (fun h => by have := HSW.out; omega)
                      have hT3 : RefI (w1.setCell ⟨hb, 0, none⟩ (.string s)) p l2 us1 := hT2.chg (F := fun k => k = hb) (Chg.ofBy (setCell_by _ _ _) (fun b hb => by cases hb; rfl)) (fun k hk h => hhF2 (h ▸ hk))
                      have hx2' : (w1.setCell ⟨hb, 0, none⟩ (.string s)).heap[hb]? = some (.cells #[.string s, .string ⟨#[]⟩] 124) := setCell_heap_same hx1 (i := 0) (.string s)
                      have hC3 : Chg (ftr p l1) wr (w1.setCell ⟨hb, 0, none⟩ (.string s)) := (HCW1.out.tr (hC2.mono fun k hk => .inl hk)).set (by have := HHB.out; simp only; omega) _
                      have hO3 : OwnV 124 2 (w1.setCell ⟨hb, 0, none⟩ (.string s)) w.heap.size u16 (f + k) (hcs (was.take f ++ l)) := HO.out.chg hC3 (fun k hk => HO.out.refH HT1.out hk)
                      have hs3 : W0.heap.size ≤ (w1.setCell ⟨hb, 0, none⟩ (.string s)).heap.size := by rw [setCell_size]; exact hs1
                      have hCw3 : Chg (ftr p lv) w (w1.setCell ⟨hb, 0, none⟩ (.string s)) := HC1.out.tr (hC3.mono fun j hj => HF1.out j hj)
                      have hFw2 : ∀ j, ftr p l2 j → ftr p lv j ∨ w.heap.size ≤ j := fun j hj => (hF2 j hj).elim (fun h => HF1.out j h) (fun h => by have := HCW.out.size; exact .inr (by omega))
                      have HCw3 := Lib.hid hCw3
                      have HFw2 := Lib.hid hFw2
                      have HT3 := Lib.hid hT3
                      have HO3 := Lib.hid hO3
                      have HX2 := Lib.hid hx2'
                      have HhF2 := Lib.hid hhF2
                      have HS3 := Lib.hid hs3
                      simp only [List.getElem_toArray, List.getElem_cons_zero, List.getElem_cons_succ] at hcl0
                      clear hCw3 hFw2 hT3 hO3 hx2' hhF2 hs3 hC3 hx1 hs1 hT2 hC2 hF2
                      by_cases her : er = 0
                      · subst her
                        obtain ⟨⟨s2, nx2, er2, us2⟩, hq2⟩ : ∃ r, takeT us1 b nx = r := ⟨_, rfl⟩
                        have hk2 := takeT_ok2 (ts := us1) (at_ := nx) HB.out
                        rw [hq2, HNL.out] at hk2
                        simp only at hk2
                        have htk2 := rttake_to p l2 us1 A0 n0 c0 b nx s2 nx2 er2 us2 hq2 _ HT3.out (HR.out.chg HCw3.out HA0.out) HB.out hnc0 hc0 hn0 (by have := HK1.out; omega) (by have := HK1.out; omega) (by have := HK1.out; omega)
                        have HTK2 := Lib.hid htk2
                        have HQ2 := Lib.hid hq2
                        have HK2 := Lib.hid hk2
                        clear htk2 hq2 hk2
                        go_wp2_with fail
                        refine Calls.mono HTK2.out ?_
                        rintro e w4 ⟨rfl, ⟨⟨l4, hT4, hF4⟩, hC4⟩⟩
                        have hx4 := hC4.by_ HX2.out HhF2.out
                        have hs4 := hC4.size
                        rw [setCell_size] at hs4
                        have hcl4 := cell_of_heap (i := 1) hx4 rfl
                        have hfz4 := frozen_of_heap (i := 1) hx4
                        simp only [List.getElem_toArray, List.getElem_cons_zero, List.getElem_cons_succ] at hcl4
                        have hhF4 : ¬ ftr p l4 hb := fun h => (hF4 _ h).elim HhF2.out (fun h => by have := HSW.out; have := HS3.out; omega)
                        have hT5 : RefI (w4.setCell ⟨hb, 1, none⟩ (.string s2)) p l4 us2 := hT4.chg (F := fun k => k = hb) (Chg.ofBy (setCell_by _ _ _) (fun b hb => by cases hb; rfl)) (fun k hk h => hhF4 (h ▸ hk))
                        have hx5 : (w4.setCell ⟨hb, 1, none⟩ (.string s2)).heap[hb]? = some (.cells #[.string s, .string s2] 124) := setCell_heap_same hx4 (i := 1) (.string s2)
                        have hFw4 : ∀ j, ftr p l4 j → ftr p lv j ∨ w.heap.size ≤ j := fun j hj => (hF4 j hj).elim (fun h => HFw2.out j h) (fun h => by have h1 := HCw3.out.size; exact .inr (by omega))
                        have hCw5 : Chg (ftr p lv) w (w4.setCell ⟨hb, 1, none⟩ (.string s2)) := (HCw3.out.tr (hC4.mono fun j hj => HFw2.out j hj)).set (by have := HHB.out; have := HC1.out.size; simp only; omega) _
                        have hO4 : OwnV 124 2 w4 w.heap.size u16 (f + k) (hcs (was.take f ++ l)) := HO3.out.chg hC4 (fun k hk => HO3.out.refH HT3.out hk)
                        have hO5 : OwnV 124 2 (w4.setCell ⟨hb, 1, none⟩ (.string s2)) w.heap.size u16 (f + k) (hcs (was.take f ++ l)) := hO4.kept (setCell_by _ _ _) (fun b hb he => by cases hb; have h1 := HO.out.lt he; have h2 := HHB.out; simp only at h1; omega)
                        have hsw5 : w.heap.size ≤ (w4.setCell ⟨hb, 1, none⟩ (.string s2)).heap.size := hCw5.size
                        have hc50 := cell_of_heap (i := 0) hx5 rfl
                        have hc51 := cell_of_heap (i := 1) hx5 rfl
                        simp only [List.getElem_toArray, List.getElem_cons_zero, List.getElem_cons_succ] at hc50 hc51
                        have HT5 := Lib.hid hT5
                        have HFw4 := Lib.hid hFw4
                        have HCw5 := Lib.hid hCw5
                        have HO5 := Lib.hid hO5
                        have HSW5 := Lib.hid hsw5
                        clear hx4 hs4 hhF4 hT5 hx5 hFw4 hCw5 hO4 hO5 hsw5 hT4 hF4 hC4
                        by_cases her2 : er2 = 0
                        · subst her2
                          go_wp2_with ((with_reducible refine gate_b .append #[.tmp 116, .tmp 118] _ rfl ?_); refine appV Try.underlying31 infoH zero_hdr (by decide) (by decide) (.inl rfl) rfl rfl rfl (HO5.out.keep ((Grew.rf _).al (.cells #[.string s, .string s2] 124))) (rdV_lit2' (setCell_size _ _ _) (s, s2) 124) (hcs_one _) (by have := HSW5.out; rw [World.size_alloc]; omega) (by omega) ?_; intro v6 w6 ho6 hg6 hat6)
                          have hT6 : RefI w6 p l4 us2 := (HT5.out.keep ((Grew.rf _).al (.cells #[.string s, .string s2] 124))).chg (Chg.ofBy (F := fun k => u16.ownBlock = some k) hg6 (fun b hb => hb)) (fun k hk h => (HO5.out.keep ((Grew.rf _).al (.cells #[.string s, .string s2] 124))).refH (HT5.out.keep ((Grew.rf _).al _)) h hk)
                          have hC6 : Chg (ftr p lv) w w6 := (HCw5.out.tr (Chg.of ((Grew.rf _).al (.cells #[.string s, .string s2] 124)))).tr (Chg.ofBy hg6 (fun b hb => .inr (HO5.out.base_le b hb)))
                          have HT6 := Lib.hid hT6
                          have HC6 := Lib.hid hC6
                          have HO6 := Lib.hid ho6
                          clear hT6 hC6 hg6 hat6 ho6
                          go_roundw
                          case rel =>
                            have hl := HLL.out
                            have hm := HM.out
                            have h1 := HK1.out
                            have h2 := HK2.out
                            refine ⟨k + 1, l ++ [(s, s2)], us2, l4, nx2, by go_num, by omega, rfl, rfl, ?_, HT6.out, HFw4.out, HC6.out, by omega, by simp [hl], by omega, by omega, ?_⟩
                            · rw [← List.append_assoc, hcs_append]
                              exact HO6.out
                            · show _ = _
                              rw [HZ.out, hm, takeFs_ok HQ1.out HQ2.out, preFs_preFs, show q - (k + 1) = m by omega]
                          case measure => simp [intOf]; omega
                        · have hde : decide (er2 = 0) = false := decide_eq_false her2
                          have hz : takeD ts b at_ was = ([], 0, er2, us2) := by
                            rw [HHE.out.out.1, takeD2, HWL.out, if_neg (by omega), if_neg (by omega), Int.toNat_natCast, HZ.out, HM.out, takeFs_e2 HQ1.out HQ2.out her2, preFs]
                            simp only
                            rw [if_pos her2]
                            simp only
                            rw [if_pos her2]
                          have HZZ := Lib.hid hz
                          clear hz
                          go_wp2_with fail
                          go_ret3
                          rw [HZZ.out]
                          exact RDTakeQ.err her2 ⟨⟨l4, HT5.out, HFw4.out⟩, HCw5.out⟩
                      · have hde : decide (er = 0) = false := decide_eq_false her
                        have hz : takeD ts b at_ was = ([], 0, er, us1) := by
                          rw [HHE.out.out.1, takeD2, HWL.out, if_neg (by omega), if_neg (by omega), Int.toNat_natCast, HZ.out, HM.out, takeFs_e1 HQ1.out her, preFs]
                          simp only
                          rw [if_pos her]
                          simp only
                          rw [if_pos her]
                        have HZZ := Lib.hid hz
                        clear hz
                        go_wp2_with fail
                        go_ret3
                        rw [HZZ.out]
                        exact RDTakeQ.err her ⟨⟨l2, HT3.out, HFw2.out⟩, HCw3.out⟩
                    · obtain rfl : k = q := by omega
                      have hz : takeFs b k ts a3 = (l, a', 0, us) := by
                        rw [HZ.out, Nat.sub_self, takeFs, preFs]
                        simp
                      have HZZ := Lib.hid hz
                      obtain ⟨m, hm⟩ : ∃ m, n - g = m := ⟨_, rfl⟩
                      obtain ⟨A3, hsb3, hcut2, hR3⟩ := cutH_lo (kl := .i64) A n c m (by omega) hnc
                      have hS2 : RdH wr A n was := HS.out.chg HC1.out HA.out
                      have hr3 := hR3 hS2
                      rw [show n - m = g by omega] at hcut2 hr3
                      rw [show (m : Int) = (n : Int) - (g : Int) by omega] at hcut2
                      have HR3 := Lib.hid hr3
                      have HM := Lib.hid hm
                      have HS2 := Lib.hid hS2
                      obtain ⟨out, hout⟩ : ∃ out, was.take f ++ (l ++ was.drop m) = out := ⟨_, rfl⟩
                      have HOUT := Lib.hid hout
                      have hws := HC1.out.size
                      have hmn : m ≤ n := by omega
                      clear hz hm hsb3 hR3 hr3 hS2 hout
                      go_wp2_with ((with_reducible refine gate_b .append #[.tmp 120, .tmp 127] _ rfl ?_); refine appV Try.underlying31 infoH zero_hdr (by decide) (by decide) (.inl rfl) rfl rfl rfl HO.out HR3.out (hcs_one _) hws (by omega) ?_; intro v6 w6 ho6 hg6 hat6)
                      rw [← hcs_append, List.append_assoc, HOUT.out] at ho6
                      have hC6 : Chg (ftr p lv) w w6 := HC1.out.tr (Chg.ofBy hg6 (fun b hb => .inr (HO.out.base_le b hb)))
                      have hT6 : RefI w6 p l1 us := HT1.out.chg (Chg.ofBy (F := fun k => u16.ownBlock = some k) hg6 (fun b hb => hb)) (fun j hj h => HO.out.refH HT1.out h hj)
                      obtain ⟨B8, c8, rfl, hc8, hm8, hr8⟩ := ho6.rd
                      have hol : out.length = f + k + g := by have := hr8.lenH; exact this
                      have hee := fun (u' : World) (hg : Grew w6 u') => rends_any A n c was B8 (f + k + g) c8 out u' ((HS.out.chg hC6 HA.out).keep hg) (hr8.keep hg) (by omega) (by omega)
                      obtain ⟨f', hf'⟩ : ∃ f', endsA was out = f' := ⟨_, rfl⟩
                      obtain ⟨g', hg'⟩ : ∃ g', endsB was out = g' := ⟨_, rfl⟩
                      rw [hf', hg'] at hee
                      have hle := endsB_le was out
                      rw [hf', hg', HWL.out] at hle
                      have hle2 := hle.1
                      have hzt : takeD ts b at_ was = if f' ≠ f ∨ g' ≠ g then ([], 0, 4, us) else (out, a', 0, us) := by
                        rw [HHE.out.out.1, takeD2, HWL.out, if_neg (by omega), if_neg (by omega), Int.toNat_natCast, Int.toNat_natCast, Int.toNat_natCast, HZZ.out]
                        simp only
                        rw [if_neg (by simp), HM.out, HOUT.out, hf', hg']
                      have HZT := Lib.hid hzt
                      have HEE := Lib.hid hee
                      have HT6 := Lib.hid hT6
                      have HC6 := Lib.hid hC6
                      have HO6 := Lib.hid ho6
                      have HOL := Lib.hid hol
                      clear hzt hee hT6 hC6 ho6 hol hf' hg' hle hr8 hg6 hat6 hcut2
                      by_cases hff : f' = f
                      · by_cases hgg : g' = g
                        · subst hff; subst hgg
                          go_wp2_with (go_at_call 62; refine Calls.mono (HEE.out _ (Grew.rf _)) ?_; rintro e w7 ⟨rfl, hg7⟩)
                          go_ret3
                          have hz := HZT.out
                          rw [if_neg (by simp)] at hz
                          rw [hz]
                          refine ⟨_, rfl, ⟨⟨l1, HT6.out.keep hg7, HF1.out⟩, HC6.out.tr (Chg.of hg7)⟩, fun _ => ?_, fun h => absurd rfl h⟩
                          show OwnV _ _ _ _ _ _ _
                          simp only [HOL.out]
                          exact HO6.out.keep hg7
                        · subst hff
                          go_wp2_with (go_at_call 62; refine Calls.mono (HEE.out _ (Grew.rf _)) ?_; rintro e w7 ⟨rfl, hg7⟩)
                          go_ret3
                          have hz := HZT.out
                          rw [if_pos (.inr hgg)] at hz
                          rw [hz]
                          exact RDTakeQ.err (by decide) ⟨⟨l1, HT6.out.keep hg7, HF1.out⟩, HC6.out.tr (Chg.of hg7)⟩
                      · by_cases hgg : g' = g
                        · subst hgg
                          go_wp2_with (go_at_call 62; refine Calls.mono (HEE.out _ (Grew.rf _)) ?_; rintro e w7 ⟨rfl, hg7⟩)
                          go_ret3
                          have hz := HZT.out
                          rw [if_pos (.inl hff)] at hz
                          rw [hz]
                          exact RDTakeQ.err (by decide) ⟨⟨l1, HT6.out.keep hg7, HF1.out⟩, HC6.out.tr (Chg.of hg7)⟩
                        · skip
                          go_wp2_with (go_at_call 62; refine Calls.mono (HEE.out _ (Grew.rf _)) ?_; rintro e w7 ⟨rfl, hg7⟩)
                          go_ret3
                          have hz := HZT.out
                          rw [if_pos (.inl hff)] at hz
                          rw [hz]
                          exact RDTakeQ.err (by decide) ⟨⟨l1, HT6.out.keep hg7, HF1.out⟩, HC6.out.tr (Chg.of hg7)⟩
      · obtain ⟨hz, _⟩ := takeD_err (ts := ts) (was := was) (x := 0) (y := 0) (z := 0) (a := 0) (.inr (.inr (.inl ⟨by rw [HQ0.out], by rw [HQ0.out]; simp only; rw [HQ1.out], by rw [HQ0.out]; simp only; rw [HQ1.out]; simp only; rw [HQ2.out]; exact he2, by rw [HQ0.out]; simp only; rw [HQ1.out]; simp only; rw [HQ2.out], rfl⟩)) : nums3 b at_ 0 0 0 0 e2) he2
        have HZ := Lib.hid hz
        have hde : decide (e2 = 0) = false := decide_eq_false he2
        clear hz k05 k06 k15 k16
        go_enter Try.func34, Try.ntmps34
        go_wp2_with (first | (go_at_call 56; refine Calls.mono HT0.out ?_; rintro e w1 ⟨rfl, hg1⟩; clear HT0) | (go_at_call 56; refine Calls.mono (HT1.out _ hg1) ?_; rintro e w2 ⟨rfl, hg2⟩; clear HT1) | (go_at_call 56; refine Calls.mono (HT2.out _ (hg1.tr hg2)) ?_; rintro e w3 ⟨rfl, hg3⟩; clear HT2))
        go_ret3
        rw [HZ.out]
        exact RDTakeQ.err he2 (RTakeQ.same HT.out ((hg1.tr hg2).tr hg3))
    · obtain ⟨hz, _⟩ := takeD_err (ts := ts) (was := was) (x := 0) (y := 0) (z := 0) (a := 0) (.inr (.inl ⟨by rw [HQ0.out], by rw [HQ0.out]; simp only; rw [HQ1.out]; exact he1, by rw [HQ0.out]; simp only; rw [HQ1.out], rfl⟩) : nums3 b at_ 0 0 0 0 e1) he1
      have HZ := Lib.hid hz
      have hde : decide (e1 = 0) = false := decide_eq_false he1
      clear hz k05 k06
      go_enter Try.func34, Try.ntmps34
      go_wp2_with (first | (go_at_call 56; refine Calls.mono HT0.out ?_; rintro e w1 ⟨rfl, hg1⟩; clear HT0) | (go_at_call 56; refine Calls.mono (HT1.out _ hg1) ?_; rintro e w2 ⟨rfl, hg2⟩; clear HT1))
      go_ret3
      rw [HZ.out]
      exact RDTakeQ.err he1 (RTakeQ.same HT.out (hg1.tr hg2))
  · obtain ⟨hz, _⟩ := takeD_err (ts := ts) (was := was) (x := 0) (y := 0) (z := 0) (a := 0) (.inl ⟨by rw [HQ0.out]; exact he0, by rw [HQ0.out], rfl⟩ : nums3 b at_ 0 0 0 0 e0) he0
    have HZ := Lib.hid hz
    have hde : decide (e0 = 0) = false := decide_eq_false he0
    clear hz
    go_enter Try.func34, Try.ntmps34
    go_wp2_with (go_at_call 56; refine Calls.mono HT0.out ?_; rintro e w1 ⟨rfl, hg1⟩; clear HT0)
    go_ret3
    rw [HZ.out]
    exact RDTakeQ.err he0 (RTakeQ.same HT.out hg1)
end Go.Proofs.Ytbkcpgaicoagfaa
/- Delta's laws: the walks of short, few, Same. -/
set_option linter.unusedVariables false
set_option linter.unusedSimpArgs false
namespace Go.Proofs.Ytbkcpgaicoagfaa
open Go.RowKit

/-- So many bytes at most. -/
def cutB (s : ByteArray) : ByteArray := if 2048 < s.size then s.extract 0 2048 else s
def cutHd (h : Hdr) : Hdr := (cutB h.1, cutB h.2)
def fewH (l : List Hdr) : List Hdr := (l.take 24).map cutHd
theorem cutB_size (s : ByteArray) : (cutB s).size ≤ 2048 := by
  unfold cutB
  split
  · rw [ByteArray.size_extract]; omega
  · omega
theorem fewH_len (l : List Hdr) : (fewH l).length = min 24 l.length := by simp [fewH]
theorem fewH_size (l : List Hdr) : ∀ h ∈ fewH l, h.1.size ≤ 2048 ∧ h.2.size ≤ 2048 := fun h hh => by
  obtain ⟨x, _, rfl⟩ := List.mem_map.1 hh
  exact ⟨cutB_size _, cutB_size _⟩
theorem fewH_snoc {l : List Hdr} {j : Nat} {t : Hdr} (h : l[j]? = some t) : ((l.take (j + 1)).map cutHd) = ((l.take j).map cutHd) ++ [cutHd t] := by
  have hj := (List.getElem?_eq_some_iff.1 h).1
  have h2 := (List.getElem?_eq_some_iff.1 h).2
  rw [← List.take_append_getElem hj, List.map_append, h2]
  rfl
theorem short_any (s : ByteArray) (w : World) (hs : s.size ≤ 9223372036854775807) :
    Calls Try.prog 61 #[.string s] w fun e w' => e = .returned (.string (cutB s)) ∧ w = w' := by
  unfold cutB
  by_cases h : 2048 < s.size
  · rw [if_pos h]
    go_enter Try.func61, Try.ntmps61
    go_wp2
    go_ret
    exact ⟨rfl, rfl⟩
  · rw [if_neg h]
    go_enter Try.func61, Try.ntmps61
    go_wp2
    go_ret
    exact ⟨rfl, rfl⟩
def Pd.litH (x : Hdr) : Pd := ⟨fun v u => ∃ B, v = .slice (some ⟨B, 0, none⟩) 1 1 ∧ RdH u (some ⟨B, 0, none⟩) 1 [x], fun v u u' ⟨B, h, h2⟩ hg => ⟨B, h, h2.keep hg⟩⟩

set_option maxRecDepth 100000 in
set_option maxHeartbeats 1600000 in
theorem few20_any (A : Option Addr) (n c : Nat) (l : List Hdr) (w : World) (hr : RdH w A n l) (hs : ∀ t ∈ l, t.1.size ≤ 9223372036854775807 ∧ t.2.size ≤ 9223372036854775807) (hn : n ≤ 9223372036854775807) :
    Calls Try.prog 31 #[.slice A n c] w fun e w' => ∃ v, e = .returned v ∧ OwnH w' w.heap.size v (fewH l) ∧ Grew w w' := by
  have hlen := hr.lenH
  have HR := Lib.hid hr
  have HS := Lib.hid hs
  have HL := Lib.hid hlen
  clear hr hs hlen
  go_enter Try.func31, Try.ntmps31
  go_wp2
  go_loopw [3, 4] (fun v i wr => ∃ j : Nat, i = .int .i64 (j : Int) ∧ j ≤ 24 ∧ j ≤ n ∧ OwnV 124 2 wr w.heap.size v j (hcs ((l.take j).map cutHd)) ∧ Grew w wr) (fun _ i _ => 24 - (intOf i).toNat)
  case atStart => exact ⟨0, rfl, by omega, by omega, ownV_lit0 _ 2 w, (Grew.rf w).al _⟩
  case round =>
    obtain ⟨j, rfl, hj, hjn, hO, hB⟩ := hrel
    by_cases hc : j < n ∧ j < 24
    · obtain ⟨hc1, hc2⟩ := hc
      obtain ⟨b, o, x, hA, hx, ha1, ha2⟩ := HR.out.atH hc1
      have hce1 := hB.ce ha1
      have hce2 := hB.ce ha2
      have hts := HS.out x (List.mem_of_getElem? hx)
      obtain ⟨hs1, hs2⟩ := hts
      have hsn := fewH_snoc hx
      have HSN := Lib.hid hsn
      have hsz := hB.size
      have HO := Lib.hid hO
      have HB := Lib.hid hB
      subst hA
      clear hx hsn ha1 ha2 hO hB
      go_wp2_with fail
      refine region_split 15 [[], [], [], [(1, 17), (2, 18)], [(1, 17), (2, 18), (3, 19)], [(1, 17), (2, 18), (3, 19), (4, 20)], [(1, 17), (2, 18), (3, 19), (4, 20), (5, 21)], [], [], [(7, 23), (8, 24)], [(7, 23), (8, 24), (9, 25)], [(7, 23), (8, 24), (9, 25), (10, 26)], [(7, 23), (8, 24), (9, 25), (10, 26), (11, 27)], [(1, 17), (2, 18), (3, 19), (4, 20), (5, 21), (6, 22), (7, 23), (8, 24), (9, 25), (10, 26), (12, 28)], [(1, 17), (2, 18), (3, 19), (4, 20), (5, 21), (6, 22), (7, 23), (8, 24), (9, 25), (10, 26), (13, 29)], [(0, 16), (1, 17), (2, 18), (3, 19), (4, 20), (5, 21), (6, 22), (7, 23), (8, 24), (9, 25), (10, 26), (11, 27), (12, 28), (13, 29), (14, 30)], [(0, 16), (1, 17), (2, 18), (3, 19), (4, 20), (5, 21), (6, 22), (7, 23), (8, 24), (9, 25), (10, 26), (11, 27), (12, 28), (13, 29), (14, 30), (15, 31)]] [(0, 16), (1, 17), (2, 18), (3, 19), (4, 20), (5, 21), (6, 22), (7, 23), (8, 24), (9, 25), (10, 26), (11, 27), (12, 28), (13, 29), (14, 30)] (fun
        | 0 => .eqv (u3) | 1 => .eqv (.slice (some ⟨b, o, none⟩) n c) | 2 => .eqv (.int .i64 (j : Int)) | 3 => .eqv (.pointer (some ⟨b, o + j * 2, none⟩)) | 4 => .eqv (.pointer (some ⟨b, o + j * 2, none⟩)) | 5 => .eqv (.string x.1) | 6 => .eqv (.string (cutB x.1)) | 7 => .eqv (.slice (some ⟨b, o, none⟩) n c) | 8 => .eqv (.int .i64 (j : Int)) | 9 => .eqv (.pointer (some ⟨b, o + j * 2, none⟩)) | 10 => .eqv (.pointer (some ⟨b, o + j * 2 + 1, none⟩)) | 11 => .eqv (.string x.2) | 12 => .eqv (.string (cutB x.2)) | 13 => .eqv (.agg #[.string (cutB x.1), .string (cutB x.2)]) | 14 => .litH (cutHd x) | _ => .any) (by kernel_rfl) ?_ ?_
      · refine ⟨fun u hu => ?_, fun u hu => ?_, fun u hu => ?_, fun u hu => ?_, fun u hu => ?_, fun u hu => ?_, fun u hu => ?_, fun u hu => ?_, fun u hu => ?_, fun u hu => ?_, fun u hu => ?_, fun u hu => ?_, fun u hu => ?_, fun u hu => ?_, fun u hu => ?_, trivial⟩
        · refine StepGoal.nil ?_
          go_wp2
          exact ⟨rfl, rfl, Grew.rf _, rfl⟩
        · refine StepGoal.nil ?_
          go_wp2
          exact ⟨rfl, rfl, Grew.rf _, rfl⟩
        · refine StepGoal.nil ?_
          go_wp2
          exact ⟨rfl, rfl, Grew.rf _, rfl⟩
        · rintro _ rfl _ rfl
          refine StepGoal.nil ?_
          simp only [Act.put, List.setIfInBounds_toArray, List.set_cons_zero, List.set_cons_succ]
          go_wp2
          exact ⟨rfl, rfl, Grew.rf _, rfl⟩
        · rintro _ rfl _ rfl _ rfl
          refine StepGoal.nil ?_
          simp only [Act.put, List.setIfInBounds_toArray, List.set_cons_zero, List.set_cons_succ]
          go_wp2
          exact ⟨rfl, rfl, Grew.rf _, rfl⟩
        · rintro _ rfl _ rfl _ rfl _ rfl
          have hce := hu.ce hce1
          refine StepGoal.nil ?_
          simp only [Act.put, List.setIfInBounds_toArray, List.set_cons_zero, List.set_cons_succ]
          go_wp2
          exact ⟨rfl, rfl, Grew.rf _, rfl⟩
        · rintro _ rfl _ rfl _ rfl _ rfl _ rfl
          refine StepGoal.nil ?_
          simp only [Act.put, List.setIfInBounds_toArray, List.set_cons_zero, List.set_cons_succ]
          go_wp2_with (go_at_call 61; refine Calls.mono (short_any x.1 u hs1) ?_; rintro e w' ⟨rfl, rfl⟩)
          exact ⟨rfl, rfl, Grew.rf _, rfl⟩
        · refine StepGoal.nil ?_
          go_wp2
          exact ⟨rfl, rfl, Grew.rf _, rfl⟩
        · refine StepGoal.nil ?_
          go_wp2
          exact ⟨rfl, rfl, Grew.rf _, rfl⟩
        · rintro _ rfl _ rfl
          refine StepGoal.nil ?_
          simp only [Act.put, List.setIfInBounds_toArray, List.set_cons_zero, List.set_cons_succ]
          go_wp2
          exact ⟨rfl, rfl, Grew.rf _, rfl⟩
        · rintro _ rfl _ rfl _ rfl
          refine StepGoal.nil ?_
          simp only [Act.put, List.setIfInBounds_toArray, List.set_cons_zero, List.set_cons_succ]
          go_wp2
          exact ⟨rfl, rfl, Grew.rf _, rfl⟩
        · rintro _ rfl _ rfl _ rfl _ rfl
          have hce := hu.ce hce2
          refine StepGoal.nil ?_
          simp only [Act.put, List.setIfInBounds_toArray, List.set_cons_zero, List.set_cons_succ]
          go_wp2
          exact ⟨rfl, rfl, Grew.rf _, rfl⟩
        · rintro _ rfl _ rfl _ rfl _ rfl _ rfl
          refine StepGoal.nil ?_
          simp only [Act.put, List.setIfInBounds_toArray, List.set_cons_zero, List.set_cons_succ]
          go_wp2_with (go_at_call 61; refine Calls.mono (short_any x.2 u hs2) ?_; rintro e w' ⟨rfl, rfl⟩)
          exact ⟨rfl, rfl, Grew.rf _, rfl⟩
        · rintro _ rfl _ rfl _ rfl _ rfl _ rfl _ rfl _ rfl _ rfl _ rfl _ rfl _ rfl
          refine StepGoal.nil ?_
          simp only [Act.put, List.setIfInBounds_toArray, List.set_cons_zero, List.set_cons_succ]
          go_wp2
          exact ⟨rfl, rfl, Grew.rf _, rfl⟩
        · rintro _ rfl _ rfl _ rfl _ rfl _ rfl _ rfl _ rfl _ rfl _ rfl _ rfl _ rfl
          refine StepGoal.nil ?_
          simp only [Act.put, List.setIfInBounds_toArray, List.set_cons_zero, List.set_cons_succ]
          go_wp2
          exact ⟨rfl, rfl, (Grew.rf _).al _, _, rfl, rdV_lit2 u (cutHd x) _⟩
      · intro u hu
        rintro _ rfl _ rfl _ rfl _ rfl _ rfl _ rfl _ rfl _ rfl _ rfl _ rfl _ rfl _ rfl _ rfl _ rfl v30 h30
        refine StepGoal.nil ?_
        simp only [Act.put, List.setIfInBounds_toArray, List.set_cons_zero, List.set_cons_succ]; simp only [List.drop_succ_cons, List.drop_zero]
        obtain ⟨B2, rfl, hR2⟩ : (Pd.litH (cutHd x)).p v30 u := h30
        have hsu := hu.size
        refine appV Try.underlying31 infoH zero_hdr (by decide) (by decide) (.inl rfl) rfl rfl rfl (HO.out.keep hu) hR2 (hcs_one _) (by omega) (by omega) ?_
        intro v1 w1 ho1 hg1 hat1
        have hN1 : OwnV 124 2 w1 w.heap.size v1 (j + 1) (hcs ((l.take (j + 1)).map cutHd)) := by rw [HSN.out, hcs_append]; exact ho1
        have hN2 : Grew w w1 := (HB.out.tr hu).grown hg1 (by omega) (fun k e => HO.out.base_le k e)
        have HN1 := Lib.hid hN1
        have HN2 := Lib.hid hN2
        clear hN1 hN2 ho1 hg1 hat1 hR2 hu hsu
        go_wp2_with fail
        go_roundw
        case rel => exact ⟨j + 1, by go_num, by omega, by omega, HN1.out, HN2.out⟩
        case measure => simp [intOf]; omega
    · have hfin : (l.take j).map cutHd = fewH l := by
        unfold fewH
        by_cases h40 : j = 24
        · rw [h40]
        · have : j = n := by omega
          rw [List.take_of_length_le (by rw [HL.out]; omega), List.take_of_length_le (by rw [HL.out]; omega)]
      have hfl : j = (fewH l).length := by rw [fewH_len, HL.out]; omega
      rw [hfin] at hO
      have HFL := Lib.hid hfl
      clear hfin hfl
      by_cases hc1 : j < n
      · have hc2 : ¬ j < 24 := fun h => hc ⟨hc1, h⟩
        clear hc
        go_wp2
        go_ret
        exact ⟨_, rfl, HFL.out ▸ hO, hB⟩
      · clear hc
        go_wp2
        go_ret
        exact ⟨_, rfl, HFL.out ▸ hO, hB⟩
end Go.Proofs.Ytbkcpgaicoagfaa
