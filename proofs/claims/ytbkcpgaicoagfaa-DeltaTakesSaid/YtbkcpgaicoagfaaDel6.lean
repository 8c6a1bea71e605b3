/- Delta: the walk of fresh. -/
import Derived.Test.YtbkcpgaicoagfaaDel5
set_option linter.unusedVariables false
set_option linter.unusedSimpArgs false
namespace Go.Proofs.Ytbkcpgaicoagfaa
open Go.RowKit

/-- A row of headers that the call itself has made. -/
abbrev OwnH (w : World) (base : Nat) (v : Value) (l : List Hdr) : Prop := OwnV 124 2 w base v l.length (hcs l)
theorem OwnV.tabH {w : World} {base : Nat} {v : Value} {n : Nat} {vs : List Value} (h : OwnV 124 2 w base v n vs) {p : Nat} {lv : Value} {mb : Nat} {ts : List ByteArray} (hT : TabI w p lv mb ts) {k : Nat} (hk : v.ownBlock = some k) : ¬ ftp p lv mb k := by
  obtain ⟨cur, hc⟩ := h.block hk
  rintro (rfl | rfl | h2)
  · rw [hT.cells] at hc
    simp only [Option.some.injEq, Obj.cells.injEq] at hc
    exact absurd hc.2.1 (by decide)
  · obtain ⟨es, c, hm⟩ := hT.map.isMap
    rw [hm] at hc; cases hc
  · obtain ⟨cur2, hc2⟩ := hT.list.block h2
    rw [hc] at hc2
    simp only [Option.some.injEq, Obj.cells.injEq] at hc2
    exact absurd hc2.2.1 (by decide)
theorem rdV_lit2 (W : World) (x : Hdr) (t : TypeId) : RdH (W.alloc (.cells #[.string x.1, .string x.2] t)) (some ⟨W.heap.size, 0, none⟩) 1 [x] :=
  ⟨rfl, fun _ => ⟨_, 0, rfl, fun j u hj => by
    rcases (by have := (List.getElem?_eq_some_iff.1 hj).1; simp [hcs] at this; omega : j = 0 ∨ j = 1) with rfl | rfl
    · simp [hcs] at hj; subst hj; rw [World.cell?_alloc_new]; rfl
    · simp [hcs] at hj; subst hj; rw [World.cell?_alloc_new]; rfl⟩⟩
theorem rdV_lit2' {W : World} {k : Nat} (hk : W.heap.size = k) (x : Hdr) (t : TypeId) : RdH (W.alloc (.cells #[.string x.1, .string x.2] t)) (some ⟨k, 0, none⟩) 1 [x] := by
  subst hk
  exact rdV_lit2 W x t
theorem zero_hdr : (Value.agg #[.string ByteArray.empty, .string ByteArray.empty]).cells.size = 2 := by decide
/-- What fresh comes to. -/
def FreshQ (w : World) (p : Nat) (lv : Value) (mb : Nat) (z : List Hdr × Int × Int × List ByteArray) (e : Ending) (w' : World) : Prop :=
  ∃ v, e = .returned (.tuple #[v, .int .i64 z.2.1, .int .i64 z.2.2.1]) ∧ TakeQ w w' p lv mb z.2.2.2 ∧ (z.2.2.1 = 0 → OwnH w' w.heap.size v z.1) ∧ (z.2.2.1 ≠ 0 → v = .slice none 0 0)
theorem Chg.set {F : Nat → Prop} {w0 w : World} (h : Chg F w0 w) {a : Addr} (ha : w0.heap.size ≤ a.block) (v : Value) : Chg F w0 (w.setCell a v) :=
  h.tr (Chg.ofBy (setCell_by w a v) (fun b hb => by cases hb; exact .inr ha))

set_option maxRecDepth 100000 in
set_option maxHeartbeats 3200000 in
theorem dfresh_any (p : Nat) (lv : Value) (mb : Nat) (ts : List ByteArray) (A : Option Addr) (n c : Nat) (b : List Int) (at_ : Int) (many : Nat) (w : World) (hT : TabI w p lv mb ts) (hr : Rd w A n b) (hA : 0 < n → ∀ ad, A = some ad → ¬ ftp p lv mb ad.block) (hb : Byt b) (hnc : n ≤ c) (hc : c ≤ 9223372036854775807) (hn : n ≤ 100000000) (hf : ts.length + 2 * many < 1000000) (h0 : -9223372036854775808 ≤ at_) (h1 : at_ ≤ 9223372036854775807) :
    Calls Try.prog 64 #[.slice A n c, .int .i64 at_, .pointer (some ⟨p, 0, none⟩), .int .i64 (many : Int)] w (FreshQ w p lv mb (takeFs b many ts at_)) := by
  have HT := Lib.hid hT
  have HR := Lib.hid hr
  have HA := Lib.hid hA
  have HB := Lib.hid hb
  have hnl := hr.len
  have HNL := Lib.hid hnl
  clear hT hr hA hb hnl
  go_enter Try.func64, Try.ntmps64
  go_wp2
  go_loopw [1, 8, 10, 13] (fun a v er i wr => ∃ (k : Nat) (l : List Hdr) (us : List ByteArray) (l1 : Value) (a' : Int), i = .int .i64 (k : Int) ∧ k ≤ many ∧ a = .int .i64 a' ∧ er = .int .i64 0 ∧ OwnH wr w.heap.size v l ∧ TabI wr p l1 mb us ∧ (∀ j, ftp p l1 mb j → ftp p lv mb j ∨ w.heap.size ≤ j) ∧ Chg (ftp p lv mb) w wr ∧ us.length ≤ ts.length + 2 * k ∧ l.length = k ∧ -9223372036854775808 ≤ a' ∧ a' ≤ 9223372036854775807 ∧ RowKit.Hid (takeFs b many ts at_ = preFs l (takeFs b (many - k) us a'))) (fun _ _ _ i _ => many - (intOf i).toNat)
  case atStart => exact ⟨0, [], ts, lv, at_, rfl, Nat.zero_le _, rfl, rfl, OwnV.nil _ _ _ _, HT.out, fun j h => .inl h, Chg.of (Grew.rf w), by omega, rfl, h0, h1, (preFs_nil _ (takeFs_err b _ _ _)).symm⟩
  case round =>
    obtain ⟨k, l, us, l1, a', rfl, hk, rfl, rfl, hO, hT1, hF1, hC1, hul, hll, ha0, ha1, HZ⟩ := hrel
    have HO := Lib.hid hO
    have HT1 := Lib.hid hT1
    have HF1 := Lib.hid hF1
    have HC1 := Lib.hid hC1
    have HLL := Lib.hid hll
    clear hO hT1 hF1 hC1 hll
    by_cases hlt : k < many
    · obtain ⟨m, hm⟩ : ∃ m, many - k = m + 1 := ⟨many - k - 1, by omega⟩
      have HM := Lib.hid hm
      clear hm
      go_wp2_with fail
      -- the round's own block
      obtain ⟨hb, hhb⟩ : ∃ hb, wr.heap.size = hb := ⟨_, rfl⟩
      obtain ⟨W0, hW0⟩ : ∃ W0, wr.alloc (.cells #[.string ⟨#[]⟩, .string ⟨#[]⟩] 124) = W0 := ⟨_, rfl⟩
      have hcx := heap_alloc_new wr (.cells #[.string ⟨#[]⟩, .string ⟨#[]⟩] 124)
      have hgW : Grew wr W0 := by rw [← hW0]; exact (Grew.rf wr).al _
      have hsW : W0.heap.size = hb + 1 := by rw [← hW0, World.size_alloc, hhb]
      have hws := HC1.out.size
      rw [hhb, hW0] at hcx ⊢
      have hhF : ¬ ftp p l1 mb hb := fun h => by have := HT1.out.lt h; omega
      have hTW : TabI W0 p l1 mb us := HT1.out.keep hgW
      have hRW : Rd W0 A n b := (HR.out.chg HC1.out HA.out).keep hgW
      have hOW : OwnH W0 w.heap.size _ l := HO.out.keep hgW
      have hCW : Chg (ftp p lv mb) w W0 := HC1.out.tr (Chg.of hgW)
      obtain ⟨⟨s, nx, er, us1⟩, hq1⟩ : ∃ r, takeT us b a' = r := ⟨_, rfl⟩
      have hk1 := takeT_ok2 (ts := us) (at_ := a') HB.out
      rw [hq1, HNL.out] at hk1
      simp only at hk1
      have htk1 := ttake_to p l1 mb us A n c b a' s nx er us1 hq1 W0 hTW hRW HB.out hnc hc hn (by omega) ha0 ha1
      have HTK1 := Lib.hid htk1
      have HQ1 := Lib.hid hq1
      have HK1 := Lib.hid hk1
      have HHB := Lib.hid hhb
      have HCX := Lib.hid hcx
      have HSW := Lib.hid hsW
      have HOW := Lib.hid hOW
      have HCW := Lib.hid hCW
      have HRW := Lib.hid hRW
      have HHF := Lib.hid hhF
      have HCW1 : RowKit.Hid (Chg (ftp p l1 mb) wr W0) := Chg.of hgW
      clear htk1 hq1 hk1 hhb hW0 hcx hsW hOW hCW hRW hhF hTW hgW hws
      refine Calls.mono HTK1.out ?_
      rintro e w1 ⟨rfl, ⟨⟨l2, hT2, hF2⟩, hC2⟩⟩
      have hx1 := hC2.by_ HCX.out HHF.out
      have hs1 := hC2.size
      have hcl0 := cell_of_heap (i := 0) hx1 rfl
      have hfz0 := frozen_of_heap (i := 0) hx1
      -- the name is stored
      have hhF2 : ¬ ftp p l2 mb hb := fun h => (hF2 _ h).elim HHF.out (fun h => by have := HSW.out; omega)
      have hT3 : TabI (w1.setCell ⟨hb, 0, none⟩ (.string s)) p l2 mb us1 := hT2.chg (F := fun k => k = hb) (Chg.ofBy (setCell_by _ _ _) (fun b hb => by cases hb; rfl)) (fun k hk h => hhF2 (h ▸ hk))
      have hx2 := setCell_heap_same hx1 (i := 0) (.string s)
      have hx2' : (w1.setCell ⟨hb, 0, none⟩ (.string s)).heap[hb]? = some (.cells #[.string s, .string ⟨#[]⟩] 124) := hx2
      have hC3 : Chg (ftp p l1 mb) wr (w1.setCell ⟨hb, 0, none⟩ (.string s)) := (HCW1.out.tr (hC2.mono fun k hk => .inl hk)).set (by have := HHB.out; simp only; omega) _
      have hO3 : OwnH (w1.setCell ⟨hb, 0, none⟩ (.string s)) w.heap.size u8 l := HO.out.chg hC3 (fun k hk => HO.out.tabH HT1.out hk)
      have hs3 : W0.heap.size ≤ (w1.setCell ⟨hb, 0, none⟩ (.string s)).heap.size := by rw [setCell_size]; exact hs1
      have hCw3 : Chg (ftp p lv mb) w (w1.setCell ⟨hb, 0, none⟩ (.string s)) := HC1.out.tr (hC3.mono fun j hj => HF1.out j hj)
      have hFw2 : ∀ j, ftp p l2 mb j → ftp p lv mb j ∨ w.heap.size ≤ j := fun j hj => (hF2 j hj).elim (fun h => HF1.out j h) (fun h => by have := HCW.out.size; exact .inr (by omega))
      have HCw3 := Lib.hid hCw3
      have HFw2 := Lib.hid hFw2
      have HT3 := Lib.hid hT3
      have HO3 := Lib.hid hO3
      have HX2 := Lib.hid hx2'
      have HhF2 := Lib.hid hhF2
      have HS3 := Lib.hid hs3
      have HT2 := Lib.hid hT2
      have HC2 := Lib.hid hC2
      have HF2 := Lib.hid hF2
      simp only [List.getElem_toArray, List.getElem_cons_zero, List.getElem_cons_succ] at hcl0
      clear hCw3 hFw2 hT3 hO3 hx2 hx2' hhF2 hs3 hC3 hx1 hs1 hT2 hC2 hF2
      by_cases her : er = 0
      · subst her
        obtain ⟨⟨s2, nx2, er2, us2⟩, hq2⟩ : ∃ r, takeT us1 b nx = r := ⟨_, rfl⟩
        have hk2 := takeT_ok2 (ts := us1) (at_ := nx) HB.out
        rw [hq2, HNL.out] at hk2
        simp only at hk2
        have htk2 := ttake_to p l2 mb us1 A n c b nx s2 nx2 er2 us2 hq2 _ HT3.out (HR.out.chg HCw3.out HA.out) HB.out hnc hc hn (by have := HK1.out; omega) (by have := HK1.out; omega) (by have := HK1.out; omega)
        have HTK2 := Lib.hid htk2
        have HQ2 := Lib.hid hq2
        have HK2 := Lib.hid hk2
        clear htk2 hq2 hk2
        go_wp2_with fail
        refine Calls.mono HTK2.out ?_
        rintro e w4 ⟨rfl, ⟨⟨l4, hT4, hF4⟩, hC4⟩⟩
        have hx4 := hC4.by_ HX2.out HhF2.out
        have hs4 := hC4.size
        rw [setCell_size] at hs4
        have hcl4 := cell_of_heap (i := 1) hx4 rfl
        have hfz4 := frozen_of_heap (i := 1) hx4
        simp only [List.getElem_toArray, List.getElem_cons_zero, List.getElem_cons_succ] at hcl4
        have hhF4 : ¬ ftp p l4 mb hb := fun h => (hF4 _ h).elim HhF2.out (fun h => by have := HSW.out; have := HS3.out; omega)
        have hT5 : TabI (w4.setCell ⟨hb, 1, none⟩ (.string s2)) p l4 mb us2 := hT4.chg (F := fun k => k = hb) (Chg.ofBy (setCell_by _ _ _) (fun b hb => by cases hb; rfl)) (fun k hk h => hhF4 (h ▸ hk))
        have hx5 : (w4.setCell ⟨hb, 1, none⟩ (.string s2)).heap[hb]? = some (.cells #[.string s, .string s2] 124) := setCell_heap_same hx4 (i := 1) (.string s2)
        have hFw4 : ∀ j, ftp p l4 mb j → ftp p lv mb j ∨ w.heap.size ≤ j := fun j hj => (hF4 j hj).elim (fun h => HFw2.out j h) (fun h => by have h1 := HCw3.out.size; exact .inr (by omega))
        have hCw5 : Chg (ftp p lv mb) w (w4.setCell ⟨hb, 1, none⟩ (.string s2)) := (HCw3.out.tr (hC4.mono fun j hj => HFw2.out j hj)).set (by have := HHB.out; have := HC1.out.size; simp only; omega) _
        have hO4 : OwnH w4 w.heap.size u8 l := HO3.out.chg hC4 (fun k hk => HO3.out.tabH HT3.out hk)
        have hO5 : OwnH (w4.setCell ⟨hb, 1, none⟩ (.string s2)) w.heap.size u8 l := hO4.kept (setCell_by _ _ _) (fun b hb he => by cases hb; have h1 := HO.out.lt he; have h2 := HHB.out; simp only at h1; omega)
        have hsw5 : w.heap.size ≤ (w4.setCell ⟨hb, 1, none⟩ (.string s2)).heap.size := hCw5.size
        have hc50 := cell_of_heap (i := 0) hx5 rfl
        have hc51 := cell_of_heap (i := 1) hx5 rfl
        simp only [List.getElem_toArray, List.getElem_cons_zero, List.getElem_cons_succ] at hc50 hc51
        have HT5 := Lib.hid hT5
        have HFw4 := Lib.hid hFw4
        have HCw5 := Lib.hid hCw5
        have HO5 := Lib.hid hO5
        have HSW5 := Lib.hid hsw5
        clear hx4 hs4 hhF4 hT5 hx5 hFw4 hCw5 hO4 hO5 hsw5 hT4 hF4 hC4
        by_cases her2 : er2 = 0
        · subst her2
          go_wp2_with ((with_reducible refine gate_b .append #[.tmp 38, .tmp 40] _ rfl ?_); refine appV Try.underlying31 infoH zero_hdr (by decide) (by decide) (.inl rfl) rfl rfl rfl (HO5.out.keep ((Grew.rf _).al (.cells #[.string s, .string s2] 124))) (rdV_lit2' (setCell_size _ _ _) (s, s2) 124) (hcs_one _) (by have := HSW5.out; rw [World.size_alloc]; omega) (by have := HLL.out; omega) ?_; intro v6 w6 ho6 hg6 hat6)
          have hT6 : TabI w6 p l4 mb us2 := (HT5.out.keep ((Grew.rf _).al (.cells #[.string s, .string s2] 124))).chg (Chg.ofBy (F := fun k => u8.ownBlock = some k) hg6 (fun b hb => hb)) (fun k hk h => (HO5.out.keep ((Grew.rf _).al (.cells #[.string s, .string s2] 124))).tabH (HT5.out.keep ((Grew.rf _).al _)) h hk)
          have hC6 : Chg (ftp p lv mb) w w6 := (HCw5.out.tr (Chg.of ((Grew.rf _).al (.cells #[.string s, .string s2] 124)))).tr (Chg.ofBy hg6 (fun b hb => .inr (HO5.out.base_le b hb)))
          have HT6 := Lib.hid hT6
          have HC6 := Lib.hid hC6
          have HO6 := Lib.hid ho6
          clear hT6 hC6 hg6 hat6 ho6
          go_roundw
          case rel =>
            have hl := HLL.out
            have hm := HM.out
            have h1 := HK1.out
            have h2 := HK2.out
            refine ⟨k + 1, l ++ [(s, s2)], us2, l4, nx2, by go_num, by omega, rfl, rfl, ?_, HT6.out, HFw4.out, HC6.out, by omega, by simp [hl], by omega, by omega, ?_⟩
            · show OwnV _ _ _ _ _ _ _
              rw [List.length_append, hcs_append]
              exact HO6.out
            · show _ = _
              rw [HZ.out, hm, takeFs_ok HQ1.out HQ2.out, preFs_preFs, show many - (k + 1) = m by omega]
          case measure => simp [intOf]; omega
        · have hde : decide (er2 = 0) = false := decide_eq_false her2
          have hz : takeFs b many ts at_ = ([], 0, er2, us2) := by
            rw [HZ.out, HM.out, takeFs_e2 HQ1.out HQ2.out her2, preFs]
            simp only
            rw [if_pos her2]
          have HZZ := Lib.hid hz
          clear hz
          go_wp2_with fail
          go_ret3
          rw [HZZ.out]
          exact ⟨_, rfl, ⟨⟨l4, HT5.out, HFw4.out⟩, HCw5.out⟩, fun h => absurd h her2, fun _ => rfl⟩
      · have hde : decide (er = 0) = false := decide_eq_false her
        have hz : takeFs b many ts at_ = ([], 0, er, us1) := by
          rw [HZ.out, HM.out, takeFs_e1 HQ1.out her, preFs]
          simp only
          rw [if_pos her]
        have HZZ := Lib.hid hz
        clear hz
        go_wp2_with fail
        go_ret3
        rw [HZZ.out]
        exact ⟨_, rfl, ⟨⟨l2, HT3.out, HFw2.out⟩, HCw3.out⟩, fun h => absurd h her, fun _ => rfl⟩
    · obtain rfl : k = many := by omega
      have hz : takeFs b k ts at_ = (l, a', 0, us) := by
        rw [HZ.out, Nat.sub_self, takeFs, preFs]
        simp
      have HZZ := Lib.hid hz
      clear hz
      go_wp2_with fail
      go_ret3
      rw [HZZ.out]
      exact ⟨_, rfl, ⟨⟨l1, HT1.out, HF1.out⟩, HC1.out⟩, fun _ => HO.out, fun h => absurd rfl h⟩
end Go.Proofs.Ytbkcpgaicoagfaa
