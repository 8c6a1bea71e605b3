/- The laws' cut; the fixed facts. -/
import Derived.Test.YtbkcpgaicoagfaaEg30
import Derived.Test.YtbkcpgaicoagfaaEg12
import Derived.Test.YtbkcpgaicoagfaaEg22
set_option linter.unusedVariables false
set_option linter.unusedSimpArgs false
namespace Go.Proofs.Ytbkcpgaicoagfaa
open Go.RowKit

def cutE (x : Ev) : Ev := { x with hs := x.hs.take 30 }
set_option maxRecDepth 100000 in
set_option maxHeartbeats 3200000 in
theorem cutE_any (x : Ev) (A : Option Addr) (n c : Nat) (w : World) (hr : RdH w A n x.hs) (hnc : n ≤ c) (hc : c ≤ 9223372036854775807) :
    Calls Try.prog 15 #[evV x A n c] w fun e w' => ∃ m, e = .returned (evV (cutE x) A m c) ∧ m ≤ 30 ∧ m ≤ n ∧ RdH w' A m (cutE x).hs ∧ Grew w w' ∧ (n = 0 → m = 0) := by
  obtain ⟨ki, se, ti, me, ur, hs, bo, st, co, cr, no, nn⟩ := x
  dsimp only at hr
  have hl := hr.lenH
  have HR := Lib.hid hr
  have HL := Lib.hid hl
  clear hr hl
  by_cases h30 : 30 < n
  · have hcut : ∀ W : World, (Instr.slice 31 (.slice A n c) none (some (.int .i64 30)) none).run Try.prog W = .ok (.slice A 30 c) W := fun W => cutH_hi (kh := .i64) A n c 30 (by omega) W
    go_enter Try.func15, Try.ntmps15
    go_upto_region 2 with fail
    have hq0 := heap_keep ((Grew.rf _).al (.cells #[.int .i64 0, .int .i64 0, .int .i64 0, .string { data := #[] }, .string { data := #[] }, .slice none 0 0, .string { data := #[] }, .int .i64 0, .int .i64 0, .bool false, .string { data := #[] }, .int .u64 0] 34)) (heap_alloc_new w (.cells #[.int .i64 ki, .int .i64 se, .int .i64 ti, .string me, .string ur, .slice A n c, .string bo, .int .i64 st, .int .i64 co, .bool cr, .string no, .int .u64 nn] 34))
    have hq1 := heap_alloc_new (w.alloc (.cells #[.int .i64 ki, .int .i64 se, .int .i64 ti, .string me, .string ur, .slice A n c, .string bo, .int .i64 st, .int .i64 co, .bool cr, .string no, .int .u64 nn] 34)) (.cells #[.int .i64 0, .int .i64 0, .int .i64 0, .string { data := #[] }, .string { data := #[] }, .slice none 0 0, .string { data := #[] }, .int .i64 0, .int .i64 0, .bool false, .string { data := #[] }, .int .u64 0] 34)
    have hgW : Grew w ((w.alloc (.cells #[.int .i64 ki, .int .i64 se, .int .i64 ti, .string me, .string ur, .slice A n c, .string bo, .int .i64 st, .int .i64 co, .bool cr, .string no, .int .u64 nn] 34)).alloc (.cells #[.int .i64 0, .int .i64 0, .int .i64 0, .string { data := #[] }, .string { data := #[] }, .slice none 0 0, .string { data := #[] }, .int .i64 0, .int .i64 0, .bool false, .string { data := #[] }, .int .u64 0] 34)) := ((Grew.rf w).al _).al _
    rw [World.size_alloc] at hq1
    generalize (w.alloc (.cells #[.int .i64 ki, .int .i64 se, .int .i64 ti, .string me, .string ur, .slice A n c, .string bo, .int .i64 st, .int .i64 co, .bool cr, .string no, .int .u64 nn] 34)).alloc (.cells #[.int .i64 0, .int .i64 0, .int .i64 0, .string { data := #[] }, .string { data := #[] }, .slice none 0 0, .string { data := #[] }, .int .i64 0, .int .i64 0, .bool false, .string { data := #[] }, .int .u64 0] 34) = W at *
    have hce := cell_of_heap (i := 5) hq0 rfl
    have hfz := frozen_of_heap (i := 5) hq0
    have hx0 : (W.setCell ⟨w.heap.size, 5, none⟩ (.slice A 30 c)).heap[w.heap.size]? = some (.cells #[.int .i64 ki, .int .i64 se, .int .i64 ti, .string me, .string ur, .slice A 30 c, .string bo, .int .i64 st, .int .i64 co, .bool cr, .string no, .int .u64 nn] 34) := by have := setCell_heap_same hq0 (i := 5) (.slice A 30 c); simpa using this
    have hx1 := (setCell_heap_other W ⟨w.heap.size, 5, none⟩ (.slice A 30 c) (k := w.heap.size + 1) (by simp)).trans hq1
    have hgs : Grew w (W.setCell ⟨w.heap.size, 5, none⟩ (.slice A 30 c)) := hgW.st (p := ⟨w.heap.size, 5, none⟩) (Nat.le_refl _) _
    have HX0 := Lib.hid hx0
    have HX1 := Lib.hid hx1
    have HGS := Lib.hid hgs
    clear hq0 hq1 hgW hx0 hx1 hgs
    go_upto_region 3 with fail
    generalize W.setCell ⟨w.heap.size, 5, none⟩ (.slice A 30 c) = W2 at *
    clear hce hfz
    have hx0 := HX0.out
    have hx1 := HX1.out
    go_wp2_with (first | (refine ld_row (.inl rfl) rfl rfl hx0 rfl Try.underlying34 (by kernel_rfl) ?_; refine st_row rfl rfl rfl rfl hx1 (by kernel_rfl) rfl (by simp [Value.oneCell']) ?_; intro W3 hW3 hby))
    have hg3 : Grew w W3 := grown_at HGS.out hby (by omega) HGS.out.size
    refine bodyPost_ret (v := evV (cutE ⟨ki, se, ti, me, ur, hs, bo, st, co, cr, no, nn⟩) A 30 c) (results_cell_row rfl _ _ (w.heap.size + 1) _ _ _ _ rfl hW3 Try.underlying34 rfl (by kernel_rfl)) rfl ?_
    exact ⟨30, rfl, Nat.le_refl _, by omega, (HR.out.takeH (i := 30) (by omega)).keep hg3, hg3, fun h => by omega⟩
  · go_enter Try.func15, Try.ntmps15
    go_wp2
    have h1 := heap_alloc_new (w.alloc (.cells #[.int .i64 ki, .int .i64 se, .int .i64 ti, .string me, .string ur, .slice A n c, .string bo, .int .i64 st, .int .i64 co, .bool cr, .string no, .int .u64 nn] 34)) (.cells #[.int .i64 ki, .int .i64 se, .int .i64 ti, .string me, .string ur, .slice A n c, .string bo, .int .i64 st, .int .i64 co, .bool cr, .string no, .int .u64 nn] 34)
    rw [World.size_alloc] at h1
    refine bodyPost_ret (v := evV (cutE ⟨ki, se, ti, me, ur, hs, bo, st, co, cr, no, nn⟩) A n c) (results_cell_row rfl _ _ (w.heap.size + 1) _ _ _ _ rfl h1 Try.underlying34 rfl (by kernel_rfl)) rfl ?_
    have he : (cutE ⟨ki, se, ti, me, ur, hs, bo, st, co, cr, no, nn⟩).hs = hs := List.take_of_length_le (by rw [HL.out]; omega)
    rw [he]
    have hgg : Grew w ((w.alloc (.cells #[.int .i64 ki, .int .i64 se, .int .i64 ti, .string me, .string ur, .slice A n c, .string bo, .int .i64 st, .int .i64 co, .bool cr, .string no, .int .u64 nn] 34)).alloc (.cells #[.int .i64 ki, .int .i64 se, .int .i64 ti, .string me, .string ur, .slice A n c, .string bo, .int .i64 st, .int .i64 co, .bool cr, .string no, .int .u64 nn] 34)) := ((Grew.rf w).al _).al _
    exact ⟨n, rfl, by omega, Nat.le_refl _, HR.out.keep hgg, hgg, fun h => h⟩
end Go.Proofs.Ytbkcpgaicoagfaa
set_option linter.unusedVariables false
set_option linter.unusedSimpArgs false
namespace Go.Proofs.Ytbkcpgaicoagfaa
open Go.RowKit

abbrev s0B : PB := ⟨[], 0, fun _ _ => []⟩
abbrev s5B : PB := ⟨[], 5, fun _ _ => []⟩
abbrev s6B : PB := ⟨[], 6, fun _ _ => []⟩
abbrev evT : Ev := ⟨5, 0, 5, noT, noT, [], noT, 0, 0, false, noT, 5⟩
abbrev evF : Ev := ⟨4, 3, 6, noT, noT, [], noT, 0, 0, false, noT, 0⟩
abbrev evL : Ev := ⟨4, 3, 5, noT, noT, [], noT, 0, 0, false, noT, 0⟩
abbrev b1B : List Int := [5, 0, 5, 5]
abbrev b2B : List Int := [5, 0, 5, 5, 4, 3, 1]
theorem awk_g1 : goodE evT = true := by decide +kernel
theorem awk_g2 : goodE evF = true := by decide +kernel
theorem awk_g3 : goodE evL = true := by decide +kernel
theorem awk_p1 : (putB s0B evT).1 = b1B := by decide +kernel
theorem awk_s1 : (putB s0B evT).2 = s5B := by kernel_rfl
theorem awk_p2 : b1B ++ (putB s5B evF).1 = b2B := by decide +kernel
theorem awk_s2 : (putB s5B evF).2 = s6B := by kernel_rfl
theorem awk_t1 : takeB s0B b2B 0 = (evT, 4, 0, s5B) := by kernel_rfl
theorem awk_t2 : takeB s5B b2B 4 = (evF, 7, 0, s6B) := by kernel_rfl
theorem awk_in : inE evT = (⟨4, 0, noT, noT, 0, 0, 0, 0, noT, [], noT, 0, [], noT, 5⟩, true) := by kernel_rfl
theorem BookI.noH {w : World} {p tp : Nat} {lv : Value} {mb lb k : Nat} {s : PB} (h : BookI w p tp lv mb lb k s) : ∀ b cs fr, w.heap[b]? = some (.cells cs 124 fr) → ¬ ftb p tp lv mb lb b := fun b cs fr hb hk => by
  rcases hk with hk | hk | hk
  · rw [hk, h.cells] at hb
    simp only [Option.some.injEq, Obj.cells.injEq] at hb
    exact absurd hb.2.1 (by decide)
  · obtain ⟨es, c, hm⟩ := h.map.isMap
    rw [hk, hm] at hb; simp at hb
  · exact ftp_nobook h.tab hb (by decide) (by decide) hk
theorem evW_T : EvW evT := ⟨by decide, by decide, by decide, by decide, by decide, by decide⟩
theorem evW_F : EvW evF := ⟨by decide, by decide, by decide, by decide, by decide, by decide⟩
theorem OutP.rdU {base : Nat} {out : List Int} {N : Nat} {B : Option Addr} {m d : Nat} {u : World} (h : OutP base out N (.slice B m d) u) : m ≤ d ∧ d ≤ 9223372036854775807 ∧ Rd u B m out ∧ FreshA base B ∧ U8 u B ∧ m ≤ N := by
  obtain ⟨B', m', d', e, h1, h2, h3, h4, h5, h6⟩ := h
  cases e
  exact ⟨h1, h2, h3, h4, h5, h6⟩
set_option maxRecDepth 100000 in
set_option maxHeartbeats 6400000 in
theorem awake21_any (w : World) : Calls Try.prog 20 #[] w fun e w' => e = .returned (.bool true) ∧ Grew w w' := by
  go_enter Try.func20, Try.ntmps20
  go_wp2_with fail
  refine Calls.mono (bnew_any _) ?_
  rintro e w1 ⟨p, tp, mb, lb, rfl, hK1, hg1, hk1⟩
  go_wp2_with fail
  refine Calls.mono (bnew_any _) ?_
  rintro e w2 ⟨q, tq, mq, lq, rfl, hL2, hg2, hl2⟩
  have hK2 := hK1.keep hg2
  have hap2 : ∀ b, ftb p tp (.slice none 0 0) mb lb b → ¬ ftb q tq (.slice none 0 0) mq lq b := fun b hb h => by have := hK1.lt hb; have := hl2 b h; omega
  have hG2 : Grew w w2 := hg1.tr hg2
  have hlw2 : ∀ b, ftb q tq (.slice none 0 0) mq lq b → w.heap.size ≤ b := fun b hb => by have := hl2 b hb; have := hg1.size; omega
  clear hg1 hg2 hK1 hl2
  go_wp2_with fail
  refine Calls.mono (bput_any p tp _ mb lb 0 s0B evT none 0 0 none 0 0 [] w2 hK2 (RdV.nil _ _ _) (fun _ => ⟨rfl, rfl⟩) (by omega) (by omega) (RdK.nil _ _ _) (by omega) (fun h => absurd h (by omega)) (by omega) evW_T awk_g1 (by decide)) ?_
  rintro e w3 ⟨v3, rfl, Q3⟩
  rw [awk_p1, awk_s1, List.nil_append] at Q3
  obtain ⟨l3, hK3, hf3, hd3⟩ := Q3.book
  obtain ⟨B3, m3, d3, rfl, _⟩ := Q3.out
  obtain ⟨hle3, hcap3, hr3, hfr3, hu3, -⟩ := Q3.out.rdU
  have hL3 := hL2.chg Q3.chg (fun b hb h => hap2 b h hb) hK2.noH
  have hap3 : ∀ b, ftb p tp l3 mb lb b → ¬ ftb q tq (.slice none 0 0) mq lq b := fun b hb h => (hf3 b hb).elim (fun h2 => hap2 b h2 h) (fun h2 => by have := hL2.lt h; omega)
  have hG3 := grew_chg hG2 Q3.chg hk1
  have hk3 := low_step hk1 hf3 hG2.size
  obtain rfl : m3 = 4 := hr3.len.symm
  clear hK2 hL2 hap2 hf3 Q3 hk1
  go_wp2_with fail
  refine Calls.mono (bput_any p tp _ mb lb 2 s5B evF none 0 0 B3 4 d3 b1B w3 hK3 (RdV.nil _ _ _) (fun _ => ⟨rfl, rfl⟩) (by omega) (by omega) hr3 (by omega) (fun h => absurd h (by omega)) (by omega) evW_F awk_g2 (by decide)) ?_
  rintro e w4 ⟨v4, rfl, Q4⟩
  rw [awk_p2, awk_s2] at Q4
  obtain ⟨l4, hK4, hf4, hd4⟩ := Q4.book
  obtain ⟨B4, m4, d4, rfl, _⟩ := Q4.out
  obtain ⟨hle4, hcap4, hr4, hfr4, hu4, -⟩ := Q4.out.rdU
  have hL4 := hL3.chg Q4.chg (fun b hb h => hap3 b h hb) hK3.noH
  have hap4 : ∀ b, ftb p tp l4 mb lb b → ¬ ftb q tq (.slice none 0 0) mq lq b := fun b hb h => (hf4 b hb).elim (fun h2 => hap3 b h2 h) (fun h2 => by have := hL3.lt h; omega)
  have hG4 := grew_chg hG3 Q4.chg hk3
  have hk4 := low_step hk3 hf4 hG3.size
  have hbl4 : ∀ b, ftb q tq (.slice none 0 0) mq lq b → b < w3.heap.size := fun b hb => hL3.lt hb
  obtain rfl : m4 = 7 := hr4.len.symm
  clear hK3 hL3 hap3 hf4 Q4 hk3 hr3 hle3 hcap3 hfr3 hu3 hd3
  go_wp2_with fail
  refine Calls.mono (btake_any q tq _ mq lq 0 s0B B4 7 d4 b2B 0 w4 hL4 hr4 (byt_of (by decide)) hle4 hcap4 (by omega) (by decide) (by decide) (fun _ ad e h => by have := hfr4 ad e; have := hbl4 _ h; omega) (by omega)) ?_
  rw [awk_t1]
  rintro e w5 ⟨H5, n5, c5, rfl, hlst5, ⟨lq5, hL5, hf5⟩, hC5⟩
  obtain ⟨_, _, _, hve5, hrd5, _, _, hhb5, hnil5, hfr5⟩ := hlst5
  cases hve5
  obtain rfl : n5 = 0 := by have := hrd5.lenH; simpa using this.symm
  have hK5 := hK4.chg hC5 hap4 hL4.noH
  have hap5 : ∀ b, ftb p tp l4 mb lb b → ¬ ftb q tq lq5 mq lq b := apart_step hap4 (fun b hb => hK4.lt hb) hf5
  have hr5 := hr4.chg hC5 (fun _ ad e h => by have := hfr4 ad e; have := hbl4 _ h; omega)
  have hu5 : U8 w5 B4 := fun ad e => by
    obtain ⟨cs, fr, hc⟩ := hu4 ad e
    exact ⟨cs, fr, hC5.by_ hc (fun h => by have := hfr4 ad e; have := hbl4 _ h; omega)⟩
  have hG5 := grew_chg hG4 hC5 hlw2
  have hlw5 := low_step hlw2 hf5 hG4.size
  clear hK4 hL4 hap4 hr4 hu4 hC5 hlw2 hrd5 hhb5 hfr4 hbl4 hf5
  go_wp2_with fail
  have hb6 := heap_alloc_new w5 (evO evT H5 0 c5)
  have hga : Grew w5 (w5.alloc (evO evT H5 0 c5)) := (Grew.rf w5).al _
  have hblk : ∀ b, ftb q tq lq5 mq lq b → b < w5.heap.size := fun b hb => hL5.lt hb
  have hap8 : ∀ ad, B4 = some ad → ¬ ftb q tq lq5 mq lq ad.block := fun ad e h => by
    obtain ⟨cs, fr, hc⟩ := hu5 ad e
    rcases h with h | h | h
    · rw [h, hL5.cells] at hc
      simp only [Option.some.injEq, Obj.cells.injEq] at hc
      exact absurd hc.2.1 (by decide)
    · obtain ⟨es, c, hm⟩ := hL5.map.isMap
      rw [h, hm] at hc; simp at hc
    · exact ftp_nobook hL5.tab hc (by decide) (by decide) h
  refine Calls.mono (btake_any q tq _ mq lq 2 s5B B4 7 d4 b2B 4 _ (hL5.keep hga) (hr5.keep hga) (byt_of (by decide)) hle4 hcap4 (by omega) (by decide) (by decide) (fun _ ad e => hap8 ad e) (by omega)) ?_
  rw [awk_t2]
  rintro e w6 ⟨H6, n6, c6, rfl, hlst6, ⟨lq6, hL6, hf6⟩, hC6⟩
  obtain ⟨_, _, _, hve6, hrd6, _, _, _, _, _⟩ := hlst6
  cases hve6
  obtain rfl : n6 = 0 := by have := hrd6.lenH; simpa using this.symm
  have hK6 := (hK5.keep hga).chg hC6 hap5 (hL5.keep hga).noH
  have hr6 := (hr5.keep hga).chg hC6 (fun _ ad e => hap8 ad e)
  have hG6 := grew_chg (hG5.tr hga) hC6 hlw5
  have hx6 := hC6.by_ hb6 (fun h => by have := hblk _ h; omega)
  clear hK5 hL5 hap5 hr5 hu5 hC6 hlw5 hrd6 hf6 hap8 hblk hL6
  go_wp2_with fail
  have hgb : Grew w6 (w6.alloc (evO evF H6 0 c6)) := (Grew.rf w6).al _
  have hb9 := heap_alloc_new w6 (evO evF H6 0 c6)
  refine Calls.mono (bput_late p tp _ mb lb 4 s6B evL none 0 0 none 0 0 _ (hK6.keep hgb) (RdV.nil _ _ _) (fun _ => ⟨rfl, rfl⟩) (by omega) awk_g3 (by decide)) ?_
  rintro e w7 ⟨rfl, hg7⟩
  have hr7 := (hr6.keep hgb).keep hg7
  have hx7 := heap_keep (hgb.tr hg7) hx6
  have hy7 := heap_keep hg7 hb9
  have hG7 := (hG6.tr hgb).tr hg7
  clear hK6 hr6 hx6 hgb hg7 hb9 hb6 hga
  go_wp2_with (refine ld_row (.inl rfl) rfl rfl hx7 rfl Try.underlying34 (by kernel_rfl) ?_)
  refine Calls.mono (input_5 0 5 noT noT [] noT 0 0 false noT 5 H5 0 c5 w7 awk_g1 (RdV.nil _ _ _) (fun h => ⟨rfl, (hnil5 h).2⟩) (by omega)) ?_
  rw [awk_in]
  rintro e w8 ⟨A8, n8, c8, D8, m8, e8, rfl, hra8, hrb8, hn8, hm8, hg8⟩
  have hr8 := hr7.keep hg8
  have hx8 := heap_keep hg8 hx7
  have hy8 := heap_keep hg8 hy7
  have hG8 := hG7.tr hg8
  clear hr7 hx7 hy7 hg8 hra8 hrb8
  have hga : Grew w8 (w8.alloc (.cells (inA ⟨4, 0, noT, noT, 0, 0, 0, 0, noT, [], noT, 0, [], noT, 5⟩ A8 n8 c8 D8 m8 e8) 76)) := (Grew.rf w8).al _
  have hgb : Grew (w8.alloc (.cells (inA ⟨4, 0, noT, noT, 0, 0, 0, 0, noT, [], noT, 0, [], noT, 5⟩ A8 n8 c8 D8 m8 e8) 76)) ((w8.alloc (.cells (inA ⟨4, 0, noT, noT, 0, 0, 0, 0, noT, [], noT, 0, [], noT, 5⟩ A8 n8 c8 D8 m8 e8) 76)).alloc (.cells #[.int .u8 5, .int .u8 0, .int .u8 5, .int .u8 5, .int .u8 4, .int .u8 3, .int .u8 1] 5)) := (Grew.rf _).al _
  have hs1 := RdK.str (c := d4) (hr8.keep hga)
  have hs2 : (convert 23 9 (.slice (some ⟨w8.heap.size + 1, 0, none⟩) 7 7)).run Try.prog ((w8.alloc (.cells (inA ⟨4, 0, noT, noT, 0, 0, 0, 0, noT, [], noT, 0, [], noT, 5⟩ A8 n8 c8 D8 m8 e8) 76)).alloc (.cells #[.int .u8 5, .int .u8 0, .int .u8 5, .int .u8 5, .int .u8 4, .int .u8 3, .int .u8 1] 5)) = .ok (.string (strOfNums b2B)) ((w8.alloc (.cells (inA ⟨4, 0, noT, noT, 0, 0, 0, 0, noT, [], noT, 0, [], noT, 5⟩ A8 n8 c8 D8 m8 e8) 76)).alloc (.cells #[.int .u8 5, .int .u8 0, .int .u8 5, .int .u8 5, .int .u8 4, .int .u8 3, .int .u8 1] 5)) := RdK.str (rd_lit' b2B (by simp) rfl rfl (by decide))
  have hi8 := heap_keep hgb (heap_alloc_new w8 (.cells (inA ⟨4, 0, noT, noT, 0, 0, 0, 0, noT, [], noT, 0, [], noT, 5⟩ A8 n8 c8 D8 m8 e8) 76))
  have hx9 := heap_keep hgb (heap_keep hga hx8)
  have hy9 := heap_keep hgb (heap_keep hga hy8)
  have cx11 := cell_of_heap (i := 11) (v := .int .u64 5) hx9 rfl
  have cx2 := cell_of_heap (i := 2) (v := .int .i64 5) hx9 rfl
  have cy1 := cell_of_heap (i := 1) (v := .int .i64 3) hy9 rfl
  have cy2 := cell_of_heap (i := 2) (v := .int .i64 6) hy9 rfl
  have ci0 := cell_of_heap (i := 0) (v := .int .i64 4) hi8 rfl
  have HGE := Lib.hid ((hG8.tr hga).tr hgb)
  clear hr8 hx8 hy8 hG8 hga hgb hi8 hx9 hy9 hG2 hG3 hG4 hG5 hG6 hG7 hn8 hm8 hle4 hcap4 hnil5
  go_wp2_with fail
  go_ret
  exact ⟨rfl, HGE.out⟩
end Go.Proofs.Ytbkcpgaicoagfaa
