/- Intern's laws: the walk of awake. -/
import Derived.Test.YtbkcpgaicoagfaaLaw19
set_option linter.unusedVariables false
set_option linter.unusedSimpArgs false
namespace Go.Proofs.Ytbkcpgaicoagfaa
open Go.RowKit

theorem U8.chg {F : Nat → Prop} {w w' : World} {A : Option Addr} (h : U8 w A) (hg : Chg F w w') (hF : ∀ ad, A = some ad → ¬ F ad.block) : U8 w' A := fun ad e => by
  obtain ⟨cs, fr, hc⟩ := h ad e
  exact ⟨cs, fr, hg.by_ hc (hF ad e)⟩
theorem U8.tab {w : World} {A : Option Addr} (h : U8 w A) {p : Nat} {lv : Value} {mb : Nat} {ts : List ByteArray} (hT : TabI w p lv mb ts) : ∀ ad, A = some ad → ¬ ftp p lv mb ad.block := by
  intro ad e hk
  obtain ⟨cs, fr, hc⟩ := h ad e
  rcases hk with hk | hk | hk
  · rw [hk, hT.cells] at hc
    simp only [Option.some.injEq, Obj.cells.injEq] at hc
    exact absurd hc.2.1 (by decide)
  · obtain ⟨es, c, hm⟩ := hT.map.isMap
    rw [hk, hm] at hc; cases hc
  · obtain ⟨cur, hl⟩ := hT.list.block hk
    rw [hl] at hc
    simp only [Option.some.injEq, Obj.cells.injEq] at hc
    exact absurd hc.2.1 (by decide)
theorem U8.ref {w : World} {A : Option Addr} (h : U8 w A) {q : Nat} {lv : Value} {ts : List ByteArray} (hR : RefI w q lv ts) : ∀ ad, A = some ad → ¬ ftr q lv ad.block := by
  intro ad e hk
  obtain ⟨cs, fr, hc⟩ := h ad e
  rcases hk with hk | hk
  · rw [hk, hR.cells] at hc
    simp only [Option.some.injEq, Obj.cells.injEq] at hc
    exact absurd hc.2.1 (by decide)
  · obtain ⟨cur, hl⟩ := hR.list.block hk
    rw [hl] at hc
    simp only [Option.some.injEq, Obj.cells.injEq] at hc
    exact absurd hc.2.1 (by decide)
/-- Two parts of memory stay apart while one of them grows by new blocks. -/
theorem apart_step {F G G' : Nat → Prop} {n : Nat} (h : ∀ k, F k → ¬ G k) (hF : ∀ k, F k → k < n) (hG : ∀ k, G' k → G k ∨ n ≤ k) : ∀ k, F k → ¬ G' k := fun k hk hg => by
  rcases hG k hg with h2 | h2
  · exact h k hk h2
  · have := hF k hk; omega

theorem low_step {G G' : Nat → Prop} {n m : Nat} (h : ∀ k, G k → n ≤ k) (hG : ∀ k, G' k → G k ∨ m ≤ k) (hn : n ≤ m) : ∀ k, G' k → n ≤ k := fun k hk => (hG k hk).elim (h k) (fun h2 => by omega)
theorem grew_chg {F : Nat → Prop} {w a b : World} (h : Grew w a) (hc : Chg F a b) (hF : ∀ k, F k → w.heap.size ≤ k) : Grew w b := h.trans (hc.low hF h.size)
theorem RdK.chgT {F : Nat → Prop} {w w' : World} {A : Option Addr} {n : Nat} {xs : List Int} (h : Rd w A n xs) (hg : Chg F w w') (hA : ∀ ad, A = some ad → ¬ F ad.block) : Rd w' A n xs := h.chg hg (fun _ => hA)
def sA : ByteArray := ⟨#[97]⟩
def sB : ByteArray := ⟨#[98]⟩
theorem put_1 : putT [] sA = ([0, 1, 97], [sA]) := by decide +kernel
theorem put_2 : putT [sA] sB = ([0, 1, 98], [sA, sB]) := by decide +kernel
theorem put_3 : putT [sA, sB] sA = ([1], [sA, sB]) := by decide +kernel
def bAb : List Int := [0, 1, 97, 0, 1, 98, 1]
theorem take_1 : takeT [] bAb 0 = (sA, 3, 0, [sA]) := by decide +kernel
theorem take_2 : takeT [sA] bAb 3 = (sB, 6, 0, [sA, sB]) := by decide +kernel
theorem take_3 : takeT [sA, sB] bAb 6 = (sA, 7, 0, [sA, sB]) := by decide +kernel
theorem take_4 : takeT [sA, sB] [3] 0 = (ByteArray.empty, 0, 5, [sA, sB]) := by decide +kernel
theorem ttake_to (p : Nat) (lv : Value) (mb : Nat) (ts : List ByteArray) (A : Option Addr) (n c : Nat) (b : List Int) (at_ : Int) (s : ByteArray) (nx er : Int) (ts' : List ByteArray) (he : takeT ts b at_ = (s, nx, er, ts')) (w : World) (hT : TabI w p lv mb ts) (hr : Rd w A n b) (hb : Byt b) (hnc : n ≤ c) (hc : c ≤ 9223372036854775807) (hn : n ≤ 100000000) (hf : ts.length < 1000000) (h0 : -9223372036854775808 ≤ at_) (h1 : at_ ≤ 9223372036854775807) :
    Calls Try.prog 27 #[.pointer (some ⟨p, 0, none⟩), .slice A n c, .int .i64 at_] w fun e w' => e = .returned (.tuple #[.string s, .int .i64 nx, .int .i64 er]) ∧ TakeQ w w' p lv mb ts' := by
  have := ttake_any p lv mb ts A n c b at_ w hT hr hb hnc hc hn hf h0 h1
  rw [he] at this
  exact this

set_option maxRecDepth 100000 in
set_option maxHeartbeats 3200000 in
theorem awake19_any (w : World) : Calls Try.prog 26 #[] w fun e w' => e = .returned (.bool true) ∧ Grew w w' := by
  go_enter Try.func26, Try.ntmps26
  go_wp2_with fail
  refine Calls.mono (tnew_any _) ?_
  rintro e w1 ⟨p1, mb1, rfl, hT1, hg1, hp1, hm1⟩
  go_wp2_with fail
  refine Calls.mono (tnew_any _) ?_
  rintro e w2 ⟨p2, mb2, rfl, hU2, hg2, hp2, hm2⟩
  have hT2 := hT1.keep hg2
  have hap2 : ∀ k, ftp p2 (.slice none 0 0) mb2 k → ¬ ftp p1 (.slice none 0 0) mb1 k := fun k hk h => by
    have := hT1.lt h
    rcases hk with rfl | rfl | hk
    · omega
    · omega
    · cases hk
  go_wp2_with fail
  refine Calls.mono (tput_any p1 _ mb1 [] sA none 0 0 [] w2 hT2 (RdK.nil _ _ _) (fun _ _ h => by cases h) (by decide) (by decide) (by decide)) ?_
  rintro e w3 ⟨B3, m3, d3, rfl, Q3⟩
  rw [put_1] at Q3
  obtain ⟨lt3, hT3, hf3, hd3⟩ := Q3.tab
  have hU3 := hU2.chg Q3.chg hap2
  have hap3 := apart_step hap2 (fun k hk => hU2.lt hk) hf3
  have hr3 := Q3.rd
  go_wp2_with fail
  refine Calls.mono (tput_any p1 lt3 mb1 [sA] sB B3 m3 d3 _ w3 hT3 hr3 (fun _ => hd3) (by decide) (by rw [← hr3.len]; decide) (by decide)) ?_
  rintro e w4 ⟨B4, m4, d4, rfl, Q4⟩
  rw [put_2] at Q4
  obtain ⟨lt4, hT4, hf4, hd4⟩ := Q4.tab
  have hU4 := hU3.chg Q4.chg hap3
  have hap4 := apart_step hap3 (fun k hk => hU3.lt hk) hf4
  have hr4 := Q4.rd
  go_wp2_with fail
  refine Calls.mono (tput_any p1 lt4 mb1 [sA, sB] sA B4 m4 d4 _ w4 hT4 hr4 (fun _ => hd4) (by decide) (by rw [← hr4.len]; decide) (by decide)) ?_
  rintro e w5 ⟨B5, m5, d5, rfl, Q5⟩
  rw [put_3] at Q5
  obtain ⟨lt5, hT5, hf5, hd5⟩ := Q5.tab
  have hU5 := hU4.chg Q5.chg hap4
  have hap5 := apart_step hap4 (fun k hk => hU4.lt hk) hf5
  have hr5 : Rd w5 B5 m5 bAb := Q5.rd
  have hu5 := Q5.u8
  have hle5 := Q5.le
  have hcap5 := Q5.cap
  obtain rfl : m5 = 7 := hr5.len.symm
  have hl2 : ∀ k, ftp p1 (.slice none 0 0) mb1 k → w.heap.size ≤ k := by
    rintro k (rfl | rfl | hk)
    · exact hp1
    · exact hm1
    · cases hk
  have hG2 : Grew w w2 := hg1.tr hg2
  have hG3 := grew_chg hG2 Q3.chg hl2
  have hl3 := low_step hl2 hf3 hG2.size
  have hG4 := grew_chg hG3 Q4.chg hl3
  have hl4 := low_step hl3 hf4 hG3.size
  have hG5 := grew_chg hG4 Q5.chg hl4
  have hl5 := low_step hl4 hf5 hG4.size
  have hk2 : ∀ k, ftp p2 (.slice none 0 0) mb2 k → w.heap.size ≤ k := by
    have := hg1.size
    rintro k (rfl | rfl | hk)
    · omega
    · omega
    · cases hk
  have hT5 : TabI w5 p1 lt5 mb1 [sA, sB] := hT5
  clear Q3 Q4 Q5 hT3 hT4 hU3 hU4 hap2 hap3 hap4 hr3 hr4 hd3 hd4 hd5
  go_wp2_with fail
  refine Calls.mono (ttake_to p2 _ mb2 [] B5 7 d5 bAb 0 _ _ _ _ take_1 w5 hU5 hr5 (byt_of (by decide)) hle5 hcap5 (by decide) (by decide) (by decide) (by decide)) ?_
  rintro e w6 ⟨rfl, ⟨lu6, hU6, hf6⟩, hC6⟩
  have hr6 := hr5.chgT hC6 (hu5.tab hU5)
  have hu6 := hu5.chg hC6 (hu5.tab hU5)
  have hT6 := hT5.chg hC6 (fun k hk h => hap5 k h hk)
  have hap6 : ∀ k, ftp p1 lt5 mb1 k → ¬ ftp p2 lu6 mb2 k := apart_step (fun k hk h => hap5 k h hk) (fun k hk => hT5.lt hk) hf6
  have hG6 := grew_chg hG5 hC6 hk2
  have hk6 := low_step hk2 hf6 hG5.size
  clear hU5 hr5 hu5 hT5 hap5 hC6 hf6
  go_wp2_with fail
  refine Calls.mono (ttake_to p2 _ mb2 [sA] B5 7 d5 bAb 3 _ _ _ _ take_2 w6 hU6 hr6 (byt_of (by decide)) hle5 hcap5 (by decide) (by decide) (by decide) (by decide)) ?_
  rintro e w7 ⟨rfl, ⟨lu7, hU7, hf7⟩, hC7⟩
  have hr7 := hr6.chgT hC7 (hu6.tab hU6)
  have hu7 := hu6.chg hC7 (hu6.tab hU6)
  have hT7 := hT6.chg hC7 hap6
  have hap7 := apart_step hap6 (fun k hk => hT6.lt hk) hf7
  have hG7 := grew_chg hG6 hC7 hk6
  have hk7 := low_step hk6 hf7 hG6.size
  clear hU6 hr6 hu6 hT6 hap6 hC7 hf7
  go_wp2_with fail
  refine Calls.mono (ttake_to p2 _ mb2 [sA, sB] B5 7 d5 bAb 6 _ _ _ _ take_3 w7 hU7 hr7 (byt_of (by decide)) hle5 hcap5 (by decide) (by decide) (by decide) (by decide)) ?_
  rintro e w8 ⟨rfl, ⟨lu8, hU8, hf8⟩, hC8⟩
  have hr8 := hr7.chgT hC8 (hu7.tab hU7)
  have hu8 := hu7.chg hC8 (hu7.tab hU7)
  have hT8 := hT7.chg hC8 hap7
  have hap8 := apart_step hap7 (fun k hk => hT7.lt hk) hf8
  have hG8 := grew_chg hG7 hC8 hk7
  have hk8 := low_step hk7 hf8 hG7.size
  clear hU7 hr7 hu7 hT7 hap7 hC8 hf8
  go_wp2_with fail
  refine Calls.mono (ttake_to p2 _ mb2 [sA, sB] (some ⟨w8.heap.size, 0, none⟩) 1 1 [3] 0 _ _ _ _ take_4 _ (hU8.keep ((Grew.rf w8).al _)) (rd_lit' [3] rfl rfl rfl (by decide)) (byt_of (by decide)) (by decide) (by decide) (by decide) (by decide) (by decide) (by decide)) ?_
  rintro e w9 ⟨rfl, ⟨lu9, hU9, hf9⟩, hC9⟩
  have hr9 := (hr8.al (.cells #[.int .u8 3] 5)).chgT hC9 (hu8.tab hU8)
  have hT9 := (hT8.keep ((Grew.rf w8).al (.cells #[.int .u8 3] 5))).chg hC9 hap8
  have hG9 := grew_chg (hG8.al (.cells #[.int .u8 3] 5)) hC9 hk8
  clear hU8 hr8 hu8 hT8 hap8 hC9 hf9
  have hs1 := RdK.str (c := d5) hr9
  have hs2 : (convert 23 9 (.slice (some ⟨w9.heap.size, 0, none⟩) 7 7)).run Try.prog (w9.alloc (.cells #[.int .u8 0, .int .u8 1, .int .u8 97, .int .u8 0, .int .u8 1, .int .u8 98, .int .u8 1] 5)) = .ok (.string (strOfNums bAb)) (w9.alloc (.cells #[.int .u8 0, .int .u8 1, .int .u8 97, .int .u8 0, .int .u8 1, .int .u8 98, .int .u8 1] 5)) := RdK.str (rd_lit' bAb rfl rfl rfl (by decide))
  have hT10 := hT9.keep ((Grew.rf w9).al (.cells #[.int .u8 0, .int .u8 1, .int .u8 97, .int .u8 0, .int .u8 1, .int .u8 98, .int .u8 1] 5))
  have hU10 := hU9.keep ((Grew.rf w9).al (.cells #[.int .u8 0, .int .u8 1, .int .u8 97, .int .u8 0, .int .u8 1, .int .u8 98, .int .u8 1] 5))
  rw [show sA = ⟨#[97]⟩ from rfl, show sB = ⟨#[98]⟩ from rfl]
  clear hT9 hU9 hr9
  go_wp2_with fail
  refine Calls.mono (tlen_any p2 _ mb2 _ _ hU10) ?_
  rintro e w11 ⟨rfl, rfl⟩
  go_wp2_with fail
  refine Calls.mono (tlen_any p1 _ mb1 _ _ hT10) ?_
  rintro e w11 ⟨rfl, rfl⟩
  go_wp2_with fail
  go_ret
  exact ⟨rfl, hG9.al _⟩
end Go.Proofs.Ytbkcpgaicoagfaa
