/- Delta's laws: the walks of Same and awake. -/
import Derived.Test.YtbkcpgaicoagfaaEg16
set_option linter.unusedVariables false
set_option linter.unusedSimpArgs false
namespace Go.Proofs.Ytbkcpgaicoagfaa
open Go.RowKit

theorem hdr_neq (x y : Hdr) (w : World) : (binOp .neq 124 (.agg #[.string x.1, .string x.2]) (.agg #[.string y.1, .string y.2])).run Try.prog w = .ok (.bool (!decide (x = y))) w := by
  rw [run_neq_struct, hdr_eqIn]; rfl
theorem list_ne {l k : List Hdr} {j : Nat} {x y : Hdr} (hx : l[j]? = some x) (hy : k[j]? = some y) (h : x ≠ y) : l ≠ k := fun e => by
  subst e
  rw [hx] at hy
  exact h (Option.some.inj hy)

set_option maxRecDepth 100000 in
set_option maxHeartbeats 1600000 in
theorem same_any (A : Option Addr) (n c : Nat) (l : List Hdr) (B : Option Addr) (m d : Nat) (k : List Hdr) (w : World) (hr : RdH w A n l) (hs : RdH w B m k) (hn : n ≤ 9223372036854775807) (hm : m ≤ 9223372036854775807) :
    Calls Try.prog 35 #[.slice A n c, .slice B m d] w fun e w' => e = .returned (.bool (decide (l = k))) ∧ Grew w w' := by
  have hl1 := hr.lenH
  have hl2 := hs.lenH
  have HR := Lib.hid hr
  have HS := Lib.hid hs
  have HL1 := Lib.hid hl1
  have HL2 := Lib.hid hl2
  by_cases hnm : n = m
  · subst hnm
    clear hr hs hl1 hl2
    go_enter Try.func35, Try.ntmps35
    go_wp2
    go_loopw [5] (fun i wr => ∃ j : Nat, i = .int .i64 (j : Int) ∧ j ≤ n ∧ Grew w wr ∧ RowKit.Hid (∀ p, p < j → l[p]? = k[p]?)) (fun i _ => n - (intOf i).toNat)
    case atStart => exact ⟨0, rfl, Nat.zero_le _, Grew.rf w, fun p hp => by omega⟩
    case round =>
      obtain ⟨j, rfl, hj, hg, HI⟩ := hrel
      by_cases hlt : j < n
      · obtain ⟨b1, o1, x, hA, hx, ha1, ha2⟩ := HR.out.atH hlt
        obtain ⟨b2, o2, y, hB, hy, hb1, hb2⟩ := HS.out.atH hlt
        subst hA; subst hB
        have ca1 := hg.ce ha1
        have ca2 := hg.ce ha2
        have cb1 := hg.ce hb1
        have cb2 := hg.ce hb2
        have HX := Lib.hid hx
        have HY := Lib.hid hy
        have HG := Lib.hid hg
        clear hx hy ha1 ha2 hb1 hb2 hg
        have hgd := hdr_guard
        have hbe := fun w => hdr_neq x y w
        have hbi := fun w => hdr_eqIn x y w
        go_wp2_with fail
        go_quiet (fail)
        clear hbe hbi hgd
        by_cases hxy : x = y
        · have hdx : decide (x = y) = true := decide_eq_true hxy
          rw [hdx]
          go_wp2
          go_roundw
          case rel =>
            refine ⟨j + 1, by go_num, by omega, HG.out.drN _, fun p hp => ?_⟩
            by_cases hpj : p = j
            · subst hpj; rw [HX.out, HY.out, hxy]
            · exact HI.out p (by omega)
          case measure => simp [intOf]; omega
        · have hdx : decide (x = y) = false := decide_eq_false hxy
          rw [hdx]
          have hf : decide (l = k) = false := decide_eq_false (list_ne HX.out HY.out hxy)
          have HF := Lib.hid hf
          clear hf
          go_wp2
          go_ret
          exact ⟨by rw [HF.out]; rfl, HG.out.drN _⟩
      · have hf : decide (l = k) = true := decide_eq_true (by
          apply List.ext_getElem?
          intro p
          by_cases hp : p < j
          · exact HI.out p hp
          · rw [List.getElem?_eq_none (by rw [HL1.out]; omega), List.getElem?_eq_none (by rw [HL2.out]; omega)])
        have HF := Lib.hid hf
        have HG := Lib.hid hg
        clear hf hg
        go_wp2
        go_ret
        exact ⟨by rw [HF.out]; rfl, HG.out⟩
  · have hf : decide (l = k) = false := decide_eq_false (fun e => by subst e; omega)
    have HF := Lib.hid hf
    have hd : decide ((n : Int) = (m : Int)) = false := decide_eq_false (by omega)
    clear hr hs hl1 hl2 hf
    go_enter Try.func35, Try.ntmps35
    go_wp2
    go_ret
    exact ⟨by rw [HF.out]; rfl, Grew.rf w⟩

/-! ### The fixed fact -/
def sC : ByteArray := ⟨#[99]⟩
def sX : ByteArray := ⟨#[120]⟩
def wasA : List Hdr := [(⟨#[97]⟩, ⟨#[]⟩), (⟨#[98]⟩, ⟨#[]⟩), (⟨#[99]⟩, ⟨#[]⟩)]
def listA : List Hdr := [(⟨#[97]⟩, ⟨#[]⟩), (⟨#[120]⟩, ⟨#[]⟩), (⟨#[99]⟩, ⟨#[]⟩)]
def bA : List Int := [1, 1, 1, 0, 1, 120, 0, 0]
theorem dput_A : putD [] wasA listA = (bA, [sX, ⟨#[]⟩]) := by decide +kernel
theorem dtake_A : takeD [] bA 0 wasA = (listA, 8, 0, [sX, ⟨#[]⟩]) := by decide +kernel
theorem dtake_B : takeD [] [0, 0, 0] 0 [] = ([], 3, 0, []) := by decide +kernel
theorem dtake_C : takeD [] [1, 0, 0] 0 [] = ([], 0, 5, []) := by decide +kernel
theorem rdH_lit3 (W : World) (x y z : Hdr) (t : TypeId) : RdH (W.alloc (.cells #[.string x.1, .string x.2, .string y.1, .string y.2, .string z.1, .string z.2] t)) (some ⟨W.heap.size, 0, none⟩) 3 [x, y, z] :=
  ⟨rfl, fun _ => ⟨_, 0, rfl, fun j u hj => by
    have hj6 : j < 6 := by have := (List.getElem?_eq_some_iff.1 hj).1; simpa [hcs] using this
    rcases (by omega : j = 0 ∨ j = 1 ∨ j = 2 ∨ j = 3 ∨ j = 4 ∨ j = 5) with rfl | rfl | rfl | rfl | rfl | rfl <;>
      (simp [hcs] at hj; subst hj; rw [World.cell?_alloc_new]; rfl)⟩⟩

set_option maxRecDepth 100000 in
set_option maxHeartbeats 3200000 in
theorem awake20_any (w : World) : Calls Try.prog 29 #[] w fun e w' => e = .returned (.bool true) ∧ Grew w w' := by
  go_enter Try.func29, Try.ntmps29
  go_wp2_with fail
  obtain ⟨b1, hb1⟩ : ∃ b1, w.heap.size = b1 := ⟨_, rfl⟩
  obtain ⟨b2, hb2⟩ : ∃ b2, b1 + 1 = b2 := ⟨_, rfl⟩
  obtain ⟨W1, hW1⟩ : ∃ W1, w.alloc (.cells #[.string ⟨#[97]⟩, .string ⟨#[]⟩, .string ⟨#[98]⟩, .string ⟨#[]⟩, .string ⟨#[99]⟩, .string ⟨#[]⟩] 124) = W1 := ⟨_, rfl⟩
  have hr1 : RdH W1 (some ⟨b1, 0, none⟩) 3 wasA := by rw [← hW1, ← hb1]; exact rdH_lit3 w (⟨#[97]⟩, ⟨#[]⟩) (⟨#[98]⟩, ⟨#[]⟩) (⟨#[99]⟩, ⟨#[]⟩) _
  have hg1 : Grew w W1 := by rw [← hW1]; exact (Grew.rf w).al _
  have hs1 : W1.heap.size = b2 := by rw [← hW1, World.size_alloc]; omega
  rw [hb1, hW1, hb2]
  obtain ⟨W2, hW2⟩ : ∃ W2, W1.alloc (.cells #[.string ⟨#[97]⟩, .string ⟨#[]⟩, .string ⟨#[120]⟩, .string ⟨#[]⟩, .string ⟨#[99]⟩, .string ⟨#[]⟩] 124) = W2 := ⟨_, rfl⟩
  have hr2 : RdH W2 (some ⟨b2, 0, none⟩) 3 listA := by rw [← hW2, ← hs1]; exact rdH_lit3 W1 (⟨#[97]⟩, ⟨#[]⟩) (⟨#[120]⟩, ⟨#[]⟩) (⟨#[99]⟩, ⟨#[]⟩) _
  have hg12 : Grew W1 W2 := by rw [← hW2]; exact (Grew.rf W1).al _
  have hg2 : Grew w W2 := hg1.tr hg12
  have hs2 : W2.heap.size = b2 + 1 := by rw [← hW2, World.size_alloc]; omega
  have hr1 := hr1.keep hg12
  rw [hW2]
  clear hW1 hW2 hs1 hg12 hg1
  refine Calls.mono (tnew_any _) ?_
  rintro e W3 ⟨p, mb, rfl, hT3, hg3, hp3, hm3⟩
  have hF3 : ∀ k, ftp p (.slice none 0 0) mb k → W2.heap.size ≤ k := by
    rintro k (rfl | rfl | h)
    · exact hp3
    · exact hm3
    · cases h
  have hput := dput_any p (.slice none 0 0) mb [] none 0 0 [] (some ⟨b1, 0, none⟩) 3 3 wasA (some ⟨b2, 0, none⟩) 3 3 listA W3 hT3 (RdK.nil _ _ _) (hr1.keep hg3) (hr2.keep hg3) (fun h => by omega) (fun _ ad e h => by cases e; have h9 : W2.heap.size ≤ b2 := hF3 _ h; omega) (by omega) (by omega) (by omega) (by omega) (by omega) (by decide) (by simp)
  rw [dput_A, List.nil_append] at hput
  have HPUT := Lib.hid hput
  have HR1 := Lib.hid hr1
  have HR2 := Lib.hid hr2
  have HF3 := Lib.hid hF3
  have HS2 := Lib.hid hs2
  have HG2 := Lib.hid hg2
  have HG3 := Lib.hid hg3
  have HB2 := Lib.hid hb2
  clear hput hr1 hr2 hF3 hs2 hg2 hg3 hb2 hT3 hb1 hp3 hm3
  go_wp2_with fail
  refine Calls.mono HPUT.out ?_
  rintro e W4 ⟨B4, n4, c4, rfl, Q4⟩
  have hn4 : n4 = 8 := by have := Q4.rd.len; exact this.symm
  subst hn4
  have hg4 : Grew w W4 := grew_chg (HG2.out.tr HG3.out) Q4.chg (fun k hk => by have := HF3.out k hk; have := HG2.out.size; omega)
  have hC24 : Grew W2 W4 := grew_chg HG3.out Q4.chg HF3.out
  have HG4 := Lib.hid hg4
  have HR1 : RowKit.Hid (RdH W4 (some ⟨b1, 0, none⟩) 3 wasA) := HR1.out.keep hC24
  have HR2 : RowKit.Hid (RdH W4 (some ⟨b2, 0, none⟩) 3 listA) := HR2.out.keep hC24
  have HB4 : RowKit.Hid (Rd W4 B4 8 bA) := Q4.rd
  have HBF : RowKit.Hid (∀ ad, B4 = some ad → ad.block < W4.heap.size) := fun ad e => by
    obtain ⟨b, o, e2, hc⟩ := Q4.rd.cells (by omega)
    rw [e2] at e; cases e
    exact lt_of_cell (hc 0 (by omega))
  have HC4 : RowKit.Hid (8 ≤ c4 ∧ c4 ≤ 9223372036854775807) := ⟨Q4.le, Q4.cap⟩
  have HZ : RowKit.Hid (b2 < W4.heap.size ∧ b1 < b2) := ⟨by have := hC24.size; have := HS2.out; omega, by have := HB2.out; omega⟩
  clear Q4 hg4 hC24 HPUT HF3 HG3 HG2 HS2
  go_wp2_with fail
  refine Calls.mono (tnew_any _) ?_
  rintro e W5 ⟨p5, mb5, rfl, hT5, hg5, hp5, hm5⟩
  have hF5 : ∀ k, ftp p5 (.slice none 0 0) mb5 k → W4.heap.size ≤ k := by
    rintro k (rfl | rfl | h)
    · exact hp5
    · exact hm5
    · cases h
  have htk := dtake_any p5 (.slice none 0 0) mb5 [] B4 8 c4 bA 0 (some ⟨b1, 0, none⟩) 3 3 wasA W5 hT5 (HB4.out.keep hg5) (HR1.out.keep hg5) (fun _ ad e h => by have := hF5 _ h; have := HBF.out ad e; omega) (fun _ ad e h => by cases e; have h9 : W4.heap.size ≤ b1 := hF5 _ h; have := HZ.out; omega) (byt_of (by decide)) HC4.out.1 HC4.out.2 (by omega) (by omega) (by omega) (by omega) (by simp) (by omega) (by omega)
  rw [dtake_A] at htk
  have HTK := Lib.hid htk
  have HF5 := Lib.hid hF5
  have HG5 := Lib.hid hg5
  clear htk hF5 hg5 hT5 hp5 hm5
  go_wp2_with fail
  refine Calls.mono HTK.out ?_
  rintro e W6 ⟨v6, rfl, ⟨_, hC6⟩, hO6, _⟩
  obtain ⟨B6, c6, rfl, hO6'⟩ := hO6 rfl
  have hg6 : Grew W4 W6 := grew_chg HG5.out hC6 HF5.out
  have hr6 : RdH W6 B6 3 listA := by
    obtain ⟨A, c, e, _, _, h⟩ := hO6'.rd
    cases e; exact h
  have HR6 := Lib.hid hr6
  have HG6 := Lib.hid hg6
  clear hr6 hg6 hO6' hO6 hC6 HTK HG5 HF5
  dsimp only
  simp only [show listA.length = 3 from rfl]
  go_wp2_with fail
  -- nothing at all
  obtain ⟨b7, hb7⟩ : ∃ b7, W6.heap.size = b7 := ⟨_, rfl⟩
  obtain ⟨W7, hW7⟩ : ∃ W7, W6.alloc (.cells #[.int .u8 0, .int .u8 0, .int .u8 0] 5) = W7 := ⟨_, rfl⟩
  have hr7 : Rd W7 (some ⟨b7, 0, none⟩) 3 [0, 0, 0] := by rw [← hW7]; exact rd_lit' [0, 0, 0] hb7 rfl rfl (by decide)
  have hg67 : Grew W6 W7 := by rw [← hW7]; exact (Grew.rf W6).al _
  have hs7 : W7.heap.size = b7 + 1 := by rw [← hW7, World.size_alloc, hb7]
  rw [hb7, hW7]
  clear hW7 hb7
  refine Calls.mono (tnew_any _) ?_
  rintro e W8 ⟨p8, mb8, rfl, hT8, hg8, hp8, hm8⟩
  have hF8 : ∀ k, ftp p8 (.slice none 0 0) mb8 k → W7.heap.size ≤ k := by
    rintro k (rfl | rfl | h)
    · exact hp8
    · exact hm8
    · cases h
  have htk := dtake_any p8 (.slice none 0 0) mb8 [] (some ⟨b7, 0, none⟩) 3 3 [0, 0, 0] 0 none 0 0 [] W8 hT8 (hr7.keep hg8) (RdV.nil _ _ _) (fun _ ad e h => by cases e; have h9 : W7.heap.size ≤ b7 := hF8 _ h; omega) (fun h => by omega) (byt_of (by decide)) (by omega) (by omega) (by omega) (by omega) (by omega) (by omega) (by simp) (by omega) (by omega)
  rw [dtake_B] at htk
  have HTK := Lib.hid htk
  have HF8 := Lib.hid hF8
  have HG8 : RowKit.Hid (Grew W6 W8) := hg67.tr hg8
  have HG78 := Lib.hid hg8
  have HG67 := Lib.hid hg67
  clear htk hF8 hg8 hT8 hp8 hm8 hr7 hg67 hs7
  go_wp2_with fail
  refine Calls.mono HTK.out ?_
  rintro e W9 ⟨v9, rfl, ⟨_, hC9⟩, _, _⟩
  have hg9 : Grew W6 W9 := HG67.out.tr (grew_chg HG78.out hC9 HF8.out)
  have HG9 := Lib.hid hg9
  clear hg9 hC9 HTK HG8 HG78 HG67 HF8
  dsimp only
  go_wp2_with fail
  -- one that is not there
  obtain ⟨b10, hb10⟩ : ∃ b10, W9.heap.size = b10 := ⟨_, rfl⟩
  obtain ⟨W10, hW10⟩ : ∃ W10, W9.alloc (.cells #[.int .u8 1, .int .u8 0, .int .u8 0] 5) = W10 := ⟨_, rfl⟩
  have hr10 : Rd W10 (some ⟨b10, 0, none⟩) 3 [1, 0, 0] := by rw [← hW10]; exact rd_lit' [1, 0, 0] hb10 rfl rfl (by decide)
  have hg910 : Grew W9 W10 := by rw [← hW10]; exact (Grew.rf W9).al _
  have hs10 : W10.heap.size = b10 + 1 := by rw [← hW10, World.size_alloc, hb10]
  rw [hb10, hW10]
  clear hW10 hb10
  refine Calls.mono (tnew_any _) ?_
  rintro e W11 ⟨p11, mb11, rfl, hT11, hg11, hp11, hm11⟩
  have hF11 : ∀ k, ftp p11 (.slice none 0 0) mb11 k → W10.heap.size ≤ k := by
    rintro k (rfl | rfl | h)
    · exact hp11
    · exact hm11
    · cases h
  have htk := dtake_any p11 (.slice none 0 0) mb11 [] (some ⟨b10, 0, none⟩) 3 3 [1, 0, 0] 0 none 0 0 [] W11 hT11 (hr10.keep hg11) (RdV.nil _ _ _) (fun _ ad e h => by cases e; have h9 : W10.heap.size ≤ b10 := hF11 _ h; omega) (fun h => by omega) (byt_of (by decide)) (by omega) (by omega) (by omega) (by omega) (by omega) (by omega) (by simp) (by omega) (by omega)
  rw [dtake_C] at htk
  have HTK := Lib.hid htk
  have HF11 := Lib.hid hF11
  have HG1011 := Lib.hid hg11
  have HG910 := Lib.hid hg910
  clear htk hF11 hg11 hT11 hp11 hm11 hr10 hg910 hs10
  go_wp2_with fail
  refine Calls.mono HTK.out ?_
  rintro e W12 ⟨v12, rfl, ⟨_, hC12⟩, _, hv12⟩
  have hg12 : Grew W9 W12 := HG910.out.tr (grew_chg HG1011.out hC12 HF11.out)
  have HG12 := Lib.hid hg12
  have hgw : Grew w W12 := ((HG4.out.tr HG6.out).tr HG9.out).tr hg12
  have hlb := HB4.out.keep ((HG6.out.tr HG9.out).tr hg12)
  have hl6 := HR6.out.keep (HG9.out.tr hg12)
  have hl2 := HR2.out.keep ((HG6.out.tr HG9.out).tr hg12)
  have HGW := Lib.hid hgw
  have HLB := Lib.hid hlb
  have HL6 := Lib.hid hl6
  have HL2 := Lib.hid hl2
  clear hg12 hC12 HTK HG1011 HG910 HF11 hgw hlb hl6 hl2 hv12 HR1 HR2 HB4 HBF HR6 HG4 HG6 HG9 HG12 HB2
  dsimp only
  have hs1 := RdK.str (c := c4) HLB.out
  have hs2 := RdK.str (c := 8) (rd_lit W12 bA (by decide))
  have hsa := fun (u : World) (hg : Grew W12 u) => same_any B6 3 3 listA (some ⟨b2, 0, none⟩) 3 3 listA u (HL6.out.keep hg) (HL2.out.keep hg) (by omega) (by omega)
  rw [show decide (listA = listA) = true by simp] at hsa
  have HSA := Lib.hid hsa
  simp only [show (nums .u8 bA).toArray = #[.int .u8 1, .int .u8 1, .int .u8 1, .int .u8 0, .int .u8 1, .int .u8 120, .int .u8 0, .int .u8 0] from rfl, show bA.length = 8 from rfl] at hs2
  obtain ⟨sb, hsb⟩ : ∃ sb, strOfNums bA = sb := ⟨_, rfl⟩
  rw [hsb] at hs1 hs2
  clear hsa hsb
  go_wp2_with (go_at_call 35; refine Calls.mono (HSA.out _ ((Grew.rf _).al _)) ?_; rintro e w13 ⟨rfl, hg13⟩)
  go_ret
  exact ⟨rfl, (HGW.out.al _).tr hg13⟩
end Go.Proofs.Ytbkcpgaicoagfaa
