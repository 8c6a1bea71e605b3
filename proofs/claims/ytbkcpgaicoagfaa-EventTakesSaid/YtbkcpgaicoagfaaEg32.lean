/- The reference's Good. Printed by wip/mkEv12.py. -/
import Derived.Test.YtbkcpgaicoagfaaEg25
set_option linter.unusedVariables false
set_option linter.unusedSimpArgs false
namespace Go.Proofs.Ytbkcpgaicoagfaa
open Go.RowKit

/-- The box of y, once kind, session and tick are struck. -/
def SizedR (x : Ev) (n : Nat) : Prop := 0 ≤ x.se ∧ x.se ≤ 1048576 ∧ 0 ≤ x.ti ∧ x.ti ≤ 1099511627776 ∧ x.me.size ≤ 512 ∧ x.no.size ≤ 512 ∧ x.ur.size ≤ 2048 ∧ x.bo.size ≤ 2048 ∧ n ≤ 25
instance (x : Ev) (n : Nat) : Decidable (SizedR x n) := by unfold SizedR; infer_instance
theorem sizedR_eq (x : Ev) : sizedB x = (decide (SizedR x x.hs.length) && !x.hs.any bigH) := by
  have hh : SizedR x x.hs.length ↔ (0 ≤ x.se ∧ x.se ≤ 1048576 ∧ 0 ≤ x.ti ∧ x.ti ≤ 1099511627776 ∧ x.me.size ≤ 512 ∧ x.no.size ≤ 512 ∧ x.ur.size ≤ 2048 ∧ x.bo.size ≤ 2048 ∧ x.hs.length ≤ 25) := Iff.rfl
  rw [Bool.eq_iff_iff]
  simp only [sizedB, Bool.and_eq_true, decide_eq_true_eq, hh]
  constructor
  · rintro ⟨⟨a, b, c, d, e⟩, f, g, h, i, j⟩; exact ⟨⟨g, h, i, j, a, b, c, d, e⟩, f⟩
  · rintro ⟨⟨g, h, i, j, a, b, c, d, e⟩, f⟩; exact ⟨⟨a, b, c, d, e⟩, f, g, h, i, j⟩

section
variable {ops : Array Oper} {rest : List Oper} {o : Oper} {a : Act} {Q : Exit → Act → World → Prop} {W : World}
theorem gate_ld (ty : TypeId) (x : Operand) (ho : o.op = .load ty x) (k : wpList Try.prog ops Q (o :: rest) a W) : wpList Try.prog ops Q (o :: rest) a W := k
end
theorem same_b (x : Ev) (A : Option Addr) (n c : Nat) (y : Ev) (B : Option Addr) (m d : Nat) (w : World) (hA : RdH w A n x.hs) (hB : RdH w B m y.hs) (hn : n ≤ 1000) (hm : m ≤ 1000) (b : Bool) (hb : sameE x y = b) :
    Calls Try.prog 19 #[evV x A n c, evV y B m d] w fun e w' => e = .returned (.bool b) ∧ Grew w w' := by
  subst hb
  exact sameEvent_any x A n c y B m d w hA hB hn hm
set_option maxRecDepth 100000 in
set_option maxHeartbeats 3200000 in
theorem rgood_any (x : Ev) (A : Option Addr) (n c : Nat) (w : World) (hr : RdH w A n x.hs) (hn : n ≤ 1000) (hco : -9223372036854775808 ≤ x.co ∧ x.co ≤ 9223372036854775807) :
    Calls Try.prog 39 #[evV x A n c] w fun e w' => e = .returned (.bool (goodE x)) ∧ Grew w w' := by
  obtain ⟨ki, se, ti, me, ur, hs, bo, st, co, cr, no, nn⟩ := x
  dsimp only at hr hco
  have hl := hr.lenH
  have HZ := Lib.hid (sizedR_eq ⟨ki, se, ti, me, ur, hs, bo, st, co, cr, no, nn⟩)
  dsimp only at HZ
  rw [hl] at HZ
  have HR := Lib.hid hr
  have HL := Lib.hid hl
  clear hr hl
  have HE : RowKit.Hid (goodE ⟨ki, se, ti, me, ur, hs, bo, st, co, cr, no, nn⟩ = (sizedB ⟨ki, se, ti, me, ur, hs, bo, st, co, cr, no, nn⟩ && goodK ⟨ki, se, ti, me, ur, hs, bo, st, co, cr, no, nn⟩)) := rfl
  go_enter Try.func39, Try.ntmps39
  go_upto_region 1 with fail
  have hq0 := heap_alloc_new w (.cells #[.int .i64 ki, .int .i64 se, .int .i64 ti, .string me, .string ur, .slice A n c, .string bo, .int .i64 st, .int .i64 co, .bool cr, .string no, .int .u64 nn] 34)
  have hgW : Grew w (w.alloc (.cells #[.int .i64 ki, .int .i64 se, .int .i64 ti, .string me, .string ur, .slice A n c, .string bo, .int .i64 st, .int .i64 co, .bool cr, .string no, .int .u64 nn] 34)) := (Grew.rf w).al _
  generalize w.alloc (.cells #[.int .i64 ki, .int .i64 se, .int .i64 ti, .string me, .string ur, .slice A n c, .string bo, .int .i64 st, .int .i64 co, .bool cr, .string no, .int .u64 nn] 34) = W at *
  obtain ⟨hb, hhb⟩ : ∃ hb, w.heap.size = hb := ⟨_, rfl⟩
  rw [hhb] at hq0 ⊢
  have HHB := Lib.hid hhb
  have HQ0 : RowKit.Hid (W.heap[hb]? = some (.cells #[.int .i64 ki, .int .i64 se, .int .i64 ti, .string me, .string ur, .slice A n c, .string bo, .int .i64 st, .int .i64 co, .bool cr, .string no, .int .u64 nn] 34)) := hq0
  have HGW := Lib.hid hgW
  clear hhb hgW
  have c0 : W.cell? ⟨hb, 0, none⟩ = some (.int .i64 ki) := cell_of_heap hq0 rfl
  have c1 : W.cell? ⟨hb, 1, none⟩ = some (.int .i64 se) := cell_of_heap hq0 rfl
  have c2 : W.cell? ⟨hb, 2, none⟩ = some (.int .i64 ti) := cell_of_heap hq0 rfl
  have c3 : W.cell? ⟨hb, 3, none⟩ = some (.string me) := cell_of_heap hq0 rfl
  have c4 : W.cell? ⟨hb, 4, none⟩ = some (.string ur) := cell_of_heap hq0 rfl
  have c5 : W.cell? ⟨hb, 5, none⟩ = some (.slice A n c) := cell_of_heap hq0 rfl
  have c6 : W.cell? ⟨hb, 6, none⟩ = some (.string bo) := cell_of_heap hq0 rfl
  have c7 : W.cell? ⟨hb, 7, none⟩ = some (.int .i64 st) := cell_of_heap hq0 rfl
  have c8 : W.cell? ⟨hb, 8, none⟩ = some (.int .i64 co) := cell_of_heap hq0 rfl
  have c9 : W.cell? ⟨hb, 9, none⟩ = some (.bool cr) := cell_of_heap hq0 rfl
  have c10 : W.cell? ⟨hb, 10, none⟩ = some (.string no) := cell_of_heap hq0 rfl
  have c11 : W.cell? ⟨hb, 11, none⟩ = some (.int .u64 nn) := cell_of_heap hq0 rfl
  clear hq0
  go_cut [54] from 7 to 54 (fun f wx => f = .bool (!decide (SizedR ⟨ki, se, ti, me, ur, hs, bo, st, co, cr, no, nn⟩ n)) ∧ W = wx)
  case first =>
    go_wp2
    all_goals
      go_meet
      refine ⟨congrArg Value.bool ?_, rfl⟩
      rw [Bool.eq_iff_iff]
      have hh : SizedR ⟨ki, se, ti, me, ur, hs, bo, st, co, cr, no, nn⟩ n ↔ (0 ≤ se ∧ se ≤ 1048576 ∧ 0 ≤ ti ∧ ti ≤ 1099511627776 ∧ me.size ≤ 512 ∧ no.size ≤ 512 ∧ ur.size ≤ 2048 ∧ bo.size ≤ 2048 ∧ n ≤ 25) := Iff.rfl
      clear HE HZ
      simp only [Bool.not_eq_true', decide_eq_false_iff_not, hh]
      first | (simp; omega) | (simp at *; omega)
  case rest =>
  obtain ⟨rfl, hwe⟩ := hcut
  subst hwe
  by_cases hs1 : SizedR ⟨ki, se, ti, me, ur, hs, bo, st, co, cr, no, nn⟩ n
  case neg =>
    have hd : decide (SizedR ⟨ki, se, ti, me, ur, hs, bo, st, co, cr, no, nn⟩ n) = false := decide_eq_false hs1
    rw [hd] at HZ ⊢
    have hge : goodE ⟨ki, se, ti, me, ur, hs, bo, st, co, cr, no, nn⟩ = false := by rw [HE.out, HZ.out]; rfl
    have HGE := Lib.hid hge
    clear hge hs1 hd
    go_wp2
    go_ret
    exact ⟨by rw [HGE.out]; rfl, HGW.out⟩
  case pos =>
  have hd : decide (SizedR ⟨ki, se, ti, me, ur, hs, bo, st, co, cr, no, nn⟩ n) = true := decide_eq_true hs1
  rw [hd] at HZ ⊢
  clear hs1 hd
  go_wp2
  go_loopw [3] (fun i wr => ∃ j : Nat, i = .int .i64 (j : Int) ∧ j ≤ n ∧ W = wr ∧ RowKit.Hid (∀ k y, k < j → hs[k]? = some y → bigH y = false)) (fun i _ => n - (intOf i).toNat)
  case atStart => exact ⟨0, rfl, Nat.zero_le _, rfl, fun k y hk => by omega⟩
  case round =>
    obtain ⟨j, rfl, hj, hwr, HI⟩ := hrel
    subst hwr
    by_cases hlt : j < n
    · obtain ⟨b, o, x, hA, hx, hc0, hc1⟩ := HR.out.atH hlt
      have k0 := HGW.out.ce hc0
      have k1 := HGW.out.ce hc1
      have HX := Lib.hid hx
      subst hA
      clear hx hc0 hc1
      obtain ⟨x1, x2⟩ := x
      dsimp only at k0 k1
      by_cases hbg : bigH (x1, x2) = true
      · have hany : hs.any bigH = true := List.any_eq_true.2 ⟨_, List.mem_of_getElem? HX.out, hbg⟩
        rw [hany] at HZ
        have hge : goodE ⟨ki, se, ti, me, ur, hs, bo, st, co, cr, no, nn⟩ = false := by rw [HE.out, HZ.out]; rfl
        have HGE := Lib.hid hge
        have hbb : 512 < x1.size ∨ 2048 < x2.size := by unfold bigH at hbg; simpa using hbg
        have HB := Lib.hid hbb
        clear hbb
        clear hge hbg hany
        go_wp2
        all_goals first
          | (go_ret; exact ⟨by rw [HGE.out]; rfl, HGW.out⟩)
          | (exfalso; have := HB.out; clear HB HE HZ HI; simp at *; omega)
      · have hbf : bigH (x1, x2) = false := by simpa using hbg
        have hbb : ¬ 512 < x1.size ∧ ¬ 2048 < x2.size := by unfold bigH at hbf; simpa using hbf
        have HBF := Lib.hid hbf
        obtain ⟨hb1, hb2⟩ := hbb
        clear hbg hbf
        go_wp2
        go_roundw
        case rel =>
          refine ⟨_, _, _, _, _, _, _, _, _, _, _, _, _, _, _, _, _, _, _, _, _, _, _, _, _, _, _, ?_, rfl⟩
          refine ⟨j + 1, by go_num, by omega, trivial, fun k y hk hy => ?_⟩
          by_cases hkj : k = j
          · subst hkj
            rw [HX.out] at hy
            cases hy
            exact HBF.out
          · exact HI.out k y (by omega) hy
        case measure => simp [intOf]; omega
    · have hany : hs.any bigH = false := by
        rw [List.any_eq_false]
        intro y hy
        obtain ⟨k, hk⟩ := List.getElem?_of_mem hy
        have hkl := (List.getElem?_eq_some_iff.1 hk).1
        have := HI.out k y (by have := HL.out; omega) hk
        simpa using this
      rw [hany] at HZ
      have hge : goodE ⟨ki, se, ti, me, ur, hs, bo, st, co, cr, no, nn⟩ = goodK ⟨ki, se, ti, me, ur, hs, bo, st, co, cr, no, nn⟩ := by rw [HE.out, HZ.out]; rfl
      have HGE := Lib.hid hge
      clear hge hany HI HE HZ
      go_upto_region 9 with fail
      have hy0 := heap_keep ((Grew.rf _).al (.cells #[.int .i64 ki, .int .i64 se, .int .i64 ti, .string me, .string ur, .slice A n c, .string bo, .int .i64 st, .int .i64 co, .bool cr, .string no, .int .u64 nn] 34)) HQ0.out
      have hy1 := heap_alloc_new W (.cells #[.int .i64 ki, .int .i64 se, .int .i64 ti, .string me, .string ur, .slice A n c, .string bo, .int .i64 st, .int .i64 co, .bool cr, .string no, .int .u64 nn] 34)
      have hgW1 : Grew w (W.alloc (.cells #[.int .i64 ki, .int .i64 se, .int .i64 ti, .string me, .string ur, .slice A n c, .string bo, .int .i64 st, .int .i64 co, .bool cr, .string no, .int .u64 nn] 34)) := HGW.out.al _
      have hlt2 : w.heap.size < W.heap.size := by have := (Array.getElem?_eq_some_iff.1 HQ0.out).1; rw [HHB.out]; exact this
      rw [HHB.out] at hlt2
      generalize W.alloc (.cells #[.int .i64 ki, .int .i64 se, .int .i64 ti, .string me, .string ur, .slice A n c, .string bo, .int .i64 st, .int .i64 co, .bool cr, .string no, .int .u64 nn] 34) = W1 at *
      obtain ⟨yb, hyb0⟩ : ∃ yb, W.heap.size = yb := ⟨_, rfl⟩
      rw [hyb0] at hy1 hlt2 ⊢
      have hyb : w.heap.size ≤ yb := by rw [HHB.out]; omega
      have hne : hb ≠ yb := by omega
      clear hyb0 c0 c1 c2 c3 c4 c5 c6 c7 c8 c9 c10 c11 hlt hj hlt2
      have k100 : W1.cell? ⟨yb, 0, none⟩ = some (.int .i64 ki) := cell_of_heap hy1 rfl
      have f100 : W1.frozen? ⟨yb, 0, none⟩ = false := frozen_of_heap hy1
      have y0 : (W1.setCell ⟨yb, 0, none⟩ (.int .i64 0)).heap[yb]? = some (.cells #[.int .i64 0, .int .i64 se, .int .i64 ti, .string me, .string ur, .slice A n c, .string bo, .int .i64 st, .int .i64 co, .bool cr, .string no, .int .u64 nn] 34) := by have := setCell_heap_same hy1 (i := 0) (.int .i64 0); simpa using this
      have x0 : (W1.setCell ⟨yb, 0, none⟩ (.int .i64 0)).heap[hb]? = some (.cells #[.int .i64 ki, .int .i64 se, .int .i64 ti, .string me, .string ur, .slice A n c, .string bo, .int .i64 st, .int .i64 co, .bool cr, .string no, .int .u64 nn] 34) := (setCell_heap_other _ _ _ hne).trans hy0
      have g0 : Grew w (W1.setCell ⟨yb, 0, none⟩ (.int .i64 0)) := hgW1.st (p := ⟨yb, 0, none⟩) hyb _
      have k101 : (W1.setCell ⟨yb, 0, none⟩ (.int .i64 0)).cell? ⟨yb, 1, none⟩ = some (.int .i64 se) := cell_of_heap y0 rfl
      have f101 : (W1.setCell ⟨yb, 0, none⟩ (.int .i64 0)).frozen? ⟨yb, 1, none⟩ = false := frozen_of_heap y0
      have y1 : ((W1.setCell ⟨yb, 0, none⟩ (.int .i64 0)).setCell ⟨yb, 1, none⟩ (.int .i64 0)).heap[yb]? = some (.cells #[.int .i64 0, .int .i64 0, .int .i64 ti, .string me, .string ur, .slice A n c, .string bo, .int .i64 st, .int .i64 co, .bool cr, .string no, .int .u64 nn] 34) := by have := setCell_heap_same y0 (i := 1) (.int .i64 0); simpa using this
      have x1 : ((W1.setCell ⟨yb, 0, none⟩ (.int .i64 0)).setCell ⟨yb, 1, none⟩ (.int .i64 0)).heap[hb]? = some (.cells #[.int .i64 ki, .int .i64 se, .int .i64 ti, .string me, .string ur, .slice A n c, .string bo, .int .i64 st, .int .i64 co, .bool cr, .string no, .int .u64 nn] 34) := (setCell_heap_other _ _ _ hne).trans x0
      have g1 : Grew w ((W1.setCell ⟨yb, 0, none⟩ (.int .i64 0)).setCell ⟨yb, 1, none⟩ (.int .i64 0)) := g0.st (p := ⟨yb, 1, none⟩) hyb _
      have k102 : ((W1.setCell ⟨yb, 0, none⟩ (.int .i64 0)).setCell ⟨yb, 1, none⟩ (.int .i64 0)).cell? ⟨yb, 2, none⟩ = some (.int .i64 ti) := cell_of_heap y1 rfl
      have f102 : ((W1.setCell ⟨yb, 0, none⟩ (.int .i64 0)).setCell ⟨yb, 1, none⟩ (.int .i64 0)).frozen? ⟨yb, 2, none⟩ = false := frozen_of_heap y1
      have y2 : (((W1.setCell ⟨yb, 0, none⟩ (.int .i64 0)).setCell ⟨yb, 1, none⟩ (.int .i64 0)).setCell ⟨yb, 2, none⟩ (.int .i64 0)).heap[yb]? = some (.cells #[.int .i64 0, .int .i64 0, .int .i64 0, .string me, .string ur, .slice A n c, .string bo, .int .i64 st, .int .i64 co, .bool cr, .string no, .int .u64 nn] 34) := by have := setCell_heap_same y1 (i := 2) (.int .i64 0); simpa using this
      have x2 : (((W1.setCell ⟨yb, 0, none⟩ (.int .i64 0)).setCell ⟨yb, 1, none⟩ (.int .i64 0)).setCell ⟨yb, 2, none⟩ (.int .i64 0)).heap[hb]? = some (.cells #[.int .i64 ki, .int .i64 se, .int .i64 ti, .string me, .string ur, .slice A n c, .string bo, .int .i64 st, .int .i64 co, .bool cr, .string no, .int .u64 nn] 34) := (setCell_heap_other _ _ _ hne).trans x1
      have g2 : Grew w (((W1.setCell ⟨yb, 0, none⟩ (.int .i64 0)).setCell ⟨yb, 1, none⟩ (.int .i64 0)).setCell ⟨yb, 2, none⟩ (.int .i64 0)) := g1.st (p := ⟨yb, 2, none⟩) hyb _
      have HYB := Lib.hid hyb
      have HNE := Lib.hid hne
      have HY := Lib.hid y2
      have HX := Lib.hid x2
      have HG := Lib.hid g2
      clear hyb hne hy0 hy1 hgW1 y0 y1 y2 x0 x1 x2 g0 g1 g2
      go_upto_region 11 with fail
      generalize (((W1.setCell ⟨yb, 0, none⟩ (.int .i64 0)).setCell ⟨yb, 1, none⟩ (.int .i64 0)).setCell ⟨yb, 2, none⟩ (.int .i64 0)) = W1 at *
      clear k100 k101 k102 f100 f101 f102
      have c0 : W1.cell? ⟨hb, 0, none⟩ = some (.int .i64 ki) := cell_of_heap HX.out rfl
      by_cases hk4 : ki = 4
      · subst hk4
        have hge : goodE ⟨4, se, ti, me, ur, hs, bo, st, co, cr, no, nn⟩ = decide (me = noT ∧ ur = noT ∧ hs = [] ∧ bo = noT ∧ st = 0 ∧ co = 0 ∧ cr = false ∧ no = noT ∧ nn = 0) := HGE.out
        clear HGE
        have hyb := HYB.out
        have hne := HNE.out
        have hy1 := HY.out
        have hy0 := HX.out
        have hgW1 := HG.out
        have HF := Lib.hid hy1
        have HGF := Lib.hid hgW1
        clear hyb hne hy1 hgW1 
        have c1 : W1.cell? ⟨hb, 1, none⟩ = some (.int .i64 se) := cell_of_heap hy0 rfl
        have c7 : W1.cell? ⟨hb, 7, none⟩ = some (.int .i64 st) := cell_of_heap hy0 rfl
        have c8 : W1.cell? ⟨hb, 8, none⟩ = some (.int .i64 co) := cell_of_heap hy0 rfl
        have c11 : W1.cell? ⟨hb, 11, none⟩ = some (.int .u64 nn) := cell_of_heap hy0 rfl
        clear hy0
        have HGE := Lib.hid hge
        clear hge
        go_upto_region 32 with fail
        have hsm := same_b ⟨0, 0, 0, me, ur, hs, bo, st, co, cr, no, nn⟩ A n c ⟨0, 0, 0, noT, noT, [], noT, 0, 0, false, noT, 0⟩ none 0 0 W1 (HR.out.keep HGF.out) (RdV.nil _ _ _) (by omega) (by omega) (decide (me = noT ∧ ur = noT ∧ hs = [] ∧ bo = noT ∧ st = 0 ∧ co = 0 ∧ cr = false ∧ no = noT ∧ nn = 0)) (by simp [sameE])
        generalize decide (me = noT ∧ ur = noT ∧ hs = [] ∧ bo = noT ∧ st = 0 ∧ co = 0 ∧ cr = false ∧ no = noT ∧ nn = 0) = bb at hsm HGE
        have HSM := Lib.hid hsm
        clear hsm
        go_wp2_with (first | ((with_reducible refine gate_ld 34 (.tmp 4) rfl ?_); refine ld_row (.inr rfl) rfl rfl HF.out rfl Try.underlying34 (by kernel_rfl) ?_) | (go_at_call 19; refine Calls.mono HSM.out ?_; rintro e w3 ⟨rfl, hg3⟩))
        go_ret
        refine ⟨congrArg (fun b => Ending.returned (Value.bool b)) ?_, ?_⟩
        · refine Eq.trans ?_ HGE.out.symm
          clear HGE HF HSM HY HX HG HGF HR HL HQ0
          cases bb <;> first | (simp [*]; done) | (rw [Bool.eq_iff_iff]; simp [*]; done) | (simp; omega) | (rw [Bool.eq_iff_iff]; simp [*]; omega)
        · first | exact HGF.out.tr hg3 | exact HGF.out
      by_cases hk5 : ki = 5
      · subst hk5
        have hge : goodE ⟨5, se, ti, me, ur, hs, bo, st, co, cr, no, nn⟩ = (decide (me = noT ∧ ur = noT ∧ hs = [] ∧ bo = noT ∧ st = 0 ∧ co = 0 ∧ cr = false ∧ no = noT) && (decide (nn ≤ 1099511627776) && decide (se = 0))) := HGE.out
        clear HGE
        have hyb := HYB.out
        have hne := HNE.out
        have hy1 := HY.out
        have hy0 := HX.out
        have hgW1 := HG.out
        have k100 : W1.cell? ⟨yb, 11, none⟩ = some (.int .u64 nn) := cell_of_heap hy1 rfl
        have f100 : W1.frozen? ⟨yb, 11, none⟩ = false := frozen_of_heap hy1
        have y0 : (W1.setCell ⟨yb, 11, none⟩ (.int .u64 0)).heap[yb]? = some (.cells #[.int .i64 0, .int .i64 0, .int .i64 0, .string me, .string ur, .slice A n c, .string bo, .int .i64 st, .int .i64 co, .bool cr, .string no, .int .u64 0] 34) := by have := setCell_heap_same hy1 (i := 11) (.int .u64 0); simpa using this
        have x0 : (W1.setCell ⟨yb, 11, none⟩ (.int .u64 0)).heap[hb]? = some (.cells #[.int .i64 5, .int .i64 se, .int .i64 ti, .string me, .string ur, .slice A n c, .string bo, .int .i64 st, .int .i64 co, .bool cr, .string no, .int .u64 nn] 34) := (setCell_heap_other _ _ _ hne).trans hy0
        have g0 : Grew w (W1.setCell ⟨yb, 11, none⟩ (.int .u64 0)) := hgW1.st (p := ⟨yb, 11, none⟩) hyb _
        have HF := Lib.hid y0
        have HGF := Lib.hid g0
        clear hyb hne hy1 hgW1 y0 x0 g0
        have c1 : W1.cell? ⟨hb, 1, none⟩ = some (.int .i64 se) := cell_of_heap hy0 rfl
        have c7 : W1.cell? ⟨hb, 7, none⟩ = some (.int .i64 st) := cell_of_heap hy0 rfl
        have c8 : W1.cell? ⟨hb, 8, none⟩ = some (.int .i64 co) := cell_of_heap hy0 rfl
        have c11 : W1.cell? ⟨hb, 11, none⟩ = some (.int .u64 nn) := cell_of_heap hy0 rfl
        clear hy0
        have HGE := Lib.hid hge
        clear hge
        by_cases q0 : nn ≤ 1099511627776
        · skip
          have d0 : decide (nn ≤ 1099511627776) = true := decide_eq_true q0
          by_cases q1 : se = 0
          · skip
            have d1 : decide (se = 0) = true := decide_eq_true q1
            have e1 : (se == 0) = true := by simpa using q1
            go_upto_region 32 with fail
            generalize (W1.setCell ⟨yb, 11, none⟩ (.int .u64 0)) = W9 at *
            clear k100 f100
            have hsm := same_b ⟨0, 0, 0, me, ur, hs, bo, st, co, cr, no, 0⟩ A n c ⟨0, 0, 0, noT, noT, [], noT, 0, 0, false, noT, 0⟩ none 0 0 W9 (HR.out.keep HGF.out) (RdV.nil _ _ _) (by omega) (by omega) (decide (me = noT ∧ ur = noT ∧ hs = [] ∧ bo = noT ∧ st = 0 ∧ co = 0 ∧ cr = false ∧ no = noT)) (by simp [sameE])
            generalize decide (me = noT ∧ ur = noT ∧ hs = [] ∧ bo = noT ∧ st = 0 ∧ co = 0 ∧ cr = false ∧ no = noT) = bb at hsm HGE
            have HSM := Lib.hid hsm
            clear hsm
            go_wp2_with (first | ((with_reducible refine gate_ld 34 (.tmp 4) rfl ?_); refine ld_row (.inr rfl) rfl rfl HF.out rfl Try.underlying34 (by kernel_rfl) ?_) | (go_at_call 19; refine Calls.mono HSM.out ?_; rintro e w3 ⟨rfl, hg3⟩))
            go_ret
            refine ⟨congrArg (fun b => Ending.returned (Value.bool b)) ?_, ?_⟩
            · refine Eq.trans ?_ HGE.out.symm
              clear HGE HF HSM HY HX HG HGF HR HL HQ0
              cases bb <;> first | (simp [*]; done) | (rw [Bool.eq_iff_iff]; simp [*]; done) | (simp; omega) | (rw [Bool.eq_iff_iff]; simp [*]; omega)
            · first | exact HGF.out.tr hg3 | exact HGF.out
          · skip
            have d1 : decide (se = 0) = false := decide_eq_false q1
            have e1 : (se == 0) = false := by simpa using q1
            go_upto_region 32 with fail
            generalize (W1.setCell ⟨yb, 11, none⟩ (.int .u64 0)) = W9 at *
            clear k100 f100
            have hsm := same_b ⟨0, 0, 0, me, ur, hs, bo, st, co, cr, no, 0⟩ A n c ⟨0, 0, 0, noT, noT, [], noT, 0, 0, false, noT, 0⟩ none 0 0 W9 (HR.out.keep HGF.out) (RdV.nil _ _ _) (by omega) (by omega) (decide (me = noT ∧ ur = noT ∧ hs = [] ∧ bo = noT ∧ st = 0 ∧ co = 0 ∧ cr = false ∧ no = noT)) (by simp [sameE])
            generalize decide (me = noT ∧ ur = noT ∧ hs = [] ∧ bo = noT ∧ st = 0 ∧ co = 0 ∧ cr = false ∧ no = noT) = bb at hsm HGE
            have HSM := Lib.hid hsm
            clear hsm
            go_wp2_with (first | ((with_reducible refine gate_ld 34 (.tmp 4) rfl ?_); refine ld_row (.inr rfl) rfl rfl HF.out rfl Try.underlying34 (by kernel_rfl) ?_) | (go_at_call 19; refine Calls.mono HSM.out ?_; rintro e w3 ⟨rfl, hg3⟩))
            go_ret
            refine ⟨congrArg (fun b => Ending.returned (Value.bool b)) ?_, ?_⟩
            · refine Eq.trans ?_ HGE.out.symm
              clear HGE HF HSM HY HX HG HGF HR HL HQ0
              cases bb <;> first | (simp [*]; done) | (rw [Bool.eq_iff_iff]; simp [*]; done) | (simp; omega) | (rw [Bool.eq_iff_iff]; simp [*]; omega)
            · first | exact HGF.out.tr hg3 | exact HGF.out
        · skip
          have d0 : decide (nn ≤ 1099511627776) = false := decide_eq_false q0
          go_upto_region 32 with fail
          generalize (W1.setCell ⟨yb, 11, none⟩ (.int .u64 0)) = W9 at *
          clear k100 f100
          have hsm := same_b ⟨0, 0, 0, me, ur, hs, bo, st, co, cr, no, 0⟩ A n c ⟨0, 0, 0, noT, noT, [], noT, 0, 0, false, noT, 0⟩ none 0 0 W9 (HR.out.keep HGF.out) (RdV.nil _ _ _) (by omega) (by omega) (decide (me = noT ∧ ur = noT ∧ hs = [] ∧ bo = noT ∧ st = 0 ∧ co = 0 ∧ cr = false ∧ no = noT)) (by simp [sameE])
          generalize decide (me = noT ∧ ur = noT ∧ hs = [] ∧ bo = noT ∧ st = 0 ∧ co = 0 ∧ cr = false ∧ no = noT) = bb at hsm HGE
          have HSM := Lib.hid hsm
          clear hsm
          go_wp2_with (first | ((with_reducible refine gate_ld 34 (.tmp 4) rfl ?_); refine ld_row (.inr rfl) rfl rfl HF.out rfl Try.underlying34 (by kernel_rfl) ?_) | (go_at_call 19; refine Calls.mono HSM.out ?_; rintro e w3 ⟨rfl, hg3⟩))
          go_ret
          refine ⟨congrArg (fun b => Ending.returned (Value.bool b)) ?_, ?_⟩
          · refine Eq.trans ?_ HGE.out.symm
            clear HGE HF HSM HY HX HG HGF HR HL HQ0
            cases bb <;> first | (simp [*]; done) | (rw [Bool.eq_iff_iff]; simp [*]; done) | (simp; omega) | (rw [Bool.eq_iff_iff]; simp [*]; omega)
          · first | exact HGF.out.tr hg3 | exact HGF.out
      by_cases hk6 : ki = 6
      · subst hk6
        have hge : goodE ⟨6, se, ti, me, ur, hs, bo, st, co, cr, no, nn⟩ = decide (me = noT ∧ ur = noT ∧ hs = [] ∧ bo = noT ∧ st = 0 ∧ co = 0 ∧ cr = false ∧ no = noT) := HGE.out
        clear HGE
        have hyb := HYB.out
        have hne := HNE.out
        have hy1 := HY.out
        have hy0 := HX.out
        have hgW1 := HG.out
        have k100 : W1.cell? ⟨yb, 11, none⟩ = some (.int .u64 nn) := cell_of_heap hy1 rfl
        have f100 : W1.frozen? ⟨yb, 11, none⟩ = false := frozen_of_heap hy1
        have y0 : (W1.setCell ⟨yb, 11, none⟩ (.int .u64 0)).heap[yb]? = some (.cells #[.int .i64 0, .int .i64 0, .int .i64 0, .string me, .string ur, .slice A n c, .string bo, .int .i64 st, .int .i64 co, .bool cr, .string no, .int .u64 0] 34) := by have := setCell_heap_same hy1 (i := 11) (.int .u64 0); simpa using this
        have x0 : (W1.setCell ⟨yb, 11, none⟩ (.int .u64 0)).heap[hb]? = some (.cells #[.int .i64 6, .int .i64 se, .int .i64 ti, .string me, .string ur, .slice A n c, .string bo, .int .i64 st, .int .i64 co, .bool cr, .string no, .int .u64 nn] 34) := (setCell_heap_other _ _ _ hne).trans hy0
        have g0 : Grew w (W1.setCell ⟨yb, 11, none⟩ (.int .u64 0)) := hgW1.st (p := ⟨yb, 11, none⟩) hyb _
        have HF := Lib.hid y0
        have HGF := Lib.hid g0
        clear hyb hne hy1 hgW1 y0 x0 g0
        have c1 : W1.cell? ⟨hb, 1, none⟩ = some (.int .i64 se) := cell_of_heap hy0 rfl
        have c7 : W1.cell? ⟨hb, 7, none⟩ = some (.int .i64 st) := cell_of_heap hy0 rfl
        have c8 : W1.cell? ⟨hb, 8, none⟩ = some (.int .i64 co) := cell_of_heap hy0 rfl
        have c11 : W1.cell? ⟨hb, 11, none⟩ = some (.int .u64 nn) := cell_of_heap hy0 rfl
        clear hy0
        have HGE := Lib.hid hge
        clear hge
        go_upto_region 32 with fail
        generalize (W1.setCell ⟨yb, 11, none⟩ (.int .u64 0)) = W9 at *
        clear k100 f100
        have hsm := same_b ⟨0, 0, 0, me, ur, hs, bo, st, co, cr, no, 0⟩ A n c ⟨0, 0, 0, noT, noT, [], noT, 0, 0, false, noT, 0⟩ none 0 0 W9 (HR.out.keep HGF.out) (RdV.nil _ _ _) (by omega) (by omega) (decide (me = noT ∧ ur = noT ∧ hs = [] ∧ bo = noT ∧ st = 0 ∧ co = 0 ∧ cr = false ∧ no = noT)) (by simp [sameE])
        generalize decide (me = noT ∧ ur = noT ∧ hs = [] ∧ bo = noT ∧ st = 0 ∧ co = 0 ∧ cr = false ∧ no = noT) = bb at hsm HGE
        have HSM := Lib.hid hsm
        clear hsm
        go_wp2_with (first | ((with_reducible refine gate_ld 34 (.tmp 4) rfl ?_); refine ld_row (.inr rfl) rfl rfl HF.out rfl Try.underlying34 (by kernel_rfl) ?_) | (go_at_call 19; refine Calls.mono HSM.out ?_; rintro e w3 ⟨rfl, hg3⟩))
        go_ret
        refine ⟨congrArg (fun b => Ending.returned (Value.bool b)) ?_, ?_⟩
        · refine Eq.trans ?_ HGE.out.symm
          clear HGE HF HSM HY HX HG HGF HR HL HQ0
          cases bb <;> first | (simp [*]; done) | (rw [Bool.eq_iff_iff]; simp [*]; done) | (simp; omega) | (rw [Bool.eq_iff_iff]; simp [*]; omega)
        · first | exact HGF.out.tr hg3 | exact HGF.out
      by_cases hk7 : ki = 7
      · subst hk7
        have hge : goodE ⟨7, se, ti, me, ur, hs, bo, st, co, cr, no, nn⟩ = (decide (me = noT ∧ ur = noT ∧ hs = [] ∧ bo = noT ∧ cr = false ∧ no = noT ∧ nn = 0) && (decide (1 ≤ co ∧ co ≤ 16) && decide (0 ≤ st ∧ st ≤ 599))) := HGE.out
        clear HGE
        have hyb := HYB.out
        have hne := HNE.out
        have hy1 := HY.out
        have hy0 := HX.out
        have hgW1 := HG.out
        have k100 : W1.cell? ⟨yb, 8, none⟩ = some (.int .i64 co) := cell_of_heap hy1 rfl
        have f100 : W1.frozen? ⟨yb, 8, none⟩ = false := frozen_of_heap hy1
        have y0 : (W1.setCell ⟨yb, 8, none⟩ (.int .i64 0)).heap[yb]? = some (.cells #[.int .i64 0, .int .i64 0, .int .i64 0, .string me, .string ur, .slice A n c, .string bo, .int .i64 st, .int .i64 0, .bool cr, .string no, .int .u64 nn] 34) := by have := setCell_heap_same hy1 (i := 8) (.int .i64 0); simpa using this
        have x0 : (W1.setCell ⟨yb, 8, none⟩ (.int .i64 0)).heap[hb]? = some (.cells #[.int .i64 7, .int .i64 se, .int .i64 ti, .string me, .string ur, .slice A n c, .string bo, .int .i64 st, .int .i64 co, .bool cr, .string no, .int .u64 nn] 34) := (setCell_heap_other _ _ _ hne).trans hy0
        have g0 : Grew w (W1.setCell ⟨yb, 8, none⟩ (.int .i64 0)) := hgW1.st (p := ⟨yb, 8, none⟩) hyb _
        have k101 : (W1.setCell ⟨yb, 8, none⟩ (.int .i64 0)).cell? ⟨yb, 7, none⟩ = some (.int .i64 st) := cell_of_heap y0 rfl
        have f101 : (W1.setCell ⟨yb, 8, none⟩ (.int .i64 0)).frozen? ⟨yb, 7, none⟩ = false := frozen_of_heap y0
        have y1 : ((W1.setCell ⟨yb, 8, none⟩ (.int .i64 0)).setCell ⟨yb, 7, none⟩ (.int .i64 0)).heap[yb]? = some (.cells #[.int .i64 0, .int .i64 0, .int .i64 0, .string me, .string ur, .slice A n c, .string bo, .int .i64 0, .int .i64 0, .bool cr, .string no, .int .u64 nn] 34) := by have := setCell_heap_same y0 (i := 7) (.int .i64 0); simpa using this
        have x1 : ((W1.setCell ⟨yb, 8, none⟩ (.int .i64 0)).setCell ⟨yb, 7, none⟩ (.int .i64 0)).heap[hb]? = some (.cells #[.int .i64 7, .int .i64 se, .int .i64 ti, .string me, .string ur, .slice A n c, .string bo, .int .i64 st, .int .i64 co, .bool cr, .string no, .int .u64 nn] 34) := (setCell_heap_other _ _ _ hne).trans x0
        have g1 : Grew w ((W1.setCell ⟨yb, 8, none⟩ (.int .i64 0)).setCell ⟨yb, 7, none⟩ (.int .i64 0)) := g0.st (p := ⟨yb, 7, none⟩) hyb _
        have HF := Lib.hid y1
        have HGF := Lib.hid g1
        clear hyb hne hy1 hgW1 y0 x0 g0 y1 x1 g1
        have c1 : W1.cell? ⟨hb, 1, none⟩ = some (.int .i64 se) := cell_of_heap hy0 rfl
        have c7 : W1.cell? ⟨hb, 7, none⟩ = some (.int .i64 st) := cell_of_heap hy0 rfl
        have c8 : W1.cell? ⟨hb, 8, none⟩ = some (.int .i64 co) := cell_of_heap hy0 rfl
        have c11 : W1.cell? ⟨hb, 11, none⟩ = some (.int .u64 nn) := cell_of_heap hy0 rfl
        clear hy0
        have HGE := Lib.hid hge
        clear hge
        by_cases q0 : 1 ≤ co
        · skip
          have d0 : decide (1 ≤ co) = true := decide_eq_true q0
          by_cases q1 : co ≤ 16
          · skip
            have d1 : decide (co ≤ 16) = true := decide_eq_true q1
            by_cases q2 : 0 ≤ st
            · skip
              have d2 : decide (0 ≤ st) = true := decide_eq_true q2
              by_cases q3 : st < 600
              · skip
                have d3 : decide (st < 600) = true := decide_eq_true q3
                go_upto_region 32 with fail
                generalize ((W1.setCell ⟨yb, 8, none⟩ (.int .i64 0)).setCell ⟨yb, 7, none⟩ (.int .i64 0)) = W9 at *
                clear k100 f100 k101 f101
                have hsm := same_b ⟨0, 0, 0, me, ur, hs, bo, 0, 0, cr, no, nn⟩ A n c ⟨0, 0, 0, noT, noT, [], noT, 0, 0, false, noT, 0⟩ none 0 0 W9 (HR.out.keep HGF.out) (RdV.nil _ _ _) (by omega) (by omega) (decide (me = noT ∧ ur = noT ∧ hs = [] ∧ bo = noT ∧ cr = false ∧ no = noT ∧ nn = 0)) (by simp [sameE])
                generalize decide (me = noT ∧ ur = noT ∧ hs = [] ∧ bo = noT ∧ cr = false ∧ no = noT ∧ nn = 0) = bb at hsm HGE
                have HSM := Lib.hid hsm
                clear hsm
                go_wp2_with (first | ((with_reducible refine gate_ld 34 (.tmp 4) rfl ?_); refine ld_row (.inr rfl) rfl rfl HF.out rfl Try.underlying34 (by kernel_rfl) ?_) | (go_at_call 19; refine Calls.mono HSM.out ?_; rintro e w3 ⟨rfl, hg3⟩))
                go_ret
                refine ⟨congrArg (fun b => Ending.returned (Value.bool b)) ?_, ?_⟩
                · refine Eq.trans ?_ HGE.out.symm
                  clear HGE HF HSM HY HX HG HGF HR HL HQ0
                  cases bb <;> first | (simp [*]; done) | (rw [Bool.eq_iff_iff]; simp [*]; done) | (simp; omega) | (rw [Bool.eq_iff_iff]; simp [*]; omega)
                · first | exact HGF.out.tr hg3 | exact HGF.out
              · skip
                have d3 : decide (st < 600) = false := decide_eq_false q3
                go_upto_region 32 with fail
                generalize ((W1.setCell ⟨yb, 8, none⟩ (.int .i64 0)).setCell ⟨yb, 7, none⟩ (.int .i64 0)) = W9 at *
                clear k100 f100 k101 f101
                have hsm := same_b ⟨0, 0, 0, me, ur, hs, bo, 0, 0, cr, no, nn⟩ A n c ⟨0, 0, 0, noT, noT, [], noT, 0, 0, false, noT, 0⟩ none 0 0 W9 (HR.out.keep HGF.out) (RdV.nil _ _ _) (by omega) (by omega) (decide (me = noT ∧ ur = noT ∧ hs = [] ∧ bo = noT ∧ cr = false ∧ no = noT ∧ nn = 0)) (by simp [sameE])
                generalize decide (me = noT ∧ ur = noT ∧ hs = [] ∧ bo = noT ∧ cr = false ∧ no = noT ∧ nn = 0) = bb at hsm HGE
                have HSM := Lib.hid hsm
                clear hsm
                go_wp2_with (first | ((with_reducible refine gate_ld 34 (.tmp 4) rfl ?_); refine ld_row (.inr rfl) rfl rfl HF.out rfl Try.underlying34 (by kernel_rfl) ?_) | (go_at_call 19; refine Calls.mono HSM.out ?_; rintro e w3 ⟨rfl, hg3⟩))
                go_ret
                refine ⟨congrArg (fun b => Ending.returned (Value.bool b)) ?_, ?_⟩
                · refine Eq.trans ?_ HGE.out.symm
                  clear HGE HF HSM HY HX HG HGF HR HL HQ0
                  cases bb <;> first | (simp [*]; done) | (rw [Bool.eq_iff_iff]; simp [*]; done) | (simp; omega) | (rw [Bool.eq_iff_iff]; simp [*]; omega)
                · first | exact HGF.out.tr hg3 | exact HGF.out
            · skip
              have d2 : decide (0 ≤ st) = false := decide_eq_false q2
              go_upto_region 32 with fail
              generalize ((W1.setCell ⟨yb, 8, none⟩ (.int .i64 0)).setCell ⟨yb, 7, none⟩ (.int .i64 0)) = W9 at *
              clear k100 f100 k101 f101
              have hsm := same_b ⟨0, 0, 0, me, ur, hs, bo, 0, 0, cr, no, nn⟩ A n c ⟨0, 0, 0, noT, noT, [], noT, 0, 0, false, noT, 0⟩ none 0 0 W9 (HR.out.keep HGF.out) (RdV.nil _ _ _) (by omega) (by omega) (decide (me = noT ∧ ur = noT ∧ hs = [] ∧ bo = noT ∧ cr = false ∧ no = noT ∧ nn = 0)) (by simp [sameE])
              generalize decide (me = noT ∧ ur = noT ∧ hs = [] ∧ bo = noT ∧ cr = false ∧ no = noT ∧ nn = 0) = bb at hsm HGE
              have HSM := Lib.hid hsm
              clear hsm
              go_wp2_with (first | ((with_reducible refine gate_ld 34 (.tmp 4) rfl ?_); refine ld_row (.inr rfl) rfl rfl HF.out rfl Try.underlying34 (by kernel_rfl) ?_) | (go_at_call 19; refine Calls.mono HSM.out ?_; rintro e w3 ⟨rfl, hg3⟩))
              go_ret
              refine ⟨congrArg (fun b => Ending.returned (Value.bool b)) ?_, ?_⟩
              · refine Eq.trans ?_ HGE.out.symm
                clear HGE HF HSM HY HX HG HGF HR HL HQ0
                cases bb <;> first | (simp [*]; done) | (rw [Bool.eq_iff_iff]; simp [*]; done) | (simp; omega) | (rw [Bool.eq_iff_iff]; simp [*]; omega)
              · first | exact HGF.out.tr hg3 | exact HGF.out
          · skip
            have d1 : decide (co ≤ 16) = false := decide_eq_false q1
            go_upto_region 32 with fail
            generalize ((W1.setCell ⟨yb, 8, none⟩ (.int .i64 0)).setCell ⟨yb, 7, none⟩ (.int .i64 0)) = W9 at *
            clear k100 f100 k101 f101
            have hsm := same_b ⟨0, 0, 0, me, ur, hs, bo, 0, 0, cr, no, nn⟩ A n c ⟨0, 0, 0, noT, noT, [], noT, 0, 0, false, noT, 0⟩ none 0 0 W9 (HR.out.keep HGF.out) (RdV.nil _ _ _) (by omega) (by omega) (decide (me = noT ∧ ur = noT ∧ hs = [] ∧ bo = noT ∧ cr = false ∧ no = noT ∧ nn = 0)) (by simp [sameE])
            generalize decide (me = noT ∧ ur = noT ∧ hs = [] ∧ bo = noT ∧ cr = false ∧ no = noT ∧ nn = 0) = bb at hsm HGE
            have HSM := Lib.hid hsm
            clear hsm
            go_wp2_with (first | ((with_reducible refine gate_ld 34 (.tmp 4) rfl ?_); refine ld_row (.inr rfl) rfl rfl HF.out rfl Try.underlying34 (by kernel_rfl) ?_) | (go_at_call 19; refine Calls.mono HSM.out ?_; rintro e w3 ⟨rfl, hg3⟩))
            go_ret
            refine ⟨congrArg (fun b => Ending.returned (Value.bool b)) ?_, ?_⟩
            · refine Eq.trans ?_ HGE.out.symm
              clear HGE HF HSM HY HX HG HGF HR HL HQ0
              cases bb <;> first | (simp [*]; done) | (rw [Bool.eq_iff_iff]; simp [*]; done) | (simp; omega) | (rw [Bool.eq_iff_iff]; simp [*]; omega)
            · first | exact HGF.out.tr hg3 | exact HGF.out
        · skip
          have d0 : decide (1 ≤ co) = false := decide_eq_false q0
          go_upto_region 32 with fail
          generalize ((W1.setCell ⟨yb, 8, none⟩ (.int .i64 0)).setCell ⟨yb, 7, none⟩ (.int .i64 0)) = W9 at *
          clear k100 f100 k101 f101
          have hsm := same_b ⟨0, 0, 0, me, ur, hs, bo, 0, 0, cr, no, nn⟩ A n c ⟨0, 0, 0, noT, noT, [], noT, 0, 0, false, noT, 0⟩ none 0 0 W9 (HR.out.keep HGF.out) (RdV.nil _ _ _) (by omega) (by omega) (decide (me = noT ∧ ur = noT ∧ hs = [] ∧ bo = noT ∧ cr = false ∧ no = noT ∧ nn = 0)) (by simp [sameE])
          generalize decide (me = noT ∧ ur = noT ∧ hs = [] ∧ bo = noT ∧ cr = false ∧ no = noT ∧ nn = 0) = bb at hsm HGE
          have HSM := Lib.hid hsm
          clear hsm
          go_wp2_with (first | ((with_reducible refine gate_ld 34 (.tmp 4) rfl ?_); refine ld_row (.inr rfl) rfl rfl HF.out rfl Try.underlying34 (by kernel_rfl) ?_) | (go_at_call 19; refine Calls.mono HSM.out ?_; rintro e w3 ⟨rfl, hg3⟩))
          go_ret
          refine ⟨congrArg (fun b => Ending.returned (Value.bool b)) ?_, ?_⟩
          · refine Eq.trans ?_ HGE.out.symm
            clear HGE HF HSM HY HX HG HGF HR HL HQ0
            cases bb <;> first | (simp [*]; done) | (rw [Bool.eq_iff_iff]; simp [*]; done) | (simp; omega) | (rw [Bool.eq_iff_iff]; simp [*]; omega)
          · first | exact HGF.out.tr hg3 | exact HGF.out
      by_cases hk2 : ki = 2
      · subst hk2
        have hge : goodE ⟨2, se, ti, me, ur, hs, bo, st, co, cr, no, nn⟩ = (decide (st = 0 ∧ no = noT) && decide (1 ≤ co ∧ co ≤ 2)) := HGE.out
        clear HGE
        have hyb := HYB.out
        have hne := HNE.out
        have hy1 := HY.out
        have hy0 := HX.out
        have hgW1 := HG.out
        have k100 : W1.cell? ⟨yb, 8, none⟩ = some (.int .i64 co) := cell_of_heap hy1 rfl
        have f100 : W1.frozen? ⟨yb, 8, none⟩ = false := frozen_of_heap hy1
        have y0 : (W1.setCell ⟨yb, 8, none⟩ (.int .i64 0)).heap[yb]? = some (.cells #[.int .i64 0, .int .i64 0, .int .i64 0, .string me, .string ur, .slice A n c, .string bo, .int .i64 st, .int .i64 0, .bool cr, .string no, .int .u64 nn] 34) := by have := setCell_heap_same hy1 (i := 8) (.int .i64 0); simpa using this
        have x0 : (W1.setCell ⟨yb, 8, none⟩ (.int .i64 0)).heap[hb]? = some (.cells #[.int .i64 2, .int .i64 se, .int .i64 ti, .string me, .string ur, .slice A n c, .string bo, .int .i64 st, .int .i64 co, .bool cr, .string no, .int .u64 nn] 34) := (setCell_heap_other _ _ _ hne).trans hy0
        have g0 : Grew w (W1.setCell ⟨yb, 8, none⟩ (.int .i64 0)) := hgW1.st (p := ⟨yb, 8, none⟩) hyb _
        have k101 : (W1.setCell ⟨yb, 8, none⟩ (.int .i64 0)).cell? ⟨yb, 9, none⟩ = some (.bool cr) := cell_of_heap y0 rfl
        have f101 : (W1.setCell ⟨yb, 8, none⟩ (.int .i64 0)).frozen? ⟨yb, 9, none⟩ = false := frozen_of_heap y0
        have y1 : ((W1.setCell ⟨yb, 8, none⟩ (.int .i64 0)).setCell ⟨yb, 9, none⟩ (.bool false)).heap[yb]? = some (.cells #[.int .i64 0, .int .i64 0, .int .i64 0, .string me, .string ur, .slice A n c, .string bo, .int .i64 st, .int .i64 0, .bool false, .string no, .int .u64 nn] 34) := by have := setCell_heap_same y0 (i := 9) (.bool false); simpa using this
        have x1 : ((W1.setCell ⟨yb, 8, none⟩ (.int .i64 0)).setCell ⟨yb, 9, none⟩ (.bool false)).heap[hb]? = some (.cells #[.int .i64 2, .int .i64 se, .int .i64 ti, .string me, .string ur, .slice A n c, .string bo, .int .i64 st, .int .i64 co, .bool cr, .string no, .int .u64 nn] 34) := (setCell_heap_other _ _ _ hne).trans x0
        have g1 : Grew w ((W1.setCell ⟨yb, 8, none⟩ (.int .i64 0)).setCell ⟨yb, 9, none⟩ (.bool false)) := g0.st (p := ⟨yb, 9, none⟩) hyb _
        have k102 : ((W1.setCell ⟨yb, 8, none⟩ (.int .i64 0)).setCell ⟨yb, 9, none⟩ (.bool false)).cell? ⟨yb, 11, none⟩ = some (.int .u64 nn) := cell_of_heap y1 rfl
        have f102 : ((W1.setCell ⟨yb, 8, none⟩ (.int .i64 0)).setCell ⟨yb, 9, none⟩ (.bool false)).frozen? ⟨yb, 11, none⟩ = false := frozen_of_heap y1
        have y2 : (((W1.setCell ⟨yb, 8, none⟩ (.int .i64 0)).setCell ⟨yb, 9, none⟩ (.bool false)).setCell ⟨yb, 11, none⟩ (.int .u64 0)).heap[yb]? = some (.cells #[.int .i64 0, .int .i64 0, .int .i64 0, .string me, .string ur, .slice A n c, .string bo, .int .i64 st, .int .i64 0, .bool false, .string no, .int .u64 0] 34) := by have := setCell_heap_same y1 (i := 11) (.int .u64 0); simpa using this
        have x2 : (((W1.setCell ⟨yb, 8, none⟩ (.int .i64 0)).setCell ⟨yb, 9, none⟩ (.bool false)).setCell ⟨yb, 11, none⟩ (.int .u64 0)).heap[hb]? = some (.cells #[.int .i64 2, .int .i64 se, .int .i64 ti, .string me, .string ur, .slice A n c, .string bo, .int .i64 st, .int .i64 co, .bool cr, .string no, .int .u64 nn] 34) := (setCell_heap_other _ _ _ hne).trans x1
        have g2 : Grew w (((W1.setCell ⟨yb, 8, none⟩ (.int .i64 0)).setCell ⟨yb, 9, none⟩ (.bool false)).setCell ⟨yb, 11, none⟩ (.int .u64 0)) := g1.st (p := ⟨yb, 11, none⟩) hyb _
        have k103 : (((W1.setCell ⟨yb, 8, none⟩ (.int .i64 0)).setCell ⟨yb, 9, none⟩ (.bool false)).setCell ⟨yb, 11, none⟩ (.int .u64 0)).cell? ⟨yb, 3, none⟩ = some (.string me) := cell_of_heap y2 rfl
        have f103 : (((W1.setCell ⟨yb, 8, none⟩ (.int .i64 0)).setCell ⟨yb, 9, none⟩ (.bool false)).setCell ⟨yb, 11, none⟩ (.int .u64 0)).frozen? ⟨yb, 3, none⟩ = false := frozen_of_heap y2
        have y3 : ((((W1.setCell ⟨yb, 8, none⟩ (.int .i64 0)).setCell ⟨yb, 9, none⟩ (.bool false)).setCell ⟨yb, 11, none⟩ (.int .u64 0)).setCell ⟨yb, 3, none⟩ (.string { data := #[] })).heap[yb]? = some (.cells #[.int .i64 0, .int .i64 0, .int .i64 0, .string { data := #[] }, .string ur, .slice A n c, .string bo, .int .i64 st, .int .i64 0, .bool false, .string no, .int .u64 0] 34) := by have := setCell_heap_same y2 (i := 3) (.string { data := #[] }); simpa using this
        have x3 : ((((W1.setCell ⟨yb, 8, none⟩ (.int .i64 0)).setCell ⟨yb, 9, none⟩ (.bool false)).setCell ⟨yb, 11, none⟩ (.int .u64 0)).setCell ⟨yb, 3, none⟩ (.string { data := #[] })).heap[hb]? = some (.cells #[.int .i64 2, .int .i64 se, .int .i64 ti, .string me, .string ur, .slice A n c, .string bo, .int .i64 st, .int .i64 co, .bool cr, .string no, .int .u64 nn] 34) := (setCell_heap_other _ _ _ hne).trans x2
        have g3 : Grew w ((((W1.setCell ⟨yb, 8, none⟩ (.int .i64 0)).setCell ⟨yb, 9, none⟩ (.bool false)).setCell ⟨yb, 11, none⟩ (.int .u64 0)).setCell ⟨yb, 3, none⟩ (.string { data := #[] })) := g2.st (p := ⟨yb, 3, none⟩) hyb _
        have k104 : ((((W1.setCell ⟨yb, 8, none⟩ (.int .i64 0)).setCell ⟨yb, 9, none⟩ (.bool false)).setCell ⟨yb, 11, none⟩ (.int .u64 0)).setCell ⟨yb, 3, none⟩ (.string { data := #[] })).cell? ⟨yb, 4, none⟩ = some (.string ur) := cell_of_heap y3 rfl
        have f104 : ((((W1.setCell ⟨yb, 8, none⟩ (.int .i64 0)).setCell ⟨yb, 9, none⟩ (.bool false)).setCell ⟨yb, 11, none⟩ (.int .u64 0)).setCell ⟨yb, 3, none⟩ (.string { data := #[] })).frozen? ⟨yb, 4, none⟩ = false := frozen_of_heap y3
        have y4 : (((((W1.setCell ⟨yb, 8, none⟩ (.int .i64 0)).setCell ⟨yb, 9, none⟩ (.bool false)).setCell ⟨yb, 11, none⟩ (.int .u64 0)).setCell ⟨yb, 3, none⟩ (.string { data := #[] })).setCell ⟨yb, 4, none⟩ (.string { data := #[] })).heap[yb]? = some (.cells #[.int .i64 0, .int .i64 0, .int .i64 0, .string { data := #[] }, .string { data := #[] }, .slice A n c, .string bo, .int .i64 st, .int .i64 0, .bool false, .string no, .int .u64 0] 34) := by have := setCell_heap_same y3 (i := 4) (.string { data := #[] }); simpa using this
        have x4 : (((((W1.setCell ⟨yb, 8, none⟩ (.int .i64 0)).setCell ⟨yb, 9, none⟩ (.bool false)).setCell ⟨yb, 11, none⟩ (.int .u64 0)).setCell ⟨yb, 3, none⟩ (.string { data := #[] })).setCell ⟨yb, 4, none⟩ (.string { data := #[] })).heap[hb]? = some (.cells #[.int .i64 2, .int .i64 se, .int .i64 ti, .string me, .string ur, .slice A n c, .string bo, .int .i64 st, .int .i64 co, .bool cr, .string no, .int .u64 nn] 34) := (setCell_heap_other _ _ _ hne).trans x3
        have g4 : Grew w (((((W1.setCell ⟨yb, 8, none⟩ (.int .i64 0)).setCell ⟨yb, 9, none⟩ (.bool false)).setCell ⟨yb, 11, none⟩ (.int .u64 0)).setCell ⟨yb, 3, none⟩ (.string { data := #[] })).setCell ⟨yb, 4, none⟩ (.string { data := #[] })) := g3.st (p := ⟨yb, 4, none⟩) hyb _
        have k105 : (((((W1.setCell ⟨yb, 8, none⟩ (.int .i64 0)).setCell ⟨yb, 9, none⟩ (.bool false)).setCell ⟨yb, 11, none⟩ (.int .u64 0)).setCell ⟨yb, 3, none⟩ (.string { data := #[] })).setCell ⟨yb, 4, none⟩ (.string { data := #[] })).cell? ⟨yb, 6, none⟩ = some (.string bo) := cell_of_heap y4 rfl
        have f105 : (((((W1.setCell ⟨yb, 8, none⟩ (.int .i64 0)).setCell ⟨yb, 9, none⟩ (.bool false)).setCell ⟨yb, 11, none⟩ (.int .u64 0)).setCell ⟨yb, 3, none⟩ (.string { data := #[] })).setCell ⟨yb, 4, none⟩ (.string { data := #[] })).frozen? ⟨yb, 6, none⟩ = false := frozen_of_heap y4
        have y5 : ((((((W1.setCell ⟨yb, 8, none⟩ (.int .i64 0)).setCell ⟨yb, 9, none⟩ (.bool false)).setCell ⟨yb, 11, none⟩ (.int .u64 0)).setCell ⟨yb, 3, none⟩ (.string { data := #[] })).setCell ⟨yb, 4, none⟩ (.string { data := #[] })).setCell ⟨yb, 6, none⟩ (.string { data := #[] })).heap[yb]? = some (.cells #[.int .i64 0, .int .i64 0, .int .i64 0, .string { data := #[] }, .string { data := #[] }, .slice A n c, .string { data := #[] }, .int .i64 st, .int .i64 0, .bool false, .string no, .int .u64 0] 34) := by have := setCell_heap_same y4 (i := 6) (.string { data := #[] }); simpa using this
        have x5 : ((((((W1.setCell ⟨yb, 8, none⟩ (.int .i64 0)).setCell ⟨yb, 9, none⟩ (.bool false)).setCell ⟨yb, 11, none⟩ (.int .u64 0)).setCell ⟨yb, 3, none⟩ (.string { data := #[] })).setCell ⟨yb, 4, none⟩ (.string { data := #[] })).setCell ⟨yb, 6, none⟩ (.string { data := #[] })).heap[hb]? = some (.cells #[.int .i64 2, .int .i64 se, .int .i64 ti, .string me, .string ur, .slice A n c, .string bo, .int .i64 st, .int .i64 co, .bool cr, .string no, .int .u64 nn] 34) := (setCell_heap_other _ _ _ hne).trans x4
        have g5 : Grew w ((((((W1.setCell ⟨yb, 8, none⟩ (.int .i64 0)).setCell ⟨yb, 9, none⟩ (.bool false)).setCell ⟨yb, 11, none⟩ (.int .u64 0)).setCell ⟨yb, 3, none⟩ (.string { data := #[] })).setCell ⟨yb, 4, none⟩ (.string { data := #[] })).setCell ⟨yb, 6, none⟩ (.string { data := #[] })) := g4.st (p := ⟨yb, 6, none⟩) hyb _
        have k106 : ((((((W1.setCell ⟨yb, 8, none⟩ (.int .i64 0)).setCell ⟨yb, 9, none⟩ (.bool false)).setCell ⟨yb, 11, none⟩ (.int .u64 0)).setCell ⟨yb, 3, none⟩ (.string { data := #[] })).setCell ⟨yb, 4, none⟩ (.string { data := #[] })).setCell ⟨yb, 6, none⟩ (.string { data := #[] })).cell? ⟨yb, 5, none⟩ = some (.slice A n c) := cell_of_heap y5 rfl
        have f106 : ((((((W1.setCell ⟨yb, 8, none⟩ (.int .i64 0)).setCell ⟨yb, 9, none⟩ (.bool false)).setCell ⟨yb, 11, none⟩ (.int .u64 0)).setCell ⟨yb, 3, none⟩ (.string { data := #[] })).setCell ⟨yb, 4, none⟩ (.string { data := #[] })).setCell ⟨yb, 6, none⟩ (.string { data := #[] })).frozen? ⟨yb, 5, none⟩ = false := frozen_of_heap y5
        have y6 : (((((((W1.setCell ⟨yb, 8, none⟩ (.int .i64 0)).setCell ⟨yb, 9, none⟩ (.bool false)).setCell ⟨yb, 11, none⟩ (.int .u64 0)).setCell ⟨yb, 3, none⟩ (.string { data := #[] })).setCell ⟨yb, 4, none⟩ (.string { data := #[] })).setCell ⟨yb, 6, none⟩ (.string { data := #[] })).setCell ⟨yb, 5, none⟩ (.slice none 0 0)).heap[yb]? = some (.cells #[.int .i64 0, .int .i64 0, .int .i64 0, .string { data := #[] }, .string { data := #[] }, .slice none 0 0, .string { data := #[] }, .int .i64 st, .int .i64 0, .bool false, .string no, .int .u64 0] 34) := by have := setCell_heap_same y5 (i := 5) (.slice none 0 0); simpa using this
        have x6 : (((((((W1.setCell ⟨yb, 8, none⟩ (.int .i64 0)).setCell ⟨yb, 9, none⟩ (.bool false)).setCell ⟨yb, 11, none⟩ (.int .u64 0)).setCell ⟨yb, 3, none⟩ (.string { data := #[] })).setCell ⟨yb, 4, none⟩ (.string { data := #[] })).setCell ⟨yb, 6, none⟩ (.string { data := #[] })).setCell ⟨yb, 5, none⟩ (.slice none 0 0)).heap[hb]? = some (.cells #[.int .i64 2, .int .i64 se, .int .i64 ti, .string me, .string ur, .slice A n c, .string bo, .int .i64 st, .int .i64 co, .bool cr, .string no, .int .u64 nn] 34) := (setCell_heap_other _ _ _ hne).trans x5
        have g6 : Grew w (((((((W1.setCell ⟨yb, 8, none⟩ (.int .i64 0)).setCell ⟨yb, 9, none⟩ (.bool false)).setCell ⟨yb, 11, none⟩ (.int .u64 0)).setCell ⟨yb, 3, none⟩ (.string { data := #[] })).setCell ⟨yb, 4, none⟩ (.string { data := #[] })).setCell ⟨yb, 6, none⟩ (.string { data := #[] })).setCell ⟨yb, 5, none⟩ (.slice none 0 0)) := g5.st (p := ⟨yb, 5, none⟩) hyb _
        have HF := Lib.hid y6
        have HGF := Lib.hid g6
        clear hyb hne hy1 hgW1 y0 x0 g0 y1 x1 g1 y2 x2 g2 y3 x3 g3 y4 x4 g4 y5 x5 g5 y6 x6 g6
        have c1 : W1.cell? ⟨hb, 1, none⟩ = some (.int .i64 se) := cell_of_heap hy0 rfl
        have c7 : W1.cell? ⟨hb, 7, none⟩ = some (.int .i64 st) := cell_of_heap hy0 rfl
        have c8 : W1.cell? ⟨hb, 8, none⟩ = some (.int .i64 co) := cell_of_heap hy0 rfl
        have c11 : W1.cell? ⟨hb, 11, none⟩ = some (.int .u64 nn) := cell_of_heap hy0 rfl
        clear hy0
        have HGE := Lib.hid hge
        clear hge
        by_cases q0 : co = 1
        · skip
          have d0 : decide (co = 1) = true := decide_eq_true q0
          have e0 : (co == 1) = true := by simpa using q0
          go_upto_region 32 with fail
          generalize (((((((W1.setCell ⟨yb, 8, none⟩ (.int .i64 0)).setCell ⟨yb, 9, none⟩ (.bool false)).setCell ⟨yb, 11, none⟩ (.int .u64 0)).setCell ⟨yb, 3, none⟩ (.string { data := #[] })).setCell ⟨yb, 4, none⟩ (.string { data := #[] })).setCell ⟨yb, 6, none⟩ (.string { data := #[] })).setCell ⟨yb, 5, none⟩ (.slice none 0 0)) = W9 at *
          clear k100 f100 k101 f101 k102 f102 k103 f103 k104 f104 k105 f105 k106 f106
          have hsm := same_b ⟨0, 0, 0, noT, noT, [], noT, st, 0, false, no, 0⟩ none 0 0 ⟨0, 0, 0, noT, noT, [], noT, 0, 0, false, noT, 0⟩ none 0 0 W9 (RdV.nil _ _ _) (RdV.nil _ _ _) (by omega) (by omega) (decide (st = 0 ∧ no = noT)) (by simp [sameE])
          generalize decide (st = 0 ∧ no = noT) = bb at hsm HGE
          have HSM := Lib.hid hsm
          clear hsm
          go_wp2_with (first | ((with_reducible refine gate_ld 34 (.tmp 4) rfl ?_); refine ld_row (.inr rfl) rfl rfl HF.out rfl Try.underlying34 (by kernel_rfl) ?_) | (go_at_call 19; refine Calls.mono HSM.out ?_; rintro e w3 ⟨rfl, hg3⟩))
          go_ret
          refine ⟨congrArg (fun b => Ending.returned (Value.bool b)) ?_, ?_⟩
          · refine Eq.trans ?_ HGE.out.symm
            clear HGE HF HSM HY HX HG HGF HR HL HQ0
            cases bb <;> first | (simp [*]; done) | (rw [Bool.eq_iff_iff]; simp [*]; done) | (simp; omega) | (rw [Bool.eq_iff_iff]; simp [*]; omega)
          · first | exact HGF.out.tr hg3 | exact HGF.out
        · skip
          have d0 : decide (co = 1) = false := decide_eq_false q0
          have e0 : (co == 1) = false := by simpa using q0
          by_cases q1 : co = 2
          · skip
            have d1 : decide (co = 2) = true := decide_eq_true q1
            have e1 : (co == 2) = true := by simpa using q1
            go_upto_region 32 with fail
            generalize (((((((W1.setCell ⟨yb, 8, none⟩ (.int .i64 0)).setCell ⟨yb, 9, none⟩ (.bool false)).setCell ⟨yb, 11, none⟩ (.int .u64 0)).setCell ⟨yb, 3, none⟩ (.string { data := #[] })).setCell ⟨yb, 4, none⟩ (.string { data := #[] })).setCell ⟨yb, 6, none⟩ (.string { data := #[] })).setCell ⟨yb, 5, none⟩ (.slice none 0 0)) = W9 at *
            clear k100 f100 k101 f101 k102 f102 k103 f103 k104 f104 k105 f105 k106 f106
            have hsm := same_b ⟨0, 0, 0, noT, noT, [], noT, st, 0, false, no, 0⟩ none 0 0 ⟨0, 0, 0, noT, noT, [], noT, 0, 0, false, noT, 0⟩ none 0 0 W9 (RdV.nil _ _ _) (RdV.nil _ _ _) (by omega) (by omega) (decide (st = 0 ∧ no = noT)) (by simp [sameE])
            generalize decide (st = 0 ∧ no = noT) = bb at hsm HGE
            have HSM := Lib.hid hsm
            clear hsm
            go_wp2_with (first | ((with_reducible refine gate_ld 34 (.tmp 4) rfl ?_); refine ld_row (.inr rfl) rfl rfl HF.out rfl Try.underlying34 (by kernel_rfl) ?_) | (go_at_call 19; refine Calls.mono HSM.out ?_; rintro e w3 ⟨rfl, hg3⟩))
            go_ret
            refine ⟨congrArg (fun b => Ending.returned (Value.bool b)) ?_, ?_⟩
            · refine Eq.trans ?_ HGE.out.symm
              clear HGE HF HSM HY HX HG HGF HR HL HQ0
              cases bb <;> first | (simp [*]; done) | (rw [Bool.eq_iff_iff]; simp [*]; done) | (simp; omega) | (rw [Bool.eq_iff_iff]; simp [*]; omega)
            · first | exact HGF.out.tr hg3 | exact HGF.out
          · skip
            have d1 : decide (co = 2) = false := decide_eq_false q1
            have e1 : (co == 2) = false := by simpa using q1
            go_upto_region 32 with fail
            generalize (((((((W1.setCell ⟨yb, 8, none⟩ (.int .i64 0)).setCell ⟨yb, 9, none⟩ (.bool false)).setCell ⟨yb, 11, none⟩ (.int .u64 0)).setCell ⟨yb, 3, none⟩ (.string { data := #[] })).setCell ⟨yb, 4, none⟩ (.string { data := #[] })).setCell ⟨yb, 6, none⟩ (.string { data := #[] })).setCell ⟨yb, 5, none⟩ (.slice none 0 0)) = W9 at *
            clear k100 f100 k101 f101 k102 f102 k103 f103 k104 f104 k105 f105 k106 f106
            have hsm := same_b ⟨0, 0, 0, noT, noT, [], noT, st, 0, false, no, 0⟩ none 0 0 ⟨0, 0, 0, noT, noT, [], noT, 0, 0, false, noT, 0⟩ none 0 0 W9 (RdV.nil _ _ _) (RdV.nil _ _ _) (by omega) (by omega) (decide (st = 0 ∧ no = noT)) (by simp [sameE])
            generalize decide (st = 0 ∧ no = noT) = bb at hsm HGE
            have HSM := Lib.hid hsm
            clear hsm
            go_wp2_with (first | ((with_reducible refine gate_ld 34 (.tmp 4) rfl ?_); refine ld_row (.inr rfl) rfl rfl HF.out rfl Try.underlying34 (by kernel_rfl) ?_) | (go_at_call 19; refine Calls.mono HSM.out ?_; rintro e w3 ⟨rfl, hg3⟩))
            go_ret
            refine ⟨congrArg (fun b => Ending.returned (Value.bool b)) ?_, ?_⟩
            · refine Eq.trans ?_ HGE.out.symm
              clear HGE HF HSM HY HX HG HGF HR HL HQ0
              cases bb <;> first | (simp [*]; done) | (rw [Bool.eq_iff_iff]; simp [*]; done) | (simp; omega) | (rw [Bool.eq_iff_iff]; simp [*]; omega)
            · first | exact HGF.out.tr hg3 | exact HGF.out
      by_cases hk3 : ki = 3
      · subst hk3
        have hge : goodE ⟨3, se, ti, me, ur, hs, bo, st, co, cr, no, nn⟩ = (decide (me = noT ∧ ur = noT ∧ co = 0 ∧ cr = false ∧ no = noT ∧ nn = 0) && decide (100 ≤ st ∧ st ≤ 599)) := HGE.out
        clear HGE
        have hyb := HYB.out
        have hne := HNE.out
        have hy1 := HY.out
        have hy0 := HX.out
        have hgW1 := HG.out
        have k100 : W1.cell? ⟨yb, 7, none⟩ = some (.int .i64 st) := cell_of_heap hy1 rfl
        have f100 : W1.frozen? ⟨yb, 7, none⟩ = false := frozen_of_heap hy1
        have y0 : (W1.setCell ⟨yb, 7, none⟩ (.int .i64 0)).heap[yb]? = some (.cells #[.int .i64 0, .int .i64 0, .int .i64 0, .string me, .string ur, .slice A n c, .string bo, .int .i64 0, .int .i64 co, .bool cr, .string no, .int .u64 nn] 34) := by have := setCell_heap_same hy1 (i := 7) (.int .i64 0); simpa using this
        have x0 : (W1.setCell ⟨yb, 7, none⟩ (.int .i64 0)).heap[hb]? = some (.cells #[.int .i64 3, .int .i64 se, .int .i64 ti, .string me, .string ur, .slice A n c, .string bo, .int .i64 st, .int .i64 co, .bool cr, .string no, .int .u64 nn] 34) := (setCell_heap_other _ _ _ hne).trans hy0
        have g0 : Grew w (W1.setCell ⟨yb, 7, none⟩ (.int .i64 0)) := hgW1.st (p := ⟨yb, 7, none⟩) hyb _
        have k101 : (W1.setCell ⟨yb, 7, none⟩ (.int .i64 0)).cell? ⟨yb, 6, none⟩ = some (.string bo) := cell_of_heap y0 rfl
        have f101 : (W1.setCell ⟨yb, 7, none⟩ (.int .i64 0)).frozen? ⟨yb, 6, none⟩ = false := frozen_of_heap y0
        have y1 : ((W1.setCell ⟨yb, 7, none⟩ (.int .i64 0)).setCell ⟨yb, 6, none⟩ (.string { data := #[] })).heap[yb]? = some (.cells #[.int .i64 0, .int .i64 0, .int .i64 0, .string me, .string ur, .slice A n c, .string { data := #[] }, .int .i64 0, .int .i64 co, .bool cr, .string no, .int .u64 nn] 34) := by have := setCell_heap_same y0 (i := 6) (.string { data := #[] }); simpa using this
        have x1 : ((W1.setCell ⟨yb, 7, none⟩ (.int .i64 0)).setCell ⟨yb, 6, none⟩ (.string { data := #[] })).heap[hb]? = some (.cells #[.int .i64 3, .int .i64 se, .int .i64 ti, .string me, .string ur, .slice A n c, .string bo, .int .i64 st, .int .i64 co, .bool cr, .string no, .int .u64 nn] 34) := (setCell_heap_other _ _ _ hne).trans x0
        have g1 : Grew w ((W1.setCell ⟨yb, 7, none⟩ (.int .i64 0)).setCell ⟨yb, 6, none⟩ (.string { data := #[] })) := g0.st (p := ⟨yb, 6, none⟩) hyb _
        have k102 : ((W1.setCell ⟨yb, 7, none⟩ (.int .i64 0)).setCell ⟨yb, 6, none⟩ (.string { data := #[] })).cell? ⟨yb, 5, none⟩ = some (.slice A n c) := cell_of_heap y1 rfl
        have f102 : ((W1.setCell ⟨yb, 7, none⟩ (.int .i64 0)).setCell ⟨yb, 6, none⟩ (.string { data := #[] })).frozen? ⟨yb, 5, none⟩ = false := frozen_of_heap y1
        have y2 : (((W1.setCell ⟨yb, 7, none⟩ (.int .i64 0)).setCell ⟨yb, 6, none⟩ (.string { data := #[] })).setCell ⟨yb, 5, none⟩ (.slice none 0 0)).heap[yb]? = some (.cells #[.int .i64 0, .int .i64 0, .int .i64 0, .string me, .string ur, .slice none 0 0, .string { data := #[] }, .int .i64 0, .int .i64 co, .bool cr, .string no, .int .u64 nn] 34) := by have := setCell_heap_same y1 (i := 5) (.slice none 0 0); simpa using this
        have x2 : (((W1.setCell ⟨yb, 7, none⟩ (.int .i64 0)).setCell ⟨yb, 6, none⟩ (.string { data := #[] })).setCell ⟨yb, 5, none⟩ (.slice none 0 0)).heap[hb]? = some (.cells #[.int .i64 3, .int .i64 se, .int .i64 ti, .string me, .string ur, .slice A n c, .string bo, .int .i64 st, .int .i64 co, .bool cr, .string no, .int .u64 nn] 34) := (setCell_heap_other _ _ _ hne).trans x1
        have g2 : Grew w (((W1.setCell ⟨yb, 7, none⟩ (.int .i64 0)).setCell ⟨yb, 6, none⟩ (.string { data := #[] })).setCell ⟨yb, 5, none⟩ (.slice none 0 0)) := g1.st (p := ⟨yb, 5, none⟩) hyb _
        have HF := Lib.hid y2
        have HGF := Lib.hid g2
        clear hyb hne hy1 hgW1 y0 x0 g0 y1 x1 g1 y2 x2 g2
        have c1 : W1.cell? ⟨hb, 1, none⟩ = some (.int .i64 se) := cell_of_heap hy0 rfl
        have c7 : W1.cell? ⟨hb, 7, none⟩ = some (.int .i64 st) := cell_of_heap hy0 rfl
        have c8 : W1.cell? ⟨hb, 8, none⟩ = some (.int .i64 co) := cell_of_heap hy0 rfl
        have c11 : W1.cell? ⟨hb, 11, none⟩ = some (.int .u64 nn) := cell_of_heap hy0 rfl
        clear hy0
        have HGE := Lib.hid hge
        clear hge
        by_cases q0 : 100 ≤ st
        · skip
          have d0 : decide (100 ≤ st) = true := decide_eq_true q0
          by_cases q1 : st < 600
          · skip
            have d1 : decide (st < 600) = true := decide_eq_true q1
            go_upto_region 32 with fail
            generalize (((W1.setCell ⟨yb, 7, none⟩ (.int .i64 0)).setCell ⟨yb, 6, none⟩ (.string { data := #[] })).setCell ⟨yb, 5, none⟩ (.slice none 0 0)) = W9 at *
            clear k100 f100 k101 f101 k102 f102
            have hsm := same_b ⟨0, 0, 0, me, ur, [], noT, 0, co, cr, no, nn⟩ none 0 0 ⟨0, 0, 0, noT, noT, [], noT, 0, 0, false, noT, 0⟩ none 0 0 W9 (RdV.nil _ _ _) (RdV.nil _ _ _) (by omega) (by omega) (decide (me = noT ∧ ur = noT ∧ co = 0 ∧ cr = false ∧ no = noT ∧ nn = 0)) (by simp [sameE])
            generalize decide (me = noT ∧ ur = noT ∧ co = 0 ∧ cr = false ∧ no = noT ∧ nn = 0) = bb at hsm HGE
            have HSM := Lib.hid hsm
            clear hsm
            go_wp2_with (first | ((with_reducible refine gate_ld 34 (.tmp 4) rfl ?_); refine ld_row (.inr rfl) rfl rfl HF.out rfl Try.underlying34 (by kernel_rfl) ?_) | (go_at_call 19; refine Calls.mono HSM.out ?_; rintro e w3 ⟨rfl, hg3⟩))
            go_ret
            refine ⟨congrArg (fun b => Ending.returned (Value.bool b)) ?_, ?_⟩
            · refine Eq.trans ?_ HGE.out.symm
              clear HGE HF HSM HY HX HG HGF HR HL HQ0
              cases bb <;> first | (simp [*]; done) | (rw [Bool.eq_iff_iff]; simp [*]; done) | (simp; omega) | (rw [Bool.eq_iff_iff]; simp [*]; omega)
            · first | exact HGF.out.tr hg3 | exact HGF.out
          · skip
            have d1 : decide (st < 600) = false := decide_eq_false q1
            go_upto_region 32 with fail
            generalize (((W1.setCell ⟨yb, 7, none⟩ (.int .i64 0)).setCell ⟨yb, 6, none⟩ (.string { data := #[] })).setCell ⟨yb, 5, none⟩ (.slice none 0 0)) = W9 at *
            clear k100 f100 k101 f101 k102 f102
            have hsm := same_b ⟨0, 0, 0, me, ur, [], noT, 0, co, cr, no, nn⟩ none 0 0 ⟨0, 0, 0, noT, noT, [], noT, 0, 0, false, noT, 0⟩ none 0 0 W9 (RdV.nil _ _ _) (RdV.nil _ _ _) (by omega) (by omega) (decide (me = noT ∧ ur = noT ∧ co = 0 ∧ cr = false ∧ no = noT ∧ nn = 0)) (by simp [sameE])
            generalize decide (me = noT ∧ ur = noT ∧ co = 0 ∧ cr = false ∧ no = noT ∧ nn = 0) = bb at hsm HGE
            have HSM := Lib.hid hsm
            clear hsm
            go_wp2_with (first | ((with_reducible refine gate_ld 34 (.tmp 4) rfl ?_); refine ld_row (.inr rfl) rfl rfl HF.out rfl Try.underlying34 (by kernel_rfl) ?_) | (go_at_call 19; refine Calls.mono HSM.out ?_; rintro e w3 ⟨rfl, hg3⟩))
            go_ret
            refine ⟨congrArg (fun b => Ending.returned (Value.bool b)) ?_, ?_⟩
            · refine Eq.trans ?_ HGE.out.symm
              clear HGE HF HSM HY HX HG HGF HR HL HQ0
              cases bb <;> first | (simp [*]; done) | (rw [Bool.eq_iff_iff]; simp [*]; done) | (simp; omega) | (rw [Bool.eq_iff_iff]; simp [*]; omega)
            · first | exact HGF.out.tr hg3 | exact HGF.out
        · skip
          have d0 : decide (100 ≤ st) = false := decide_eq_false q0
          go_upto_region 32 with fail
          generalize (((W1.setCell ⟨yb, 7, none⟩ (.int .i64 0)).setCell ⟨yb, 6, none⟩ (.string { data := #[] })).setCell ⟨yb, 5, none⟩ (.slice none 0 0)) = W9 at *
          clear k100 f100 k101 f101 k102 f102
          have hsm := same_b ⟨0, 0, 0, me, ur, [], noT, 0, co, cr, no, nn⟩ none 0 0 ⟨0, 0, 0, noT, noT, [], noT, 0, 0, false, noT, 0⟩ none 0 0 W9 (RdV.nil _ _ _) (RdV.nil _ _ _) (by omega) (by omega) (decide (me = noT ∧ ur = noT ∧ co = 0 ∧ cr = false ∧ no = noT ∧ nn = 0)) (by simp [sameE])
          generalize decide (me = noT ∧ ur = noT ∧ co = 0 ∧ cr = false ∧ no = noT ∧ nn = 0) = bb at hsm HGE
          have HSM := Lib.hid hsm
          clear hsm
          go_wp2_with (first | ((with_reducible refine gate_ld 34 (.tmp 4) rfl ?_); refine ld_row (.inr rfl) rfl rfl HF.out rfl Try.underlying34 (by kernel_rfl) ?_) | (go_at_call 19; refine Calls.mono HSM.out ?_; rintro e w3 ⟨rfl, hg3⟩))
          go_ret
          refine ⟨congrArg (fun b => Ending.returned (Value.bool b)) ?_, ?_⟩
          · refine Eq.trans ?_ HGE.out.symm
            clear HGE HF HSM HY HX HG HGF HR HL HQ0
            cases bb <;> first | (simp [*]; done) | (rw [Bool.eq_iff_iff]; simp [*]; done) | (simp; omega) | (rw [Bool.eq_iff_iff]; simp [*]; omega)
          · first | exact HGF.out.tr hg3 | exact HGF.out
      by_cases hk1 : ki = 1
      · subst hk1
        have hge : goodE ⟨1, se, ti, me, ur, hs, bo, st, co, cr, no, nn⟩ = (decide (st = 0 ∧ cr = false ∧ nn = 0) && modesB co) := HGE.out
        clear HGE
        have hy0 := HX.out
        have c8 : W1.cell? ⟨hb, 8, none⟩ = some (.int .i64 co) := cell_of_heap hy0 rfl
        by_cases q0 : 0 ≤ co
        · have d0 : decide (0 ≤ co) = true := decide_eq_true q0
          have w4 : wrap64 (co.tdiv 4) = co / 4 := by rw [Int.tdiv_eq_ediv_of_nonneg q0]; exact wrap64_id (by omega) (by omega)
          have w16 : wrap64 (co.tdiv 16) = co / 16 := by rw [Int.tdiv_eq_ediv_of_nonneg q0]; exact wrap64_id (by omega) (by omega)
          have w64 : wrap64 (co.tdiv 64) = co / 64 := by rw [Int.tdiv_eq_ediv_of_nonneg q0]; exact wrap64_id (by omega) (by omega)
          have t4 : (co / 4).tmod 4 = co / 4 % 4 := Int.tmod_eq_emod_of_nonneg (by omega)
          have t16 : (co / 16).tmod 4 = co / 16 % 4 := Int.tmod_eq_emod_of_nonneg (by omega)
          have t0 : co.tmod 4 = co % 4 := Int.tmod_eq_emod_of_nonneg q0
          have hrg := rgood17_any (co % 4) (co / 4 % 4) (co / 16 % 4) (co / 64)
          obtain ⟨mb, hmb⟩ : ∃ mb, modesB co = mb := ⟨_, rfl⟩
          rw [show modesR (co % 4) (co / 4 % 4) (co / 16 % 4) (co / 64) = mb from hmb] at hrg
          rw [hmb] at hge
          have HRG := Lib.hid hrg
          clear hrg hmb hco
          go_upto_region 15 with fail
          have hrb := heap_alloc_new W1 (.cells #[.string { data := #[] }, .string { data := #[] }, .int .i64 (co % 4), .int .i64 (co / 4 % 4), .int .i64 (co / 16 % 4), .int .i64 (co / 64), .string { data := #[] }, .slice none 0 0, .string { data := #[] }] 72)
          have hyb1 := heap_keep ((Grew.rf _).al (.cells #[.string { data := #[] }, .string { data := #[] }, .int .i64 (co % 4), .int .i64 (co / 4 % 4), .int .i64 (co / 16 % 4), .int .i64 (co / 64), .string { data := #[] }, .slice none 0 0, .string { data := #[] }] 72)) HY.out
          have hxb1 := heap_keep ((Grew.rf _).al (.cells #[.string { data := #[] }, .string { data := #[] }, .int .i64 (co % 4), .int .i64 (co / 4 % 4), .int .i64 (co / 16 % 4), .int .i64 (co / 64), .string { data := #[] }, .slice none 0 0, .string { data := #[] }] 72)) HX.out
          have hgW2 : Grew w (W1.alloc (.cells #[.string { data := #[] }, .string { data := #[] }, .int .i64 (co % 4), .int .i64 (co / 4 % 4), .int .i64 (co / 16 % 4), .int .i64 (co / 64), .string { data := #[] }, .slice none 0 0, .string { data := #[] }] 72)) := HG.out.al _
          generalize W1.alloc (.cells #[.string { data := #[] }, .string { data := #[] }, .int .i64 (co % 4), .int .i64 (co / 4 % 4), .int .i64 (co / 16 % 4), .int .i64 (co / 64), .string { data := #[] }, .slice none 0 0, .string { data := #[] }] 72) = W2 at *
          obtain ⟨rb, hrb0⟩ : ∃ rb, W1.heap.size = rb := ⟨_, rfl⟩
          rw [hrb0] at hrb ⊢
          clear hrb0 c8 c0
          have c8 : W2.cell? ⟨hb, 8, none⟩ = some (.int .i64 co) := cell_of_heap hxb1 rfl
          clear w4 w16 w64 t4 t16 t0
          go_upto_region 16 with (first | ((with_reducible refine gate_ld 72 (.tmp 6) rfl ?_); refine ld_row (.inr rfl) rfl rfl hrb rfl Try.underlying72 (by kernel_rfl) ?_) | (go_at_call 73; refine Calls.mono (HRG.out _) ?_; rintro e w3 ⟨rfl, hg3⟩))
          have hy1 := heap_keep hg3 hyb1
          have hy0 := heap_keep hg3 hxb1
          have hgW1 := hgW2.tr hg3
          clear hrb hyb1 hxb1 hgW2 hg3 c8
          have hyb := HYB.out
          have hne := HNE.out
          have k100 : w3.cell? ⟨yb, 8, none⟩ = some (.int .i64 co) := cell_of_heap hy1 rfl
          have f100 : w3.frozen? ⟨yb, 8, none⟩ = false := frozen_of_heap hy1
          have y0 : (w3.setCell ⟨yb, 8, none⟩ (.int .i64 0)).heap[yb]? = some (.cells #[.int .i64 0, .int .i64 0, .int .i64 0, .string me, .string ur, .slice A n c, .string bo, .int .i64 st, .int .i64 0, .bool cr, .string no, .int .u64 nn] 34) := by have := setCell_heap_same hy1 (i := 8) (.int .i64 0); simpa using this
          have x0 : (w3.setCell ⟨yb, 8, none⟩ (.int .i64 0)).heap[hb]? = some (.cells #[.int .i64 1, .int .i64 se, .int .i64 ti, .string me, .string ur, .slice A n c, .string bo, .int .i64 st, .int .i64 co, .bool cr, .string no, .int .u64 nn] 34) := (setCell_heap_other _ _ _ hne).trans hy0
          have g0 : Grew w (w3.setCell ⟨yb, 8, none⟩ (.int .i64 0)) := hgW1.st (p := ⟨yb, 8, none⟩) hyb _
          have k101 : (w3.setCell ⟨yb, 8, none⟩ (.int .i64 0)).cell? ⟨yb, 3, none⟩ = some (.string me) := cell_of_heap y0 rfl
          have f101 : (w3.setCell ⟨yb, 8, none⟩ (.int .i64 0)).frozen? ⟨yb, 3, none⟩ = false := frozen_of_heap y0
          have y1 : ((w3.setCell ⟨yb, 8, none⟩ (.int .i64 0)).setCell ⟨yb, 3, none⟩ (.string { data := #[] })).heap[yb]? = some (.cells #[.int .i64 0, .int .i64 0, .int .i64 0, .string { data := #[] }, .string ur, .slice A n c, .string bo, .int .i64 st, .int .i64 0, .bool cr, .string no, .int .u64 nn] 34) := by have := setCell_heap_same y0 (i := 3) (.string { data := #[] }); simpa using this
          have x1 : ((w3.setCell ⟨yb, 8, none⟩ (.int .i64 0)).setCell ⟨yb, 3, none⟩ (.string { data := #[] })).heap[hb]? = some (.cells #[.int .i64 1, .int .i64 se, .int .i64 ti, .string me, .string ur, .slice A n c, .string bo, .int .i64 st, .int .i64 co, .bool cr, .string no, .int .u64 nn] 34) := (setCell_heap_other _ _ _ hne).trans x0
          have g1 : Grew w ((w3.setCell ⟨yb, 8, none⟩ (.int .i64 0)).setCell ⟨yb, 3, none⟩ (.string { data := #[] })) := g0.st (p := ⟨yb, 3, none⟩) hyb _
          have k102 : ((w3.setCell ⟨yb, 8, none⟩ (.int .i64 0)).setCell ⟨yb, 3, none⟩ (.string { data := #[] })).cell? ⟨yb, 4, none⟩ = some (.string ur) := cell_of_heap y1 rfl
          have f102 : ((w3.setCell ⟨yb, 8, none⟩ (.int .i64 0)).setCell ⟨yb, 3, none⟩ (.string { data := #[] })).frozen? ⟨yb, 4, none⟩ = false := frozen_of_heap y1
          have y2 : (((w3.setCell ⟨yb, 8, none⟩ (.int .i64 0)).setCell ⟨yb, 3, none⟩ (.string { data := #[] })).setCell ⟨yb, 4, none⟩ (.string { data := #[] })).heap[yb]? = some (.cells #[.int .i64 0, .int .i64 0, .int .i64 0, .string { data := #[] }, .string { data := #[] }, .slice A n c, .string bo, .int .i64 st, .int .i64 0, .bool cr, .string no, .int .u64 nn] 34) := by have := setCell_heap_same y1 (i := 4) (.string { data := #[] }); simpa using this
          have x2 : (((w3.setCell ⟨yb, 8, none⟩ (.int .i64 0)).setCell ⟨yb, 3, none⟩ (.string { data := #[] })).setCell ⟨yb, 4, none⟩ (.string { data := #[] })).heap[hb]? = some (.cells #[.int .i64 1, .int .i64 se, .int .i64 ti, .string me, .string ur, .slice A n c, .string bo, .int .i64 st, .int .i64 co, .bool cr, .string no, .int .u64 nn] 34) := (setCell_heap_other _ _ _ hne).trans x1
          have g2 : Grew w (((w3.setCell ⟨yb, 8, none⟩ (.int .i64 0)).setCell ⟨yb, 3, none⟩ (.string { data := #[] })).setCell ⟨yb, 4, none⟩ (.string { data := #[] })) := g1.st (p := ⟨yb, 4, none⟩) hyb _
          have k103 : (((w3.setCell ⟨yb, 8, none⟩ (.int .i64 0)).setCell ⟨yb, 3, none⟩ (.string { data := #[] })).setCell ⟨yb, 4, none⟩ (.string { data := #[] })).cell? ⟨yb, 10, none⟩ = some (.string no) := cell_of_heap y2 rfl
          have f103 : (((w3.setCell ⟨yb, 8, none⟩ (.int .i64 0)).setCell ⟨yb, 3, none⟩ (.string { data := #[] })).setCell ⟨yb, 4, none⟩ (.string { data := #[] })).frozen? ⟨yb, 10, none⟩ = false := frozen_of_heap y2
          have y3 : ((((w3.setCell ⟨yb, 8, none⟩ (.int .i64 0)).setCell ⟨yb, 3, none⟩ (.string { data := #[] })).setCell ⟨yb, 4, none⟩ (.string { data := #[] })).setCell ⟨yb, 10, none⟩ (.string { data := #[] })).heap[yb]? = some (.cells #[.int .i64 0, .int .i64 0, .int .i64 0, .string { data := #[] }, .string { data := #[] }, .slice A n c, .string bo, .int .i64 st, .int .i64 0, .bool cr, .string { data := #[] }, .int .u64 nn] 34) := by have := setCell_heap_same y2 (i := 10) (.string { data := #[] }); simpa using this
          have x3 : ((((w3.setCell ⟨yb, 8, none⟩ (.int .i64 0)).setCell ⟨yb, 3, none⟩ (.string { data := #[] })).setCell ⟨yb, 4, none⟩ (.string { data := #[] })).setCell ⟨yb, 10, none⟩ (.string { data := #[] })).heap[hb]? = some (.cells #[.int .i64 1, .int .i64 se, .int .i64 ti, .string me, .string ur, .slice A n c, .string bo, .int .i64 st, .int .i64 co, .bool cr, .string no, .int .u64 nn] 34) := (setCell_heap_other _ _ _ hne).trans x2
          have g3 : Grew w ((((w3.setCell ⟨yb, 8, none⟩ (.int .i64 0)).setCell ⟨yb, 3, none⟩ (.string { data := #[] })).setCell ⟨yb, 4, none⟩ (.string { data := #[] })).setCell ⟨yb, 10, none⟩ (.string { data := #[] })) := g2.st (p := ⟨yb, 10, none⟩) hyb _
          have k104 : ((((w3.setCell ⟨yb, 8, none⟩ (.int .i64 0)).setCell ⟨yb, 3, none⟩ (.string { data := #[] })).setCell ⟨yb, 4, none⟩ (.string { data := #[] })).setCell ⟨yb, 10, none⟩ (.string { data := #[] })).cell? ⟨yb, 6, none⟩ = some (.string bo) := cell_of_heap y3 rfl
          have f104 : ((((w3.setCell ⟨yb, 8, none⟩ (.int .i64 0)).setCell ⟨yb, 3, none⟩ (.string { data := #[] })).setCell ⟨yb, 4, none⟩ (.string { data := #[] })).setCell ⟨yb, 10, none⟩ (.string { data := #[] })).frozen? ⟨yb, 6, none⟩ = false := frozen_of_heap y3
          have y4 : (((((w3.setCell ⟨yb, 8, none⟩ (.int .i64 0)).setCell ⟨yb, 3, none⟩ (.string { data := #[] })).setCell ⟨yb, 4, none⟩ (.string { data := #[] })).setCell ⟨yb, 10, none⟩ (.string { data := #[] })).setCell ⟨yb, 6, none⟩ (.string { data := #[] })).heap[yb]? = some (.cells #[.int .i64 0, .int .i64 0, .int .i64 0, .string { data := #[] }, .string { data := #[] }, .slice A n c, .string { data := #[] }, .int .i64 st, .int .i64 0, .bool cr, .string { data := #[] }, .int .u64 nn] 34) := by have := setCell_heap_same y3 (i := 6) (.string { data := #[] }); simpa using this
          have x4 : (((((w3.setCell ⟨yb, 8, none⟩ (.int .i64 0)).setCell ⟨yb, 3, none⟩ (.string { data := #[] })).setCell ⟨yb, 4, none⟩ (.string { data := #[] })).setCell ⟨yb, 10, none⟩ (.string { data := #[] })).setCell ⟨yb, 6, none⟩ (.string { data := #[] })).heap[hb]? = some (.cells #[.int .i64 1, .int .i64 se, .int .i64 ti, .string me, .string ur, .slice A n c, .string bo, .int .i64 st, .int .i64 co, .bool cr, .string no, .int .u64 nn] 34) := (setCell_heap_other _ _ _ hne).trans x3
          have g4 : Grew w (((((w3.setCell ⟨yb, 8, none⟩ (.int .i64 0)).setCell ⟨yb, 3, none⟩ (.string { data := #[] })).setCell ⟨yb, 4, none⟩ (.string { data := #[] })).setCell ⟨yb, 10, none⟩ (.string { data := #[] })).setCell ⟨yb, 6, none⟩ (.string { data := #[] })) := g3.st (p := ⟨yb, 6, none⟩) hyb _
          have k105 : (((((w3.setCell ⟨yb, 8, none⟩ (.int .i64 0)).setCell ⟨yb, 3, none⟩ (.string { data := #[] })).setCell ⟨yb, 4, none⟩ (.string { data := #[] })).setCell ⟨yb, 10, none⟩ (.string { data := #[] })).setCell ⟨yb, 6, none⟩ (.string { data := #[] })).cell? ⟨yb, 5, none⟩ = some (.slice A n c) := cell_of_heap y4 rfl
          have f105 : (((((w3.setCell ⟨yb, 8, none⟩ (.int .i64 0)).setCell ⟨yb, 3, none⟩ (.string { data := #[] })).setCell ⟨yb, 4, none⟩ (.string { data := #[] })).setCell ⟨yb, 10, none⟩ (.string { data := #[] })).setCell ⟨yb, 6, none⟩ (.string { data := #[] })).frozen? ⟨yb, 5, none⟩ = false := frozen_of_heap y4
          have y5 : ((((((w3.setCell ⟨yb, 8, none⟩ (.int .i64 0)).setCell ⟨yb, 3, none⟩ (.string { data := #[] })).setCell ⟨yb, 4, none⟩ (.string { data := #[] })).setCell ⟨yb, 10, none⟩ (.string { data := #[] })).setCell ⟨yb, 6, none⟩ (.string { data := #[] })).setCell ⟨yb, 5, none⟩ (.slice none 0 0)).heap[yb]? = some (.cells #[.int .i64 0, .int .i64 0, .int .i64 0, .string { data := #[] }, .string { data := #[] }, .slice none 0 0, .string { data := #[] }, .int .i64 st, .int .i64 0, .bool cr, .string { data := #[] }, .int .u64 nn] 34) := by have := setCell_heap_same y4 (i := 5) (.slice none 0 0); simpa using this
          have x5 : ((((((w3.setCell ⟨yb, 8, none⟩ (.int .i64 0)).setCell ⟨yb, 3, none⟩ (.string { data := #[] })).setCell ⟨yb, 4, none⟩ (.string { data := #[] })).setCell ⟨yb, 10, none⟩ (.string { data := #[] })).setCell ⟨yb, 6, none⟩ (.string { data := #[] })).setCell ⟨yb, 5, none⟩ (.slice none 0 0)).heap[hb]? = some (.cells #[.int .i64 1, .int .i64 se, .int .i64 ti, .string me, .string ur, .slice A n c, .string bo, .int .i64 st, .int .i64 co, .bool cr, .string no, .int .u64 nn] 34) := (setCell_heap_other _ _ _ hne).trans x4
          have g5 : Grew w ((((((w3.setCell ⟨yb, 8, none⟩ (.int .i64 0)).setCell ⟨yb, 3, none⟩ (.string { data := #[] })).setCell ⟨yb, 4, none⟩ (.string { data := #[] })).setCell ⟨yb, 10, none⟩ (.string { data := #[] })).setCell ⟨yb, 6, none⟩ (.string { data := #[] })).setCell ⟨yb, 5, none⟩ (.slice none 0 0)) := g4.st (p := ⟨yb, 5, none⟩) hyb _
          have HF := Lib.hid y5
          have HGF := Lib.hid g5
          clear hyb hne hy1 hy0 hgW1 y0 x0 g0 y1 x1 g1 y2 x2 g2 y3 x3 g3 y4 x4 g4 y5 x5 g5
          cases mb
          all_goals
            go_upto_region 32 with fail
            generalize ((((((w3.setCell ⟨yb, 8, none⟩ (.int .i64 0)).setCell ⟨yb, 3, none⟩ (.string { data := #[] })).setCell ⟨yb, 4, none⟩ (.string { data := #[] })).setCell ⟨yb, 10, none⟩ (.string { data := #[] })).setCell ⟨yb, 6, none⟩ (.string { data := #[] })).setCell ⟨yb, 5, none⟩ (.slice none 0 0)) = W9 at *
            clear k100 f100 k101 f101 k102 f102 k103 f103 k104 f104 k105 f105
            have hsm := same_b ⟨0, 0, 0, noT, noT, [], noT, st, 0, cr, noT, nn⟩ none 0 0 ⟨0, 0, 0, noT, noT, [], noT, 0, 0, false, noT, 0⟩ none 0 0 W9 (RdV.nil _ _ _) (RdV.nil _ _ _) (by omega) (by omega) (decide (st = 0 ∧ cr = false ∧ nn = 0)) (by simp [sameE])
            generalize decide (st = 0 ∧ cr = false ∧ nn = 0) = bb at hsm hge
            have HSM := Lib.hid hsm
            clear hsm
            go_wp2_with (first | ((with_reducible refine gate_ld 34 (.tmp 4) rfl ?_); refine ld_row (.inr rfl) rfl rfl HF.out rfl Try.underlying34 (by kernel_rfl) ?_) | (go_at_call 19; refine Calls.mono HSM.out ?_; rintro e w4 ⟨rfl, hg4⟩))
            go_ret
            refine ⟨congrArg (fun b => Ending.returned (Value.bool b)) ?_, ?_⟩
            · refine Eq.trans ?_ hge.symm
              simp [*]
            · first | exact HGF.out.tr hg4 | exact HGF.out
        · have d0 : decide (0 ≤ co) = false := decide_eq_false q0
          have hmf : modesB co = false := by unfold modesB modesR; rw [decide_eq_false (p := 1 ≤ co / 64 ∧ co / 64 ≤ 10) (by omega)]; simp
          rw [hmf] at hge
          clear hmf hco
          go_upto_region 15 with fail
          have hrb := heap_alloc_new W1 (.cells #[.string { data := #[] }, .string { data := #[] }, .int .i64 (co.tmod 4), .int .i64 ((wrap64 (co.tdiv 4)).tmod 4), .int .i64 ((wrap64 (co.tdiv 16)).tmod 4), .int .i64 (wrap64 (co.tdiv 64)), .string { data := #[] }, .slice none 0 0, .string { data := #[] }] 72)
          have hyb1 := heap_keep ((Grew.rf _).al (.cells #[.string { data := #[] }, .string { data := #[] }, .int .i64 (co.tmod 4), .int .i64 ((wrap64 (co.tdiv 4)).tmod 4), .int .i64 ((wrap64 (co.tdiv 16)).tmod 4), .int .i64 (wrap64 (co.tdiv 64)), .string { data := #[] }, .slice none 0 0, .string { data := #[] }] 72)) HY.out
          have hxb1 := heap_keep ((Grew.rf _).al (.cells #[.string { data := #[] }, .string { data := #[] }, .int .i64 (co.tmod 4), .int .i64 ((wrap64 (co.tdiv 4)).tmod 4), .int .i64 ((wrap64 (co.tdiv 16)).tmod 4), .int .i64 (wrap64 (co.tdiv 64)), .string { data := #[] }, .slice none 0 0, .string { data := #[] }] 72)) HX.out
          have hgW2 : Grew w (W1.alloc (.cells #[.string { data := #[] }, .string { data := #[] }, .int .i64 (co.tmod 4), .int .i64 ((wrap64 (co.tdiv 4)).tmod 4), .int .i64 ((wrap64 (co.tdiv 16)).tmod 4), .int .i64 (wrap64 (co.tdiv 64)), .string { data := #[] }, .slice none 0 0, .string { data := #[] }] 72)) := HG.out.al _
          generalize W1.alloc (.cells #[.string { data := #[] }, .string { data := #[] }, .int .i64 (co.tmod 4), .int .i64 ((wrap64 (co.tdiv 4)).tmod 4), .int .i64 ((wrap64 (co.tdiv 16)).tmod 4), .int .i64 (wrap64 (co.tdiv 64)), .string { data := #[] }, .slice none 0 0, .string { data := #[] }] 72) = W2 at *
          obtain ⟨rb, hrb0⟩ : ∃ rb, W1.heap.size = rb := ⟨_, rfl⟩
          rw [hrb0] at hrb ⊢
          clear hrb0 c8 c0
          have c8 : W2.cell? ⟨hb, 8, none⟩ = some (.int .i64 co) := cell_of_heap hxb1 rfl
          have hy1 := hyb1
          have hy0 := hxb1
          have hgW1 := hgW2
          clear hrb hyb1 hxb1 hgW2
          have hyb := HYB.out
          have hne := HNE.out
          have k100 : W2.cell? ⟨yb, 8, none⟩ = some (.int .i64 co) := cell_of_heap hy1 rfl
          have f100 : W2.frozen? ⟨yb, 8, none⟩ = false := frozen_of_heap hy1
          have y0 : (W2.setCell ⟨yb, 8, none⟩ (.int .i64 0)).heap[yb]? = some (.cells #[.int .i64 0, .int .i64 0, .int .i64 0, .string me, .string ur, .slice A n c, .string bo, .int .i64 st, .int .i64 0, .bool cr, .string no, .int .u64 nn] 34) := by have := setCell_heap_same hy1 (i := 8) (.int .i64 0); simpa using this
          have x0 : (W2.setCell ⟨yb, 8, none⟩ (.int .i64 0)).heap[hb]? = some (.cells #[.int .i64 1, .int .i64 se, .int .i64 ti, .string me, .string ur, .slice A n c, .string bo, .int .i64 st, .int .i64 co, .bool cr, .string no, .int .u64 nn] 34) := (setCell_heap_other _ _ _ hne).trans hy0
          have g0 : Grew w (W2.setCell ⟨yb, 8, none⟩ (.int .i64 0)) := hgW1.st (p := ⟨yb, 8, none⟩) hyb _
          have k101 : (W2.setCell ⟨yb, 8, none⟩ (.int .i64 0)).cell? ⟨yb, 3, none⟩ = some (.string me) := cell_of_heap y0 rfl
          have f101 : (W2.setCell ⟨yb, 8, none⟩ (.int .i64 0)).frozen? ⟨yb, 3, none⟩ = false := frozen_of_heap y0
          have y1 : ((W2.setCell ⟨yb, 8, none⟩ (.int .i64 0)).setCell ⟨yb, 3, none⟩ (.string { data := #[] })).heap[yb]? = some (.cells #[.int .i64 0, .int .i64 0, .int .i64 0, .string { data := #[] }, .string ur, .slice A n c, .string bo, .int .i64 st, .int .i64 0, .bool cr, .string no, .int .u64 nn] 34) := by have := setCell_heap_same y0 (i := 3) (.string { data := #[] }); simpa using this
          have x1 : ((W2.setCell ⟨yb, 8, none⟩ (.int .i64 0)).setCell ⟨yb, 3, none⟩ (.string { data := #[] })).heap[hb]? = some (.cells #[.int .i64 1, .int .i64 se, .int .i64 ti, .string me, .string ur, .slice A n c, .string bo, .int .i64 st, .int .i64 co, .bool cr, .string no, .int .u64 nn] 34) := (setCell_heap_other _ _ _ hne).trans x0
          have g1 : Grew w ((W2.setCell ⟨yb, 8, none⟩ (.int .i64 0)).setCell ⟨yb, 3, none⟩ (.string { data := #[] })) := g0.st (p := ⟨yb, 3, none⟩) hyb _
          have k102 : ((W2.setCell ⟨yb, 8, none⟩ (.int .i64 0)).setCell ⟨yb, 3, none⟩ (.string { data := #[] })).cell? ⟨yb, 4, none⟩ = some (.string ur) := cell_of_heap y1 rfl
          have f102 : ((W2.setCell ⟨yb, 8, none⟩ (.int .i64 0)).setCell ⟨yb, 3, none⟩ (.string { data := #[] })).frozen? ⟨yb, 4, none⟩ = false := frozen_of_heap y1
          have y2 : (((W2.setCell ⟨yb, 8, none⟩ (.int .i64 0)).setCell ⟨yb, 3, none⟩ (.string { data := #[] })).setCell ⟨yb, 4, none⟩ (.string { data := #[] })).heap[yb]? = some (.cells #[.int .i64 0, .int .i64 0, .int .i64 0, .string { data := #[] }, .string { data := #[] }, .slice A n c, .string bo, .int .i64 st, .int .i64 0, .bool cr, .string no, .int .u64 nn] 34) := by have := setCell_heap_same y1 (i := 4) (.string { data := #[] }); simpa using this
          have x2 : (((W2.setCell ⟨yb, 8, none⟩ (.int .i64 0)).setCell ⟨yb, 3, none⟩ (.string { data := #[] })).setCell ⟨yb, 4, none⟩ (.string { data := #[] })).heap[hb]? = some (.cells #[.int .i64 1, .int .i64 se, .int .i64 ti, .string me, .string ur, .slice A n c, .string bo, .int .i64 st, .int .i64 co, .bool cr, .string no, .int .u64 nn] 34) := (setCell_heap_other _ _ _ hne).trans x1
          have g2 : Grew w (((W2.setCell ⟨yb, 8, none⟩ (.int .i64 0)).setCell ⟨yb, 3, none⟩ (.string { data := #[] })).setCell ⟨yb, 4, none⟩ (.string { data := #[] })) := g1.st (p := ⟨yb, 4, none⟩) hyb _
          have k103 : (((W2.setCell ⟨yb, 8, none⟩ (.int .i64 0)).setCell ⟨yb, 3, none⟩ (.string { data := #[] })).setCell ⟨yb, 4, none⟩ (.string { data := #[] })).cell? ⟨yb, 10, none⟩ = some (.string no) := cell_of_heap y2 rfl
          have f103 : (((W2.setCell ⟨yb, 8, none⟩ (.int .i64 0)).setCell ⟨yb, 3, none⟩ (.string { data := #[] })).setCell ⟨yb, 4, none⟩ (.string { data := #[] })).frozen? ⟨yb, 10, none⟩ = false := frozen_of_heap y2
          have y3 : ((((W2.setCell ⟨yb, 8, none⟩ (.int .i64 0)).setCell ⟨yb, 3, none⟩ (.string { data := #[] })).setCell ⟨yb, 4, none⟩ (.string { data := #[] })).setCell ⟨yb, 10, none⟩ (.string { data := #[] })).heap[yb]? = some (.cells #[.int .i64 0, .int .i64 0, .int .i64 0, .string { data := #[] }, .string { data := #[] }, .slice A n c, .string bo, .int .i64 st, .int .i64 0, .bool cr, .string { data := #[] }, .int .u64 nn] 34) := by have := setCell_heap_same y2 (i := 10) (.string { data := #[] }); simpa using this
          have x3 : ((((W2.setCell ⟨yb, 8, none⟩ (.int .i64 0)).setCell ⟨yb, 3, none⟩ (.string { data := #[] })).setCell ⟨yb, 4, none⟩ (.string { data := #[] })).setCell ⟨yb, 10, none⟩ (.string { data := #[] })).heap[hb]? = some (.cells #[.int .i64 1, .int .i64 se, .int .i64 ti, .string me, .string ur, .slice A n c, .string bo, .int .i64 st, .int .i64 co, .bool cr, .string no, .int .u64 nn] 34) := (setCell_heap_other _ _ _ hne).trans x2
          have g3 : Grew w ((((W2.setCell ⟨yb, 8, none⟩ (.int .i64 0)).setCell ⟨yb, 3, none⟩ (.string { data := #[] })).setCell ⟨yb, 4, none⟩ (.string { data := #[] })).setCell ⟨yb, 10, none⟩ (.string { data := #[] })) := g2.st (p := ⟨yb, 10, none⟩) hyb _
          have k104 : ((((W2.setCell ⟨yb, 8, none⟩ (.int .i64 0)).setCell ⟨yb, 3, none⟩ (.string { data := #[] })).setCell ⟨yb, 4, none⟩ (.string { data := #[] })).setCell ⟨yb, 10, none⟩ (.string { data := #[] })).cell? ⟨yb, 6, none⟩ = some (.string bo) := cell_of_heap y3 rfl
          have f104 : ((((W2.setCell ⟨yb, 8, none⟩ (.int .i64 0)).setCell ⟨yb, 3, none⟩ (.string { data := #[] })).setCell ⟨yb, 4, none⟩ (.string { data := #[] })).setCell ⟨yb, 10, none⟩ (.string { data := #[] })).frozen? ⟨yb, 6, none⟩ = false := frozen_of_heap y3
          have y4 : (((((W2.setCell ⟨yb, 8, none⟩ (.int .i64 0)).setCell ⟨yb, 3, none⟩ (.string { data := #[] })).setCell ⟨yb, 4, none⟩ (.string { data := #[] })).setCell ⟨yb, 10, none⟩ (.string { data := #[] })).setCell ⟨yb, 6, none⟩ (.string { data := #[] })).heap[yb]? = some (.cells #[.int .i64 0, .int .i64 0, .int .i64 0, .string { data := #[] }, .string { data := #[] }, .slice A n c, .string { data := #[] }, .int .i64 st, .int .i64 0, .bool cr, .string { data := #[] }, .int .u64 nn] 34) := by have := setCell_heap_same y3 (i := 6) (.string { data := #[] }); simpa using this
          have x4 : (((((W2.setCell ⟨yb, 8, none⟩ (.int .i64 0)).setCell ⟨yb, 3, none⟩ (.string { data := #[] })).setCell ⟨yb, 4, none⟩ (.string { data := #[] })).setCell ⟨yb, 10, none⟩ (.string { data := #[] })).setCell ⟨yb, 6, none⟩ (.string { data := #[] })).heap[hb]? = some (.cells #[.int .i64 1, .int .i64 se, .int .i64 ti, .string me, .string ur, .slice A n c, .string bo, .int .i64 st, .int .i64 co, .bool cr, .string no, .int .u64 nn] 34) := (setCell_heap_other _ _ _ hne).trans x3
          have g4 : Grew w (((((W2.setCell ⟨yb, 8, none⟩ (.int .i64 0)).setCell ⟨yb, 3, none⟩ (.string { data := #[] })).setCell ⟨yb, 4, none⟩ (.string { data := #[] })).setCell ⟨yb, 10, none⟩ (.string { data := #[] })).setCell ⟨yb, 6, none⟩ (.string { data := #[] })) := g3.st (p := ⟨yb, 6, none⟩) hyb _
          have k105 : (((((W2.setCell ⟨yb, 8, none⟩ (.int .i64 0)).setCell ⟨yb, 3, none⟩ (.string { data := #[] })).setCell ⟨yb, 4, none⟩ (.string { data := #[] })).setCell ⟨yb, 10, none⟩ (.string { data := #[] })).setCell ⟨yb, 6, none⟩ (.string { data := #[] })).cell? ⟨yb, 5, none⟩ = some (.slice A n c) := cell_of_heap y4 rfl
          have f105 : (((((W2.setCell ⟨yb, 8, none⟩ (.int .i64 0)).setCell ⟨yb, 3, none⟩ (.string { data := #[] })).setCell ⟨yb, 4, none⟩ (.string { data := #[] })).setCell ⟨yb, 10, none⟩ (.string { data := #[] })).setCell ⟨yb, 6, none⟩ (.string { data := #[] })).frozen? ⟨yb, 5, none⟩ = false := frozen_of_heap y4
          have y5 : ((((((W2.setCell ⟨yb, 8, none⟩ (.int .i64 0)).setCell ⟨yb, 3, none⟩ (.string { data := #[] })).setCell ⟨yb, 4, none⟩ (.string { data := #[] })).setCell ⟨yb, 10, none⟩ (.string { data := #[] })).setCell ⟨yb, 6, none⟩ (.string { data := #[] })).setCell ⟨yb, 5, none⟩ (.slice none 0 0)).heap[yb]? = some (.cells #[.int .i64 0, .int .i64 0, .int .i64 0, .string { data := #[] }, .string { data := #[] }, .slice none 0 0, .string { data := #[] }, .int .i64 st, .int .i64 0, .bool cr, .string { data := #[] }, .int .u64 nn] 34) := by have := setCell_heap_same y4 (i := 5) (.slice none 0 0); simpa using this
          have x5 : ((((((W2.setCell ⟨yb, 8, none⟩ (.int .i64 0)).setCell ⟨yb, 3, none⟩ (.string { data := #[] })).setCell ⟨yb, 4, none⟩ (.string { data := #[] })).setCell ⟨yb, 10, none⟩ (.string { data := #[] })).setCell ⟨yb, 6, none⟩ (.string { data := #[] })).setCell ⟨yb, 5, none⟩ (.slice none 0 0)).heap[hb]? = some (.cells #[.int .i64 1, .int .i64 se, .int .i64 ti, .string me, .string ur, .slice A n c, .string bo, .int .i64 st, .int .i64 co, .bool cr, .string no, .int .u64 nn] 34) := (setCell_heap_other _ _ _ hne).trans x4
          have g5 : Grew w ((((((W2.setCell ⟨yb, 8, none⟩ (.int .i64 0)).setCell ⟨yb, 3, none⟩ (.string { data := #[] })).setCell ⟨yb, 4, none⟩ (.string { data := #[] })).setCell ⟨yb, 10, none⟩ (.string { data := #[] })).setCell ⟨yb, 6, none⟩ (.string { data := #[] })).setCell ⟨yb, 5, none⟩ (.slice none 0 0)) := g4.st (p := ⟨yb, 5, none⟩) hyb _
          have HF := Lib.hid y5
          have HGF := Lib.hid g5
          clear hyb hne hy1 hy0 hgW1 y0 x0 g0 y1 x1 g1 y2 x2 g2 y3 x3 g3 y4 x4 g4 y5 x5 g5
          go_upto_region 32 with fail
          generalize ((((((W2.setCell ⟨yb, 8, none⟩ (.int .i64 0)).setCell ⟨yb, 3, none⟩ (.string { data := #[] })).setCell ⟨yb, 4, none⟩ (.string { data := #[] })).setCell ⟨yb, 10, none⟩ (.string { data := #[] })).setCell ⟨yb, 6, none⟩ (.string { data := #[] })).setCell ⟨yb, 5, none⟩ (.slice none 0 0)) = W9 at *
          clear k100 f100 k101 f101 k102 f102 k103 f103 k104 f104 k105 f105
          go_wp2_with fail
          go_ret
          exact ⟨by first | rfl | (rw [hge, Bool.and_false]; rfl), HGF.out⟩
      have hge : goodE ⟨ki, se, ti, me, ur, hs, bo, st, co, cr, no, nn⟩ = false := by rw [HGE.out]; simp [goodK, hk1, hk2, hk3, hk4, hk5, hk6, hk7]
      clear HGE
      have d1 : (ki == 1) = false := by simpa using hk1
      have dd1 : decide (ki = 1) = false := by simpa using hk1
      have d2 : (ki == 2) = false := by simpa using hk2
      have dd2 : decide (ki = 2) = false := by simpa using hk2
      have d3 : (ki == 3) = false := by simpa using hk3
      have dd3 : decide (ki = 3) = false := by simpa using hk3
      have d4 : (ki == 4) = false := by simpa using hk4
      have dd4 : decide (ki = 4) = false := by simpa using hk4
      have d5 : (ki == 5) = false := by simpa using hk5
      have dd5 : decide (ki = 5) = false := by simpa using hk5
      have d6 : (ki == 6) = false := by simpa using hk6
      have dd6 : decide (ki = 6) = false := by simpa using hk6
      have d7 : (ki == 7) = false := by simpa using hk7
      have dd7 : decide (ki = 7) = false := by simpa using hk7
      go_wp2_with fail
      go_ret
      exact ⟨by first | rfl | (rw [hge]; rfl), HG.out⟩
end Go.Proofs.Ytbkcpgaicoagfaa
