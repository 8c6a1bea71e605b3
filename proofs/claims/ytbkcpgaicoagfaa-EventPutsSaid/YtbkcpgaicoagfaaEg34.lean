/- SameInput of one input. -/
import Derived.Test.YtbkcpgaicoagfaaEg30
import Derived.BigRegion
import Derived.Test.YtbkcpgaicoagfaaEg22
import Derived.Test.YtbkcpgaicoagfaaEg12
import Derived.Test.YtbkcpgaicoagfaaEg33
set_option linter.unusedVariables false
set_option linter.unusedSimpArgs false
namespace Go.Proofs.Ytbkcpgaicoagfaa
open Go.RowKit

theorem gen_then {next : Act → World → Prop} {Q : Exit → Act → World → Prop} {e : Exit} {a : Act} {w : World} (h : ∀ u, u = w → Exit.then next Q e a u) : Exit.then next Q e a w := h w rfl

set_option maxRecDepth 100000 in
set_option maxHeartbeats 6400000 in
theorem sameInput_any (i : Inp) (A : Option Addr) (n c : Nat) (B : Option Addr) (m d : Nat) (A2 : Option Addr) (n2 c2 : Nat) (B2 : Option Addr) (m2 d2 : Nat) (w : World) (h1 : RdH w A n i.hs) (h2 : RdH w B m i.h2) (h3 : RdH w A2 n2 i.hs) (h4 : RdH w B2 m2 i.h2) (l1 : n ≤ 1000) (l2 : m ≤ 1000) (l3 : n2 ≤ 1000) (l4 : m2 ≤ 1000) :
    Calls Try.prog 40 #[.agg (inA i A n c B m d), .agg (inA i A2 n2 c2 B2 m2 d2)] w fun e w' => e = .returned (.bool true) ∧ Grew w w' := by
  obtain ⟨k, se, me, ur, a1, a2, a3, a4, no, hs, bo, st, hs2, b2, nn⟩ := i
  have hs1 := fun (u : World) (hu : Grew w u) => same_any A n c hs A2 n2 c2 hs u (h1.keep hu) (h3.keep hu) (by omega) (by omega)
  have hs2' := fun (u : World) (hu : Grew w u) => same_any B m d hs2 B2 m2 d2 hs2 u (h2.keep hu) (h4.keep hu) (by omega) (by omega)
  have ht1 : decide (hs = hs) = true := by simp
  have ht2 : decide (hs2 = hs2) = true := by simp
  rw [ht1] at hs1
  rw [ht2] at hs2'
  have HS1 := Lib.hid hs1
  have HS2 := Lib.hid hs2'
  clear hs1 hs2' ht1 ht2 h1 h2 h3 h4
  go_enter Try.func40, Try.ntmps40
  go_upto_region 1 with fail
  have hx0 := heap_keep ((Grew.rf _).al (.cells (inA ⟨k, se, me, ur, a1, a2, a3, a4, no, hs, bo, st, hs2, b2, nn⟩ A2 n2 c2 B2 m2 d2) 76)) (heap_alloc_new w (.cells (inA ⟨k, se, me, ur, a1, a2, a3, a4, no, hs, bo, st, hs2, b2, nn⟩ A n c B m d) 76))
  have hx1 := heap_alloc_new (w.alloc (.cells (inA ⟨k, se, me, ur, a1, a2, a3, a4, no, hs, bo, st, hs2, b2, nn⟩ A n c B m d) 76)) (.cells (inA ⟨k, se, me, ur, a1, a2, a3, a4, no, hs, bo, st, hs2, b2, nn⟩ A2 n2 c2 B2 m2 d2) 76)
  rw [World.size_alloc] at hx1
  go_region
  · have hz2 := heap_keep ((Grew.rf (((w.alloc (.cells (inA ⟨k, se, me, ur, a1, a2, a3, a4, no, hs, bo, st, hs2, b2, nn⟩ A n c B m d) 76)).alloc (.cells (inA ⟨k, se, me, ur, a1, a2, a3, a4, no, hs, bo, st, hs2, b2, nn⟩ A2 n2 c2 B2 m2 d2) 76)).alloc (.cells #[.string me, .string ur, .int .i64 a1, .int .i64 a2, .int .i64 a3, .int .i64 a4, .string no, .slice A n c, .string bo] 72))).al (.cells #[.string me, .string ur, .int .i64 a1, .int .i64 a2, .int .i64 a3, .int .i64 a4, .string no, .slice A2 n2 c2, .string bo] 72)) (heap_alloc_new ((w.alloc (.cells (inA ⟨k, se, me, ur, a1, a2, a3, a4, no, hs, bo, st, hs2, b2, nn⟩ A n c B m d) 76)).alloc (.cells (inA ⟨k, se, me, ur, a1, a2, a3, a4, no, hs, bo, st, hs2, b2, nn⟩ A2 n2 c2 B2 m2 d2) 76)) (.cells #[.string me, .string ur, .int .i64 a1, .int .i64 a2, .int .i64 a3, .int .i64 a4, .string no, .slice A n c, .string bo] 72))
    have hz3 := heap_alloc_new (((w.alloc (.cells (inA ⟨k, se, me, ur, a1, a2, a3, a4, no, hs, bo, st, hs2, b2, nn⟩ A n c B m d) 76)).alloc (.cells (inA ⟨k, se, me, ur, a1, a2, a3, a4, no, hs, bo, st, hs2, b2, nn⟩ A2 n2 c2 B2 m2 d2) 76)).alloc (.cells #[.string me, .string ur, .int .i64 a1, .int .i64 a2, .int .i64 a3, .int .i64 a4, .string no, .slice A n c, .string bo] 72)) (.cells #[.string me, .string ur, .int .i64 a1, .int .i64 a2, .int .i64 a3, .int .i64 a4, .string no, .slice A2 n2 c2, .string bo] 72)
    have hz0 := heap_keep (((Grew.rf ((w.alloc (.cells (inA ⟨k, se, me, ur, a1, a2, a3, a4, no, hs, bo, st, hs2, b2, nn⟩ A n c B m d) 76)).alloc (.cells (inA ⟨k, se, me, ur, a1, a2, a3, a4, no, hs, bo, st, hs2, b2, nn⟩ A2 n2 c2 B2 m2 d2) 76))).al (.cells #[.string me, .string ur, .int .i64 a1, .int .i64 a2, .int .i64 a3, .int .i64 a4, .string no, .slice A n c, .string bo] 72)).al (.cells #[.string me, .string ur, .int .i64 a1, .int .i64 a2, .int .i64 a3, .int .i64 a4, .string no, .slice A2 n2 c2, .string bo] 72)) hx0
    have hz1 := heap_keep (((Grew.rf ((w.alloc (.cells (inA ⟨k, se, me, ur, a1, a2, a3, a4, no, hs, bo, st, hs2, b2, nn⟩ A n c B m d) 76)).alloc (.cells (inA ⟨k, se, me, ur, a1, a2, a3, a4, no, hs, bo, st, hs2, b2, nn⟩ A2 n2 c2 B2 m2 d2) 76))).al (.cells #[.string me, .string ur, .int .i64 a1, .int .i64 a2, .int .i64 a3, .int .i64 a4, .string no, .slice A n c, .string bo] 72)).al (.cells #[.string me, .string ur, .int .i64 a1, .int .i64 a2, .int .i64 a3, .int .i64 a4, .string no, .slice A2 n2 c2, .string bo] 72)) hx1
    have hgW : Grew w ((((w.alloc (.cells (inA ⟨k, se, me, ur, a1, a2, a3, a4, no, hs, bo, st, hs2, b2, nn⟩ A n c B m d) 76)).alloc (.cells (inA ⟨k, se, me, ur, a1, a2, a3, a4, no, hs, bo, st, hs2, b2, nn⟩ A2 n2 c2 B2 m2 d2) 76)).alloc (.cells #[.string me, .string ur, .int .i64 a1, .int .i64 a2, .int .i64 a3, .int .i64 a4, .string no, .slice A n c, .string bo] 72)).alloc (.cells #[.string me, .string ur, .int .i64 a1, .int .i64 a2, .int .i64 a3, .int .i64 a4, .string no, .slice A2 n2 c2, .string bo] 72)).drew := ((((Grew.rf w).al _).al _).al _).al _ |>.dr
    simp only [World.size_alloc] at hz2 hz3
    refine gen_then ?_
    intro W hW
    have hz0' : W.heap[w.heap.size]? = some (.cells (inA ⟨k, se, me, ur, a1, a2, a3, a4, no, hs, bo, st, hs2, b2, nn⟩ A n c B m d) 76) := by rw [hW]; exact hz0
    have hz1' : W.heap[w.heap.size + 1]? = some (.cells (inA ⟨k, se, me, ur, a1, a2, a3, a4, no, hs, bo, st, hs2, b2, nn⟩ A2 n2 c2 B2 m2 d2) 76) := by rw [hW]; exact hz1
    have hz2' : W.heap[w.heap.size + 1 + 1]? = some (.cells #[.string me, .string ur, .int .i64 a1, .int .i64 a2, .int .i64 a3, .int .i64 a4, .string no, .slice A n c, .string bo] 72) := by rw [hW]; exact hz2
    have hz3' : W.heap[w.heap.size + 1 + 1 + 1]? = some (.cells #[.string me, .string ur, .int .i64 a1, .int .i64 a2, .int .i64 a3, .int .i64 a4, .string no, .slice A2 n2 c2, .string bo] 72) := by rw [hW]; exact hz3
    have hgW' : Grew w W := by rw [hW]; exact hgW
    obtain ⟨hb, hhb⟩ : ∃ hb, w.heap.size = hb := ⟨_, rfl⟩
    rw [hhb] at hz0' hz1' hz2' hz3' ⊢
    have HHB := Lib.hid hhb
    have HZ0 := Lib.hid hz0'
    have HZ1 := Lib.hid hz1'
    have HGW := Lib.hid hgW'
    have p0 : W.cell? ⟨hb + 1 + 1, 0, none⟩ = some (.string me) := cell_of_heap hz2' rfl
    have q0 : W.cell? ⟨hb + 1 + 1 + 1, 0, none⟩ = some (.string me) := cell_of_heap hz3' rfl
    have p1 : W.cell? ⟨hb + 1 + 1, 1, none⟩ = some (.string ur) := cell_of_heap hz2' rfl
    have q1 : W.cell? ⟨hb + 1 + 1 + 1, 1, none⟩ = some (.string ur) := cell_of_heap hz3' rfl
    have p2 : W.cell? ⟨hb + 1 + 1, 2, none⟩ = some (.int .i64 a1) := cell_of_heap hz2' rfl
    have q2 : W.cell? ⟨hb + 1 + 1 + 1, 2, none⟩ = some (.int .i64 a1) := cell_of_heap hz3' rfl
    have p3 : W.cell? ⟨hb + 1 + 1, 3, none⟩ = some (.int .i64 a2) := cell_of_heap hz2' rfl
    have q3 : W.cell? ⟨hb + 1 + 1 + 1, 3, none⟩ = some (.int .i64 a2) := cell_of_heap hz3' rfl
    have p4 : W.cell? ⟨hb + 1 + 1, 4, none⟩ = some (.int .i64 a3) := cell_of_heap hz2' rfl
    have q4 : W.cell? ⟨hb + 1 + 1 + 1, 4, none⟩ = some (.int .i64 a3) := cell_of_heap hz3' rfl
    have p5 : W.cell? ⟨hb + 1 + 1, 5, none⟩ = some (.int .i64 a4) := cell_of_heap hz2' rfl
    have q5 : W.cell? ⟨hb + 1 + 1 + 1, 5, none⟩ = some (.int .i64 a4) := cell_of_heap hz3' rfl
    have p6 : W.cell? ⟨hb + 1 + 1, 6, none⟩ = some (.string no) := cell_of_heap hz2' rfl
    have q6 : W.cell? ⟨hb + 1 + 1 + 1, 6, none⟩ = some (.string no) := cell_of_heap hz3' rfl
    have p7 : W.cell? ⟨hb + 1 + 1, 7, none⟩ = some (.slice A n c) := cell_of_heap hz2' rfl
    have q7 : W.cell? ⟨hb + 1 + 1 + 1, 7, none⟩ = some (.slice A2 n2 c2) := cell_of_heap hz3' rfl
    have p8 : W.cell? ⟨hb + 1 + 1, 8, none⟩ = some (.string bo) := cell_of_heap hz2' rfl
    have q8 : W.cell? ⟨hb + 1 + 1 + 1, 8, none⟩ = some (.string bo) := cell_of_heap hz3' rfl
    clear hz0 hz1 hz2 hz3 hgW hW hhb hz0' hz1' hz2' hz3' hgW' hx0 hx1
    go_wp2_with (first | (have hh := hg5; go_at_call 35; refine Calls.mono (HS2.out _ (HGW.out.tr hg5)) ?_; rintro e w6 ⟨rfl, hg6⟩) | (go_at_call 35; refine Calls.mono (HS1.out _ HGW.out) ?_; rintro e w5 ⟨rfl, hg5⟩; have hy0 := heap_keep hg5 HZ0.out; have hy1 := heap_keep hg5 HZ1.out; have x0 : w5.cell? ⟨hb, 0, none⟩ = some (.int .i64 k) := cell_of_heap hy0 rfl; have y0 : w5.cell? ⟨hb + 1, 0, none⟩ = some (.int .i64 k) := cell_of_heap hy1 rfl; have x1 : w5.cell? ⟨hb, 1, none⟩ = some (.int .i64 se) := cell_of_heap hy0 rfl; have y1 : w5.cell? ⟨hb + 1, 1, none⟩ = some (.int .i64 se) := cell_of_heap hy1 rfl; have x11 : w5.cell? ⟨hb, 11, none⟩ = some (.int .i64 st) := cell_of_heap hy0 rfl; have y11 : w5.cell? ⟨hb + 1, 11, none⟩ = some (.int .i64 st) := cell_of_heap hy1 rfl; have x12 : w5.cell? ⟨hb, 12, none⟩ = some (.slice B m d) := cell_of_heap hy0 rfl; have y12 : w5.cell? ⟨hb + 1, 12, none⟩ = some (.slice B2 m2 d2) := cell_of_heap hy1 rfl; have x13 : w5.cell? ⟨hb, 13, none⟩ = some (.string b2) := cell_of_heap hy0 rfl; have y13 : w5.cell? ⟨hb + 1, 13, none⟩ = some (.string b2) := cell_of_heap hy1 rfl; have x14 : w5.cell? ⟨hb, 14, none⟩ = some (.int .u64 nn) := cell_of_heap hy0 rfl; have y14 : w5.cell? ⟨hb + 1, 14, none⟩ = some (.int .u64 nn) := cell_of_heap hy1 rfl; clear hy0 hy1))
    go_ret
    exact ⟨by first | rfl | simp, (HGW.out.tr hg5).tr hg6⟩
  · have hz2 := heap_keep ((Grew.rf (((w.alloc (.cells (inA ⟨k, se, me, ur, a1, a2, a3, a4, no, hs, bo, st, hs2, b2, nn⟩ A n c B m d) 76)).alloc (.cells (inA ⟨k, se, me, ur, a1, a2, a3, a4, no, hs, bo, st, hs2, b2, nn⟩ A2 n2 c2 B2 m2 d2) 76)).alloc (.cells #[.string me, .string ur, .int .i64 a1, .int .i64 a2, .int .i64 a3, .int .i64 a4, .string no, .slice A2 n2 c2, .string bo] 72))).al (.cells #[.string me, .string ur, .int .i64 a1, .int .i64 a2, .int .i64 a3, .int .i64 a4, .string no, .slice A n c, .string bo] 72)) (heap_alloc_new ((w.alloc (.cells (inA ⟨k, se, me, ur, a1, a2, a3, a4, no, hs, bo, st, hs2, b2, nn⟩ A n c B m d) 76)).alloc (.cells (inA ⟨k, se, me, ur, a1, a2, a3, a4, no, hs, bo, st, hs2, b2, nn⟩ A2 n2 c2 B2 m2 d2) 76)) (.cells #[.string me, .string ur, .int .i64 a1, .int .i64 a2, .int .i64 a3, .int .i64 a4, .string no, .slice A2 n2 c2, .string bo] 72))
    have hz3 := heap_alloc_new (((w.alloc (.cells (inA ⟨k, se, me, ur, a1, a2, a3, a4, no, hs, bo, st, hs2, b2, nn⟩ A n c B m d) 76)).alloc (.cells (inA ⟨k, se, me, ur, a1, a2, a3, a4, no, hs, bo, st, hs2, b2, nn⟩ A2 n2 c2 B2 m2 d2) 76)).alloc (.cells #[.string me, .string ur, .int .i64 a1, .int .i64 a2, .int .i64 a3, .int .i64 a4, .string no, .slice A2 n2 c2, .string bo] 72)) (.cells #[.string me, .string ur, .int .i64 a1, .int .i64 a2, .int .i64 a3, .int .i64 a4, .string no, .slice A n c, .string bo] 72)
    have hz0 := heap_keep (((Grew.rf ((w.alloc (.cells (inA ⟨k, se, me, ur, a1, a2, a3, a4, no, hs, bo, st, hs2, b2, nn⟩ A n c B m d) 76)).alloc (.cells (inA ⟨k, se, me, ur, a1, a2, a3, a4, no, hs, bo, st, hs2, b2, nn⟩ A2 n2 c2 B2 m2 d2) 76))).al (.cells #[.string me, .string ur, .int .i64 a1, .int .i64 a2, .int .i64 a3, .int .i64 a4, .string no, .slice A2 n2 c2, .string bo] 72)).al (.cells #[.string me, .string ur, .int .i64 a1, .int .i64 a2, .int .i64 a3, .int .i64 a4, .string no, .slice A n c, .string bo] 72)) hx0
    have hz1 := heap_keep (((Grew.rf ((w.alloc (.cells (inA ⟨k, se, me, ur, a1, a2, a3, a4, no, hs, bo, st, hs2, b2, nn⟩ A n c B m d) 76)).alloc (.cells (inA ⟨k, se, me, ur, a1, a2, a3, a4, no, hs, bo, st, hs2, b2, nn⟩ A2 n2 c2 B2 m2 d2) 76))).al (.cells #[.string me, .string ur, .int .i64 a1, .int .i64 a2, .int .i64 a3, .int .i64 a4, .string no, .slice A2 n2 c2, .string bo] 72)).al (.cells #[.string me, .string ur, .int .i64 a1, .int .i64 a2, .int .i64 a3, .int .i64 a4, .string no, .slice A n c, .string bo] 72)) hx1
    have hgW : Grew w ((((w.alloc (.cells (inA ⟨k, se, me, ur, a1, a2, a3, a4, no, hs, bo, st, hs2, b2, nn⟩ A n c B m d) 76)).alloc (.cells (inA ⟨k, se, me, ur, a1, a2, a3, a4, no, hs, bo, st, hs2, b2, nn⟩ A2 n2 c2 B2 m2 d2) 76)).alloc (.cells #[.string me, .string ur, .int .i64 a1, .int .i64 a2, .int .i64 a3, .int .i64 a4, .string no, .slice A2 n2 c2, .string bo] 72)).alloc (.cells #[.string me, .string ur, .int .i64 a1, .int .i64 a2, .int .i64 a3, .int .i64 a4, .string no, .slice A n c, .string bo] 72)).drew := ((((Grew.rf w).al _).al _).al _).al _ |>.dr
    simp only [World.size_alloc] at hz2 hz3
    refine gen_then ?_
    intro W hW
    have hz0' : W.heap[w.heap.size]? = some (.cells (inA ⟨k, se, me, ur, a1, a2, a3, a4, no, hs, bo, st, hs2, b2, nn⟩ A n c B m d) 76) := by rw [hW]; exact hz0
    have hz1' : W.heap[w.heap.size + 1]? = some (.cells (inA ⟨k, se, me, ur, a1, a2, a3, a4, no, hs, bo, st, hs2, b2, nn⟩ A2 n2 c2 B2 m2 d2) 76) := by rw [hW]; exact hz1
    have hz2' : W.heap[w.heap.size + 1 + 1]? = some (.cells #[.string me, .string ur, .int .i64 a1, .int .i64 a2, .int .i64 a3, .int .i64 a4, .string no, .slice A2 n2 c2, .string bo] 72) := by rw [hW]; exact hz2
    have hz3' : W.heap[w.heap.size + 1 + 1 + 1]? = some (.cells #[.string me, .string ur, .int .i64 a1, .int .i64 a2, .int .i64 a3, .int .i64 a4, .string no, .slice A n c, .string bo] 72) := by rw [hW]; exact hz3
    have hgW' : Grew w W := by rw [hW]; exact hgW
    obtain ⟨hb, hhb⟩ : ∃ hb, w.heap.size = hb := ⟨_, rfl⟩
    rw [hhb] at hz0' hz1' hz2' hz3' ⊢
    have HHB := Lib.hid hhb
    have HZ0 := Lib.hid hz0'
    have HZ1 := Lib.hid hz1'
    have HGW := Lib.hid hgW'
    have p0 : W.cell? ⟨hb + 1 + 1 + 1, 0, none⟩ = some (.string me) := cell_of_heap hz3' rfl
    have q0 : W.cell? ⟨hb + 1 + 1, 0, none⟩ = some (.string me) := cell_of_heap hz2' rfl
    have p1 : W.cell? ⟨hb + 1 + 1 + 1, 1, none⟩ = some (.string ur) := cell_of_heap hz3' rfl
    have q1 : W.cell? ⟨hb + 1 + 1, 1, none⟩ = some (.string ur) := cell_of_heap hz2' rfl
    have p2 : W.cell? ⟨hb + 1 + 1 + 1, 2, none⟩ = some (.int .i64 a1) := cell_of_heap hz3' rfl
    have q2 : W.cell? ⟨hb + 1 + 1, 2, none⟩ = some (.int .i64 a1) := cell_of_heap hz2' rfl
    have p3 : W.cell? ⟨hb + 1 + 1 + 1, 3, none⟩ = some (.int .i64 a2) := cell_of_heap hz3' rfl
    have q3 : W.cell? ⟨hb + 1 + 1, 3, none⟩ = some (.int .i64 a2) := cell_of_heap hz2' rfl
    have p4 : W.cell? ⟨hb + 1 + 1 + 1, 4, none⟩ = some (.int .i64 a3) := cell_of_heap hz3' rfl
    have q4 : W.cell? ⟨hb + 1 + 1, 4, none⟩ = some (.int .i64 a3) := cell_of_heap hz2' rfl
    have p5 : W.cell? ⟨hb + 1 + 1 + 1, 5, none⟩ = some (.int .i64 a4) := cell_of_heap hz3' rfl
    have q5 : W.cell? ⟨hb + 1 + 1, 5, none⟩ = some (.int .i64 a4) := cell_of_heap hz2' rfl
    have p6 : W.cell? ⟨hb + 1 + 1 + 1, 6, none⟩ = some (.string no) := cell_of_heap hz3' rfl
    have q6 : W.cell? ⟨hb + 1 + 1, 6, none⟩ = some (.string no) := cell_of_heap hz2' rfl
    have p7 : W.cell? ⟨hb + 1 + 1 + 1, 7, none⟩ = some (.slice A n c) := cell_of_heap hz3' rfl
    have q7 : W.cell? ⟨hb + 1 + 1, 7, none⟩ = some (.slice A2 n2 c2) := cell_of_heap hz2' rfl
    have p8 : W.cell? ⟨hb + 1 + 1 + 1, 8, none⟩ = some (.string bo) := cell_of_heap hz3' rfl
    have q8 : W.cell? ⟨hb + 1 + 1, 8, none⟩ = some (.string bo) := cell_of_heap hz2' rfl
    clear hz0 hz1 hz2 hz3 hgW hW hhb hz0' hz1' hz2' hz3' hgW' hx0 hx1
    go_wp2_with (first | (have hh := hg5; go_at_call 35; refine Calls.mono (HS2.out _ (HGW.out.tr hg5)) ?_; rintro e w6 ⟨rfl, hg6⟩) | (go_at_call 35; refine Calls.mono (HS1.out _ HGW.out) ?_; rintro e w5 ⟨rfl, hg5⟩; have hy0 := heap_keep hg5 HZ0.out; have hy1 := heap_keep hg5 HZ1.out; have x0 : w5.cell? ⟨hb, 0, none⟩ = some (.int .i64 k) := cell_of_heap hy0 rfl; have y0 : w5.cell? ⟨hb + 1, 0, none⟩ = some (.int .i64 k) := cell_of_heap hy1 rfl; have x1 : w5.cell? ⟨hb, 1, none⟩ = some (.int .i64 se) := cell_of_heap hy0 rfl; have y1 : w5.cell? ⟨hb + 1, 1, none⟩ = some (.int .i64 se) := cell_of_heap hy1 rfl; have x11 : w5.cell? ⟨hb, 11, none⟩ = some (.int .i64 st) := cell_of_heap hy0 rfl; have y11 : w5.cell? ⟨hb + 1, 11, none⟩ = some (.int .i64 st) := cell_of_heap hy1 rfl; have x12 : w5.cell? ⟨hb, 12, none⟩ = some (.slice B m d) := cell_of_heap hy0 rfl; have y12 : w5.cell? ⟨hb + 1, 12, none⟩ = some (.slice B2 m2 d2) := cell_of_heap hy1 rfl; have x13 : w5.cell? ⟨hb, 13, none⟩ = some (.string b2) := cell_of_heap hy0 rfl; have y13 : w5.cell? ⟨hb + 1, 13, none⟩ = some (.string b2) := cell_of_heap hy1 rfl; have x14 : w5.cell? ⟨hb, 14, none⟩ = some (.int .u64 nn) := cell_of_heap hy0 rfl; have y14 : w5.cell? ⟨hb + 1, 14, none⟩ = some (.int .u64 nn) := cell_of_heap hy1 rfl; clear hy0 hy1))
    go_ret
    exact ⟨by first | rfl | simp, (HGW.out.tr hg5).tr hg6⟩
end Go.Proofs.Ytbkcpgaicoagfaa
/- The laws' cut; the reference's Request. -/
set_option linter.unusedVariables false
set_option linter.unusedSimpArgs false
namespace Go.Proofs.Ytbkcpgaicoagfaa
open Go.RowKit

def cutE (x : Ev) : Ev := { x with hs := x.hs.take 30 }
set_option maxRecDepth 100000 in
set_option maxHeartbeats 3200000 in
theorem cutE_any (x : Ev) (A : Option Addr) (n c : Nat) (w : World) (hr : RdH w A n x.hs) (hnc : n ≤ c) (hc : c ≤ 9223372036854775807) :
    Calls Try.prog 15 #[evV x A n c] w fun e w' => ∃ m, e = .returned (evV (cutE x) A m c) ∧ m ≤ 30 ∧ m ≤ n ∧ RdH w' A m (cutE x).hs ∧ Grew w w' ∧ (n = 0 → m = 0) := by
  obtain ⟨ki, se, ti, me, ur, hs, bo, st, co, cr, no, nn⟩ := x
  dsimp only at hr
  have hl := hr.lenH
  have HR := Lib.hid hr
  have HL := Lib.hid hl
  clear hr hl
  by_cases h30 : 30 < n
  · have hcut : ∀ W : World, (Instr.slice 31 (.slice A n c) none (some (.int .i64 30)) none).run Try.prog W = .ok (.slice A 30 c) W := fun W => cutH_hi (kh := .i64) A n c 30 (by omega) W
    go_enter Try.func15, Try.ntmps15
    go_upto_region 2 with fail
    have hq0 := heap_keep ((Grew.rf _).al (.cells #[.int .i64 0, .int .i64 0, .int .i64 0, .string { data := #[] }, .string { data := #[] }, .slice none 0 0, .string { data := #[] }, .int .i64 0, .int .i64 0, .bool false, .string { data := #[] }, .int .u64 0] 34)) (heap_alloc_new w (.cells #[.int .i64 ki, .int .i64 se, .int .i64 ti, .string me, .string ur, .slice A n c, .string bo, .int .i64 st, .int .i64 co, .bool cr, .string no, .int .u64 nn] 34))
    have hq1 := heap_alloc_new (w.alloc (.cells #[.int .i64 ki, .int .i64 se, .int .i64 ti, .string me, .string ur, .slice A n c, .string bo, .int .i64 st, .int .i64 co, .bool cr, .string no, .int .u64 nn] 34)) (.cells #[.int .i64 0, .int .i64 0, .int .i64 0, .string { data := #[] }, .string { data := #[] }, .slice none 0 0, .string { data := #[] }, .int .i64 0, .int .i64 0, .bool false, .string { data := #[] }, .int .u64 0] 34)
    have hgW : Grew w ((w.alloc (.cells #[.int .i64 ki, .int .i64 se, .int .i64 ti, .string me, .string ur, .slice A n c, .string bo, .int .i64 st, .int .i64 co, .bool cr, .string no, .int .u64 nn] 34)).alloc (.cells #[.int .i64 0, .int .i64 0, .int .i64 0, .string { data := #[] }, .string { data := #[] }, .slice none 0 0, .string { data := #[] }, .int .i64 0, .int .i64 0, .bool false, .string { data := #[] }, .int .u64 0] 34)) := ((Grew.rf w).al _).al _
    rw [World.size_alloc] at hq1
    generalize (w.alloc (.cells #[.int .i64 ki, .int .i64 se, .int .i64 ti, .string me, .string ur, .slice A n c, .string bo, .int .i64 st, .int .i64 co, .bool cr, .string no, .int .u64 nn] 34)).alloc (.cells #[.int .i64 0, .int .i64 0, .int .i64 0, .string { data := #[] }, .string { data := #[] }, .slice none 0 0, .string { data := #[] }, .int .i64 0, .int .i64 0, .bool false, .string { data := #[] }, .int .u64 0] 34) = W at *
    have hce := cell_of_heap (i := 5) hq0 rfl
    have hfz := frozen_of_heap (i := 5) hq0
    have hx0 : (W.setCell ⟨w.heap.size, 5, none⟩ (.slice A 30 c)).heap[w.heap.size]? = some (.cells #[.int .i64 ki, .int .i64 se, .int .i64 ti, .string me, .string ur, .slice A 30 c, .string bo, .int .i64 st, .int .i64 co, .bool cr, .string no, .int .u64 nn] 34) := by have := setCell_heap_same hq0 (i := 5) (.slice A 30 c); simpa using this
    have hx1 := (setCell_heap_other W ⟨w.heap.size, 5, none⟩ (.slice A 30 c) (k := w.heap.size + 1) (by simp)).trans hq1
    have hgs : Grew w (W.setCell ⟨w.heap.size, 5, none⟩ (.slice A 30 c)) := hgW.st (p := ⟨w.heap.size, 5, none⟩) (Nat.le_refl _) _
    have HX0 := Lib.hid hx0
    have HX1 := Lib.hid hx1
    have HGS := Lib.hid hgs
    clear hq0 hq1 hgW hx0 hx1 hgs
    go_upto_region 3 with fail
    generalize W.setCell ⟨w.heap.size, 5, none⟩ (.slice A 30 c) = W2 at *
    clear hce hfz
    have hx0 := HX0.out
    have hx1 := HX1.out
    go_wp2_with (first | (refine ld_row (.inl rfl) rfl rfl hx0 rfl Try.underlying34 (by kernel_rfl) ?_; refine st_row rfl rfl rfl rfl hx1 (by kernel_rfl) rfl (by simp [Value.oneCell']) ?_; intro W3 hW3 hby))
    have hg3 : Grew w W3 := grown_at HGS.out hby (by omega) HGS.out.size
    refine bodyPost_ret (v := evV (cutE ⟨ki, se, ti, me, ur, hs, bo, st, co, cr, no, nn⟩) A 30 c) (results_cell_row rfl _ _ (w.heap.size + 1) _ _ _ _ rfl hW3 Try.underlying34 rfl (by kernel_rfl)) rfl ?_
    exact ⟨30, rfl, Nat.le_refl _, by omega, (HR.out.takeH (i := 30) (by omega)).keep hg3, hg3, fun h => by omega⟩
  · go_enter Try.func15, Try.ntmps15
    go_wp2
    have h1 := heap_alloc_new (w.alloc (.cells #[.int .i64 ki, .int .i64 se, .int .i64 ti, .string me, .string ur, .slice A n c, .string bo, .int .i64 st, .int .i64 co, .bool cr, .string no, .int .u64 nn] 34)) (.cells #[.int .i64 ki, .int .i64 se, .int .i64 ti, .string me, .string ur, .slice A n c, .string bo, .int .i64 st, .int .i64 co, .bool cr, .string no, .int .u64 nn] 34)
    rw [World.size_alloc] at h1
    refine bodyPost_ret (v := evV (cutE ⟨ki, se, ti, me, ur, hs, bo, st, co, cr, no, nn⟩) A n c) (results_cell_row rfl _ _ (w.heap.size + 1) _ _ _ _ rfl h1 Try.underlying34 rfl (by kernel_rfl)) rfl ?_
    have he : (cutE ⟨ki, se, ti, me, ur, hs, bo, st, co, cr, no, nn⟩).hs = hs := List.take_of_length_le (by rw [HL.out]; omega)
    rw [he]
    have hgg : Grew w ((w.alloc (.cells #[.int .i64 ki, .int .i64 se, .int .i64 ti, .string me, .string ur, .slice A n c, .string bo, .int .i64 st, .int .i64 co, .bool cr, .string no, .int .u64 nn] 34)).alloc (.cells #[.int .i64 ki, .int .i64 se, .int .i64 ti, .string me, .string ur, .slice A n c, .string bo, .int .i64 st, .int .i64 co, .bool cr, .string no, .int .u64 nn] 34)) := ((Grew.rf w).al _).al _
    exact ⟨n, rfl, by omega, Nat.le_refl _, HR.out.keep hgg, hgg, fun h => h⟩
end Go.Proofs.Ytbkcpgaicoagfaa
/- Event's laws: what the fixed facts come to; two Books. -/
set_option linter.unusedVariables false
set_option linter.unusedSimpArgs false
namespace Go.Proofs.Ytbkcpgaicoagfaa
open Go.RowKit

abbrev s0B : PB := ⟨[], 0, fun _ _ => []⟩
abbrev s5B : PB := ⟨[], 5, fun _ _ => []⟩
abbrev s6B : PB := ⟨[], 6, fun _ _ => []⟩
abbrev evT : Ev := ⟨5, 0, 5, noT, noT, [], noT, 0, 0, false, noT, 5⟩
abbrev evF : Ev := ⟨4, 3, 6, noT, noT, [], noT, 0, 0, false, noT, 0⟩
abbrev evL : Ev := ⟨4, 3, 5, noT, noT, [], noT, 0, 0, false, noT, 0⟩
abbrev b1B : List Int := [5, 0, 5, 5]
abbrev b2B : List Int := [5, 0, 5, 5, 4, 3, 1]
theorem awk_g1 : goodE evT = true := by decide +kernel
theorem awk_g2 : goodE evF = true := by decide +kernel
theorem awk_g3 : goodE evL = true := by decide +kernel
theorem awk_p1 : (putB s0B evT).1 = b1B := by decide +kernel
theorem awk_s1 : (putB s0B evT).2 = s5B := by kernel_rfl
theorem awk_p2 : b1B ++ (putB s5B evF).1 = b2B := by decide +kernel
theorem awk_s2 : (putB s5B evF).2 = s6B := by kernel_rfl
theorem awk_t1 : takeB s0B b2B 0 = (evT, 4, 0, s5B) := by kernel_rfl
theorem awk_t2 : takeB s5B b2B 4 = (evF, 7, 0, s6B) := by kernel_rfl
theorem awk_in : inE evT = (⟨4, 0, noT, noT, 0, 0, 0, 0, noT, [], noT, 0, [], noT, 5⟩, true) := by kernel_rfl
theorem BookI.noH {w : World} {p tp : Nat} {lv : Value} {mb lb k : Nat} {s : PB} (h : BookI w p tp lv mb lb k s) : ∀ b cs fr, w.heap[b]? = some (.cells cs 124 fr) → ¬ ftb p tp lv mb lb b := fun b cs fr hb hk => by
  rcases hk with hk | hk | hk
  · rw [hk, h.cells] at hb
    simp only [Option.some.injEq, Obj.cells.injEq] at hb
    exact absurd hb.2.1 (by decide)
  · obtain ⟨es, c, hm⟩ := h.map.isMap
    rw [hk, hm] at hb; simp at hb
  · exact ftp_nobook h.tab hb (by decide) (by decide) hk
theorem evW_T : EvW evT := ⟨by decide, by decide, by decide, by decide, by decide, by decide⟩
theorem evW_F : EvW evF := ⟨by decide, by decide, by decide, by decide, by decide, by decide⟩
theorem OutP.rdU {base : Nat} {out : List Int} {N : Nat} {B : Option Addr} {m d : Nat} {u : World} (h : OutP base out N (.slice B m d) u) : m ≤ d ∧ d ≤ 9223372036854775807 ∧ Rd u B m out ∧ FreshA base B ∧ U8 u B ∧ m ≤ N := by
  obtain ⟨B', m', d', e, h1, h2, h3, h4, h5, h6⟩ := h
  cases e
  exact ⟨h1, h2, h3, h4, h5, h6⟩
set_option maxRecDepth 100000 in
set_option maxHeartbeats 6400000 in
theorem awake21_any (w : World) : Calls Try.prog 20 #[] w fun e w' => e = .returned (.bool true) ∧ Grew w w' := by
  go_enter Try.func20, Try.ntmps20
  go_wp2_with fail
  refine Calls.mono (bnew_any _) ?_
  rintro e w1 ⟨p, tp, mb, lb, rfl, hK1, hg1, hk1⟩
  go_wp2_with fail
  refine Calls.mono (bnew_any _) ?_
  rintro e w2 ⟨q, tq, mq, lq, rfl, hL2, hg2, hl2⟩
  have hK2 := hK1.keep hg2
  have hap2 : ∀ b, ftb p tp (.slice none 0 0) mb lb b → ¬ ftb q tq (.slice none 0 0) mq lq b := fun b hb h => by have := hK1.lt hb; have := hl2 b h; omega
  have hG2 : Grew w w2 := hg1.tr hg2
  have hlw2 : ∀ b, ftb q tq (.slice none 0 0) mq lq b → w.heap.size ≤ b := fun b hb => by have := hl2 b hb; have := hg1.size; omega
  clear hg1 hg2 hK1 hl2
  go_wp2_with fail
  refine Calls.mono (bput_any p tp _ mb lb 0 s0B evT none 0 0 none 0 0 [] w2 hK2 (RdV.nil _ _ _) (fun _ => ⟨rfl, rfl⟩) (by omega) (by omega) (RdK.nil _ _ _) (by omega) (fun h => absurd h (by omega)) (by omega) evW_T awk_g1 (by decide)) ?_
  rintro e w3 ⟨v3, rfl, Q3⟩
  rw [awk_p1, awk_s1, List.nil_append] at Q3
  obtain ⟨l3, hK3, hf3, hd3⟩ := Q3.book
  obtain ⟨B3, m3, d3, rfl, _⟩ := Q3.out
  obtain ⟨hle3, hcap3, hr3, hfr3, hu3, -⟩ := Q3.out.rdU
  have hL3 := hL2.chg Q3.chg (fun b hb h => hap2 b h hb) hK2.noH
  have hap3 : ∀ b, ftb p tp l3 mb lb b → ¬ ftb q tq (.slice none 0 0) mq lq b := fun b hb h => (hf3 b hb).elim (fun h2 => hap2 b h2 h) (fun h2 => by have := hL2.lt h; omega)
  have hG3 := grew_chg hG2 Q3.chg hk1
  have hk3 := low_step hk1 hf3 hG2.size
  obtain rfl : m3 = 4 := hr3.len.symm
  clear hK2 hL2 hap2 hf3 Q3 hk1
  go_wp2_with fail
  refine Calls.mono (bput_any p tp _ mb lb 2 s5B evF none 0 0 B3 4 d3 b1B w3 hK3 (RdV.nil _ _ _) (fun _ => ⟨rfl, rfl⟩) (by omega) (by omega) hr3 (by omega) (fun h => absurd h (by omega)) (by omega) evW_F awk_g2 (by decide)) ?_
  rintro e w4 ⟨v4, rfl, Q4⟩
  rw [awk_p2, awk_s2] at Q4
  obtain ⟨l4, hK4, hf4, hd4⟩ := Q4.book
  obtain ⟨B4, m4, d4, rfl, _⟩ := Q4.out
  obtain ⟨hle4, hcap4, hr4, hfr4, hu4, -⟩ := Q4.out.rdU
  have hL4 := hL3.chg Q4.chg (fun b hb h => hap3 b h hb) hK3.noH
  have hap4 : ∀ b, ftb p tp l4 mb lb b → ¬ ftb q tq (.slice none 0 0) mq lq b := fun b hb h => (hf4 b hb).elim (fun h2 => hap3 b h2 h) (fun h2 => by have := hL3.lt h; omega)
  have hG4 := grew_chg hG3 Q4.chg hk3
  have hk4 := low_step hk3 hf4 hG3.size
  have hbl4 : ∀ b, ftb q tq (.slice none 0 0) mq lq b → b < w3.heap.size := fun b hb => hL3.lt hb
  obtain rfl : m4 = 7 := hr4.len.symm
  clear hK3 hL3 hap3 hf4 Q4 hk3 hr3 hle3 hcap3 hfr3 hu3 hd3
  go_wp2_with fail
  refine Calls.mono (btake_any q tq _ mq lq 0 s0B B4 7 d4 b2B 0 w4 hL4 hr4 (byt_of (by decide)) hle4 hcap4 (by omega) (by decide) (by decide) (fun _ ad e h => by have := hfr4 ad e; have := hbl4 _ h; omega) (by omega)) ?_
  rw [awk_t1]
  rintro e w5 ⟨H5, n5, c5, rfl, hlst5, ⟨lq5, hL5, hf5⟩, hC5⟩
  obtain ⟨_, _, _, hve5, hrd5, _, _, hhb5, hnil5, hfr5⟩ := hlst5
  cases hve5
  obtain rfl : n5 = 0 := by have := hrd5.lenH; simpa using this.symm
  have hK5 := hK4.chg hC5 hap4 hL4.noH
  have hap5 : ∀ b, ftb p tp l4 mb lb b → ¬ ftb q tq lq5 mq lq b := apart_step hap4 (fun b hb => hK4.lt hb) hf5
  have hr5 := hr4.chg hC5 (fun _ ad e h => by have := hfr4 ad e; have := hbl4 _ h; omega)
  have hu5 : U8 w5 B4 := fun ad e => by
    obtain ⟨cs, fr, hc⟩ := hu4 ad e
    exact ⟨cs, fr, hC5.by_ hc (fun h => by have := hfr4 ad e; have := hbl4 _ h; omega)⟩
  have hG5 := grew_chg hG4 hC5 hlw2
  have hlw5 := low_step hlw2 hf5 hG4.size
  clear hK4 hL4 hap4 hr4 hu4 hC5 hlw2 hrd5 hhb5 hfr4 hbl4 hf5
  go_wp2_with fail
  have hb6 := heap_alloc_new w5 (evO evT H5 0 c5)
  have hga : Grew w5 (w5.alloc (evO evT H5 0 c5)) := (Grew.rf w5).al _
  have hblk : ∀ b, ftb q tq lq5 mq lq b → b < w5.heap.size := fun b hb => hL5.lt hb
  have hap8 : ∀ ad, B4 = some ad → ¬ ftb q tq lq5 mq lq ad.block := fun ad e h => by
    obtain ⟨cs, fr, hc⟩ := hu5 ad e
    rcases h with h | h | h
    · rw [h, hL5.cells] at hc
      simp only [Option.some.injEq, Obj.cells.injEq] at hc
      exact absurd hc.2.1 (by decide)
    · obtain ⟨es, c, hm⟩ := hL5.map.isMap
      rw [h, hm] at hc; simp at hc
    · exact ftp_nobook hL5.tab hc (by decide) (by decide) h
  refine Calls.mono (btake_any q tq _ mq lq 2 s5B B4 7 d4 b2B 4 _ (hL5.keep hga) (hr5.keep hga) (byt_of (by decide)) hle4 hcap4 (by omega) (by decide) (by decide) (fun _ ad e => hap8 ad e) (by omega)) ?_
  rw [awk_t2]
  rintro e w6 ⟨H6, n6, c6, rfl, hlst6, ⟨lq6, hL6, hf6⟩, hC6⟩
  obtain ⟨_, _, _, hve6, hrd6, _, _, _, _, _⟩ := hlst6
  cases hve6
  obtain rfl : n6 = 0 := by have := hrd6.lenH; simpa using this.symm
  have hK6 := (hK5.keep hga).chg hC6 hap5 (hL5.keep hga).noH
  have hr6 := (hr5.keep hga).chg hC6 (fun _ ad e => hap8 ad e)
  have hG6 := grew_chg (hG5.tr hga) hC6 hlw5
  have hx6 := hC6.by_ hb6 (fun h => by have := hblk _ h; omega)
  clear hK5 hL5 hap5 hr5 hu5 hC6 hlw5 hrd6 hf6 hap8 hblk hL6
  go_wp2_with fail
  have hgb : Grew w6 (w6.alloc (evO evF H6 0 c6)) := (Grew.rf w6).al _
  have hb9 := heap_alloc_new w6 (evO evF H6 0 c6)
  refine Calls.mono (bput_late p tp _ mb lb 4 s6B evL none 0 0 none 0 0 _ (hK6.keep hgb) (RdV.nil _ _ _) (fun _ => ⟨rfl, rfl⟩) (by omega) awk_g3 (by decide)) ?_
  rintro e w7 ⟨rfl, hg7⟩
  have hr7 := (hr6.keep hgb).keep hg7
  have hx7 := heap_keep (hgb.tr hg7) hx6
  have hy7 := heap_keep hg7 hb9
  have hG7 := (hG6.tr hgb).tr hg7
  clear hK6 hr6 hx6 hgb hg7 hb9 hb6 hga
  go_wp2_with (refine ld_row (.inl rfl) rfl rfl hx7 rfl Try.underlying34 (by kernel_rfl) ?_)
  refine Calls.mono (input_5 0 5 noT noT [] noT 0 0 false noT 5 H5 0 c5 w7 awk_g1 (RdV.nil _ _ _) (fun h => ⟨rfl, (hnil5 h).2⟩) (by omega)) ?_
  rw [awk_in]
  rintro e w8 ⟨A8, n8, c8, D8, m8, e8, rfl, hra8, hrb8, hn8, hm8, hg8⟩
  have hr8 := hr7.keep hg8
  have hx8 := heap_keep hg8 hx7
  have hy8 := heap_keep hg8 hy7
  have hG8 := hG7.tr hg8
  clear hr7 hx7 hy7 hg8 hra8 hrb8
  have hga : Grew w8 (w8.alloc (.cells (inA ⟨4, 0, noT, noT, 0, 0, 0, 0, noT, [], noT, 0, [], noT, 5⟩ A8 n8 c8 D8 m8 e8) 76)) := (Grew.rf w8).al _
  have hgb : Grew (w8.alloc (.cells (inA ⟨4, 0, noT, noT, 0, 0, 0, 0, noT, [], noT, 0, [], noT, 5⟩ A8 n8 c8 D8 m8 e8) 76)) ((w8.alloc (.cells (inA ⟨4, 0, noT, noT, 0, 0, 0, 0, noT, [], noT, 0, [], noT, 5⟩ A8 n8 c8 D8 m8 e8) 76)).alloc (.cells #[.int .u8 5, .int .u8 0, .int .u8 5, .int .u8 5, .int .u8 4, .int .u8 3, .int .u8 1] 5)) := (Grew.rf _).al _
  have hs1 := RdK.str (c := d4) (hr8.keep hga)
  have hs2 : (convert 23 9 (.slice (some ⟨w8.heap.size + 1, 0, none⟩) 7 7)).run Try.prog ((w8.alloc (.cells (inA ⟨4, 0, noT, noT, 0, 0, 0, 0, noT, [], noT, 0, [], noT, 5⟩ A8 n8 c8 D8 m8 e8) 76)).alloc (.cells #[.int .u8 5, .int .u8 0, .int .u8 5, .int .u8 5, .int .u8 4, .int .u8 3, .int .u8 1] 5)) = .ok (.string (strOfNums b2B)) ((w8.alloc (.cells (inA ⟨4, 0, noT, noT, 0, 0, 0, 0, noT, [], noT, 0, [], noT, 5⟩ A8 n8 c8 D8 m8 e8) 76)).alloc (.cells #[.int .u8 5, .int .u8 0, .int .u8 5, .int .u8 5, .int .u8 4, .int .u8 3, .int .u8 1] 5)) := RdK.str (rd_lit' b2B (by simp) rfl rfl (by decide))
  have hi8 := heap_keep hgb (heap_alloc_new w8 (.cells (inA ⟨4, 0, noT, noT, 0, 0, 0, 0, noT, [], noT, 0, [], noT, 5⟩ A8 n8 c8 D8 m8 e8) 76))
  have hx9 := heap_keep hgb (heap_keep hga hx8)
  have hy9 := heap_keep hgb (heap_keep hga hy8)
  have cx11 := cell_of_heap (i := 11) (v := .int .u64 5) hx9 rfl
  have cx2 := cell_of_heap (i := 2) (v := .int .i64 5) hx9 rfl
  have cy1 := cell_of_heap (i := 1) (v := .int .i64 3) hy9 rfl
  have cy2 := cell_of_heap (i := 2) (v := .int .i64 6) hy9 rfl
  have ci0 := cell_of_heap (i := 0) (v := .int .i64 4) hi8 rfl
  have HGE := Lib.hid ((hG8.tr hga).tr hgb)
  clear hr8 hx8 hy8 hG8 hga hgb hi8 hx9 hy9 hG2 hG3 hG4 hG5 hG6 hG7 hn8 hm8 hle4 hcap4 hnil5
  go_wp2_with fail
  go_ret
  exact ⟨rfl, HGE.out⟩
end Go.Proofs.Ytbkcpgaicoagfaa
/- EventGoods: the walk. -/
set_option linter.unusedVariables false
set_option linter.unusedSimpArgs false
namespace Go.Proofs.Ytbkcpgaicoagfaa
open Go.RowKit

def Pd.cutQ (y : Ev) (A : Option Addr) (n c : Nat) : Pd := ⟨fun v u => ∃ m, v = evV y A m c ∧ m ≤ 30 ∧ (n = 0 → m = 0) ∧ RdH u A m y.hs, fun v u u' ⟨m, h1, h2, h3, h4⟩ hg => ⟨m, h1, h2, h3, h4.keep hg⟩⟩
set_option maxRecDepth 100000 in
set_option maxHeartbeats 6400000 in
theorem eventGoods_walk (x : Ev) (A : Option Addr) (n c : Nat) (w : World) (hr : RdH w A n x.hs) (hA : A = none → n = 0 ∧ c = 0) (hnc : n ≤ c) (hc : c ≤ 9223372036854775807) (hco : -9223372036854775808 ≤ x.co ∧ x.co ≤ 9223372036854775807) :
    Calls Try.prog 10 #[evV x A n c] w fun e w' => e = .returned (.bool true) ∧ Grew w w' := by
  have hcut := fun (u : World) (hu : Grew w u) => cutE_any x A n c u (hr.keep hu) hnc hc
  have hg := fun (m : Nat) (hm : m ≤ 30) (hm0 : n = 0 → m = 0) (u : World) (hu : RdH u A m (cutE x).hs) => egood_any (cutE x) A m c u hu (fun h => ⟨hm0 (hA h).1, (hA h).2⟩) (by omega)
  have hrg := fun (m : Nat) (hm : m ≤ 30) (u : World) (hu : RdH u A m (cutE x).hs) => rgood_any (cutE x) A m c u hu (by omega) hco
  have hi := fun (m : Nat) (hm : m ≤ 30) (hm0 : n = 0 → m = 0) (u : World) (hu : RdH u A m (cutE x).hs) => einput_any (cutE x) A m c u hu (fun h => ⟨hm0 (hA h).1, (hA h).2⟩) (by omega)
  have hri := fun (m : Nat) (hm : m ≤ 30) (u : World) (hu : RdH u A m (cutE x).hs) => rinput_any (cutE x) A m c u hu (by omega) hco
  unfold GoodC at hg
  unfold InpC at hi
  unfold RInpC at hri
  obtain ⟨y, hy⟩ : ∃ y, cutE x = y := ⟨_, rfl⟩
  rw [hy] at hcut hg hrg hi hri
  obtain ⟨j, hj⟩ : ∃ j, inE y = j := ⟨_, rfl⟩
  rw [hj] at hi hri
  obtain ⟨i, ok⟩ := j
  have HI := Lib.hid hi
  have HRI := Lib.hid hri
  have HG := Lib.hid hg
  have HRG := Lib.hid hrg
  clear hg hrg hi hri hr hA hnc hc hco hj hy
  obtain ⟨gb, hgb⟩ : ∃ b, goodE y = b := ⟨_, rfl⟩
  rw [hgb] at HG HRG
  clear hgb
  obtain ⟨ki, se, ti, me, ur, hs, bo, st, co, cr, no, nn⟩ := x
  go_enter Try.func10, Try.ntmps10
  go_upto_region 1 with fail
  have hx0 : (w.alloc (.cells #[.int .i64 ki, .int .i64 se, .int .i64 ti, .string me, .string ur, .slice A n c, .string bo, .int .i64 st, .int .i64 co, .bool cr, .string no, .int .u64 nn] 34)).heap[w.heap.size]? = _ := heap_alloc_new w (.cells #[.int .i64 ki, .int .i64 se, .int .i64 ti, .string me, .string ur, .slice A n c, .string bo, .int .i64 st, .int .i64 co, .bool cr, .string no, .int .u64 nn] 34)
  have hgW : Grew w (w.alloc (.cells #[.int .i64 ki, .int .i64 se, .int .i64 ti, .string me, .string ur, .slice A n c, .string bo, .int .i64 st, .int .i64 co, .bool cr, .string no, .int .u64 nn] 34)) := (Grew.rf w).al _
  generalize w.alloc (.cells #[.int .i64 ki, .int .i64 se, .int .i64 ti, .string me, .string ur, .slice A n c, .string bo, .int .i64 st, .int .i64 co, .bool cr, .string no, .int .u64 nn] 34) = W at *
  obtain ⟨xb, hxb⟩ : ∃ xb, w.heap.size = xb := ⟨_, rfl⟩
  rw [hxb] at hx0 ⊢
  obtain ⟨xc, hxc⟩ : ∃ xc : Array Value, (#[.int .i64 ki, .int .i64 se, .int .i64 ti, .string me, .string ur, .slice A n c, .string bo, .int .i64 st, .int .i64 co, .bool cr, .string no, .int .u64 nn] : Array Value) = xc := ⟨_, rfl⟩
  have hxs : xc.size = 12 := by rw [← hxc]; rfl
  simp only [evV, evA, hxc] at hcut
  rw [hxc] at hx0
  have HCUT := Lib.hid hcut
  have HX0 := Lib.hid hx0
  have HGW := Lib.hid hgW
  clear hxb hcut hgW hxc
  have hx1 := hx0
  go_upto_region 2 with (first | (refine ld_row (.inl rfl) rfl rfl hx0 rfl Try.underlying34 (by rw [hxs]; kernel_rfl) ?_) | (go_at_call 15; refine Calls.mono (HCUT.out _ HGW.out) ?_; rintro e w2 ⟨m, rfl, hm1, -, hrm, hg2, hm0⟩) | (go_at_call 36; refine Calls.mono (HI.out m hm1 hm0 _ hrm) ?_; rintro e w3 ⟨A1, n1, c1, B1, m1, d1, rfl, hri1, hri2, hn1, hm1', hg3⟩))
  have hi4 : (w3.alloc (.cells #[.int .i64 i.k, .int .i64 i.se, .string i.me, .string i.ur, .int .i64 i.m1, .int .i64 i.m2, .int .i64 i.m3, .int .i64 i.m4, .string i.no, .slice A1 n1 c1, .string i.bo, .int .i64 i.st, .slice B1 m1 d1, .string i.b2, .int .u64 i.nn] 76)).heap[w3.heap.size]? = some (.cells (inA i A1 n1 c1 B1 m1 d1) 76) := heap_alloc_new w3 (.cells #[.int .i64 i.k, .int .i64 i.se, .string i.me, .string i.ur, .int .i64 i.m1, .int .i64 i.m2, .int .i64 i.m3, .int .i64 i.m4, .string i.no, .slice A1 n1 c1, .string i.bo, .int .i64 i.st, .slice B1 m1 d1, .string i.b2, .int .u64 i.nn] 76)
  have hg4 : Grew w3 (w3.alloc (.cells #[.int .i64 i.k, .int .i64 i.se, .string i.me, .string i.ur, .int .i64 i.m1, .int .i64 i.m2, .int .i64 i.m3, .int .i64 i.m4, .string i.no, .slice A1 n1 c1, .string i.bo, .int .i64 i.st, .slice B1 m1 d1, .string i.b2, .int .u64 i.nn] 76)) := (Grew.rf w3).al _
  generalize w3.alloc (.cells #[.int .i64 i.k, .int .i64 i.se, .string i.me, .string i.ur, .int .i64 i.m1, .int .i64 i.m2, .int .i64 i.m3, .int .i64 i.m4, .string i.no, .slice A1 n1 c1, .string i.bo, .int .i64 i.st, .slice B1 m1 d1, .string i.b2, .int .u64 i.nn] 76) = W4 at *
  obtain ⟨ib, hib⟩ : ∃ ib, w3.heap.size = ib := ⟨_, rfl⟩
  rw [hib] at hi4 ⊢
  have hgx := (hg2.tr hg3).tr hg4
  have hx4 := heap_keep hgx HX0.out
  have hr41 := hri1.keep hg4
  have hr42 := hri2.keep hg4
  have HG4 := Lib.hid (HGW.out.tr hgx)
  have HR41 := Lib.hid hr41
  have HR42 := Lib.hid hr42
  have HN1 := Lib.hid hn1
  have HM1 := Lib.hid hm1'
  have HI4 := Lib.hid hi4
  clear hib hgx hr41 hr42 hri1 hri2 hg2 hg3 hg4 hx0 hx1 hrm hm0 hm1 hn1 hm1' hi4
  go_upto_region 3 with (first | (refine ld_row (.inl rfl) rfl rfl hx4 rfl Try.underlying34 (by rw [hxs]; kernel_rfl) ?_) | (go_at_call 15; refine Calls.mono (HCUT.out _ HG4.out) ?_; rintro e w5 ⟨m5, rfl, hm1, -, hrm, hg2, hm0⟩) | (go_at_call 37; refine Calls.mono (HRI.out m5 hm1 _ hrm) ?_; rintro e w6 ⟨A2, n2, c2, B2, m2, d2, rfl, hri1, hri2, hn1, hm1', hg3⟩))
  have hj7 : (w6.alloc (.cells #[.int .i64 i.k, .int .i64 i.se, .string i.me, .string i.ur, .int .i64 i.m1, .int .i64 i.m2, .int .i64 i.m3, .int .i64 i.m4, .string i.no, .slice A2 n2 c2, .string i.bo, .int .i64 i.st, .slice B2 m2 d2, .string i.b2, .int .u64 i.nn] 76)).heap[w6.heap.size]? = some (.cells (inA i A2 n2 c2 B2 m2 d2) 76) := heap_alloc_new w6 (.cells #[.int .i64 i.k, .int .i64 i.se, .string i.me, .string i.ur, .int .i64 i.m1, .int .i64 i.m2, .int .i64 i.m3, .int .i64 i.m4, .string i.no, .slice A2 n2 c2, .string i.bo, .int .i64 i.st, .slice B2 m2 d2, .string i.b2, .int .u64 i.nn] 76)
  have hg4 : Grew w6 (w6.alloc (.cells #[.int .i64 i.k, .int .i64 i.se, .string i.me, .string i.ur, .int .i64 i.m1, .int .i64 i.m2, .int .i64 i.m3, .int .i64 i.m4, .string i.no, .slice A2 n2 c2, .string i.bo, .int .i64 i.st, .slice B2 m2 d2, .string i.b2, .int .u64 i.nn] 76)) := (Grew.rf w6).al _
  generalize w6.alloc (.cells #[.int .i64 i.k, .int .i64 i.se, .string i.me, .string i.ur, .int .i64 i.m1, .int .i64 i.m2, .int .i64 i.m3, .int .i64 i.m4, .string i.no, .slice A2 n2 c2, .string i.bo, .int .i64 i.st, .slice B2 m2 d2, .string i.b2, .int .u64 i.nn] 76) = W7 at *
  obtain ⟨jb, hjb⟩ : ∃ jb, w6.heap.size = jb := ⟨_, rfl⟩
  rw [hjb] at hj7 ⊢
  have hgx := (hg2.tr hg3).tr hg4
  have HX7 := Lib.hid (heap_keep hgx hx4)
  have HI7 := Lib.hid (heap_keep hgx HI4.out)
  have HJ7 := Lib.hid hj7
  have HSM := Lib.hid (fun (u : World) (hu : Grew W7 u) => sameInput_any i A1 n1 c1 B1 m1 d1 A2 n2 c2 B2 m2 d2 u ((HR41.out.keep hgx).keep hu) ((HR42.out.keep hgx).keep hu) ((hri1.keep hg4).keep hu) ((hri2.keep hg4).keep hu) HN1.out HM1.out hn1 hm1')
  have HG7 := Lib.hid (HG4.out.tr hgx)
  clear hjb hgx hri1 hri2 hg2 hg3 hg4 hx4 hrm hm0 hm1 hn1 hm1' hj7 HR41 HR42 HN1 HM1 HI4 HG4
  obtain ⟨ic, hic⟩ : ∃ ic, inA i A1 n1 c1 B1 m1 d1 = ic := ⟨_, rfl⟩
  obtain ⟨jc, hjc⟩ : ∃ jc, inA i A2 n2 c2 B2 m2 d2 = jc := ⟨_, rfl⟩
  have his : ic.size = 15 := by rw [← hic]; rfl
  have hjs : jc.size = 15 := by rw [← hjc]; rfl
  simp only [hic, hjc] at HI7 HJ7 HSM
  clear hic hjc
  have HIS := Lib.hid his
  have HJS := Lib.hid hjs
  have HXS := Lib.hid hxs
  clear his hjs hxs
  refine region_grew [[], [(0, 19)], [(1, 20)], [(1, 20), (2, 21)], [(1, 20), (3, 22)], [(1, 20)], [(1, 20), (5, 24)], [(1, 20), (6, 25)], [(1, 20), (4, 23), (7, 26)], [(1, 20), (8, 27)], [(9, 28)], [(10, 29)], [(10, 29)], [(10, 29), (11, 30), (12, 31)], [(10, 29), (13, 32)], [(14, 33)], [(15, 34)], [(15, 34)], [(15, 34), (16, 35), (17, 36)], [(15, 34), (18, 37)], [(19, 38)]] [(0, 19), (1, 20), (2, 21), (3, 22), (4, 23), (5, 24), (6, 25), (7, 26), (8, 27), (9, 28), (10, 29), (11, 30), (12, 31), (13, 32), (14, 33), (15, 34), (16, 35), (17, 36), (18, 37), (19, 38), (20, 2)] (fun
    | 0 => .eqv (.bool true) | 1 => .eqv (.bool true) | 2 => .eqv (.agg xc) | 3 => .cutQ y A n c | 4 => .eqv (.bool gb) | 5 => .eqv (.agg xc) | 6 => .cutQ y A n c | 7 => .eqv (.bool gb) | 8 => .eqv (.bool true) | 9 => .eqv (.bool true) | 10 => .eqv (.bool true) | 11 => .eqv (.agg ic) | 12 => .eqv (.agg jc) | 13 => .eqv (.bool true) | 14 => .eqv (.bool true) | 15 => .eqv (.bool true) | 16 => .eqv (.bool ok) | 17 => .eqv (.bool ok) | 18 => .eqv (.bool true) | 19 => .eqv (.bool true) | 20 => .eqv (.bool true) | _ => .any) (by kernel_rfl) ?_ ?_
  · refine ⟨fun u hu => ?_, fun u hu => ?_, fun u hu => ?_, fun u hu => ?_, fun u hu => ?_, fun u hu => ?_, fun u hu => ?_, fun u hu => ?_, fun u hu => ?_, fun u hu => ?_, fun u hu => ?_, fun u hu => ?_, fun u hu => ?_, fun u hu => ?_, fun u hu => ?_, fun u hu => ?_, fun u hu => ?_, fun u hu => ?_, fun u hu => ?_, fun u hu => ?_, fun u hu => ?_, trivial⟩
    · refine StepGoal.nil ?_
      go_wp2_with (go_at_call 20; refine Calls.mono (awake21_any u) ?_; rintro e w8 ⟨rfl, hg8⟩)
      exact ⟨rfl, rfl, hg8, rfl⟩
    · rintro _ rfl
      refine StepGoal.nil ?_
      simp only [Act.put, List.setIfInBounds_toArray, List.set_cons_zero, List.set_cons_succ]
      go_wp2
      exact ⟨rfl, rfl, Grew.rf _, rfl⟩
    · rintro _ rfl
      have hx8 := heap_keep hu HX7.out
      refine StepGoal.nil ?_
      simp only [Act.put, List.setIfInBounds_toArray, List.set_cons_zero, List.set_cons_succ]
      go_wp2_with (refine ld_row (.inr rfl) rfl rfl hx8 rfl Try.underlying34 (by rw [HXS.out]; kernel_rfl) ?_)
      exact ⟨rfl, rfl, Grew.rf _, rfl⟩
    · rintro _ rfl _ rfl
      refine StepGoal.nil ?_
      simp only [Act.put, List.setIfInBounds_toArray, List.set_cons_zero, List.set_cons_succ]
      go_wp2_with (go_at_call 15; refine Calls.mono (HCUT.out _ (HG7.out.tr hu)) ?_; rintro e w8 ⟨m8, rfl, hm1, -, hrm, hg8, hm0⟩)
      exact ⟨rfl, rfl, hg8, m8, rfl, hm1, hm0, hrm⟩
    · rintro _ rfl v22 h22
      obtain ⟨m8, rfl, hm1, hm0, hrm⟩ : ∃ m, v22 = evV y A m c ∧ m ≤ 30 ∧ (n = 0 → m = 0) ∧ RdH u A m y.hs := h22
      refine StepGoal.nil ?_
      simp only [Act.put, List.setIfInBounds_toArray, List.set_cons_zero, List.set_cons_succ]
      go_wp2_with (go_at_call 38; refine Calls.mono (HG.out m8 hm1 hm0 _ hrm) ?_; rintro e w9 ⟨rfl, hg9⟩)
      exact ⟨rfl, rfl, hg9, rfl⟩
    · rintro _ rfl
      have hx8 := heap_keep hu HX7.out
      refine StepGoal.nil ?_
      simp only [Act.put, List.setIfInBounds_toArray, List.set_cons_zero, List.set_cons_succ]
      go_wp2_with (refine ld_row (.inr rfl) rfl rfl hx8 rfl Try.underlying34 (by rw [HXS.out]; kernel_rfl) ?_)
      exact ⟨rfl, rfl, Grew.rf _, rfl⟩
    · rintro _ rfl _ rfl
      refine StepGoal.nil ?_
      simp only [Act.put, List.setIfInBounds_toArray, List.set_cons_zero, List.set_cons_succ]
      go_wp2_with (go_at_call 15; refine Calls.mono (HCUT.out _ (HG7.out.tr hu)) ?_; rintro e w8 ⟨m8, rfl, hm1, -, hrm, hg8, hm0⟩)
      exact ⟨rfl, rfl, hg8, m8, rfl, hm1, hm0, hrm⟩
    · rintro _ rfl v25 h25
      obtain ⟨m8, rfl, hm1, hm0, hrm⟩ : ∃ m, v25 = evV y A m c ∧ m ≤ 30 ∧ (n = 0 → m = 0) ∧ RdH u A m y.hs := h25
      refine StepGoal.nil ?_
      simp only [Act.put, List.setIfInBounds_toArray, List.set_cons_zero, List.set_cons_succ]
      go_wp2_with (go_at_call 39; refine Calls.mono (HRG.out m8 hm1 _ hrm) ?_; rintro e w9 ⟨rfl, hg9⟩)
      exact ⟨rfl, rfl, hg9, rfl⟩
    · rintro _ rfl _ rfl _ rfl
      refine StepGoal.nil ?_
      simp only [Act.put, List.setIfInBounds_toArray, List.set_cons_zero, List.set_cons_succ]
      go_wp2
      exact ⟨rfl, rfl, Grew.rf _, rfl⟩
    · rintro _ rfl _ rfl
      refine StepGoal.nil ?_
      simp only [Act.put, List.setIfInBounds_toArray, List.set_cons_zero, List.set_cons_succ]
      go_wp2
      exact ⟨rfl, rfl, Grew.rf _, rfl⟩
    · rintro _ rfl
      refine StepGoal.nil ?_
      simp only [Act.put, List.setIfInBounds_toArray, List.set_cons_zero, List.set_cons_succ]
      go_wp2
      exact ⟨rfl, rfl, Grew.rf _, rfl⟩
    · rintro _ rfl
      have hx8 := heap_keep hu HI7.out
      refine StepGoal.nil ?_
      simp only [Act.put, List.setIfInBounds_toArray, List.set_cons_zero, List.set_cons_succ]
      go_wp2_with (refine ld_row (.inr rfl) rfl rfl hx8 rfl Try.underlying76 (by rw [HIS.out]; kernel_rfl) ?_)
      exact ⟨rfl, rfl, Grew.rf _, rfl⟩
    · rintro _ rfl
      have hx8 := heap_keep hu HJ7.out
      refine StepGoal.nil ?_
      simp only [Act.put, List.setIfInBounds_toArray, List.set_cons_zero, List.set_cons_succ]
      go_wp2_with (refine ld_row (.inr rfl) rfl rfl hx8 rfl Try.underlying76 (by rw [HJS.out]; kernel_rfl) ?_)
      exact ⟨rfl, rfl, Grew.rf _, rfl⟩
    · rintro _ rfl _ rfl _ rfl
      refine StepGoal.nil ?_
      simp only [Act.put, List.setIfInBounds_toArray, List.set_cons_zero, List.set_cons_succ]
      go_wp2_with (go_at_call 40; refine Calls.mono (HSM.out _ hu) ?_; rintro e w9 ⟨rfl, hg9⟩)
      exact ⟨rfl, rfl, hg9, rfl⟩
    · rintro _ rfl _ rfl
      refine StepGoal.nil ?_
      simp only [Act.put, List.setIfInBounds_toArray, List.set_cons_zero, List.set_cons_succ]
      go_wp2
      exact ⟨rfl, rfl, Grew.rf _, rfl⟩
    · rintro _ rfl
      refine StepGoal.nil ?_
      simp only [Act.put, List.setIfInBounds_toArray, List.set_cons_zero, List.set_cons_succ]
      go_wp2
      exact ⟨rfl, rfl, Grew.rf _, rfl⟩
    · rintro _ rfl
      refine StepGoal.nil ?_
      simp only [Act.put, List.setIfInBounds_toArray, List.set_cons_zero, List.set_cons_succ]
      go_wp2
      exact ⟨rfl, rfl, Grew.rf _, rfl⟩
    · rintro _ rfl
      refine StepGoal.nil ?_
      simp only [Act.put, List.setIfInBounds_toArray, List.set_cons_zero, List.set_cons_succ]
      go_wp2
      exact ⟨rfl, rfl, Grew.rf _, rfl⟩
    · rintro _ rfl _ rfl _ rfl
      refine StepGoal.nil ?_
      simp only [Act.put, List.setIfInBounds_toArray, List.set_cons_zero, List.set_cons_succ]
      go_wp2
      exact ⟨rfl, rfl, Grew.rf _, rfl⟩
    · rintro _ rfl _ rfl
      refine StepGoal.nil ?_
      simp only [Act.put, List.setIfInBounds_toArray, List.set_cons_zero, List.set_cons_succ]
      go_wp2
      exact ⟨rfl, rfl, Grew.rf _, rfl⟩
    · rintro _ rfl
      refine StepGoal.nil ?_
      simp only [Act.put, List.setIfInBounds_toArray, List.set_cons_zero, List.set_cons_succ]
      go_wp2
      exact ⟨rfl, rfl, Grew.rf _, rfl⟩
  · intro u hu
    rintro _ rfl _ rfl _ rfl v22 h22 _ rfl _ rfl v25 h25 _ rfl _ rfl _ rfl _ rfl _ rfl _ rfl _ rfl _ rfl _ rfl _ rfl _ rfl _ rfl _ rfl _ rfl
    refine StepGoal.nil ?_
    simp only [Act.put, List.setIfInBounds_toArray, List.set_cons_zero, List.set_cons_succ]
    have HU := Lib.hid (HG7.out.tr hu)
    clear hu
    go_wp2
    go_ret
    exact ⟨rfl, HU.out⟩
end Go.Proofs.Ytbkcpgaicoagfaa
