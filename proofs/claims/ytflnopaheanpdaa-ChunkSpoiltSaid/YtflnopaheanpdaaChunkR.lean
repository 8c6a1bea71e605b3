/- Chunk: the answer's Pack. -/
import Derived.Test.YtflnopaheanpdaaChunkA
import Derived.Test.YtflnopaheanpdaaReg6
import Derived.Test.YtflnopaheanpdaaReg7
set_option linter.unusedVariables false
set_option linter.unusedSimpArgs false
namespace Go.Proofs.Ytflnopaheanpdaa
open Go.RowKit

theorem packF_nil (k : Nat) (T : List Int) : packF k T [] = pieceL T [] := by
  cases k with
  | zero => rfl
  | succ k => rw [packF, if_pos rfl]
theorem packF_fuel (T : List Int) : ∀ (k j : Nat) (xs : List Int), xs.length ≤ k → xs.length ≤ j → packF k T xs = packF j T xs := by
  intro k
  induction k with
  | zero =>
    intro j xs h1 h2
    have : xs = [] := List.eq_nil_of_length_eq_zero (by omega)
    subst this
    rw [packF_nil, packF_nil]
  | succ k ih =>
    intro j xs h1 h2
    by_cases hx : xs = []
    · subst hx; rw [packF_nil, packF_nil]
    · cases j with
      | zero => exact absurd (List.eq_nil_of_length_eq_zero (by omega)) hx
      | succ j =>
        have hpos : 0 < xs.length := List.length_pos_iff.2 hx
        rw [packF, packF, if_neg hx, if_neg hx, ih j (xs.drop 256) (by rw [List.length_drop]; omega) (by rw [List.length_drop]; omega)]
theorem packL_nil (T : List Int) : packL T [] = pieceL T [] := packF_nil _ _
theorem packL_step (T : List Int) {xs : List Int} (h : xs ≠ []) : packL T xs = pieceL T (xs.take 256) ++ packL T (xs.drop 256) := by
  have hpos : 0 < xs.length := List.length_pos_iff.2 h
  unfold packL
  rw [packF, if_neg h, packF_fuel T xs.length ((xs.drop 256).length + 1) (xs.drop 256) (by rw [List.length_drop]; omega) (by rw [List.length_drop]; omega)]
/-- The pieces of what stands ahead of place j, a multiple of 256. -/
def headF : Nat → List Int → List Int → List Int
  | 0, T, xs => []
  | k + 1, T, xs => pieceL T (xs.take 256) ++ headF k T (xs.drop 256)
theorem headF_snoc (T : List Int) : ∀ (k : Nat) (xs : List Int), headF (k + 1) T xs = headF k T xs ++ pieceL T ((xs.drop (256 * k)).take 256) := by
  intro k
  induction k with
  | zero => intro xs; simp [headF]
  | succ k ih =>
    intro xs
    rw [headF, ih (xs.drop 256), headF, List.append_assoc, List.drop_drop, show 256 + 256 * k = 256 * (k + 1) by omega]
theorem packL_head (T : List Int) : ∀ (k : Nat) (xs : List Int), 256 * k < xs.length + 256 → packL T xs = headF k T xs ++ packL T (xs.drop (256 * k)) := by
  intro k
  induction k with
  | zero => intro xs h; simp [headF]
  | succ k ih =>
    intro xs h
    by_cases hx : xs = []
    · subst hx; exact absurd h (by simp only [List.length_nil]; omega)
    · have hpos : 0 < xs.length := List.length_pos_iff.2 hx
      rw [packL_step T hx, headF, List.append_assoc]
      by_cases hk : k = 0
      · subst hk; simp [headF]
      · rw [ih (xs.drop 256) (by rw [List.length_drop]; omega), List.drop_drop, show 256 + 256 * k = 256 * (k + 1) by omega]
theorem packL_done (T : List Int) (k : Nat) (xs : List Int) (h1 : xs.length ≤ 256 * k) (h2 : 256 * k < xs.length + 256) : packL T xs = headF k T xs ++ pieceL T [] := by
  rw [packL_head T k xs h2, List.drop_of_length_le h1, packL_nil]
theorem pieceL_nil (T : List Int) : pieceL T [] = [0] ++ fourB (cSum T [0]) := rfl
theorem headF_len (T : List Int) : ∀ (k : Nat) (xs : List Int), (headF k T xs).length ≤ 270 * k := by
  intro k
  induction k with
  | zero => intro xs; simp [headF]
  | succ k ih =>
    intro xs
    rw [headF, List.length_append]
    have h1 := ih (xs.drop 256)
    have h2 := leb_len (v := ((xs.take 256).length : Int)) (by omega)
    have h3 : (xs.take 256).length ≤ 256 := by rw [List.length_take]; omega
    simp only [pieceL, List.length_append, fourB_len]
    omega

set_option maxRecDepth 100000 in
set_option maxHeartbeats 3200000 in
theorem rpack_any (T : List Int) (hT : T.length = 256) (hW : Wrd T) (A : Option Addr) (n c : Nat) (xs : List Int) (w : World) (hr : Rd w A n xs) (hb : Byt xs) (hn : n ≤ 1000000) (hnc : n ≤ c) :
    Calls Try.prog 35 #[tabV T, .slice A n c] w fun e w' => ∃ v, e = .returned v ∧ Own w' w.heap.size v (packL T xs) ∧ Grew w w' := by
  go_enter Try.func35, Try.ntmps35
  go_wp2_with (first | (refine tab_box rfl rfl rfl hT ?_; intro HT))
  have hg1 : Grew w (w.alloc (.cells (nums .u32 T).toArray 24)) := (Grew.rf w).al _
  have hr1 := hr.keep hg1
  have hs1 : (w.alloc (.cells (nums .u32 T).toArray 24)).heap.size = w.heap.size + 1 := World.size_alloc _ _
  obtain ⟨w1, hw1⟩ : ∃ w1, w.alloc (.cells (nums .u32 T).toArray 24) = w1 := ⟨_, rfl⟩
  rw [hw1] at HT hg1 hr1 hs1 ⊢
  obtain ⟨g, hg⟩ : ∃ g, w.heap.size = g := ⟨_, rfl⟩
  rw [hg] at HT hs1 ⊢
  rw [← hs1]
  clear hw1
  have HTT := Lib.hid HT
  have HRR := Lib.hid hr1
  have HBB := Lib.hid hb
  clear HT hr hr1 hb
  go_loopw [5, 6] (fun o i wr => ∃ (k j : Nat), i = .int .i64 (256 * (k : Int)) ∧ ((k = j ∧ 256 * j ≤ n + 255) ∨ (k = j + 1 ∧ 256 * j = n)) ∧ Own wr w1.heap.size o (headF j T xs) ∧ Grew w1 wr) (fun _ i _ => n + 512 - (intOf i).toNat)
  case atStart => exact ⟨0, 0, rfl, .inl ⟨rfl, by omega⟩, own_lit0 w1, (Grew.rf w1).al _⟩
  case round =>
    obtain ⟨k, j, rfl, hkj, hO, hB⟩ := hrel
    by_cases hle : 256 * k ≤ n
    · have hkj1 : k = j := by omega
      subst hkj1
      by_cases hz : 256 * k = n
      · go_wp2_with fail
        go_roundw
        case rel => exact ⟨k + 1, k, by go_num, .inr ⟨rfl, hz⟩, hO, hB⟩
        case measure => simp [intOf]; omega
      · by_cases hbig : 256 < n - 256 * k
        · skip

          have hM0 : 0 < 256 ∧ 256 ≤ 256 ∧ 256 * k + 256 ≤ n := by omega
          have hlb := leb_len (v := (256 : Int)) (by omega)
          have hlby : Byt (leb (256 : Int)) := leb_byte (by omega)
          obtain ⟨A9, hcut9, hA9⟩ := cut_lh (kl := .i64) (kh := .i64) A n c (256 * k) (256 * k + 256) (by omega) (by omega) hnc
          have hr9 := hA9 HRR.out
          rw [show 256 * k + 256 - 256 * k = 256 by omega] at hcut9 hr9
          rw [List.drop_take, show 256 * k + 256 - 256 * k = 256 by omega] at hr9
          rw [show ((256 * k : Nat) : Int) = 256 * (k : Int) by omega, show ((256 * k + 256 : Nat) : Int) = 256 * (k : Int) + (256 : Int) by omega] at hcut9
          have hb9 : Byt ((xs.drop (256 * k)).take 256) := fun y hy => HBB.out y (List.mem_of_mem_drop (List.mem_of_mem_take hy))
          have hsn := headF_snoc T k xs
          have htk : (xs.drop (256 * k)).take 256 = (xs.drop (256 * k)).take 256 := by
            first | rfl | (rw [List.take_of_length_le (by rw [List.length_drop, HRR.out.len]; omega), List.take_of_length_le (by rw [List.length_drop, HRR.out.len]; omega)])
          rw [htk] at hsn
          unfold pieceL at hsn
          rw [hr9.len, show ((256 : Nat) : Int) = (256 : Int) from rfl] at hsn
          have hhl := headF_len T k xs
          generalize (xs.drop (256 * k)).take 256 = ps at *
          have hbyt := fun w1 => bytes_any (256 : Int) w1 (by omega) (by omega)
          generalize leb (256 : Int) = ls at *
          have HBYT := Lib.hid hbyt
          clear hbyt
          generalize headF k T xs = hs at *
          have hpl : (ls ++ ps).length = ls.length + 256 := by rw [List.length_append, hr9.len]
          obtain ⟨R, hR⟩ : ∃ R, cSum T (ls ++ ps) = R := ⟨_, rfl⟩
          have hRl : R < 4294967296 := by rw [← hR]; exact cSum_lt hW _
          rw [hR] at hsn
          have hby := fun (u : World) A m c (hr : Rd u A m (ls ++ ps)) (hm : m ≤ 9223372036854775807) => by_any T hT hW A m c _ u hr (hlby.app hb9) hm
          rw [← sum_by hW, hR] at hby
          have HBY := Lib.hid hby
          have HRL := Lib.hid hRl
          have HSN := Lib.hid hsn
          have HPL := Lib.hid hpl
          clear hby hRl hsn hR htk hpl
          go_wp2_with fail
          refine region_split 9 [[], [(0, 24)], [(0, 24), (1, 25)], [], [], [], [], [(5, 29), (6, 30)], [(3, 27), (4, 28), (5, 29), (6, 30), (7, 31)], [(0, 24), (1, 25), (2, 26), (3, 27), (4, 28), (5, 29), (6, 30), (7, 31), (8, 32)], [(0, 24), (1, 25), (2, 26), (3, 27), (4, 28), (5, 29), (6, 30), (7, 31), (8, 32), (9, 33)]] [(0, 24), (1, 25), (2, 26), (3, 27), (4, 28), (5, 29), (6, 30), (7, 31), (8, 32)] (fun
            | 0 => .eqv (.int .i64 (256 : Int)) | 1 => .eqv (.int .u64 (256 : Int)) | 2 => .own wr.heap.size ls | 3 => .eqv (.slice A n c) | 4 => .eqv (.int .i64 (256 * (k : Int))) | 5 => .eqv (.int .i64 (256 * (k : Int))) | 6 => .eqv (.int .i64 (256 : Int)) | 7 => .eqv (.int .i64 (256 * (k : Int) + (256 : Int))) | 8 => .eqv (.slice A9 256 (c - 256 * k)) | _ => .any) (by kernel_rfl) ?_ ?_
          · refine ⟨fun u hu => ?_, fun u hu => ?_, fun u hu => ?_, fun u hu => ?_, fun u hu => ?_, fun u hu => ?_, fun u hu => ?_, fun u hu => ?_, fun u hu => ?_, trivial⟩
            · refine StepGoal.nil ?_
              go_wp2
              exact ⟨rfl, rfl, Grew.rf _, rfl⟩
            · rintro _ rfl
              refine StepGoal.nil ?_
              simp only [Act.put, List.setIfInBounds_toArray, List.set_cons_zero, List.set_cons_succ]
              go_wp2
              exact ⟨rfl, rfl, Grew.rf _, rfl⟩
            · rintro _ rfl _ rfl
              refine StepGoal.nil ?_
              simp only [Act.put, List.setIfInBounds_toArray, List.set_cons_zero, List.set_cons_succ]
              go_wp2_with (go_at_call 27; refine Calls.mono (HBYT.out _) ?_; rintro e w' ⟨x, rfl, ho, hg⟩)
              exact ⟨rfl, rfl, hg, ho.lower hu.size⟩
            · refine StepGoal.nil ?_
              go_wp2
              exact ⟨rfl, rfl, Grew.rf _, rfl⟩
            · refine StepGoal.nil ?_
              go_wp2
              exact ⟨rfl, rfl, Grew.rf _, rfl⟩
            · refine StepGoal.nil ?_
              go_wp2
              exact ⟨rfl, rfl, Grew.rf _, rfl⟩
            · refine StepGoal.nil ?_
              go_wp2
              exact ⟨rfl, rfl, Grew.rf _, rfl⟩
            · rintro _ rfl _ rfl
              refine StepGoal.nil ?_
              simp only [Act.put, List.setIfInBounds_toArray, List.set_cons_zero, List.set_cons_succ]
              go_wp2
              exact ⟨rfl, rfl, Grew.rf _, rfl⟩
            · rintro _ rfl _ rfl _ rfl _ rfl _ rfl
              refine StepGoal.nil ?_
              simp only [Act.put, List.setIfInBounds_toArray, List.set_cons_zero, List.set_cons_succ]
              go_wp2
              exact ⟨rfl, rfl, Grew.rf _, rfl⟩
          · intro u hu
            rintro _ rfl _ rfl v26 h26 _ rfl _ rfl _ rfl _ rfl _ rfl _ rfl
            refine StepGoal.nil ?_
            simp only [Act.put, List.setIfInBounds_toArray, List.set_cons_zero, List.set_cons_succ]; simp only [List.drop_succ_cons, List.drop_zero]
            go_wp2_with ((with_reducible refine gate_b .append #[.tmp 26, .tmp 32] _ rfl ?_); refine apps rfl rfl rfl rfl h26 (hr9.keep (hB.tr hu)) hu hu.size (by omega) ?_; intro v8 w9 ho9 hg9 hb9')
            have hg9 : Grew wr w9 := hg9
            have hO9 := hO.keep hg9
            have hB9 : Grew w1 w9 := hB.tr hg9
            have hne9 : ∀ b, u5.ownBlock = some b → v8.ownBlock ≠ some b := fun b hb he => by have := hO.lt b hb; have := ho9.base_le b he; omega
            go_wp2_with fail
            refine region_ex (w0 := w1) [[], [], [(0, 34), (1, 35)], [], [], [(3, 37), (4, 38)], [(5, 39)], [(2, 36), (6, 40)], [(0, 34), (7, 41)]] [(0, 34), (1, 35), (2, 36), (3, 37), (4, 38), (5, 39), (6, 40), (7, 41), (8, 5)] [(7, 2), (8, 7)] [none, none, none, none, none, none, none, some 36, some 41] [2, 6, 7, 8] (fun
              | 0 => .eqv (u5) | 1 => .eqv (v8) | 2 => .ow (hs ++ (ls ++ ps)) | 3 => .eqv (tabV T) | 4 => .eqv (v8) | 5 => .eqv (.int .u32 R) | 6 => .ow (fourB R) | 7 => .ow (hs ++ (ls ++ (ps ++ fourB R))) | 8 => .ow (hs ++ (ls ++ (ps ++ fourB R))) | _ => .any) 2 u5 hs (by kernel_rfl) (by kernel_rfl) (by kernel_rfl) (by kernel_rfl) hO9 hB9.size ?_ ?_
            · refine ⟨fun u hu hx => ?_, fun u hu hx => ?_, fun u hu hx => ?_, fun u hu hx => ?_, fun u hu hx => ?_, fun u hu hx => ?_, fun u hu hx => ?_, fun u hu hx => ?_, fun u hu hx => ?_, trivial⟩
              · clear hx
                have hu2 : Grew w1 u := below_of_row hB9 hO9 rfl hu ; have h8 : Own u wr.heap.size v8 (ls ++ ps) := ho9.kept hu hne9 ; obtain ⟨A7, c7, rfl, _, _, hr7⟩ := h8.rd' HPL.out
                refine StepGoal.nil ?_
                intro hrow
                go_wp2
                exact ⟨rfl, rfl, gb_rf _, rfl, fun h => absurd h (by decide)⟩
              · clear hx
                have hu2 : Grew w1 u := below_of_row hB9 hO9 rfl hu ; have h8 : Own u wr.heap.size v8 (ls ++ ps) := ho9.kept hu hne9 ; obtain ⟨A7, c7, rfl, _, _, hr7⟩ := h8.rd' HPL.out
                refine StepGoal.nil ?_
                intro hrow
                go_wp2
                exact ⟨rfl, rfl, gb_rf _, rfl, fun h => absurd h (by decide)⟩
              · have hx := hx rfl
                have hu2 : Grew w1 u := below_of_row hB9 hO9 rfl hu ; have h8 : Own u wr.heap.size v8 (ls ++ ps) := ho9.kept hu hne9 ; obtain ⟨A7, c7, rfl, _, _, hr7⟩ := h8.rd' HPL.out
                rintro _ rfl _ rfl
                refine StepGoal.nil ?_
                intro hrow
                simp only [Act.put, List.setIfInBounds_toArray, List.set_cons_zero, List.set_cons_succ]
                go_wp2_with (at_builtin; refine apps2 (.inr rfl) rfl rfl rfl hx hr7 hu2.size (by omega) ?_; intro v3 w3 ho3 hg3 hat3)
                exact ⟨rfl, rfl, hg3, ho3, fun _ => hat3⟩
              · clear hx
                have hu2 : Grew w1 u := below_of_row hB9 hO9 rfl hu ; have h8 : Own u wr.heap.size v8 (ls ++ ps) := ho9.kept hu hne9 ; obtain ⟨A7, c7, rfl, _, _, hr7⟩ := h8.rd' HPL.out
                refine StepGoal.nil ?_
                intro hrow
                go_wp2_with (refine tab_load2 (.inr rfl) rfl rfl (HTT.out.keep hu2) ?_)
                exact ⟨rfl, rfl, gb_rf _, rfl, fun h => absurd h (by decide)⟩
              · clear hx
                have hu2 : Grew w1 u := below_of_row hB9 hO9 rfl hu ; have h8 : Own u wr.heap.size v8 (ls ++ ps) := ho9.kept hu hne9 ; obtain ⟨A7, c7, rfl, _, _, hr7⟩ := h8.rd' HPL.out
                refine StepGoal.nil ?_
                intro hrow
                go_wp2
                exact ⟨rfl, rfl, gb_rf _, rfl, fun h => absurd h (by decide)⟩
              · clear hx
                have hu2 : Grew w1 u := below_of_row hB9 hO9 rfl hu ; have h8 : Own u wr.heap.size v8 (ls ++ ps) := ho9.kept hu hne9 ; obtain ⟨A7, c7, rfl, _, _, hr7⟩ := h8.rd' HPL.out
                rintro _ rfl _ rfl
                refine StepGoal.nil ?_
                intro hrow
                simp only [Act.put, List.setIfInBounds_toArray, List.set_cons_zero, List.set_cons_succ]
                go_wp2_with (go_at_call 23; refine Calls.mono (HBY.out _ _ _ _ hr7 (by omega)) ?_; rintro e w' ⟨rfl, hg⟩)
                exact ⟨rfl, rfl, hg.gb _, rfl, fun h => absurd h (by decide)⟩
              · clear hx
                have hu2 : Grew w1 u := below_of_row hB9 hO9 rfl hu ; have h8 : Own u wr.heap.size v8 (ls ++ ps) := ho9.kept hu hne9 ; obtain ⟨A7, c7, rfl, _, _, hr7⟩ := h8.rd' HPL.out
                rintro _ rfl
                refine StepGoal.nil ?_
                intro hrow
                simp only [Act.put, List.setIfInBounds_toArray, List.set_cons_zero, List.set_cons_succ]
                go_wp2_with (go_at_call 22; refine Calls.mono (four_any R _ HRL.out) ?_; rintro e w1 ⟨x, rfl, ho, hg⟩)
                exact ⟨rfl, rfl, hg.gb _, ho.lower hu2.size, fun _ => own_fresh ho rfl⟩
              · clear hx
                have hu2 : Grew w1 u := below_of_row hB9 hO9 rfl hu ; have h8 : Own u wr.heap.size v8 (ls ++ ps) := ho9.kept hu hne9 ; obtain ⟨A7, c7, rfl, _, _, hr7⟩ := h8.rd' HPL.out
                rintro v36 h36 v40 h40
                obtain ⟨A6, c6, rfl, _, _, hr6⟩ := h40.rd' (n := 4) rfl
                refine StepGoal.nil ?_
                intro hrow
                simp only [Act.put, List.setIfInBounds_toArray, List.set_cons_zero, List.set_cons_succ]
                go_wp2_with (at_builtin; refine apps2 (.inr rfl) rfl rfl rfl h36 hr6 hu2.size (by rw [List.length_append, HPL.out]; omega) ?_; intro v3 w3 ho3 hg3 hat3; rw [List.append_assoc, List.append_assoc] at ho3)
                exact ⟨rfl, rfl, hg3, ho3, fun _ => hat3⟩
              · clear hx
                have hu2 : Grew w1 u := below_of_row hB9 hO9 rfl hu ; have h8 : Own u wr.heap.size v8 (ls ++ ps) := ho9.kept hu hne9 ; obtain ⟨A7, c7, rfl, _, _, hr7⟩ := h8.rd' HPL.out
                rintro _ rfl v41 h41
                refine StepGoal.nil ?_
                intro hrow
                simp only [Act.put, List.setIfInBounds_toArray, List.set_cons_zero, List.set_cons_succ]
                go_wp2
                exact ⟨rfl, rfl, (Grew.rf u).gb _, h41, fun _ b hb => ⟨.inl hb, h41.lt b hb⟩⟩
            · intro u hu
              rintro _ rfl _ rfl v36 _ _ rfl _ rfl _ rfl v40 h40 v41 _ v5 h5
              refine StepGoal.nil ?_
              simp only [Act.put, List.setIfInBounds_toArray, List.set_cons_zero, List.set_cons_succ]
              have hfin5 : Own u w1.heap.size v5 (headF (k + 1) T xs) := by rw [HSN.out, List.append_assoc]; exact h5
              go_wp2_with fail
              go_roundw
              case rel => exact ⟨k + 1, by omega, k + 1, .inl ⟨rfl, by omega⟩, (show Own u (g + 1) v5 (headF (k + 1) T xs) from hs1 ▸ hfin5), below_of_row hB9 hO9 rfl hu⟩
              case measure => simp [intOf]; omega
        · skip
          obtain ⟨m, hm⟩ : ∃ m, n - 256 * k = m := ⟨_, rfl⟩
          have hmi : (n : Int) - 256 * (k : Int) = (m : Int) := by omega
          have hM0 : 0 < m ∧ m ≤ 256 ∧ 256 * k + m ≤ n := by omega
          have hlb := leb_len (v := (m : Int)) (by omega)
          have hlby : Byt (leb (m : Int)) := leb_byte (by omega)
          obtain ⟨A9, hcut9, hA9⟩ := cut_lh (kl := .i64) (kh := .i64) A n c (256 * k) (256 * k + m) (by omega) (by omega) hnc
          have hr9 := hA9 HRR.out
          rw [show 256 * k + m - 256 * k = m by omega] at hcut9 hr9
          rw [List.drop_take, show 256 * k + m - 256 * k = m by omega] at hr9
          rw [show ((256 * k : Nat) : Int) = 256 * (k : Int) by omega, show ((256 * k + m : Nat) : Int) = 256 * (k : Int) + (m : Int) by omega] at hcut9
          have hb9 : Byt ((xs.drop (256 * k)).take m) := fun y hy => HBB.out y (List.mem_of_mem_drop (List.mem_of_mem_take hy))
          have hsn := headF_snoc T k xs
          have htk : (xs.drop (256 * k)).take 256 = (xs.drop (256 * k)).take m := by
            first | rfl | (rw [List.take_of_length_le (by rw [List.length_drop, HRR.out.len]; omega), List.take_of_length_le (by rw [List.length_drop, HRR.out.len]; omega)])
          rw [htk] at hsn
          unfold pieceL at hsn
          rw [hr9.len, show ((m : Nat) : Int) = (m : Int) from rfl] at hsn
          have hhl := headF_len T k xs
          generalize (xs.drop (256 * k)).take m = ps at *
          have hbyt := fun w1 => bytes_any (m : Int) w1 (by omega) (by omega)
          generalize leb (m : Int) = ls at *
          have HBYT := Lib.hid hbyt
          clear hbyt
          generalize headF k T xs = hs at *
          have hpl : (ls ++ ps).length = ls.length + m := by rw [List.length_append, hr9.len]
          obtain ⟨R, hR⟩ : ∃ R, cSum T (ls ++ ps) = R := ⟨_, rfl⟩
          have hRl : R < 4294967296 := by rw [← hR]; exact cSum_lt hW _
          rw [hR] at hsn
          have hby := fun (u : World) A m c (hr : Rd u A m (ls ++ ps)) (hm : m ≤ 9223372036854775807) => by_any T hT hW A m c _ u hr (hlby.app hb9) hm
          rw [← sum_by hW, hR] at hby
          have HBY := Lib.hid hby
          have HRL := Lib.hid hRl
          have HSN := Lib.hid hsn
          have HPL := Lib.hid hpl
          clear hby hRl hsn hR htk hpl
          go_wp2_with fail
          refine region_split 9 [[], [(0, 24)], [(0, 24), (1, 25)], [], [], [], [], [(5, 29), (6, 30)], [(3, 27), (4, 28), (5, 29), (6, 30), (7, 31)], [(0, 24), (1, 25), (2, 26), (3, 27), (4, 28), (5, 29), (6, 30), (7, 31), (8, 32)], [(0, 24), (1, 25), (2, 26), (3, 27), (4, 28), (5, 29), (6, 30), (7, 31), (8, 32), (9, 33)]] [(0, 24), (1, 25), (2, 26), (3, 27), (4, 28), (5, 29), (6, 30), (7, 31), (8, 32)] (fun
            | 0 => .eqv (.int .i64 (m : Int)) | 1 => .eqv (.int .u64 (m : Int)) | 2 => .own wr.heap.size ls | 3 => .eqv (.slice A n c) | 4 => .eqv (.int .i64 (256 * (k : Int))) | 5 => .eqv (.int .i64 (256 * (k : Int))) | 6 => .eqv (.int .i64 (m : Int)) | 7 => .eqv (.int .i64 (256 * (k : Int) + (m : Int))) | 8 => .eqv (.slice A9 m (c - 256 * k)) | _ => .any) (by kernel_rfl) ?_ ?_
          · refine ⟨fun u hu => ?_, fun u hu => ?_, fun u hu => ?_, fun u hu => ?_, fun u hu => ?_, fun u hu => ?_, fun u hu => ?_, fun u hu => ?_, fun u hu => ?_, trivial⟩
            · refine StepGoal.nil ?_
              go_wp2
              exact ⟨rfl, rfl, Grew.rf _, rfl⟩
            · rintro _ rfl
              refine StepGoal.nil ?_
              simp only [Act.put, List.setIfInBounds_toArray, List.set_cons_zero, List.set_cons_succ]
              go_wp2
              exact ⟨rfl, rfl, Grew.rf _, rfl⟩
            · rintro _ rfl _ rfl
              refine StepGoal.nil ?_
              simp only [Act.put, List.setIfInBounds_toArray, List.set_cons_zero, List.set_cons_succ]
              go_wp2_with (go_at_call 27; refine Calls.mono (HBYT.out _) ?_; rintro e w' ⟨x, rfl, ho, hg⟩)
              exact ⟨rfl, rfl, hg, ho.lower hu.size⟩
            · refine StepGoal.nil ?_
              go_wp2
              exact ⟨rfl, rfl, Grew.rf _, rfl⟩
            · refine StepGoal.nil ?_
              go_wp2
              exact ⟨rfl, rfl, Grew.rf _, rfl⟩
            · refine StepGoal.nil ?_
              go_wp2
              exact ⟨rfl, rfl, Grew.rf _, rfl⟩
            · refine StepGoal.nil ?_
              go_wp2
              exact ⟨rfl, rfl, Grew.rf _, rfl⟩
            · rintro _ rfl _ rfl
              refine StepGoal.nil ?_
              simp only [Act.put, List.setIfInBounds_toArray, List.set_cons_zero, List.set_cons_succ]
              go_wp2
              exact ⟨rfl, rfl, Grew.rf _, rfl⟩
            · rintro _ rfl _ rfl _ rfl _ rfl _ rfl
              refine StepGoal.nil ?_
              simp only [Act.put, List.setIfInBounds_toArray, List.set_cons_zero, List.set_cons_succ]
              go_wp2
              exact ⟨rfl, rfl, Grew.rf _, rfl⟩
          · intro u hu
            rintro _ rfl _ rfl v26 h26 _ rfl _ rfl _ rfl _ rfl _ rfl _ rfl
            refine StepGoal.nil ?_
            simp only [Act.put, List.setIfInBounds_toArray, List.set_cons_zero, List.set_cons_succ]; simp only [List.drop_succ_cons, List.drop_zero]
            go_wp2_with ((with_reducible refine gate_b .append #[.tmp 26, .tmp 32] _ rfl ?_); refine apps rfl rfl rfl rfl h26 (hr9.keep (hB.tr hu)) hu hu.size (by omega) ?_; intro v8 w9 ho9 hg9 hb9')
            have hg9 : Grew wr w9 := hg9
            have hO9 := hO.keep hg9
            have hB9 : Grew w1 w9 := hB.tr hg9
            have hne9 : ∀ b, u5.ownBlock = some b → v8.ownBlock ≠ some b := fun b hb he => by have := hO.lt b hb; have := ho9.base_le b he; omega
            go_wp2_with fail
            refine region_ex (w0 := w1) [[], [], [(0, 34), (1, 35)], [], [], [(3, 37), (4, 38)], [(5, 39)], [(2, 36), (6, 40)], [(0, 34), (7, 41)]] [(0, 34), (1, 35), (2, 36), (3, 37), (4, 38), (5, 39), (6, 40), (7, 41), (8, 5)] [(7, 2), (8, 7)] [none, none, none, none, none, none, none, some 36, some 41] [2, 6, 7, 8] (fun
              | 0 => .eqv (u5) | 1 => .eqv (v8) | 2 => .ow (hs ++ (ls ++ ps)) | 3 => .eqv (tabV T) | 4 => .eqv (v8) | 5 => .eqv (.int .u32 R) | 6 => .ow (fourB R) | 7 => .ow (hs ++ (ls ++ (ps ++ fourB R))) | 8 => .ow (hs ++ (ls ++ (ps ++ fourB R))) | _ => .any) 2 u5 hs (by kernel_rfl) (by kernel_rfl) (by kernel_rfl) (by kernel_rfl) hO9 hB9.size ?_ ?_
            · refine ⟨fun u hu hx => ?_, fun u hu hx => ?_, fun u hu hx => ?_, fun u hu hx => ?_, fun u hu hx => ?_, fun u hu hx => ?_, fun u hu hx => ?_, fun u hu hx => ?_, fun u hu hx => ?_, trivial⟩
              · clear hx
                have hu2 : Grew w1 u := below_of_row hB9 hO9 rfl hu ; have h8 : Own u wr.heap.size v8 (ls ++ ps) := ho9.kept hu hne9 ; obtain ⟨A7, c7, rfl, _, _, hr7⟩ := h8.rd' HPL.out
                refine StepGoal.nil ?_
                intro hrow
                go_wp2
                exact ⟨rfl, rfl, gb_rf _, rfl, fun h => absurd h (by decide)⟩
              · clear hx
                have hu2 : Grew w1 u := below_of_row hB9 hO9 rfl hu ; have h8 : Own u wr.heap.size v8 (ls ++ ps) := ho9.kept hu hne9 ; obtain ⟨A7, c7, rfl, _, _, hr7⟩ := h8.rd' HPL.out
                refine StepGoal.nil ?_
                intro hrow
                go_wp2
                exact ⟨rfl, rfl, gb_rf _, rfl, fun h => absurd h (by decide)⟩
              · have hx := hx rfl
                have hu2 : Grew w1 u := below_of_row hB9 hO9 rfl hu ; have h8 : Own u wr.heap.size v8 (ls ++ ps) := ho9.kept hu hne9 ; obtain ⟨A7, c7, rfl, _, _, hr7⟩ := h8.rd' HPL.out
                rintro _ rfl _ rfl
                refine StepGoal.nil ?_
                intro hrow
                simp only [Act.put, List.setIfInBounds_toArray, List.set_cons_zero, List.set_cons_succ]
                go_wp2_with (at_builtin; refine apps2 (.inr rfl) rfl rfl rfl hx hr7 hu2.size (by omega) ?_; intro v3 w3 ho3 hg3 hat3)
                exact ⟨rfl, rfl, hg3, ho3, fun _ => hat3⟩
              · clear hx
                have hu2 : Grew w1 u := below_of_row hB9 hO9 rfl hu ; have h8 : Own u wr.heap.size v8 (ls ++ ps) := ho9.kept hu hne9 ; obtain ⟨A7, c7, rfl, _, _, hr7⟩ := h8.rd' HPL.out
                refine StepGoal.nil ?_
                intro hrow
                go_wp2_with (refine tab_load2 (.inr rfl) rfl rfl (HTT.out.keep hu2) ?_)
                exact ⟨rfl, rfl, gb_rf _, rfl, fun h => absurd h (by decide)⟩
              · clear hx
                have hu2 : Grew w1 u := below_of_row hB9 hO9 rfl hu ; have h8 : Own u wr.heap.size v8 (ls ++ ps) := ho9.kept hu hne9 ; obtain ⟨A7, c7, rfl, _, _, hr7⟩ := h8.rd' HPL.out
                refine StepGoal.nil ?_
                intro hrow
                go_wp2
                exact ⟨rfl, rfl, gb_rf _, rfl, fun h => absurd h (by decide)⟩
              · clear hx
                have hu2 : Grew w1 u := below_of_row hB9 hO9 rfl hu ; have h8 : Own u wr.heap.size v8 (ls ++ ps) := ho9.kept hu hne9 ; obtain ⟨A7, c7, rfl, _, _, hr7⟩ := h8.rd' HPL.out
                rintro _ rfl _ rfl
                refine StepGoal.nil ?_
                intro hrow
                simp only [Act.put, List.setIfInBounds_toArray, List.set_cons_zero, List.set_cons_succ]
                go_wp2_with (go_at_call 23; refine Calls.mono (HBY.out _ _ _ _ hr7 (by omega)) ?_; rintro e w' ⟨rfl, hg⟩)
                exact ⟨rfl, rfl, hg.gb _, rfl, fun h => absurd h (by decide)⟩
              · clear hx
                have hu2 : Grew w1 u := below_of_row hB9 hO9 rfl hu ; have h8 : Own u wr.heap.size v8 (ls ++ ps) := ho9.kept hu hne9 ; obtain ⟨A7, c7, rfl, _, _, hr7⟩ := h8.rd' HPL.out
                rintro _ rfl
                refine StepGoal.nil ?_
                intro hrow
                simp only [Act.put, List.setIfInBounds_toArray, List.set_cons_zero, List.set_cons_succ]
                go_wp2_with (go_at_call 22; refine Calls.mono (four_any R _ HRL.out) ?_; rintro e w1 ⟨x, rfl, ho, hg⟩)
                exact ⟨rfl, rfl, hg.gb _, ho.lower hu2.size, fun _ => own_fresh ho rfl⟩
              · clear hx
                have hu2 : Grew w1 u := below_of_row hB9 hO9 rfl hu ; have h8 : Own u wr.heap.size v8 (ls ++ ps) := ho9.kept hu hne9 ; obtain ⟨A7, c7, rfl, _, _, hr7⟩ := h8.rd' HPL.out
                rintro v36 h36 v40 h40
                obtain ⟨A6, c6, rfl, _, _, hr6⟩ := h40.rd' (n := 4) rfl
                refine StepGoal.nil ?_
                intro hrow
                simp only [Act.put, List.setIfInBounds_toArray, List.set_cons_zero, List.set_cons_succ]
                go_wp2_with (at_builtin; refine apps2 (.inr rfl) rfl rfl rfl h36 hr6 hu2.size (by rw [List.length_append, HPL.out]; omega) ?_; intro v3 w3 ho3 hg3 hat3; rw [List.append_assoc, List.append_assoc] at ho3)
                exact ⟨rfl, rfl, hg3, ho3, fun _ => hat3⟩
              · clear hx
                have hu2 : Grew w1 u := below_of_row hB9 hO9 rfl hu ; have h8 : Own u wr.heap.size v8 (ls ++ ps) := ho9.kept hu hne9 ; obtain ⟨A7, c7, rfl, _, _, hr7⟩ := h8.rd' HPL.out
                rintro _ rfl v41 h41
                refine StepGoal.nil ?_
                intro hrow
                simp only [Act.put, List.setIfInBounds_toArray, List.set_cons_zero, List.set_cons_succ]
                go_wp2
                exact ⟨rfl, rfl, (Grew.rf u).gb _, h41, fun _ b hb => ⟨.inl hb, h41.lt b hb⟩⟩
            · intro u hu
              rintro _ rfl _ rfl v36 _ _ rfl _ rfl _ rfl v40 h40 v41 _ v5 h5
              refine StepGoal.nil ?_
              simp only [Act.put, List.setIfInBounds_toArray, List.set_cons_zero, List.set_cons_succ]
              have hfin5 : Own u w1.heap.size v5 (headF (k + 1) T xs) := by rw [HSN.out, List.append_assoc]; exact h5
              go_wp2_with fail
              go_roundw
              case rel => exact ⟨k + 1, by omega, k + 1, .inl ⟨rfl, by omega⟩, (show Own u (g + 1) v5 (headF (k + 1) T xs) from hs1 ▸ hfin5), below_of_row hB9 hO9 rfl hu⟩
              case measure => simp [intOf]; omega
    · have hfin : packL T xs = headF j T xs ++ ([0] ++ fourB (cSum T [0])) := by
        rw [← pieceL_nil]
        exact packL_done T j xs (by rw [HRR.out.len]; omega) (by rw [HRR.out.len]; omega)
      have hhl := headF_len T j xs
      generalize headF j T xs = hs at *
      obtain ⟨R, hR⟩ : ∃ R, cSum T [0] = R := ⟨_, rfl⟩
      have hRl : R < 4294967296 := by rw [← hR]; exact cSum_lt hW _
      rw [hR] at hfin
      have hby := fun (u : World) A c (hr : Rd u A 1 [0]) => by_any T hT hW A 1 c _ u hr (byt_of (by decide)) (by decide)
      rw [← sum_by hW, hR] at hby
      have HFIN := Lib.hid hfin
      have HBY := Lib.hid hby
      have HRL := Lib.hid hRl
      clear hfin hby hR hRl
      go_wp2_with fail
      refine region_ex (w0 := w1) [[], [], [(0, 42), (1, 43)], [], [], [(3, 45), (4, 46)], [(5, 47)], [(2, 44), (6, 48)], [(7, 49)]] [(0, 42), (1, 43), (2, 44), (3, 45), (4, 46), (5, 47), (6, 48), (7, 49), (8, 4)] [(7, 2), (8, 7)] [none, none, none, none, none, none, none, some 44, some 49] [1, 2, 4, 6, 7, 8] (fun
        | 0 => .eqv (u5) | 1 => .ow [0] | 2 => .ow (hs ++ [0]) | 3 => .eqv (tabV T) | 4 => .ow [0] | 5 => .eqv (.int .u32 R) | 6 => .ow (fourB R) | 7 => .ow (hs ++ 0 :: fourB R) | 8 => .ow (hs ++ 0 :: fourB R) | _ => .any) 2 u5 hs (by kernel_rfl) (by kernel_rfl) (by kernel_rfl) (by kernel_rfl) hO hB.size ?_ ?_
      · refine ⟨fun u hu hx => ?_, fun u hu hx => ?_, fun u hu hx => ?_, fun u hu hx => ?_, fun u hu hx => ?_, fun u hu hx => ?_, fun u hu hx => ?_, fun u hu hx => ?_, fun u hu hx => ?_, trivial⟩
        · clear hx
          have hu2 : Grew w1 u := below_of_row hB hO rfl hu
          refine StepGoal.nil ?_
          intro hrow
          go_wp2
          exact ⟨rfl, rfl, gb_rf _, rfl, fun h => absurd h (by decide)⟩
        · clear hx
          have hu2 : Grew w1 u := below_of_row hB hO rfl hu
          have ho := own_litK 5 .u8 u u.heap.size [0] (Nat.le_refl _) (by decide)
          refine StepGoal.nil ?_
          intro hrow
          go_wp2
          exact ⟨rfl, rfl, ((Grew.rf u).al _).gb _, ho.lower hu2.size, fun _ => own_fresh ho rfl⟩
        · have hx := hx rfl
          have hu2 : Grew w1 u := below_of_row hB hO rfl hu
          rintro _ rfl v43 h43
          obtain ⟨A7, c7, rfl, _, _, hr7⟩ := h43.rd' (n := 1) rfl
          refine StepGoal.nil ?_
          intro hrow
          simp only [Act.put, List.setIfInBounds_toArray, List.set_cons_zero, List.set_cons_succ]
          go_wp2_with (at_builtin; refine apps2 (.inr rfl) rfl rfl rfl hx hr7 hu2.size (by omega) ?_; intro v3 w3 ho3 hg3 hat3)
          exact ⟨rfl, rfl, hg3, ho3, fun _ => hat3⟩
        · clear hx
          have hu2 : Grew w1 u := below_of_row hB hO rfl hu
          refine StepGoal.nil ?_
          intro hrow
          go_wp2_with (refine tab_load2 (.inr rfl) rfl rfl (HTT.out.keep hu2) ?_)
          exact ⟨rfl, rfl, gb_rf _, rfl, fun h => absurd h (by decide)⟩
        · clear hx
          have hu2 : Grew w1 u := below_of_row hB hO rfl hu
          have ho := own_litK 5 .u8 u u.heap.size [0] (Nat.le_refl _) (by decide)
          refine StepGoal.nil ?_
          intro hrow
          go_wp2
          exact ⟨rfl, rfl, ((Grew.rf u).al _).gb _, ho.lower hu2.size, fun _ => own_fresh ho rfl⟩
        · clear hx
          have hu2 : Grew w1 u := below_of_row hB hO rfl hu
          rintro _ rfl v46 h46
          obtain ⟨A7, c7, rfl, _, _, hr7⟩ := h46.rd' (n := 1) rfl
          refine StepGoal.nil ?_
          intro hrow
          simp only [Act.put, List.setIfInBounds_toArray, List.set_cons_zero, List.set_cons_succ]
          go_wp2_with (go_at_call 23; refine Calls.mono (HBY.out _ _ _ hr7) ?_; rintro e w' ⟨rfl, hg⟩)
          exact ⟨rfl, rfl, hg.gb _, rfl, fun h => absurd h (by decide)⟩
        · clear hx
          have hu2 : Grew w1 u := below_of_row hB hO rfl hu
          rintro _ rfl
          refine StepGoal.nil ?_
          intro hrow
          simp only [Act.put, List.setIfInBounds_toArray, List.set_cons_zero, List.set_cons_succ]
          go_wp2_with (go_at_call 22; refine Calls.mono (four_any R _ HRL.out) ?_; rintro e w1 ⟨x, rfl, ho, hg⟩)
          exact ⟨rfl, rfl, hg.gb _, ho.lower hu2.size, fun _ => own_fresh ho rfl⟩
        · clear hx
          have hu2 : Grew w1 u := below_of_row hB hO rfl hu
          rintro v44 h44 v48 h48
          obtain ⟨A7, c7, rfl, _, _, hr7⟩ := h48.rd' (n := 4) rfl
          refine StepGoal.nil ?_
          intro hrow
          simp only [Act.put, List.setIfInBounds_toArray, List.set_cons_zero, List.set_cons_succ]
          go_wp2_with (at_builtin; refine apps2 (.inr rfl) rfl rfl rfl h44 hr7 hu2.size (by rw [List.length_append, List.length_singleton]; omega) ?_; intro v3 w3 ho3 hg3 hat3; rw [List.append_assoc, List.singleton_append] at ho3)
          exact ⟨rfl, rfl, hg3, ho3, fun _ => hat3⟩
        · clear hx
          have hu2 : Grew w1 u := below_of_row hB hO rfl hu
          rintro v49 h49
          refine StepGoal.nil ?_
          intro hrow
          simp only [Act.put, List.setIfInBounds_toArray, List.set_cons_zero, List.set_cons_succ]
          go_wp2
          exact ⟨rfl, rfl, (Grew.rf u).gb _, h49, fun _ b hb => ⟨.inl hb, h49.lt b hb⟩⟩
      · intro u hu
        rintro _ rfl v43 h43 v44 _ _ rfl v46 h46 _ rfl v48 h48 v49 _ v4 h4
        refine StepGoal.nil ?_
        simp only [Act.put, List.setIfInBounds_toArray, List.set_cons_zero, List.set_cons_succ]
        go_wp2
        go_ret
        exact ⟨_, rfl, by rw [HFIN.out]; exact h4.lower (by have := hg1.size; omega), hg1.tr (below_of_row hB hO rfl hu)⟩
end Go.Proofs.Ytflnopaheanpdaa
