/- Clone of headers, request, fetch.Good of a request without texts, modes. -/
import Derived.Test.YtbkcpgaicoagfaaEg21
set_option linter.unusedVariables false
set_option linter.unusedSimpArgs false
namespace Go.Proofs.Ytbkcpgaicoagfaa
open Go.RowKit

theorem and3 (x : Int) : bits .and .i64 x 3 = x % 4 := by
  show IntKind.i64.wrap ((BitVec.ofInt 64 x &&& BitVec.ofInt 64 3).toNat : Int) = _
  have h3 : (BitVec.ofInt 64 3).toNat = 2 ^ 2 - 1 := by decide
  rw [BitVec.toNat_and, h3, Nat.and_two_pow_sub_one_eq_mod, BitVec.toNat_ofInt, IntKind.wrap_i64]
  omega

theorem cloneH_any (A : Option Addr) (n c : Nat) (l : List Hdr) (w : World) (hr : RdH w A n l) (hA : A = none → n = 0 ∧ c = 0) (hn : n ≤ 1000) :
    Calls Try.prog 68 #[.slice A n c] w fun e w' => ∃ v, e = .returned v ∧ OwnV 124 2 w' w.heap.size v l.length (hcs l) ∧ Grew w w' := by
  have hl := hr.lenH
  have HR := Lib.hid hr
  have HL := Lib.hid hl
  have q39 : ∀ (w : World) (a : Option Addr) (n c : Nat), (binOp .eql 31 (.slice a n c) (.slice none 0 0)).run Try.prog w = .ok (.bool a.isNone) w := fun w a n c => Lib.run_eql_slice_nil w _ _ a n c 0 0 Try.underlying31
  clear hr hl
  cases A with
  | none =>
    obtain ⟨rfl, rfl⟩ := hA rfl
    have HL0 : RowKit.Hid (l = []) := List.eq_nil_of_length_eq_zero HL.out
    go_enter Try.func68, Try.ntmps68
    go_wp2
    go_ret
    exact ⟨_, rfl, by rw [HL0.out]; exact OwnV.nil _ _ _ _, Grew.rf w⟩
  | some ad =>
    clear hA
    go_enter Try.func68, Try.ntmps68
    go_wp2_with ((with_reducible refine gate_b .append #[.tmp 5, .tmp 6] _ rfl ?_); refine appV Try.underlying31 infoH (by decide) (by decide) (by decide) (.inl rfl) rfl rfl rfl (ownV_lit0 124 2 w) (HR.out.keep ((Grew.rf w).al (.cells #[] 124))) (hcs_one _) (by simp) (by omega) ?_; intro v1 w1 ho1 hg1 hat1; simp only [Nat.zero_add, List.nil_append] at ho1)
    go_ret
    refine ⟨_, rfl, ?_, ((Grew.rf w).al (.cells #[] 124)).grown hg1 (by simp) (fun k e => by cases e; exact Nat.le_refl _)⟩
    rw [HL.out]
    exact ho1

/-! ### request -/
abbrev rqV (x : Ev) (A : Option Addr) (n c : Nat) : Value := .agg #[.string x.me, .string x.ur, .int .i64 (x.co % 4), .int .i64 (x.co / 4 % 4), .int .i64 (x.co / 16 % 4), .int .i64 (x.co / 64), .string x.no, .slice A n c, .string x.bo]
def Pd.clonedH (n : Nat) (l : List Hdr) : Pd := ⟨fun v u => ∃ B d, v = .slice B n d ∧ n ≤ d ∧ d ≤ 9223372036854775807 ∧ RdH u B n l ∧ HdB u B, fun v u u' ⟨B, d, h1, h2, h3, h4, h5⟩ hg => ⟨B, d, h1, h2, h3, h4.keep hg, h5.keep hg⟩⟩

def Pd.clippedH (n : Nat) (l : List Hdr) : Pd := ⟨fun v u => ∃ B, v = .slice B n n ∧ RdH u B n l ∧ HdB u B, fun v u u' ⟨B, h1, h2, h3⟩ hg => ⟨B, h1, h2.keep hg, h3.keep hg⟩⟩
def Pd.rq (f : Option Addr → Value) (n : Nat) (l : List Hdr) : Pd := ⟨fun v u => ∃ B, v = f B ∧ RdH u B n l ∧ HdB u B, fun v u u' ⟨B, h1, h2, h3⟩ hg => ⟨B, h1, h2.keep hg, h3.keep hg⟩⟩

set_option maxRecDepth 100000 in
set_option maxHeartbeats 3200000 in
theorem request_any (x : Ev) (A : Option Addr) (n c : Nat) (w : World) (hr : RdH w A n x.hs) (hA : A = none → n = 0 ∧ c = 0) (hn : n ≤ 1000) :
    Calls Try.prog 67 #[evV x A n c] w fun e w' => ∃ B, e = .returned (rqV x B n n) ∧ RdH w' B n x.hs ∧ HdB w' B ∧ Grew w w' := by
  obtain ⟨ki, se, ti, me, ur, hs, bo, st, co, cr, no, nn⟩ := x
  dsimp only at hr
  have hcl := fun (u : World) (hu : Grew w u) => cloneH_any A n c hs u (hr.keep hu) hA hn
  have HL := Lib.hid hr.lenH
  have HCL := Lib.hid hcl
  clear hr hcl hA
  have h1 := and3 co
  have h2 := and3 (co / 4)
  have h3 := and3 (co / 16)
  go_enter Try.func67, Try.ntmps67
  go_upto_region 1 with fail
  have hp0 := heap_keep ((Grew.rf _).al (.cells #[.string { data := #[] }, .string { data := #[] }, .int .i64 0, .int .i64 0, .int .i64 0, .int .i64 0, .string { data := #[] }, .slice none 0 0, .string { data := #[] }] 72)) (heap_alloc_new w (.cells #[.int .i64 ki, .int .i64 se, .int .i64 ti, .string me, .string ur, .slice A n c, .string bo, .int .i64 st, .int .i64 co, .bool cr, .string no, .int .u64 nn] 34))
  have hp1 := heap_alloc_new (w.alloc (.cells #[.int .i64 ki, .int .i64 se, .int .i64 ti, .string me, .string ur, .slice A n c, .string bo, .int .i64 st, .int .i64 co, .bool cr, .string no, .int .u64 nn] 34)) (.cells #[.string { data := #[] }, .string { data := #[] }, .int .i64 0, .int .i64 0, .int .i64 0, .int .i64 0, .string { data := #[] }, .slice none 0 0, .string { data := #[] }] 72)
  obtain ⟨W, hW⟩ : ∃ W, (w.alloc (.cells #[.int .i64 ki, .int .i64 se, .int .i64 ti, .string me, .string ur, .slice A n c, .string bo, .int .i64 st, .int .i64 co, .bool cr, .string no, .int .u64 nn] 34)).alloc (.cells #[.string { data := #[] }, .string { data := #[] }, .int .i64 0, .int .i64 0, .int .i64 0, .int .i64 0, .string { data := #[] }, .slice none 0 0, .string { data := #[] }] 72) = W := ⟨_, rfl⟩
  have hgW : Grew w W := by rw [← hW]; exact ((Grew.rf w).al _).al _
  rw [World.size_alloc] at hp1
  rw [hW] at hp0 hp1 ⊢
  obtain ⟨hb, hhb⟩ : ∃ hb, w.heap.size = hb := ⟨_, rfl⟩
  rw [hhb] at hp0 hp1 ⊢
  have HP0 := Lib.hid hp0
  have HP1 := Lib.hid hp1
  have HGW := Lib.hid hgW
  have HHB := Lib.hid hhb
  clear hp0 hp1 hW hgW hhb
  refine region_split 27 [[], [(0, 3)], [], [(2, 5)], [], [(4, 7)], [(5, 8)], [], [(7, 10)], [(8, 11)], [(9, 12)], [], [(11, 14)], [(12, 15)], [(13, 16)], [], [(15, 18)], [(16, 19)], [], [(18, 21)], [], [(20, 23)], [(21, 24)], [(22, 25)], [], [(24, 27)], [(1, 4), (3, 6), (6, 9), (10, 13), (14, 17), (17, 20), (19, 22), (23, 26), (25, 28)], [(0, 3), (1, 4), (2, 5), (3, 6), (4, 7), (5, 8), (6, 9), (7, 10), (8, 11), (9, 12), (10, 13), (11, 14), (12, 15), (13, 16), (14, 17), (15, 18), (16, 19), (17, 20), (18, 21), (19, 22), (20, 23), (21, 24), (22, 25), (23, 26), (24, 27), (25, 28), (26, 29)]] [(0, 3), (1, 4), (2, 5), (3, 6), (4, 7), (5, 8), (6, 9), (7, 10), (8, 11), (9, 12), (10, 13), (11, 14), (12, 15), (13, 16), (14, 17), (15, 18), (16, 19), (17, 20), (18, 21), (19, 22), (20, 23), (21, 24), (22, 25), (23, 26), (24, 27), (25, 28), (26, 29)] (fun
    | 0 => .eqv (.pointer (some ⟨hb, 3, none⟩)) | 1 => .eqv (.string me) | 2 => .eqv (.pointer (some ⟨hb, 4, none⟩)) | 3 => .eqv (.string ur) | 4 => .eqv (.pointer (some ⟨hb, 8, none⟩)) | 5 => .eqv (.int .i64 co) | 6 => .eqv (.int .i64 (co % 4)) | 7 => .eqv (.pointer (some ⟨hb, 8, none⟩)) | 8 => .eqv (.int .i64 co) | 9 => .eqv (.int .i64 (co / 4)) | 10 => .eqv (.int .i64 (co / 4 % 4)) | 11 => .eqv (.pointer (some ⟨hb, 8, none⟩)) | 12 => .eqv (.int .i64 co) | 13 => .eqv (.int .i64 (co / 16)) | 14 => .eqv (.int .i64 (co / 16 % 4)) | 15 => .eqv (.pointer (some ⟨hb, 8, none⟩)) | 16 => .eqv (.int .i64 co) | 17 => .eqv (.int .i64 (co / 64)) | 18 => .eqv (.pointer (some ⟨hb, 10, none⟩)) | 19 => .eqv (.string no) | 20 => .eqv (.pointer (some ⟨hb, 5, none⟩)) | 21 => .eqv (.slice A n c) | 22 => .clonedH n hs | 23 => .clippedH n hs | 24 => .eqv (.pointer (some ⟨hb, 6, none⟩)) | 25 => .eqv (.string bo) | 26 => .rq (fun B => rqV ⟨ki, se, ti, me, ur, hs, bo, st, co, cr, no, nn⟩ B n n) n hs | _ => .any) (by kernel_rfl) ?_ ?_
  · refine ⟨fun u hu => ?_, fun u hu => ?_, fun u hu => ?_, fun u hu => ?_, fun u hu => ?_, fun u hu => ?_, fun u hu => ?_, fun u hu => ?_, fun u hu => ?_, fun u hu => ?_, fun u hu => ?_, fun u hu => ?_, fun u hu => ?_, fun u hu => ?_, fun u hu => ?_, fun u hu => ?_, fun u hu => ?_, fun u hu => ?_, fun u hu => ?_, fun u hu => ?_, fun u hu => ?_, fun u hu => ?_, fun u hu => ?_, fun u hu => ?_, fun u hu => ?_, fun u hu => ?_, fun u hu => ?_, trivial⟩
    · refine StepGoal.nil ?_
      go_wp2
      exact ⟨rfl, rfl, Grew.rf _, rfl⟩
    · rintro _ rfl
      have hce : u.cell? ⟨hb, 3, none⟩ = some (.string me) := hu.ce (cell_of_heap HP0.out rfl)
      refine StepGoal.nil ?_
      simp only [Act.put, List.setIfInBounds_toArray, List.set_cons_zero, List.set_cons_succ]
      go_wp2
      exact ⟨rfl, rfl, Grew.rf _, rfl⟩
    · refine StepGoal.nil ?_
      go_wp2
      exact ⟨rfl, rfl, Grew.rf _, rfl⟩
    · rintro _ rfl
      have hce : u.cell? ⟨hb, 4, none⟩ = some (.string ur) := hu.ce (cell_of_heap HP0.out rfl)
      refine StepGoal.nil ?_
      simp only [Act.put, List.setIfInBounds_toArray, List.set_cons_zero, List.set_cons_succ]
      go_wp2
      exact ⟨rfl, rfl, Grew.rf _, rfl⟩
    · refine StepGoal.nil ?_
      go_wp2
      exact ⟨rfl, rfl, Grew.rf _, rfl⟩
    · rintro _ rfl
      have hce : u.cell? ⟨hb, 8, none⟩ = some (.int .i64 co) := hu.ce (cell_of_heap HP0.out rfl)
      refine StepGoal.nil ?_
      simp only [Act.put, List.setIfInBounds_toArray, List.set_cons_zero, List.set_cons_succ]
      go_wp2
      exact ⟨rfl, rfl, Grew.rf _, rfl⟩
    · rintro _ rfl
      clear h2 h3
      refine StepGoal.nil ?_
      simp only [Act.put, List.setIfInBounds_toArray, List.set_cons_zero, List.set_cons_succ]
      go_wp2
      exact ⟨rfl, rfl, Grew.rf _, rfl⟩
    · refine StepGoal.nil ?_
      go_wp2
      exact ⟨rfl, rfl, Grew.rf _, rfl⟩
    · rintro _ rfl
      have hce : u.cell? ⟨hb, 8, none⟩ = some (.int .i64 co) := hu.ce (cell_of_heap HP0.out rfl)
      refine StepGoal.nil ?_
      simp only [Act.put, List.setIfInBounds_toArray, List.set_cons_zero, List.set_cons_succ]
      go_wp2
      exact ⟨rfl, rfl, Grew.rf _, rfl⟩
    · rintro _ rfl
      clear h1 h2 h3
      refine StepGoal.nil ?_
      simp only [Act.put, List.setIfInBounds_toArray, List.set_cons_zero, List.set_cons_succ]
      go_wp2
      exact ⟨rfl, rfl, Grew.rf _, rfl⟩
    · rintro _ rfl
      clear h1 h3
      refine StepGoal.nil ?_
      simp only [Act.put, List.setIfInBounds_toArray, List.set_cons_zero, List.set_cons_succ]
      go_wp2
      exact ⟨rfl, rfl, Grew.rf _, rfl⟩
    · refine StepGoal.nil ?_
      go_wp2
      exact ⟨rfl, rfl, Grew.rf _, rfl⟩
    · rintro _ rfl
      have hce : u.cell? ⟨hb, 8, none⟩ = some (.int .i64 co) := hu.ce (cell_of_heap HP0.out rfl)
      refine StepGoal.nil ?_
      simp only [Act.put, List.setIfInBounds_toArray, List.set_cons_zero, List.set_cons_succ]
      go_wp2
      exact ⟨rfl, rfl, Grew.rf _, rfl⟩
    · rintro _ rfl
      clear h1 h2 h3
      refine StepGoal.nil ?_
      simp only [Act.put, List.setIfInBounds_toArray, List.set_cons_zero, List.set_cons_succ]
      go_wp2
      exact ⟨rfl, rfl, Grew.rf _, rfl⟩
    · rintro _ rfl
      clear h1 h2
      refine StepGoal.nil ?_
      simp only [Act.put, List.setIfInBounds_toArray, List.set_cons_zero, List.set_cons_succ]
      go_wp2
      exact ⟨rfl, rfl, Grew.rf _, rfl⟩
    · refine StepGoal.nil ?_
      go_wp2
      exact ⟨rfl, rfl, Grew.rf _, rfl⟩
    · rintro _ rfl
      have hce : u.cell? ⟨hb, 8, none⟩ = some (.int .i64 co) := hu.ce (cell_of_heap HP0.out rfl)
      refine StepGoal.nil ?_
      simp only [Act.put, List.setIfInBounds_toArray, List.set_cons_zero, List.set_cons_succ]
      go_wp2
      exact ⟨rfl, rfl, Grew.rf _, rfl⟩
    · rintro _ rfl
      clear h1 h2 h3
      refine StepGoal.nil ?_
      simp only [Act.put, List.setIfInBounds_toArray, List.set_cons_zero, List.set_cons_succ]
      go_wp2
      exact ⟨rfl, rfl, Grew.rf _, rfl⟩
    · refine StepGoal.nil ?_
      go_wp2
      exact ⟨rfl, rfl, Grew.rf _, rfl⟩
    · rintro _ rfl
      have hce : u.cell? ⟨hb, 10, none⟩ = some (.string no) := hu.ce (cell_of_heap HP0.out rfl)
      refine StepGoal.nil ?_
      simp only [Act.put, List.setIfInBounds_toArray, List.set_cons_zero, List.set_cons_succ]
      go_wp2
      exact ⟨rfl, rfl, Grew.rf _, rfl⟩
    · refine StepGoal.nil ?_
      go_wp2
      exact ⟨rfl, rfl, Grew.rf _, rfl⟩
    · rintro _ rfl
      have hce : u.cell? ⟨hb, 5, none⟩ = some (.slice A n c) := hu.ce (cell_of_heap HP0.out rfl)
      refine StepGoal.nil ?_
      simp only [Act.put, List.setIfInBounds_toArray, List.set_cons_zero, List.set_cons_succ]
      go_wp2
      exact ⟨rfl, rfl, Grew.rf _, rfl⟩
    · rintro _ rfl
      refine StepGoal.nil ?_
      simp only [Act.put, List.setIfInBounds_toArray, List.set_cons_zero, List.set_cons_succ]
      go_wp2_with (go_at_call 68; refine Calls.mono (HCL.out _ (HGW.out.tr hu)) ?_; rintro e w2 ⟨v2, rfl, ho2, hg2⟩)
      obtain ⟨B, d, rfl, hd1, hd2, hrd⟩ := ho2.rd; have hbk := ho2.hdB; rw [HL.out] at hd1 hrd ⊢; exact ⟨rfl, rfl, hg2, B, d, rfl, hd1, hd2, hrd, hbk⟩
    · rintro v25 h25
      obtain ⟨B, d, rfl, hd1, hd2, hrd, hbk⟩ := h25
      refine StepGoal.nil ?_
      simp only [Act.put, List.setIfInBounds_toArray, List.set_cons_zero, List.set_cons_succ]
      go_wp2_with (go_at_call 66; refine Calls.mono (clipH_any _ _ _ _ hd1 hd2) ?_; rintro e w2 ⟨rfl, rfl⟩)
      exact ⟨rfl, rfl, Grew.rf _, B, rfl, hrd, hbk⟩
    · refine StepGoal.nil ?_
      go_wp2
      exact ⟨rfl, rfl, Grew.rf _, rfl⟩
    · rintro _ rfl
      have hce : u.cell? ⟨hb, 6, none⟩ = some (.string bo) := hu.ce (cell_of_heap HP0.out rfl)
      refine StepGoal.nil ?_
      simp only [Act.put, List.setIfInBounds_toArray, List.set_cons_zero, List.set_cons_succ]
      go_wp2
      exact ⟨rfl, rfl, Grew.rf _, rfl⟩
    · rintro _ rfl _ rfl _ rfl _ rfl _ rfl _ rfl _ rfl v26 h26 _ rfl
      obtain ⟨B, rfl, hrd, hbk⟩ := h26
      refine StepGoal.nil ?_
      simp only [Act.put, List.setIfInBounds_toArray, List.set_cons_zero, List.set_cons_succ]
      go_wp2
      exact ⟨rfl, rfl, Grew.rf _, B, rfl, hrd, hbk⟩
  · intro u hu
    rintro _ rfl _ rfl _ rfl _ rfl _ rfl _ rfl _ rfl _ rfl _ rfl _ rfl _ rfl _ rfl _ rfl _ rfl _ rfl _ rfl _ rfl _ rfl _ rfl _ rfl _ rfl _ rfl v25 h25 v26 h26 _ rfl _ rfl v29 h29
    refine StepGoal.nil ?_
    simp only [Act.put, List.setIfInBounds_toArray, List.set_cons_zero, List.set_cons_succ]; simp only [List.drop_succ_cons, List.drop_zero]
    obtain ⟨B, rfl, hrd, hbk⟩ := h29
    have hp1 := heap_keep hu HP1.out
    have hgu := HGW.out.tr hu
    clear h25 h26 h1 h2 h3
    refine st_row rfl rfl rfl rfl hp1 (by kernel_rfl) rfl (by simp [Value.oneCell']) ?_
    intro W2 hW2 hby2
    have hg2 : Grew w W2 := grown_at hgu hby2 (by rw [HHB.out]; omega) hgu.size
    have hne := hbk.ne hp1 (by decide)
    have hr2 : RdH W2 B n hs := hrd.by_ hby2 hne
    have hb2 := hbk.by_ hby2 hne
    go_wp2_with fail
    refine bodyPost_ret (v := rqV ⟨ki, se, ti, me, ur, hs, bo, st, co, cr, no, nn⟩ B n n) (results_cell_row rfl _ _ (hb + 1) _ _ _ _ rfl hW2 Try.underlying72 rfl (by kernel_rfl)) rfl ?_
    exact ⟨B, rfl, hr2, hb2, hg2⟩
end Go.Proofs.Ytbkcpgaicoagfaa
