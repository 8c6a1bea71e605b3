import Derived.Test.YtbkcpgaicoagfaaLeb
import Derived.Test.YtbkcpgaicoagfaaPureLeb2
import Derived.Test.YtbkcpgaicoagfaaReg2
set_option linter.unusedVariables false
set_option linter.unusedSimpArgs false
namespace Go.Proofs.Ytbkcpgaicoagfaa
open Go.RowKit

set_option maxHeartbeats 1600000 in
theorem rtake_any (A : Option Addr) (n c : Nat) (bs : List Int) (at_ : Int) (w : World) (hr : Rd w A n bs) (hb : Byt bs) (hnc : n ≤ c) (hn : c ≤ 9223372036854775807) (hn2 : n ≤ 9223372036854775797) (h0 : -9223372036854775808 ≤ at_) (h1 : at_ ≤ 9223372036854775807) :
    Calls Try.prog 56 #[.slice A n c, .int .i64 at_] w fun e w' => e = .returned (.tuple #[.int .u64 (lebTake bs at_).1, .int .i64 (lebTake bs at_).2.1, .int .i64 (lebTake bs at_).2.2]) ∧ Grew w w' := by
  by_cases c0 : at_ < 0
  · have e : lebTake bs at_ = (0, 0, 1) := by unfold lebTake; rw [if_pos c0]
    rw [e]
    go_enter Try.func56, Try.ntmps56
    go_wp2
    go_ret3
    exact ⟨rfl, Grew.rf _⟩
  · by_cases c1 : (n : Int) < at_
    · have e : lebTake bs at_ = (0, 0, 1) := by unfold lebTake; rw [if_neg c0, hr.len, if_pos c1]
      rw [e]
      go_enter Try.func56, Try.ntmps56
      go_wp2
      go_ret3
      exact ⟨rfl, Grew.rf _⟩
    · obtain ⟨i, rfl⟩ := Int.eq_ofNat_of_zero_le (by omega : 0 ≤ at_)
      have hin : i ≤ n := by omega
      have hbd : Byt (bs.drop i) := fun x hx => hb x (List.mem_of_mem_drop hx)
      have e : lebTake bs (i : Int) = (let r := tkF 0 0 (bs.drop i); if r.2.2 = 0 then (r.1, (i : Int) + r.2.1, 0) else (0, 0, r.2.2)) := by
        unfold lebTake
        rw [if_neg c0, hr.len, if_neg c1, Int.toNat_natCast]
      rw [e]
      clear e
      have hdl : (bs.drop i).length = n - i := by rw [List.length_drop, hr.len]
      have hcell : ∀ j, j < n - i → ∃ b o, A = some ⟨b, o, none⟩ ∧ w.cell? ⟨b, o + (i + j), none⟩ = some (.int .u8 ((bs.drop i).getD j 0)) := fun j hj => by
        obtain ⟨b, o, hA, hc⟩ := hr.at_ (j := i + j) (by omega)
        exact ⟨b, o, hA, by rw [hc]; simp [List.getD_eq_getElem?_getD]⟩
      have HCE := Lib.hid hcell
      clear hcell
      have hcuts : ∀ m, i ≤ m → m ≤ n → ∃ A' : Option Addr, (∀ W : World, (Instr.slice 23 (.slice A n c) (some (.int .i64 (i : Int))) (some (.int .i64 (m : Int))) none).run Try.prog W = .ok (.slice A' (m - i) (c - i)) W) ∧ Rd w A' (m - i) ((bs.drop i).take (m - i)) := fun m h1 h2 => by
        obtain ⟨A', g1, g2⟩ := cut_lh (kl := .i64) (kh := .i64) A n c i m h1 h2 hnc
        refine ⟨A', g1, ?_⟩
        have := g2 hr
        rwa [List.drop_take] at this
      have HCU := Lib.hid hcuts
      clear hcuts
      generalize bs.drop i = ds at *
      obtain ⟨R, hR⟩ : ∃ R, (let r := tkF 0 0 ds; if r.2.2 = 0 then (r.1, (i : Int) + r.2.1, 0) else (0, 0, r.2.2)) = R := ⟨_, rfl⟩
      rw [hR]
      have HR := Lib.hid hR
      clear hR
      have HDL := Lib.hid hdl
      clear hdl
      go_enter Try.func56, Try.ntmps56
      go_wp2
      go_loop [7] (fun t7 => ∃ (j : Nat), t7 = .int .i64 (i + j) ∧ ScAt ds j ∧ j ≤ n - i ∧ j ≤ 10) (fun t7 => n - (intOf t7).toNat)
      case atStart => exact ⟨0, by simp, ScAt.start ds, by omega, by omega⟩
      case round =>
        obtain ⟨m, rfl, hS, hm, hm10⟩ := hrel
        by_cases hlt : m < n - i
        · obtain ⟨b, o, rfl, hce⟩ := HCE.out m hlt
          have hxb := tk_byte hbd (k := m) (by rw [HDL.out]; exact hlt)
          obtain ⟨x, hx⟩ : ∃ x, ds.getD m 0 = x := ⟨_, rfl⟩
          rw [hx] at hce hxb
          have hgo : m < 10 → 128 ≤ x → ScAt ds (m + 1) := fun h10 h => hS.step (by rw [HDL.out]; exact hlt) h10 (by rw [hx]; exact h)
          have HX := Lib.hid hx
          clear hx
          have HGO := Lib.hid hgo
          clear hgo
          by_cases c10 : m < 10
          · by_cases c128 : 128 ≤ x
            · have hS2 := HGO.out c10 c128
              go_wp2
              go_round
              case rel => exact ⟨m + 1, by go_num, hS2, by omega, by omega⟩
              case measure => simp [intOf]; omega
            · have hge : ∀ k, k < m → 128 ≤ ds.getD k 0 := hS.2.2.2
              have hR := HR.out
              have e3 : tkF 0 0 ds = (if leb (nF ds (m + 1)) = ds.take (m + 1) then (nF ds (m + 1), m + 1, 0) else (0, 0, 4)) := by
                rw [rTake_eq hbd (m := m) (by rw [HDL.out]; omega) hm10 hge (.inr (.inr (by rw [HX.out]; omega)))]
                unfold rTake
                rw [if_neg (by rw [HDL.out]; omega), if_neg (by omega)]
              rw [e3] at hR
              clear HR e3
              have HR := Lib.hid hR
              clear hR hge hS
              have hcell : ∀ j, j < n - i → w.cell? ⟨b, o + (i + j), none⟩ = some (.int .u8 (ds.getD j 0)) := fun j hj => by
                obtain ⟨b', o', e, hc⟩ := HCE.out j hj
                injection e with e
                injection e with e1 e2
                subst e1; subst e2
                exact hc
              have HC2 := Lib.hid hcell
              clear hcell HCE HGO
              go_wp2
              go_loop [8, 9, 10] (fun t8 t9 t10 => ∃ (k : Nat) (s q : Int), k ≤ m + 1 ∧ t8 = .int .u64 s ∧ Hid (s = nF ds k) ∧ t9 = .int .u64 q ∧ Hid (q = 128 ^ k % 18446744073709551616) ∧ 0 ≤ s ∧ s < 18446744073709551616 ∧ 0 ≤ q ∧ q < 18446744073709551616 ∧ t10 = .int .i64 (i + k)) (fun _ _ t10 => n + 1 - (intOf t10).toNat)
              case atStart => exact ⟨0, 0, 1, by omega, rfl, Lib.hid rfl, rfl, Lib.hid (by decide), by omega, by omega, by omega, by omega, by simp⟩
              case round =>
                obtain ⟨k, s, q, hk, rfl, hs, rfl, hq, hs0, hs1, hq0, hq1, rfl⟩ := hrel
                by_cases hkm : k ≤ m
                · have hc := HC2.out k (by omega)
                  have hxb := tk_byte hbd (k := k) (by rw [HDL.out]; omega)
                  obtain ⟨y, hy⟩ : ∃ y, ds.getD k 0 = y := ⟨_, rfl⟩
                  rw [hy] at hc hxb
                  have HY := Lib.hid hy
                  clear hy
                  go_wp2
                  go_round
                  case rel => exact ⟨k + 1, _, _, by omega, rfl, Lib.hid (by rw [nF, ← hs.out, HY.out, ← hq.out, IntKind.wrap_u64, IntKind.wrap_u64]), rfl, Lib.hid (by rw [hq.out, IntKind.wrap_u64, Int.pow_succ, Int.mul_emod, Int.emod_emod_of_dvd _ (Int.dvd_refl _), ← Int.mul_emod]), by rw [IntKind.wrap_u64]; omega, by rw [IntKind.wrap_u64]; omega, by rw [IntKind.wrap_u64]; omega, by rw [IntKind.wrap_u64]; omega, by go_num⟩
                  case measure => simp [intOf]; omega
                · have hk2 : k = m + 1 := by omega
                  subst hk2
                  have hR := HR.out
                  rw [← hs.out] at hR
                  clear HR hs hq HC2
                  obtain ⟨bb, hbb⟩ : ∃ bb, ((strOfNums (leb s)).toList != (strOfNums (ds.take (m + 1))).toList) = bb := ⟨_, rfl⟩
                  have hres : R = if bb then (0, 0, 4) else (s, (i : Int) + (m + 1 : Nat), 0) := by
                    by_cases hq : leb s = ds.take (m + 1)
                    · rw [str_eq' hq] at hbb
                      subst hbb
                      rw [← hR]
                      simp [hq]
                    · rw [str_ne' (leb_byte hs0) (fun x hx => hbd x (List.mem_of_mem_take hx)) hq] at hbb
                      subst hbb
                      rw [← hR]
                      simp [hq]
                  clear hR
                  have HRES := Lib.hid hres
                  clear hres
                  obtain ⟨A', hcut, hAr⟩ := HCU.out (i + m + 1) (by omega) (by omega)
                  rw [show i + m + 1 - i = m + 1 by omega] at hcut hAr
                  have hnum : (((i + m + 1 : Nat) : Int)) = (i : Int) + m + 1 := by omega
                  rw [hnum] at hcut
                  clear hnum
                  go_wp2
                  refine region_grew [[], [(0, 71)], [(1, 72)], [], [], [], [(5, 76)], [(3, 74), (4, 75), (6, 77)], [(7, 78)], [(2, 73), (8, 79)]] [(0, 71), (1, 72), (2, 73), (3, 74), (4, 75), (5, 76), (6, 77), (7, 78), (8, 79), (9, 80)] (fun
                    | 0 => .eqv (.int .u64 s) | 1 => .own 0 (leb s) | 2 => .eqv (.string (strOfNums (leb s))) | 3 => .eqv (.slice (some ⟨b, o, none⟩) n c) | 4 => .eqv (.int .i64 i) | 5 => .eqv (.int .i64 (i + m))
                    | 6 => .eqv (.int .i64 (i + m + 1)) | 7 => .eqv (.slice A' (m + 1) (c - i)) | 8 => .eqv (.string (strOfNums (ds.take (m + 1)))) | 9 => .eqv (.bool bb) | _ => .any) (by kernel_rfl) ?_ ?_
                  · refine ⟨fun u hu => ?_, fun u hu => ?_, fun u hu => ?_, fun u hu => ?_, fun u hu => ?_, fun u hu => ?_, fun u hu => ?_, fun u hu => ?_, fun u hu => ?_, fun u hu => ?_, trivial⟩
                    · refine StepGoal.nil ?_
                      go_wp2
                      exact ⟨rfl, rfl, Grew.rf _, rfl⟩
                    · rintro _ rfl
                      refine StepGoal.nil ?_
                      simp only [Act.put, List.setIfInBounds_toArray, List.set_cons_zero, List.set_cons_succ]
                      go_wp2_with (go_at_call 48; refine (bytes_any _ _ hs0 hs1).mono ?_; rintro e w1 ⟨v, rfl, ho, hg⟩)
                      exact ⟨rfl, rfl, hg, ho.lower (Nat.zero_le _)⟩
                    · rintro v hv
                      have hs := OwnK.str hv
                      refine StepGoal.nil ?_
                      simp only [Act.put, List.setIfInBounds_toArray, List.set_cons_zero, List.set_cons_succ]
                      go_wp2
                      exact ⟨rfl, rfl, Grew.rf _, rfl⟩
                    · refine StepGoal.nil ?_
                      go_wp2
                      exact ⟨rfl, rfl, Grew.rf _, rfl⟩
                    · refine StepGoal.nil ?_
                      go_wp2
                      exact ⟨rfl, rfl, Grew.rf _, rfl⟩
                    · refine StepGoal.nil ?_
                      go_wp2
                      exact ⟨rfl, rfl, Grew.rf _, rfl⟩
                    · rintro _ rfl
                      refine StepGoal.nil ?_
                      simp only [Act.put, List.setIfInBounds_toArray, List.set_cons_zero, List.set_cons_succ]
                      go_wp2
                      exact ⟨rfl, rfl, Grew.rf _, rfl⟩
                    · rintro _ rfl _ rfl _ rfl
                      refine StepGoal.nil ?_
                      simp only [Act.put, List.setIfInBounds_toArray, List.set_cons_zero, List.set_cons_succ]
                      go_wp2
                      exact ⟨rfl, rfl, Grew.rf _, rfl⟩
                    · rintro _ rfl
                      have hs := RdK.str (c := c - i) (hAr.keep hu)
                      refine StepGoal.nil ?_
                      simp only [Act.put, List.setIfInBounds_toArray, List.set_cons_zero, List.set_cons_succ]
                      go_wp2
                      exact ⟨rfl, rfl, Grew.rf _, rfl⟩
                    · rintro _ rfl _ rfl
                      refine StepGoal.nil ?_
                      simp only [Act.put, List.setIfInBounds_toArray, List.set_cons_zero, List.set_cons_succ]
                      go_wp2
                      exact ⟨rfl, rfl, Grew.rf _, congrArg Value.bool hbb⟩
                  · intro u hu
                    rintro _ rfl v1 hv1 _ rfl _ rfl _ rfl _ rfl _ rfl _ rfl _ rfl _ rfl
                    refine StepGoal.nil ?_
                    simp only [Act.put, List.setIfInBounds_toArray, List.set_cons_zero, List.set_cons_succ]
                    have hres := HRES.out
                    cases bb
                    · simp only [Bool.false_eq_true, if_false] at hres
                      subst hres
                      clear HRES
                      go_wp2
                      go_ret3
                      exact ⟨ret3 rfl (by first | omega | (simp; omega)) rfl, hu⟩
                    · simp only [if_true] at hres
                      subst hres
                      clear HRES
                      go_wp2
                      go_ret3
                      exact ⟨rfl, hu⟩
          · have hm9 : m = 10 := by omega
            subst hm9
            have hR := HR.out
            have e3 : rTake ds 10 = (0, 0, 4) := by unfold rTake; rw [if_neg (by omega), if_pos rfl]
            rw [rTake_eq hbd (m := 10) (by rw [HDL.out]; omega) (by omega) hS.2.2.2 (.inr (.inl rfl)), e3] at hR
            simp at hR
            subst hR
            clear HR HGO HCE HCU
            go_wp2
            go_ret3
            exact ⟨rfl, Grew.rf _⟩
        · have hmn : m = n - i := by omega
          have hR := HR.out
          have hge := hS.2.2.2
          by_cases c10 : m < 10
          · rw [rTake_eq hbd (m := m) (by rw [HDL.out]; omega) (by omega) hge (.inl (by rw [HDL.out]; omega))] at hR
            have e3 : rTake ds m = (0, 0, 7) := by unfold rTake; rw [if_pos ⟨by rw [HDL.out]; omega, c10⟩]
            rw [e3] at hR
            simp at hR
            subst hR
            clear HR HCE HCU hge hS
            have h1 : ((i : Int) + m == n) = true := by simp; omega
            go_wp2
            go_ret3
            exact ⟨rfl, Grew.rf _⟩
          · have hm9 : m = 10 := by omega
            rw [rTake_eq hbd (m := m) (by rw [HDL.out]; omega) (by omega) hge (.inl (by rw [HDL.out]; omega))] at hR
            have e3 : rTake ds m = (0, 0, 4) := by unfold rTake; rw [if_neg (by omega), if_pos hm9]
            rw [e3] at hR
            simp at hR
            subst hR
            clear HR HCE HCU hge hS
            have h1 : ((i : Int) + m - i == 10) = true := by simp; omega
            clear hm9
            go_wp2
            go_ret3
            exact ⟨rfl, Grew.rf _⟩
end Go.Proofs.Ytbkcpgaicoagfaa
