/- Memo: IndexFunc, ContainsFunc. -/
import Derived.Test.YtcllmhabhbnihaaMemo3
set_option linter.unusedVariables false
set_option linter.unusedSimpArgs false
namespace Go.Proofs.Ytcllmhabhbnihaa
open Go.RowKit

/-! ### The first entry of which something holds -/
/-- What a function value answers, while of what lay in w only R may have changed. -/
def PredOk (g : Nat) (cap : Array Value) (p : Ask → Bool) (R : Nat → Prop) (w : World) : Prop :=
  ∀ u, Chg R w u → ∀ x, Calls Try.prog g (#[aV x] ++ cap) u fun e u' => e = .returned (.bool (p x)) ∧ Grew u u'
def idxA (p : Ask → Bool) (l : List Ask) : Int := if l.findIdx p < l.length then (l.findIdx p : Int) else -1
theorem idx_any (A : Option Addr) (n c : Nat) (l : List Ask) (g : Nat) (cap : Array Value) (p : Ask → Bool) (R : Nat → Prop) (w : World) (eg : ∀ args w, (callFunc g args).run Try.prog w = .ok (.enter g args) w) (hr : RdA w A n l) (hn : n ≤ 9223372036854775807) (hp : PredOk g cap p R w) :
    Calls Try.prog 22 #[.slice A n c, .func (.func g) #[] cap] w fun e w' => e = .returned (.int .i64 (idxA p l)) ∧ Grew w w' := by
  have hl := hr.lenA
  have HR := Lib.hid hr
  have HP := Lib.hid hp
  have HL := Lib.hid hl
  clear hr hp hl
  go_enter Try.func22, Try.ntmps22
  go_wp2
  go_loopw [8] (fun i wr => ∃ j : Nat, i = .int .i64 (j : Int) ∧ j ≤ n ∧ Grew w wr ∧ RowKit.Hid (∀ k y, k < j → l[k]? = some y → p y = false)) (fun i _ => n - (intOf i).toNat)
  case atStart => exact ⟨0, rfl, Nat.zero_le _, Grew.rf w, fun k y hk => by omega⟩
  case round =>
    obtain ⟨j, rfl, hj, hg, HI⟩ := hrel
    by_cases hlt : j < n
    · obtain ⟨b, o, x, hA, hx, h6⟩ := HR.out.atA hlt
      obtain ⟨c0, c1, c2, c3, c4, c5⟩ := h6.keep hg
      have HX := Lib.hid hx
      have HG := Lib.hid hg
      subst hA
      clear hx h6 hg
      cases hpx : p x with
      | false =>
        have HPX := Lib.hid hpx
        clear hpx
        go_wp2_with (refine Calls.mono (HP.out _ (Chg.of HG.out) x) ?_; rintro e w1 ⟨rfl, hg1⟩; rw [HPX.out])
        go_roundw
        case rel =>
          refine ⟨j + 1, by go_num, by omega, HG.out.tr hg1, fun k y hk hy => ?_⟩
          by_cases hkj : k = j
          · subst hkj
            rw [HX.out] at hy
            cases hy
            exact HPX.out
          · exact HI.out k y (by omega) hy
        case measure => simp [intOf]; omega
      | true =>
        have hix : idxA p l = (j : Int) := by
          have hjl : j < l.length := by rw [HL.out]; exact hlt
          have h2 := (List.getElem?_eq_some_iff.1 HX.out).2
          have : l.findIdx p = j := by
            rw [List.findIdx_eq hjl]
            exact ⟨by rw [h2]; exact hpx, fun k hk => by
              have := HI.out k (l[k]'(by omega)) hk (List.getElem?_eq_getElem _)
              simpa using this⟩
          unfold idxA
          rw [this, if_pos hjl]
        have HPX := Lib.hid hpx
        have HIX := Lib.hid hix
        clear hpx hix
        go_wp2_with (refine Calls.mono (HP.out _ (Chg.of HG.out) x) ?_; rintro e w1 ⟨rfl, hg1⟩; rw [HPX.out])
        go_ret
        exact ⟨by rw [HIX.out]; rfl, HG.out.tr hg1⟩
    · have hix : idxA p l = -1 := by
        unfold idxA
        rw [if_neg]
        intro h
        have hj2 : j = n := by omega
        have h3 := List.findIdx_getElem (w := h)
        have := HI.out (l.findIdx p) (l[l.findIdx p]'h) (by rw [HL.out] at h; omega) (List.getElem?_eq_getElem _)
        rw [h3] at this
        cases this
      have HIX := Lib.hid hix
      have HG := Lib.hid hg
      clear hix hg
      go_wp2_with fail
      go_ret
      exact ⟨by rw [HIX.out]; rfl, HG.out⟩
theorem idxA_nonneg (p : Ask → Bool) (l : List Ask) : decide (0 ≤ idxA p l) = l.any p := by
  unfold idxA
  by_cases h : l.findIdx p < l.length
  · rw [if_pos h]
    have h3 := List.findIdx_getElem (w := h)
    rw [decide_eq_true (by omega), eq_comm, List.any_eq_true]
    exact ⟨_, List.getElem_mem h, h3⟩
  · rw [if_neg h, decide_eq_false (by omega), eq_comm, List.any_eq_false]
    intro x hx hp
    exact h (List.findIdx_lt_length_of_exists ⟨x, hx, hp⟩)
theorem cont_any (A : Option Addr) (n c : Nat) (l : List Ask) (g : Nat) (cap : Array Value) (p : Ask → Bool) (R : Nat → Prop) (w : World) (eg : ∀ args w, (callFunc g args).run Try.prog w = .ok (.enter g args) w) (hr : RdA w A n l) (hn : n ≤ 9223372036854775807) (hp : PredOk g cap p R w) :
    Calls Try.prog 19 #[.slice A n c, .func (.func g) #[] cap] w fun e w' => e = .returned (.bool (l.any p)) ∧ Grew w w' := by
  have hi := idx_any A n c l g cap p R w eg hr hn hp
  have HI := Lib.hid hi
  have HN := Lib.hid (idxA_nonneg p l)
  clear hi hr hp eg
  generalize idxA p l = ix at HI HN
  go_enter Try.func19, Try.ntmps19
  go_wp2_with (go_at_call 22; refine Calls.mono HI.out ?_; rintro e w1 ⟨rfl, hg1⟩)
  go_ret
  exact ⟨by rw [← HN.out]; rfl, hg1⟩
end Go.Proofs.Ytcllmhabhbnihaa
