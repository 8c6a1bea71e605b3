/- Memo: one, and the closure of Has. -/
import Derived.Test.YtcllmhabhbnihaaMemo1
set_option linter.unusedVariables false
set_option linter.unusedSimpArgs false
namespace Go.Proofs.Ytcllmhabhbnihaa
open Go.RowKit

def starB : ByteArray := { data := #[42] }
def secB : ByteArray := { data := #[97, 117, 116, 104, 111, 114, 105, 122, 97, 116, 105, 111, 110] }
def nilB : ByteArray := { data := #[] }
/-- Is a word let by another one? -/
def oneA (le wa : ByteArray) (all : Bool) : Bool := decide (le = wa) || (all && decide (le = starB) && !decide (wa = nilB) && !decide (wa = secB))
theorem beqT {a b : ByteArray} (h : a = b) : (a.toList == b.toList) = true := by simp [h]
theorem beqF {a b : ByteArray} (h : ¬ a = b) : (a.toList == b.toList) = false := by simpa [toList_eq_iff] using h
theorem bneT {a b : ByteArray} (h : a = b) : (a.toList != b.toList) = false := by simp [h]
theorem bneF {a b : ByteArray} (h : ¬ a = b) : (a.toList != b.toList) = true := by simpa [toList_eq_iff] using h

theorem starL : starB.toList = [42] := by rw [ByteArray.toList_eq]; rfl
theorem nilL : nilB.toList = [] := by rw [ByteArray.toList_eq]; rfl
theorem secL : secB.toList = [97, 117, 116, 104, 111, 114, 105, 122, 97, 116, 105, 111, 110] := by rw [ByteArray.toList_eq]; rfl
theorem starT {a : ByteArray} (h : a = starB) : a.toList = [42] ∧ (a.toList == [42]) = true := by subst h; rw [starL]; decide
theorem starF {a : ByteArray} (h : ¬ a = starB) : ¬ a.toList = [42] ∧ (a.toList == [42]) = false := by
  have h1 : ¬ a.toList = [42] := fun e => h ((toList_eq_iff _ _).1 (e.trans starL.symm))
  exact ⟨h1, by simpa using h1⟩
theorem nilT {a : ByteArray} (h : a = nilB) : a.toList = [] ∧ a.toList.isEmpty = true := by subst h; rw [nilL]; decide
theorem nilF {a : ByteArray} (h : ¬ a = nilB) : ¬ a.toList = [] ∧ a.toList.isEmpty = false := by
  have h1 : ¬ a.toList = [] := fun e => h ((toList_eq_iff _ _).1 (e.trans nilL.symm))
  exact ⟨h1, by simpa using h1⟩
theorem secT {a : ByteArray} (h : a = secB) : a.toList = [97, 117, 116, 104, 111, 114, 105, 122, 97, 116, 105, 111, 110] ∧ (a.toList == [97, 117, 116, 104, 111, 114, 105, 122, 97, 116, 105, 111, 110]) = true := by subst h; rw [secL]; decide
theorem secF {a : ByteArray} (h : ¬ a = secB) : ¬ a.toList = [97, 117, 116, 104, 111, 114, 105, 122, 97, 116, 105, 111, 110] ∧ (a.toList == [97, 117, 116, 104, 111, 114, 105, 122, 97, 116, 105, 111, 110]) = false := by
  have h1 : ¬ a.toList = [97, 117, 116, 104, 111, 114, 105, 122, 97, 116, 105, 111, 110] := fun e => h ((toList_eq_iff _ _).1 (e.trans secL.symm))
  exact ⟨h1, by simpa using h1⟩

theorem one_any (le wa : ByteArray) (all : Bool) (w : World) :
    Calls Try.prog 21 #[.string le, .string wa, .bool all] w fun e w' => e = .returned (.bool (oneA le wa all)) ∧ w = w' := by
  obtain ⟨r, hr⟩ : ∃ r, oneA le wa all = r := ⟨_, rfl⟩
  rw [hr]
  unfold oneA at hr
  by_cases h1 : le = wa
  · have e1 := beqT h1
    rw [decide_eq_true h1] at hr
    simp only [Bool.true_or] at hr
    subst hr
    clear h1
    go_enter Try.func21, Try.ntmps21
    go_wp2
    go_ret
    exact ⟨rfl, rfl⟩
  · have e1 := beqF h1
    rw [decide_eq_false h1] at hr
    cases all with
    | false =>
      simp only [Bool.false_and, Bool.or_false] at hr
      subst hr
      clear h1
      go_enter Try.func21, Try.ntmps21
      go_wp2
      go_ret
      exact ⟨rfl, rfl⟩
    | true =>
      by_cases h2 : le = starB
      · obtain ⟨p2, e2⟩ := starT h2
        have e5 : ([42] == wa.toList) = false := by rw [← p2]; exact e1
        rw [decide_eq_true h2] at hr
        by_cases h3 : wa = nilB
        · obtain ⟨p3, e3⟩ := nilT h3
          rw [decide_eq_true h3] at hr
          simp at hr
          subst hr
          clear h1 h2 h3
          go_enter Try.func21, Try.ntmps21
          go_wp2
          go_ret
          exact ⟨rfl, rfl⟩
        · obtain ⟨p3, e3⟩ := nilF h3
          rw [decide_eq_false h3] at hr
          by_cases h4 : wa = secB
          · obtain ⟨p4, e4⟩ := secT h4
            rw [decide_eq_true h4] at hr
            simp at hr
            subst hr
            clear h1 h2 h3 h4
            go_enter Try.func21, Try.ntmps21
            go_wp2
            go_ret
            exact ⟨rfl, rfl⟩
          · obtain ⟨p4, e4⟩ := secF h4
            rw [decide_eq_false h4] at hr
            simp at hr
            subst hr
            clear h1 h2 h3 h4
            go_enter Try.func21, Try.ntmps21
            go_wp2
            go_ret
            exact ⟨rfl, rfl⟩
      · obtain ⟨p2, e2⟩ := starF h2
        rw [decide_eq_false h2] at hr
        simp at hr
        subst hr
        clear h1 h2
        go_enter Try.func21, Try.ntmps21
        go_wp2
        go_ret
        exact ⟨rfl, rfl⟩
end Go.Proofs.Ytcllmhabhbnihaa
