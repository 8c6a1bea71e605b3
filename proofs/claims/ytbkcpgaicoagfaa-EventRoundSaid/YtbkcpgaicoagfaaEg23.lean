/- fetch.Good of a request without texts; modes; the reference's Good of such a request. -/
import Derived.Test.YtbkcpgaicoagfaaEg22
set_option linter.unusedVariables false
set_option linter.unusedSimpArgs false
namespace Go.Proofs.Ytbkcpgaicoagfaa
open Go.RowKit

def bigF (x : Hdr) : Bool := decide (512 < max x.1.size x.2.size)
theorem bigF_any (w : World) : PredH 84 #[] bigF w := by
  intro u hu x
  obtain ⟨x1, x2⟩ := x
  have HD : RowKit.Hid (bigF (x1, x2) = decide (512 < max x1.size x2.size)) := rfl
  go_enter Try.func84, Try.ntmps84
  go_wp2
  all_goals
    go_ret
    refine ⟨congrArg (fun b => Ending.returned (Value.bool b)) ?_, (Grew.rf u).al _⟩
    rw [HD.out]
    first | (simp [*]; done) | (rw [Bool.eq_iff_iff]; simp; omega)
def modesR (a b c d : Int) : Bool := decide (1 ≤ a ∧ a ≤ 3) && (decide (1 ≤ b ∧ b ≤ 3) && (decide (1 ≤ c ∧ c ≤ 3) && decide (1 ≤ d ∧ d ≤ 10)))
abbrev rq0 (a b c d : Int) : Value := .agg #[.string { data := #[] }, .string { data := #[] }, .int .i64 a, .int .i64 b, .int .i64 c, .int .i64 d, .string { data := #[] }, .slice none 0 0, .string { data := #[] }]
set_option maxRecDepth 100000 in
set_option maxHeartbeats 3200000 in
theorem fgood_any (a b c d : Int) (w : World) : Calls Try.prog 79 #[rq0 a b c d] w fun e w' => e = .returned (.bool (modesR a b c d)) ∧ Grew w w' := by
  have HD : RowKit.Hid (modesR a b c d = (decide (1 ≤ a ∧ a ≤ 3) && (decide (1 ≤ b ∧ b ≤ 3) && (decide (1 ≤ c ∧ c ≤ 3) && decide (1 ≤ d ∧ d ≤ 10))))) := rfl
  have hco := fun (u : World) => contH_any none 0 0 [] 84 #[] bigF u (fun args w => rfl) (RdV.nil _ _ _) (by omega) (bigF_any u)
  have HCO := Lib.hid hco
  clear hco
  go_enter Try.func79, Try.ntmps79
  go_wp2_with (first | (go_at_call 83; refine Calls.mono (fwithin_any _ _ _) ?_; rintro e w2 ⟨rfl, rfl⟩) | (go_at_call 76; refine Calls.mono (HCO.out _) ?_; rintro e w2 ⟨rfl, hg2⟩))
  all_goals
    go_ret
    first
    | (refine ⟨congrArg (fun b => Ending.returned (Value.bool b)) ?_, ((Grew.rf w).al _).tr hg2⟩; rw [HD.out]; first | (simp [*]; done) | (simp only [Bool.not_eq_true', Bool.not_eq_false', decide_eq_true_eq, decide_eq_false_iff_not] at *; first | (simp [*]; done) | (simp [*]; omega)))
    | (refine ⟨congrArg (fun b => Ending.returned (Value.bool b)) ?_, (Grew.rf w).al _⟩; rw [HD.out]; first | (simp [*]; done) | (simp only [Bool.not_eq_true', Bool.not_eq_false', decide_eq_true_eq, decide_eq_false_iff_not] at *; first | (simp [*]; done) | (simp [*]; omega)))
def modesB (c : Int) : Bool := modesR (c % 4) (c / 4 % 4) (c / 16 % 4) (c / 64)
set_option maxRecDepth 100000 in
set_option maxHeartbeats 3200000 in
theorem modes_any (x : Ev) (A : Option Addr) (n c : Nat) (w : World) (hr : RdH w A n x.hs) (hA : A = none → n = 0 ∧ c = 0) (hn : n ≤ 1000) :
    Calls Try.prog 72 #[evV x A n c] w fun e w' => e = .returned (.bool (modesB x.co)) ∧ Grew w w' := by
  have hrq := fun (u : World) (hu : Grew w u) => request_any x A n c u (hr.keep hu) hA hn
  have HRQ := Lib.hid hrq
  have hfg := fgood_any (x.co % 4) (x.co / 4 % 4) (x.co / 16 % 4) (x.co / 64)
  have HFG := Lib.hid hfg
  clear hrq hr hA hfg
  go_enter Try.func72, Try.ntmps72
  go_wp2_with (first | (go_at_call 67; refine Calls.mono (HRQ.out _ ((Grew.rf w).al _)) ?_; rintro e w2 ⟨B, rfl, hrd, hbk, hg2⟩) | (go_at_call 79; refine Calls.mono (HFG.out _) ?_; rintro e w3 ⟨rfl, hg3⟩))
  go_ret
  exact ⟨rfl, (((Grew.rf w).al _).tr hg2).tr ((((Grew.rf _).al _)).tr hg3)⟩
set_option maxRecDepth 100000 in
set_option maxHeartbeats 3200000 in
theorem rgood17_any (a b c d : Int) (w : World) : Calls Try.prog 73 #[rq0 a b c d] w fun e w' => e = .returned (.bool (modesR a b c d)) ∧ Grew w w' := by
  have HD : RowKit.Hid (modesR a b c d = (decide (1 ≤ a ∧ a ≤ 3) && (decide (1 ≤ b ∧ b ≤ 3) && (decide (1 ≤ c ∧ c ≤ 3) && decide (1 ≤ d ∧ d ≤ 10))))) := rfl
  go_enter Try.func73, Try.ntmps73
  go_wp2
  go_loopw [3] (fun i wr => i = .int .i64 0 ∧ wr = w.alloc (.cells #[.string { data := #[] }, .string { data := #[] }, .int .i64 a, .int .i64 b, .int .i64 c, .int .i64 d, .string { data := #[] }, .slice none 0 0, .string { data := #[] }] 72)) (fun _ _ => 0)
  case atStart => exact ⟨rfl, rfl⟩
  case round =>
    obtain ⟨rfl, rfl⟩ := hrel
    go_wp2
    all_goals
      go_ret
      refine ⟨congrArg (fun b => Ending.returned (Value.bool b)) ?_, (Grew.rf w).al _⟩
      rw [HD.out]
      first | (simp [*]; done) | (rw [Bool.eq_iff_iff]; simp; omega)
end Go.Proofs.Ytbkcpgaicoagfaa
