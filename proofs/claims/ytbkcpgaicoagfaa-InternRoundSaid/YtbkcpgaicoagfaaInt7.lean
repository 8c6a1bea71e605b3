/- Intern's functions at a table that is nil. -/
import Derived.Test.YtbkcpgaicoagfaaInt3
set_option linter.unusedVariables false
set_option linter.unusedSimpArgs false
namespace Go.Proofs.Ytbkcpgaicoagfaa
open Go.RowKit

set_option maxRecDepth 100000 in
theorem ttake_none (A : Option Addr) (n c : Nat) (w : World) : Calls Try.prog 27 #[.pointer none, .slice A n c, .int .i64 0] w fun e w' => e = .returned (.tuple #[.string ByteArray.empty, .int .i64 0, .int .i64 1]) ∧ w = w' := by
  go_enter Try.func27, Try.ntmps27
  go_wp2
  go_ret3
  exact ⟨rfl, rfl⟩
set_option maxRecDepth 100000 in
theorem tput_none (A : Option Addr) (n c : Nat) (s : ByteArray) (w : World) : Calls Try.prog 23 #[.pointer none, .slice A n c, .string s] w fun e w' => e = .returned (.slice none 0 0) ∧ w = w' := by
  go_enter Try.func23, Try.ntmps23
  go_wp2
  go_ret
  exact ⟨rfl, rfl⟩
end Go.Proofs.Ytbkcpgaicoagfaa
