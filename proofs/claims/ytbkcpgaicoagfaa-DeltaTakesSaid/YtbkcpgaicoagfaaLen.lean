import Derived.Test.YtbkcpgaicoagfaaMem
import Derived.Test.YtbkcpgaicoagfaaPureLeb
set_option linter.unusedVariables false
set_option linter.unusedSimpArgs false
namespace Go.Proofs.Ytbkcpgaicoagfaa
open Go.RowKit

theorem wrap64_id {n : Int} (h0 : -9223372036854775808 ≤ n) (h1 : n < 9223372036854775808) : wrap64 n = n := by unfold wrap64; omega
def bt (t : ByteArray) (i : Nat) : Int := if h : i < t.size then ((t[i]'h).toNat : Int) else 0
theorem bt_at (t : ByteArray) (i : Nat) (h : i < t.size) : ((t[i]'h).toNat : Int) = bt t i := by simp [bt, h]

def lenTab : ByteArray := ⟨#[0, 1, 2, 2, 3, 3, 3, 3, 4, 4, 4, 4, 4, 4, 4, 4, 5, 5, 5, 5, 5, 5, 5, 5, 5, 5, 5, 5, 5, 5, 5, 5, 6, 6, 6, 6, 6, 6, 6, 6, 6, 6, 6, 6, 6, 6, 6, 6, 6, 6, 6, 6, 6, 6, 6, 6, 6, 6, 6, 6, 6, 6, 6, 6, 7, 7, 7, 7, 7, 7, 7, 7, 7, 7, 7, 7, 7, 7, 7, 7, 7, 7, 7, 7, 7, 7, 7, 7, 7, 7, 7, 7, 7, 7, 7, 7, 7, 7, 7, 7, 7, 7, 7, 7, 7, 7, 7, 7, 7, 7, 7, 7, 7, 7, 7, 7, 7, 7, 7, 7, 7, 7, 7, 7, 7, 7, 7, 7, 8, 8, 8, 8, 8, 8, 8, 8, 8, 8, 8, 8, 8, 8, 8, 8, 8, 8, 8, 8, 8, 8, 8, 8, 8, 8, 8, 8, 8, 8, 8, 8, 8, 8, 8, 8, 8, 8, 8, 8, 8, 8, 8, 8, 8, 8, 8, 8, 8, 8, 8, 8, 8, 8, 8, 8, 8, 8, 8, 8, 8, 8, 8, 8, 8, 8, 8, 8, 8, 8, 8, 8, 8, 8, 8, 8, 8, 8, 8, 8, 8, 8, 8, 8, 8, 8, 8, 8, 8, 8, 8, 8, 8, 8, 8, 8, 8, 8, 8, 8, 8, 8, 8, 8, 8, 8, 8, 8, 8, 8, 8, 8, 8, 8, 8, 8, 8, 8, 8, 8, 8, 8, 8, 8, 8, 8, 8, 8]⟩
theorem lenTab_ok : ∀ k : Nat, k < 256 → bt lenTab k = blenF 8 k := by decide +kernel
theorem lenTab_at {u : Int} (h0 : 0 ≤ u) (h1 : u < 256) : bt lenTab u.toNat = blenF 8 u := by
  have := lenTab_ok u.toNat (by omega)
  rwa [Int.toNat_of_nonneg h0] at this

set_option maxRecDepth 100000 in
set_option maxHeartbeats 1600000 in
theorem len64_any (v : Int) (w : World) (h0 : 0 ≤ v) (h1 : v < 18446744073709551616) :
    Calls Try.prog 80 #[.int .u64 v] w fun e w' => e = .returned (.int .i64 (blenF 64 v)) ∧ w = w' := by
  by_cases c1 : v < 4294967296
  · by_cases c2 : v < 65536
    · by_cases c3 : v < 256
      · rw [blen_8 c3]
        have d0 : 0 ≤ v := by omega
        have d1 : v < 256 := by omega
        go_enter Try.func80, Try.ntmps80
        go_wp2
        go_ret
        refine ⟨congrArg (fun z => Ending.returned (Value.int .i64 z)) ?_, rfl⟩
        have e1 := lenTab_at d0 d1
        unfold lenTab at e1
        simp only [bt_at]
        rw [e1]
        have b0 := blenF_nonneg 8 (v)
        have b1 := blenF_le_fuel 8 (v)
        simp only [wrap64]
        omega
      · rw [blen_16 c2, blenF_8 8 (by omega)]
        have d0 : 0 ≤ v / 256 := by omega
        have d1 : v / 256 < 256 := by omega
        go_enter Try.func80, Try.ntmps80
        go_wp2
        go_ret
        refine ⟨congrArg (fun z => Ending.returned (Value.int .i64 z)) ?_, rfl⟩
        have e1 := lenTab_at d0 d1
        unfold lenTab at e1
        simp only [bt_at]
        rw [e1]
        have b0 := blenF_nonneg 8 (v / 256)
        have b1 := blenF_le_fuel 8 (v / 256)
        simp only [wrap64]
        omega
    · by_cases c3 : v / 65536 < 256
      · rw [blen_32 c1, blenF_16 16 (by omega), blen_16_8 c3]
        have d0 : 0 ≤ v / 65536 := by omega
        have d1 : v / 65536 < 256 := by omega
        go_enter Try.func80, Try.ntmps80
        go_wp2
        go_ret
        refine ⟨congrArg (fun z => Ending.returned (Value.int .i64 z)) ?_, rfl⟩
        have e1 := lenTab_at d0 d1
        unfold lenTab at e1
        simp only [bt_at]
        rw [e1]
        have b0 := blenF_nonneg 8 (v / 65536)
        have b1 := blenF_le_fuel 8 (v / 65536)
        simp only [wrap64]
        omega
      · rw [blen_32 c1, blenF_16 16 (by omega), blenF_8 8 (by omega)]
        have d0 : 0 ≤ v / 65536 / 256 := by omega
        have d1 : v / 65536 / 256 < 256 := by omega
        go_enter Try.func80, Try.ntmps80
        go_wp2
        go_ret
        refine ⟨congrArg (fun z => Ending.returned (Value.int .i64 z)) ?_, rfl⟩
        have e1 := lenTab_at d0 d1
        unfold lenTab at e1
        simp only [bt_at]
        rw [e1]
        have b0 := blenF_nonneg 8 (v / 65536 / 256)
        have b1 := blenF_le_fuel 8 (v / 65536 / 256)
        simp only [wrap64]
        omega
  · by_cases c2 : v / 4294967296 < 65536
    · by_cases c3 : v / 4294967296 < 256
      · rw [blenF_32 32 (by omega), blen_32_16 c2, blen_16_8 c3]
        have d0 : 0 ≤ v / 4294967296 := by omega
        have d1 : v / 4294967296 < 256 := by omega
        go_enter Try.func80, Try.ntmps80
        go_wp2
        go_ret
        refine ⟨congrArg (fun z => Ending.returned (Value.int .i64 z)) ?_, rfl⟩
        have e1 := lenTab_at d0 d1
        unfold lenTab at e1
        simp only [bt_at]
        rw [e1]
        have b0 := blenF_nonneg 8 (v / 4294967296)
        have b1 := blenF_le_fuel 8 (v / 4294967296)
        simp only [wrap64]
        omega
      · rw [blenF_32 32 (by omega), blen_32_16 c2, blenF_8 8 (by omega)]
        have d0 : 0 ≤ v / 4294967296 / 256 := by omega
        have d1 : v / 4294967296 / 256 < 256 := by omega
        go_enter Try.func80, Try.ntmps80
        go_wp2
        go_ret
        refine ⟨congrArg (fun z => Ending.returned (Value.int .i64 z)) ?_, rfl⟩
        have e1 := lenTab_at d0 d1
        unfold lenTab at e1
        simp only [bt_at]
        rw [e1]
        have b0 := blenF_nonneg 8 (v / 4294967296 / 256)
        have b1 := blenF_le_fuel 8 (v / 4294967296 / 256)
        simp only [wrap64]
        omega
    · by_cases c3 : v / 4294967296 / 65536 < 256
      · rw [blenF_32 32 (by omega), blenF_16 16 (by omega), blen_16_8 c3]
        have d0 : 0 ≤ v / 4294967296 / 65536 := by omega
        have d1 : v / 4294967296 / 65536 < 256 := by omega
        go_enter Try.func80, Try.ntmps80
        go_wp2
        go_ret
        refine ⟨congrArg (fun z => Ending.returned (Value.int .i64 z)) ?_, rfl⟩
        have e1 := lenTab_at d0 d1
        unfold lenTab at e1
        simp only [bt_at]
        rw [e1]
        have b0 := blenF_nonneg 8 (v / 4294967296 / 65536)
        have b1 := blenF_le_fuel 8 (v / 4294967296 / 65536)
        simp only [wrap64]
        omega
      · rw [blenF_32 32 (by omega), blenF_16 16 (by omega), blenF_8 8 (by omega)]
        have d0 : 0 ≤ v / 4294967296 / 65536 / 256 := by omega
        have d1 : v / 4294967296 / 65536 / 256 < 256 := by omega
        go_enter Try.func80, Try.ntmps80
        go_wp2
        go_ret
        refine ⟨congrArg (fun z => Ending.returned (Value.int .i64 z)) ?_, rfl⟩
        have e1 := lenTab_at d0 d1
        unfold lenTab at e1
        simp only [bt_at]
        rw [e1]
        have b0 := blenF_nonneg 8 (v / 4294967296 / 65536 / 256)
        have b1 := blenF_le_fuel 8 (v / 4294967296 / 65536 / 256)
        simp only [wrap64]
        omega
end Go.Proofs.Ytbkcpgaicoagfaa
