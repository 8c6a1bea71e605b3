/- Chunk: unpacking, plainly. -/
import Derived.Test.YtflnopaheanpdaaChunkR
import Derived.Test.YtflnopaheanpdaaRTake
import Derived.Test.YtflnopaheanpdaaPureLeb3
set_option linter.unusedVariables false
set_option linter.unusedSimpArgs false
namespace Go.Proofs.Ytflnopaheanpdaa

/-- One piece: its bytes, the place behind it, the error's number. -/
def oneP (T s : List Int) (at_ : Int) (full : Bool) : List Int × Int × Int :=
  let r := lebTake s at_
  if r.2.2 ≠ 0 then ([], 0, r.2.2)
  else if 256 < r.1 then ([], 0, 2)
  else if 0 < r.1 ∧ full = false then ([], 0, 9)
  else if (s.length : Int) < r.2.1 + r.1 + 4 then ([], 0, 7)
  else if fourB (cSum T ((s.take (r.2.1 + r.1).toNat).drop at_.toNat)) = (s.take ((r.2.1 + r.1).toNat + 4)).drop (r.2.1 + r.1).toNat then ((s.take (r.2.1 + r.1).toNat).drop r.2.1.toNat, r.2.1 + r.1 + 4, 0)
  else ([], 0, 6)
def unpackF (T s : List Int) : Nat → Int → Bool → List Int → List Int × Int × Int
  | 0, _, _, _ => ([], 0, 1)
  | k + 1, at_, full, acc =>
    let r := oneP T s at_ full
    if r.2.2 ≠ 0 then ([], 0, r.2.2)
    else if r.1 = [] then (acc, r.2.1, 0)
    else unpackF T s k r.2.1 (decide (r.1.length = 256)) (acc ++ r.1)
def unpackL (T s : List Int) (at_ : Int) : List Int × Int × Int := unpackF T s (s.length + 1) at_ true []
end Go.Proofs.Ytflnopaheanpdaa
