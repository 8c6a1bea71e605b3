/-
  No cell of these rows narrows 'for every input' (looked for: loops, veiled, ifaces, maps, wideKeys, modest, calm, conditions, laid).
  DERIVED. THE GIVEN ROWS OF THIS SEAT. 12 by the template 'for every input the law returns true; each argument reads behind the call as it read before'; 0 by the template 'total and deterministic' (their statements: YtflnopaheanpdaaTotals.lean).
  GIVEN WITH THE SEED: the statements are not yours to turn. If you find one false, say at which input.
  Laid BY PROGRAM, IN A SANDBOX (cutbox-rows.mjs): the forced cells as the released guide's own fill.sh prints them over the translation 1be96c160cc304ea… (all of the seat's roots in one cut). By AI agents, Wed Nov 11 2026. No macro, syntax, notation, axiom, sorry.
-/
import Derived.Test.YtflnopaheanpdaaChecked
import GoSem.Claim
import GoSem.ClaimJoined
import GoSem.ClaimMapViews
import Derived.JoinedTies
import Derived.KernelRfl
namespace Go.Proofs.Ytflnopaheanpdaa
/- THE CELL 'sum', in the pinned program and in every row, IS THE sha256 OF THE DUMP (.gsa) THAT YtflnopaheanpdaaProg.lean LOADS. Nothing in Lean hashes anything: it is a label: what it is worth is what the hold of that sum in a sandbox is worth. -/
noncomputable def Try.pinned : Pinned := { name := "ytflnopaheanpdaa", sum := "1be96c160cc304eabd5d2ef75de35a9ad9fc954df6250b6f2532c03eaefdaec5", checked := Try.checked }
namespace Rows
def none {H : Type} : Left H := { results := [], args := [] }

/-- 'pursuivantlaw02.CycTable': WHATEVER THE INPUT: true; the input reads as it did. -/
def cycTableSpec : ChangeSpec := { name := "cycTable", fn := fun _ => fun
  | [d] => { results := [.lit (.bool true)], args := [d] }
  | _ => none }
def cycTableRow : OpenClaim := { program := "ytflnopaheanpdaa", sum := "1be96c160cc304eabd5d2ef75de35a9ad9fc954df6250b6f2532c03eaefdaec5", func := "pursuivant/pursuivantlaw02.CycTable", spec := "cycTable", apart := false }
def CycTableSaid : Prop := cycTableRow.holds Try.pinned (OpenSpec.ofChange cycTableSpec)

/-- ITS FALSE NEIGHBOUR: 'it returns false'. Refute it at one input. -/
def cycTableWrong : ChangeSpec := { name := "cycTable", fn := fun _ => fun
  | [d] => { results := [.lit (.bool false)], args := [d] }
  | _ => none }
def CycTableWrongFalsely : Prop := cycTableRow.holds Try.pinned (OpenSpec.ofChange cycTableWrong)

/-- 'pursuivantlaw02.CycSum': WHATEVER THE INPUT: true; the input reads as it did. -/
def cycSumSpec : ChangeSpec := { name := "cycSum", fn := fun _ => fun
  | [d1, d2, d3, d4] => { results := [.lit (.bool true)], args := [d1, d2, d3, d4] }
  | _ => none }
def cycSumRow : OpenClaim := { program := "ytflnopaheanpdaa", sum := "1be96c160cc304eabd5d2ef75de35a9ad9fc954df6250b6f2532c03eaefdaec5", func := "pursuivant/pursuivantlaw02.CycSum", spec := "cycSum", apart := false }
def CycSumSaid : Prop := cycSumRow.holds Try.pinned (OpenSpec.ofChange cycSumSpec)

/-- ITS FALSE NEIGHBOUR: 'it returns false'. Refute it at one input. -/
def cycSumWrong : ChangeSpec := { name := "cycSum", fn := fun _ => fun
  | [d1, d2, d3, d4] => { results := [.lit (.bool false)], args := [d1, d2, d3, d4] }
  | _ => none }
def CycSumWrongFalsely : Prop := cycSumRow.holds Try.pinned (OpenSpec.ofChange cycSumWrong)

/-- 'pursuivantlaw02.CycApart': WHATEVER THE INPUT: true; the input reads as it did. -/
def cycApartSpec : ChangeSpec := { name := "cycApart", fn := fun _ => fun
  | [d1, d2, d3] => { results := [.lit (.bool true)], args := [d1, d2, d3] }
  | _ => none }
def cycApartRow : OpenClaim := { program := "ytflnopaheanpdaa", sum := "1be96c160cc304eabd5d2ef75de35a9ad9fc954df6250b6f2532c03eaefdaec5", func := "pursuivant/pursuivantlaw02.CycApart", spec := "cycApart", apart := false }
def CycApartSaid : Prop := cycApartRow.holds Try.pinned (OpenSpec.ofChange cycApartSpec)

/-- ITS FALSE NEIGHBOUR: 'it returns false'. Refute it at one input. -/
def cycApartWrong : ChangeSpec := { name := "cycApart", fn := fun _ => fun
  | [d1, d2, d3] => { results := [.lit (.bool false)], args := [d1, d2, d3] }
  | _ => none }
def CycApartWrongFalsely : Prop := cycApartRow.holds Try.pinned (OpenSpec.ofChange cycApartWrong)

/-- 'pursuivantlaw02.CycParts': WHATEVER THE INPUT: true; the input reads as it did. -/
def cycPartsSpec : ChangeSpec := { name := "cycParts", fn := fun _ => fun
  | [d1, d2, d3] => { results := [.lit (.bool true)], args := [d1, d2, d3] }
  | _ => none }
def cycPartsRow : OpenClaim := { program := "ytflnopaheanpdaa", sum := "1be96c160cc304eabd5d2ef75de35a9ad9fc954df6250b6f2532c03eaefdaec5", func := "pursuivant/pursuivantlaw02.CycParts", spec := "cycParts", apart := false }
def CycPartsSaid : Prop := cycPartsRow.holds Try.pinned (OpenSpec.ofChange cycPartsSpec)

/-- ITS FALSE NEIGHBOUR: 'it returns false'. Refute it at one input. -/
def cycPartsWrong : ChangeSpec := { name := "cycParts", fn := fun _ => fun
  | [d1, d2, d3] => { results := [.lit (.bool false)], args := [d1, d2, d3] }
  | _ => none }
def CycPartsWrongFalsely : Prop := cycPartsRow.holds Try.pinned (OpenSpec.ofChange cycPartsWrong)

/-- 'pursuivantlaw01.LebPuts': WHATEVER THE INPUT: true; the input reads as it did. -/
def lebPutsSpec : ChangeSpec := { name := "lebPuts", fn := fun _ => fun
  | [d1, d2] => { results := [.lit (.bool true)], args := [d1, d2] }
  | _ => none }
def lebPutsRow : OpenClaim := { program := "ytflnopaheanpdaa", sum := "1be96c160cc304eabd5d2ef75de35a9ad9fc954df6250b6f2532c03eaefdaec5", func := "pursuivant/pursuivantlaw01.LebPuts", spec := "lebPuts", apart := false }
def LebPutsSaid : Prop := lebPutsRow.holds Try.pinned (OpenSpec.ofChange lebPutsSpec)

/-- ITS FALSE NEIGHBOUR: 'it returns false'. Refute it at one input. -/
def lebPutsWrong : ChangeSpec := { name := "lebPuts", fn := fun _ => fun
  | [d1, d2] => { results := [.lit (.bool false)], args := [d1, d2] }
  | _ => none }
def LebPutsWrongFalsely : Prop := lebPutsRow.holds Try.pinned (OpenSpec.ofChange lebPutsWrong)

/-- 'pursuivantlaw01.LebTakes': WHATEVER THE INPUT: true; the input reads as it did. -/
def lebTakesSpec : ChangeSpec := { name := "lebTakes", fn := fun _ => fun
  | [d1, d2] => { results := [.lit (.bool true)], args := [d1, d2] }
  | _ => none }
def lebTakesRow : OpenClaim := { program := "ytflnopaheanpdaa", sum := "1be96c160cc304eabd5d2ef75de35a9ad9fc954df6250b6f2532c03eaefdaec5", func := "pursuivant/pursuivantlaw01.LebTakes", spec := "lebTakes", apart := false }
def LebTakesSaid : Prop := lebTakesRow.holds Try.pinned (OpenSpec.ofChange lebTakesSpec)

/-- ITS FALSE NEIGHBOUR: 'it returns false'. Refute it at one input. -/
def lebTakesWrong : ChangeSpec := { name := "lebTakes", fn := fun _ => fun
  | [d1, d2] => { results := [.lit (.bool false)], args := [d1, d2] }
  | _ => none }
def LebTakesWrongFalsely : Prop := lebTakesRow.holds Try.pinned (OpenSpec.ofChange lebTakesWrong)

/-- 'pursuivantlaw01.LebRound': WHATEVER THE INPUT: true; the input reads as it did. -/
def lebRoundSpec : ChangeSpec := { name := "lebRound", fn := fun _ => fun
  | [d1, d2, d3] => { results := [.lit (.bool true)], args := [d1, d2, d3] }
  | _ => none }
def lebRoundRow : OpenClaim := { program := "ytflnopaheanpdaa", sum := "1be96c160cc304eabd5d2ef75de35a9ad9fc954df6250b6f2532c03eaefdaec5", func := "pursuivant/pursuivantlaw01.LebRound", spec := "lebRound", apart := false }
def LebRoundSaid : Prop := lebRoundRow.holds Try.pinned (OpenSpec.ofChange lebRoundSpec)

/-- ITS FALSE NEIGHBOUR: 'it returns false'. Refute it at one input. -/
def lebRoundWrong : ChangeSpec := { name := "lebRound", fn := fun _ => fun
  | [d1, d2, d3] => { results := [.lit (.bool false)], args := [d1, d2, d3] }
  | _ => none }
def LebRoundWrongFalsely : Prop := lebRoundRow.holds Try.pinned (OpenSpec.ofChange lebRoundWrong)

/-- 'pursuivantlaw01.LebOrder': WHATEVER THE INPUT: true; the input reads as it did. -/
def lebOrderSpec : ChangeSpec := { name := "lebOrder", fn := fun _ => fun
  | [d1, d2] => { results := [.lit (.bool true)], args := [d1, d2] }
  | _ => none }
def lebOrderRow : OpenClaim := { program := "ytflnopaheanpdaa", sum := "1be96c160cc304eabd5d2ef75de35a9ad9fc954df6250b6f2532c03eaefdaec5", func := "pursuivant/pursuivantlaw01.LebOrder", spec := "lebOrder", apart := false }
def LebOrderSaid : Prop := lebOrderRow.holds Try.pinned (OpenSpec.ofChange lebOrderSpec)

/-- ITS FALSE NEIGHBOUR: 'it returns false'. Refute it at one input. -/
def lebOrderWrong : ChangeSpec := { name := "lebOrder", fn := fun _ => fun
  | [d1, d2] => { results := [.lit (.bool false)], args := [d1, d2] }
  | _ => none }
def LebOrderWrongFalsely : Prop := lebOrderRow.holds Try.pinned (OpenSpec.ofChange lebOrderWrong)

/-- 'pursuivantlaw03.ChunkPacks': WHATEVER THE INPUT: true; the input reads as it did. -/
def chunkPacksSpec : ChangeSpec := { name := "chunkPacks", fn := fun _ => fun
  | [d1, d2, d3] => { results := [.lit (.bool true)], args := [d1, d2, d3] }
  | _ => none }
def chunkPacksRow : OpenClaim := { program := "ytflnopaheanpdaa", sum := "1be96c160cc304eabd5d2ef75de35a9ad9fc954df6250b6f2532c03eaefdaec5", func := "pursuivant/pursuivantlaw03.ChunkPacks", spec := "chunkPacks", unfollowed := true, recurses := true, apart := false }
def ChunkPacksSaid : Prop := chunkPacksRow.holds Try.pinned (OpenSpec.ofChange chunkPacksSpec)

/-- ITS FALSE NEIGHBOUR: 'it returns false'. Refute it at one input. -/
def chunkPacksWrong : ChangeSpec := { name := "chunkPacks", fn := fun _ => fun
  | [d1, d2, d3] => { results := [.lit (.bool false)], args := [d1, d2, d3] }
  | _ => none }
def ChunkPacksWrongFalsely : Prop := chunkPacksRow.holds Try.pinned (OpenSpec.ofChange chunkPacksWrong)

/-- 'pursuivantlaw03.ChunkUnpacks': WHATEVER THE INPUT: true; the input reads as it did. -/
def chunkUnpacksSpec : ChangeSpec := { name := "chunkUnpacks", fn := fun _ => fun
  | [d1, d2] => { results := [.lit (.bool true)], args := [d1, d2] }
  | _ => none }
def chunkUnpacksRow : OpenClaim := { program := "ytflnopaheanpdaa", sum := "1be96c160cc304eabd5d2ef75de35a9ad9fc954df6250b6f2532c03eaefdaec5", func := "pursuivant/pursuivantlaw03.ChunkUnpacks", spec := "chunkUnpacks", unfollowed := true, recurses := true, apart := false }
def ChunkUnpacksSaid : Prop := chunkUnpacksRow.holds Try.pinned (OpenSpec.ofChange chunkUnpacksSpec)

/-- ITS FALSE NEIGHBOUR: 'it returns false'. Refute it at one input. -/
def chunkUnpacksWrong : ChangeSpec := { name := "chunkUnpacks", fn := fun _ => fun
  | [d1, d2] => { results := [.lit (.bool false)], args := [d1, d2] }
  | _ => none }
def ChunkUnpacksWrongFalsely : Prop := chunkUnpacksRow.holds Try.pinned (OpenSpec.ofChange chunkUnpacksWrong)

/-- 'pursuivantlaw03.ChunkRound': WHATEVER THE INPUT: true; the input reads as it did. -/
def chunkRoundSpec : ChangeSpec := { name := "chunkRound", fn := fun _ => fun
  | [d1, d2, d3, d4, d5] => { results := [.lit (.bool true)], args := [d1, d2, d3, d4, d5] }
  | _ => none }
def chunkRoundRow : OpenClaim := { program := "ytflnopaheanpdaa", sum := "1be96c160cc304eabd5d2ef75de35a9ad9fc954df6250b6f2532c03eaefdaec5", func := "pursuivant/pursuivantlaw03.ChunkRound", spec := "chunkRound", unfollowed := true, recurses := true, apart := false }
def ChunkRoundSaid : Prop := chunkRoundRow.holds Try.pinned (OpenSpec.ofChange chunkRoundSpec)

/-- ITS FALSE NEIGHBOUR: 'it returns false'. Refute it at one input. -/
def chunkRoundWrong : ChangeSpec := { name := "chunkRound", fn := fun _ => fun
  | [d1, d2, d3, d4, d5] => { results := [.lit (.bool false)], args := [d1, d2, d3, d4, d5] }
  | _ => none }
def ChunkRoundWrongFalsely : Prop := chunkRoundRow.holds Try.pinned (OpenSpec.ofChange chunkRoundWrong)

/-- 'pursuivantlaw03.ChunkSpoilt': WHATEVER THE INPUT: true; the input reads as it did. -/
def chunkSpoiltSpec : ChangeSpec := { name := "chunkSpoilt", fn := fun _ => fun
  | [d1, d2, d3, d4] => { results := [.lit (.bool true)], args := [d1, d2, d3, d4] }
  | _ => none }
def chunkSpoiltRow : OpenClaim := { program := "ytflnopaheanpdaa", sum := "1be96c160cc304eabd5d2ef75de35a9ad9fc954df6250b6f2532c03eaefdaec5", func := "pursuivant/pursuivantlaw03.ChunkSpoilt", spec := "chunkSpoilt", unfollowed := true, recurses := true, apart := false }
def ChunkSpoiltSaid : Prop := chunkSpoiltRow.holds Try.pinned (OpenSpec.ofChange chunkSpoiltSpec)

/-- ITS FALSE NEIGHBOUR: 'it returns false'. Refute it at one input. -/
def chunkSpoiltWrong : ChangeSpec := { name := "chunkSpoilt", fn := fun _ => fun
  | [d1, d2, d3, d4] => { results := [.lit (.bool false)], args := [d1, d2, d3, d4] }
  | _ => none }
def ChunkSpoiltWrongFalsely : Prop := chunkSpoiltRow.holds Try.pinned (OpenSpec.ofChange chunkSpoiltWrong)

/- THE SECOND FORM. 'bulk': how many values and letters a reading holds, each counted each time it is reached (what is shared counts as often as it is met; a slice's spare places count too). A statement '..UptoSaid' is the law's where the arguments, and the package variables that the reading takes, are together of bulk at most 1048576: NARROWER than '..Said'. Prove '..Said' where nothing that the law and all that it calls make is longer than what came in: it says more and counts as full. Else prove '..UptoSaid'. A law counts once. -/
mutual
def uptoBulk {H : Type} : DataW H → Nat
  | .lit (.string bytes) => bytes.length + 1
  | .lit _ => 1
  | .nil => 1
  | .ptr d => uptoBulk d + 1
  | .slice elems spare => uptoBulkAll elems + uptoBulkAll spare + 1
  | .agg parts => uptoBulkAll parts + 1
  | .iface _ d => uptoBulk d + 1
  | .map entries => uptoBulkEntries entries + 1
  | .held _ => 1
def uptoBulkAll {H : Type} : List (DataW H) → Nat
  | [] => 0
  | d :: r => uptoBulk d + uptoBulkAll r
def uptoBulkEntries {H : Type} : List (Lit × DataW H) → Nat
  | [] => 0
  | x :: r => uptoBulkEntry x + uptoBulkEntries r
def uptoBulkEntry {H : Type} : Lit × DataW H → Nat
  | (.string bytes, d) => bytes.length + uptoBulk d + 1
  | (_, d) => uptoBulk d + 1
 end
def uptoSmall : (H : Type) → List (DataW H) → Bool := fun _ ds => decide (uptoBulkAll ds ≤ 1048576)
def OpenSpec.upto (s : _root_.Go.ChangeSpec) : _root_.Go.OpenSpec := { _root_.Go.OpenSpec.ofChange s with cond := some uptoSmall }

/-- 'pursuivantlaw02.CycTable', WHERE WHAT IT READS IS OF BULK AT MOST 1048576: true; the input reads as it did. -/
def cycTableUptoRow : OpenClaim := { program := "ytflnopaheanpdaa", sum := "1be96c160cc304eabd5d2ef75de35a9ad9fc954df6250b6f2532c03eaefdaec5", func := "pursuivant/pursuivantlaw02.CycTable", spec := "cycTable", apart := false, narrowed := true }
def CycTableUptoSaid : Prop := cycTableUptoRow.holds Try.pinned (OpenSpec.upto cycTableSpec)

/-- 'pursuivantlaw02.CycSum', WHERE WHAT IT READS IS OF BULK AT MOST 1048576: true; the input reads as it did. -/
def cycSumUptoRow : OpenClaim := { program := "ytflnopaheanpdaa", sum := "1be96c160cc304eabd5d2ef75de35a9ad9fc954df6250b6f2532c03eaefdaec5", func := "pursuivant/pursuivantlaw02.CycSum", spec := "cycSum", apart := false, narrowed := true }
def CycSumUptoSaid : Prop := cycSumUptoRow.holds Try.pinned (OpenSpec.upto cycSumSpec)

/-- 'pursuivantlaw02.CycApart', WHERE WHAT IT READS IS OF BULK AT MOST 1048576: true; the input reads as it did. -/
def cycApartUptoRow : OpenClaim := { program := "ytflnopaheanpdaa", sum := "1be96c160cc304eabd5d2ef75de35a9ad9fc954df6250b6f2532c03eaefdaec5", func := "pursuivant/pursuivantlaw02.CycApart", spec := "cycApart", apart := false, narrowed := true }
def CycApartUptoSaid : Prop := cycApartUptoRow.holds Try.pinned (OpenSpec.upto cycApartSpec)

/-- 'pursuivantlaw02.CycParts', WHERE WHAT IT READS IS OF BULK AT MOST 1048576: true; the input reads as it did. -/
def cycPartsUptoRow : OpenClaim := { program := "ytflnopaheanpdaa", sum := "1be96c160cc304eabd5d2ef75de35a9ad9fc954df6250b6f2532c03eaefdaec5", func := "pursuivant/pursuivantlaw02.CycParts", spec := "cycParts", apart := false, narrowed := true }
def CycPartsUptoSaid : Prop := cycPartsUptoRow.holds Try.pinned (OpenSpec.upto cycPartsSpec)

/-- 'pursuivantlaw01.LebPuts', WHERE WHAT IT READS IS OF BULK AT MOST 1048576: true; the input reads as it did. -/
def lebPutsUptoRow : OpenClaim := { program := "ytflnopaheanpdaa", sum := "1be96c160cc304eabd5d2ef75de35a9ad9fc954df6250b6f2532c03eaefdaec5", func := "pursuivant/pursuivantlaw01.LebPuts", spec := "lebPuts", apart := false, narrowed := true }
def LebPutsUptoSaid : Prop := lebPutsUptoRow.holds Try.pinned (OpenSpec.upto lebPutsSpec)

/-- 'pursuivantlaw01.LebTakes', WHERE WHAT IT READS IS OF BULK AT MOST 1048576: true; the input reads as it did. -/
def lebTakesUptoRow : OpenClaim := { program := "ytflnopaheanpdaa", sum := "1be96c160cc304eabd5d2ef75de35a9ad9fc954df6250b6f2532c03eaefdaec5", func := "pursuivant/pursuivantlaw01.LebTakes", spec := "lebTakes", apart := false, narrowed := true }
def LebTakesUptoSaid : Prop := lebTakesUptoRow.holds Try.pinned (OpenSpec.upto lebTakesSpec)

/-- 'pursuivantlaw01.LebRound', WHERE WHAT IT READS IS OF BULK AT MOST 1048576: true; the input reads as it did. -/
def lebRoundUptoRow : OpenClaim := { program := "ytflnopaheanpdaa", sum := "1be96c160cc304eabd5d2ef75de35a9ad9fc954df6250b6f2532c03eaefdaec5", func := "pursuivant/pursuivantlaw01.LebRound", spec := "lebRound", apart := false, narrowed := true }
def LebRoundUptoSaid : Prop := lebRoundUptoRow.holds Try.pinned (OpenSpec.upto lebRoundSpec)

/-- 'pursuivantlaw01.LebOrder', WHERE WHAT IT READS IS OF BULK AT MOST 1048576: true; the input reads as it did. -/
def lebOrderUptoRow : OpenClaim := { program := "ytflnopaheanpdaa", sum := "1be96c160cc304eabd5d2ef75de35a9ad9fc954df6250b6f2532c03eaefdaec5", func := "pursuivant/pursuivantlaw01.LebOrder", spec := "lebOrder", apart := false, narrowed := true }
def LebOrderUptoSaid : Prop := lebOrderUptoRow.holds Try.pinned (OpenSpec.upto lebOrderSpec)

/-- 'pursuivantlaw03.ChunkPacks', WHERE WHAT IT READS IS OF BULK AT MOST 1048576: true; the input reads as it did. -/
def chunkPacksUptoRow : OpenClaim := { program := "ytflnopaheanpdaa", sum := "1be96c160cc304eabd5d2ef75de35a9ad9fc954df6250b6f2532c03eaefdaec5", func := "pursuivant/pursuivantlaw03.ChunkPacks", spec := "chunkPacks", unfollowed := true, recurses := true, apart := false, narrowed := true }
def ChunkPacksUptoSaid : Prop := chunkPacksUptoRow.holds Try.pinned (OpenSpec.upto chunkPacksSpec)

/-- 'pursuivantlaw03.ChunkUnpacks', WHERE WHAT IT READS IS OF BULK AT MOST 1048576: true; the input reads as it did. -/
def chunkUnpacksUptoRow : OpenClaim := { program := "ytflnopaheanpdaa", sum := "1be96c160cc304eabd5d2ef75de35a9ad9fc954df6250b6f2532c03eaefdaec5", func := "pursuivant/pursuivantlaw03.ChunkUnpacks", spec := "chunkUnpacks", unfollowed := true, recurses := true, apart := false, narrowed := true }
def ChunkUnpacksUptoSaid : Prop := chunkUnpacksUptoRow.holds Try.pinned (OpenSpec.upto chunkUnpacksSpec)

/-- 'pursuivantlaw03.ChunkRound', WHERE WHAT IT READS IS OF BULK AT MOST 1048576: true; the input reads as it did. -/
def chunkRoundUptoRow : OpenClaim := { program := "ytflnopaheanpdaa", sum := "1be96c160cc304eabd5d2ef75de35a9ad9fc954df6250b6f2532c03eaefdaec5", func := "pursuivant/pursuivantlaw03.ChunkRound", spec := "chunkRound", unfollowed := true, recurses := true, apart := false, narrowed := true }
def ChunkRoundUptoSaid : Prop := chunkRoundUptoRow.holds Try.pinned (OpenSpec.upto chunkRoundSpec)

/-- 'pursuivantlaw03.ChunkSpoilt', WHERE WHAT IT READS IS OF BULK AT MOST 1048576: true; the input reads as it did. -/
def chunkSpoiltUptoRow : OpenClaim := { program := "ytflnopaheanpdaa", sum := "1be96c160cc304eabd5d2ef75de35a9ad9fc954df6250b6f2532c03eaefdaec5", func := "pursuivant/pursuivantlaw03.ChunkSpoilt", spec := "chunkSpoilt", unfollowed := true, recurses := true, apart := false, narrowed := true }
def ChunkSpoiltUptoSaid : Prop := chunkSpoiltUptoRow.holds Try.pinned (OpenSpec.upto chunkSpoiltSpec)

end Rows
end Go.Proofs.Ytflnopaheanpdaa
