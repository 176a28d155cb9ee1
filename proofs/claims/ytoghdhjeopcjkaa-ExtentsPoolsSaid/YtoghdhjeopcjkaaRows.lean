/-
  No cell of these rows narrows 'for every input' (looked for: loops, veiled, ifaces, maps, wideKeys, modest, calm, conditions, laid).
  DERIVED. THE GIVEN ROWS OF THIS SEAT. 10 by the template 'for every input the law returns true; each argument reads behind the call as it read before'; 0 by the template 'total and deterministic' (their statements: YtoghdhjeopcjkaaTotals.lean).
  GIVEN WITH THE SEED: the statements are not yours to turn. If you find one false, say at which input.
  Laid BY PROGRAM, IN A SANDBOX (cutbox-rows.mjs): the forced cells as the released guide's own fill.sh prints them over the translation 22e493d7c2669674… (all of the seat's roots in one cut). By AI agents, Wed Nov 11 2026. No macro, syntax, notation, axiom, sorry.
-/
import Derived.Test.YtoghdhjeopcjkaaChecked
import GoSem.Claim
import GoSem.ClaimJoined
import GoSem.ClaimMapViews
import Derived.JoinedTies
import Derived.KernelRfl
namespace Go.Proofs.Ytoghdhjeopcjkaa
/- THE CELL 'sum', in the pinned program and in every row, IS THE sha256 OF THE DUMP (.gsa) THAT YtoghdhjeopcjkaaProg.lean LOADS. Nothing in Lean hashes anything: it is a label: what it is worth is what the hold of that sum in a sandbox is worth. -/
noncomputable def Try.pinned : Pinned := { name := "ytoghdhjeopcjkaa", sum := "22e493d7c266967413bd1e58706cd42c7b532813ddc4fcd34e4a3448c8f9de93", checked := Try.checked }
namespace Rows
def none {H : Type} : Left H := { results := [], args := [] }

/-- 'furrowlaw05.ExtentsAreas': WHATEVER THE INPUT: true; the input reads as it did. -/
def extentsAreasSpec : ChangeSpec := { name := "extentsAreas", fn := fun _ => fun
  | [d1, d2, d3] => { results := [.lit (.bool true)], args := [d1, d2, d3] }
  | _ => none }
def extentsAreasRow : OpenClaim := { program := "ytoghdhjeopcjkaa", sum := "22e493d7c266967413bd1e58706cd42c7b532813ddc4fcd34e4a3448c8f9de93", func := "furrow/furrowlaw05.ExtentsAreas", spec := "extentsAreas", apart := false }
def ExtentsAreasSaid : Prop := extentsAreasRow.holds Try.pinned (OpenSpec.ofChange extentsAreasSpec)

/-- ITS FALSE NEIGHBOUR: 'it returns false'. Refute it at one input. -/
def extentsAreasWrong : ChangeSpec := { name := "extentsAreas", fn := fun _ => fun
  | [d1, d2, d3] => { results := [.lit (.bool false)], args := [d1, d2, d3] }
  | _ => none }
def ExtentsAreasWrongFalsely : Prop := extentsAreasRow.holds Try.pinned (OpenSpec.ofChange extentsAreasWrong)

/-- 'furrowlaw05.ExtentsNames': WHATEVER THE INPUT: true; the input reads as it did. -/
def extentsNamesSpec : ChangeSpec := { name := "extentsNames", fn := fun _ => fun
  | [] => { results := [.lit (.bool true)], args := [] }
  | _ => none }
def extentsNamesRow : OpenClaim := { program := "ytoghdhjeopcjkaa", sum := "22e493d7c266967413bd1e58706cd42c7b532813ddc4fcd34e4a3448c8f9de93", func := "furrow/furrowlaw05.ExtentsNames", spec := "extentsNames", apart := false }
def ExtentsNamesSaid : Prop := extentsNamesRow.holds Try.pinned (OpenSpec.ofChange extentsNamesSpec)

/-- ITS FALSE NEIGHBOUR: 'it returns false'. Refute it at one input. -/
def extentsNamesWrong : ChangeSpec := { name := "extentsNames", fn := fun _ => fun
  | [] => { results := [.lit (.bool false)], args := [] }
  | _ => none }
def ExtentsNamesWrongFalsely : Prop := extentsNamesRow.holds Try.pinned (OpenSpec.ofChange extentsNamesWrong)

/-- 'furrowlaw05.ExtentsRefuses': WHATEVER THE INPUT: true; the input reads as it did. -/
def extentsRefusesSpec : ChangeSpec := { name := "extentsRefuses", fn := fun _ => fun
  | [d1, d2, d3, d4, d5] => { results := [.lit (.bool true)], args := [d1, d2, d3, d4, d5] }
  | _ => none }
def extentsRefusesRow : OpenClaim := { program := "ytoghdhjeopcjkaa", sum := "22e493d7c266967413bd1e58706cd42c7b532813ddc4fcd34e4a3448c8f9de93", func := "furrow/furrowlaw05.ExtentsRefuses", spec := "extentsRefuses", apart := false }
def ExtentsRefusesSaid : Prop := extentsRefusesRow.holds Try.pinned (OpenSpec.ofChange extentsRefusesSpec)

/-- ITS FALSE NEIGHBOUR: 'it returns false'. Refute it at one input. -/
def extentsRefusesWrong : ChangeSpec := { name := "extentsRefuses", fn := fun _ => fun
  | [d1, d2, d3, d4, d5] => { results := [.lit (.bool false)], args := [d1, d2, d3, d4, d5] }
  | _ => none }
def ExtentsRefusesWrongFalsely : Prop := extentsRefusesRow.holds Try.pinned (OpenSpec.ofChange extentsRefusesWrong)

/-- 'furrowlaw05.ExtentsLent': WHATEVER THE INPUT: true; the input reads as it did. -/
def extentsLentSpec : ChangeSpec := { name := "extentsLent", fn := fun _ => fun
  | [d1, d2, d3, d4] => { results := [.lit (.bool true)], args := [d1, d2, d3, d4] }
  | _ => none }
def extentsLentRow : OpenClaim := { program := "ytoghdhjeopcjkaa", sum := "22e493d7c266967413bd1e58706cd42c7b532813ddc4fcd34e4a3448c8f9de93", func := "furrow/furrowlaw05.ExtentsLent", spec := "extentsLent", apart := false }
def ExtentsLentSaid : Prop := extentsLentRow.holds Try.pinned (OpenSpec.ofChange extentsLentSpec)

/-- ITS FALSE NEIGHBOUR: 'it returns false'. Refute it at one input. -/
def extentsLentWrong : ChangeSpec := { name := "extentsLent", fn := fun _ => fun
  | [d1, d2, d3, d4] => { results := [.lit (.bool false)], args := [d1, d2, d3, d4] }
  | _ => none }
def ExtentsLentWrongFalsely : Prop := extentsLentRow.holds Try.pinned (OpenSpec.ofChange extentsLentWrong)

/-- 'furrowlaw05.ExtentsNear': WHATEVER THE INPUT: true; the input reads as it did. -/
def extentsNearSpec : ChangeSpec := { name := "extentsNear", fn := fun _ => fun
  | [d1, d2, d3, d4, d5] => { results := [.lit (.bool true)], args := [d1, d2, d3, d4, d5] }
  | _ => none }
def extentsNearRow : OpenClaim := { program := "ytoghdhjeopcjkaa", sum := "22e493d7c266967413bd1e58706cd42c7b532813ddc4fcd34e4a3448c8f9de93", func := "furrow/furrowlaw05.ExtentsNear", spec := "extentsNear", apart := false }
def ExtentsNearSaid : Prop := extentsNearRow.holds Try.pinned (OpenSpec.ofChange extentsNearSpec)

/-- ITS FALSE NEIGHBOUR: 'it returns false'. Refute it at one input. -/
def extentsNearWrong : ChangeSpec := { name := "extentsNear", fn := fun _ => fun
  | [d1, d2, d3, d4, d5] => { results := [.lit (.bool false)], args := [d1, d2, d3, d4, d5] }
  | _ => none }
def ExtentsNearWrongFalsely : Prop := extentsNearRow.holds Try.pinned (OpenSpec.ofChange extentsNearWrong)

/-- 'furrowlaw05.ExtentsForgets': WHATEVER THE INPUT: true; the input reads as it did. -/
def extentsForgetsSpec : ChangeSpec := { name := "extentsForgets", fn := fun _ => fun
  | [d1, d2, d3, d4, d5] => { results := [.lit (.bool true)], args := [d1, d2, d3, d4, d5] }
  | _ => none }
def extentsForgetsRow : OpenClaim := { program := "ytoghdhjeopcjkaa", sum := "22e493d7c266967413bd1e58706cd42c7b532813ddc4fcd34e4a3448c8f9de93", func := "furrow/furrowlaw05.ExtentsForgets", spec := "extentsForgets", apart := false }
def ExtentsForgetsSaid : Prop := extentsForgetsRow.holds Try.pinned (OpenSpec.ofChange extentsForgetsSpec)

/-- ITS FALSE NEIGHBOUR: 'it returns false'. Refute it at one input. -/
def extentsForgetsWrong : ChangeSpec := { name := "extentsForgets", fn := fun _ => fun
  | [d1, d2, d3, d4, d5] => { results := [.lit (.bool false)], args := [d1, d2, d3, d4, d5] }
  | _ => none }
def ExtentsForgetsWrongFalsely : Prop := extentsForgetsRow.holds Try.pinned (OpenSpec.ofChange extentsForgetsWrong)

/-- 'furrowlaw05.ExtentsParts': WHATEVER THE INPUT: true; the input reads as it did. -/
def extentsPartsSpec : ChangeSpec := { name := "extentsParts", fn := fun _ => fun
  | [d1, d2, d3] => { results := [.lit (.bool true)], args := [d1, d2, d3] }
  | _ => none }
def extentsPartsRow : OpenClaim := { program := "ytoghdhjeopcjkaa", sum := "22e493d7c266967413bd1e58706cd42c7b532813ddc4fcd34e4a3448c8f9de93", func := "furrow/furrowlaw05.ExtentsParts", spec := "extentsParts", apart := false }
def ExtentsPartsSaid : Prop := extentsPartsRow.holds Try.pinned (OpenSpec.ofChange extentsPartsSpec)

/-- ITS FALSE NEIGHBOUR: 'it returns false'. Refute it at one input. -/
def extentsPartsWrong : ChangeSpec := { name := "extentsParts", fn := fun _ => fun
  | [d1, d2, d3] => { results := [.lit (.bool false)], args := [d1, d2, d3] }
  | _ => none }
def ExtentsPartsWrongFalsely : Prop := extentsPartsRow.holds Try.pinned (OpenSpec.ofChange extentsPartsWrong)

/-- 'furrowlaw05.ExtentsFresh': WHATEVER THE INPUT: true; the input reads as it did. -/
def extentsFreshSpec : ChangeSpec := { name := "extentsFresh", fn := fun _ => fun
  | [d1, d2, d3, d4, d5] => { results := [.lit (.bool true)], args := [d1, d2, d3, d4, d5] }
  | _ => none }
def extentsFreshRow : OpenClaim := { program := "ytoghdhjeopcjkaa", sum := "22e493d7c266967413bd1e58706cd42c7b532813ddc4fcd34e4a3448c8f9de93", func := "furrow/furrowlaw05.ExtentsFresh", spec := "extentsFresh", apart := false }
def ExtentsFreshSaid : Prop := extentsFreshRow.holds Try.pinned (OpenSpec.ofChange extentsFreshSpec)

/-- ITS FALSE NEIGHBOUR: 'it returns false'. Refute it at one input. -/
def extentsFreshWrong : ChangeSpec := { name := "extentsFresh", fn := fun _ => fun
  | [d1, d2, d3, d4, d5] => { results := [.lit (.bool false)], args := [d1, d2, d3, d4, d5] }
  | _ => none }
def ExtentsFreshWrongFalsely : Prop := extentsFreshRow.holds Try.pinned (OpenSpec.ofChange extentsFreshWrong)

/-- 'furrowlaw05.ExtentsApart': WHATEVER THE INPUT: true; the input reads as it did. -/
def extentsApartSpec : ChangeSpec := { name := "extentsApart", fn := fun _ => fun
  | [d1, d2, d3, d4] => { results := [.lit (.bool true)], args := [d1, d2, d3, d4] }
  | _ => none }
def extentsApartRow : OpenClaim := { program := "ytoghdhjeopcjkaa", sum := "22e493d7c266967413bd1e58706cd42c7b532813ddc4fcd34e4a3448c8f9de93", func := "furrow/furrowlaw05.ExtentsApart", spec := "extentsApart", apart := false }
def ExtentsApartSaid : Prop := extentsApartRow.holds Try.pinned (OpenSpec.ofChange extentsApartSpec)

/-- ITS FALSE NEIGHBOUR: 'it returns false'. Refute it at one input. -/
def extentsApartWrong : ChangeSpec := { name := "extentsApart", fn := fun _ => fun
  | [d1, d2, d3, d4] => { results := [.lit (.bool false)], args := [d1, d2, d3, d4] }
  | _ => none }
def ExtentsApartWrongFalsely : Prop := extentsApartRow.holds Try.pinned (OpenSpec.ofChange extentsApartWrong)

/-- 'furrowlaw05.ExtentsPools': WHATEVER THE INPUT: true; the input reads as it did. -/
def extentsPoolsSpec : ChangeSpec := { name := "extentsPools", fn := fun _ => fun
  | [d] => { results := [.lit (.bool true)], args := [d] }
  | _ => none }
def extentsPoolsRow : OpenClaim := { program := "ytoghdhjeopcjkaa", sum := "22e493d7c266967413bd1e58706cd42c7b532813ddc4fcd34e4a3448c8f9de93", func := "furrow/furrowlaw05.ExtentsPools", spec := "extentsPools", apart := false }
def ExtentsPoolsSaid : Prop := extentsPoolsRow.holds Try.pinned (OpenSpec.ofChange extentsPoolsSpec)

/-- ITS FALSE NEIGHBOUR: 'it returns false'. Refute it at one input. -/
def extentsPoolsWrong : ChangeSpec := { name := "extentsPools", fn := fun _ => fun
  | [d] => { results := [.lit (.bool false)], args := [d] }
  | _ => none }
def ExtentsPoolsWrongFalsely : Prop := extentsPoolsRow.holds Try.pinned (OpenSpec.ofChange extentsPoolsWrong)

/- THE SECOND FORM. 'bulk': how many values and letters a reading holds, each counted each time it is reached (what is shared counts as often as it is met; a slice's spare places count too). A statement '..UptoSaid' is the law's where the arguments, and the package variables that the reading takes, are together of bulk at most 1048576: NARROWER than '..Said'. Prove '..Said' where nothing that the law and all that it calls make is longer than what came in: it says more and counts as full. Else prove '..UptoSaid'. A law counts once. -/
mutual
def uptoBulk {H : Type} : DataW H → Nat
  | .lit (.string bytes) => bytes.length + 1
  | .lit _ => 1
  | .nil => 1
  | .ptr d => uptoBulk d + 1
  | .slice elems spare => uptoBulkAll elems + uptoBulkAll spare + 1
  | .agg parts => uptoBulkAll parts + 1
  | .iface _ d => uptoBulk d + 1
  | .map entries => uptoBulkEntries entries + 1
  | .held _ => 1
def uptoBulkAll {H : Type} : List (DataW H) → Nat
  | [] => 0
  | d :: r => uptoBulk d + uptoBulkAll r
def uptoBulkEntries {H : Type} : List (Lit × DataW H) → Nat
  | [] => 0
  | x :: r => uptoBulkEntry x + uptoBulkEntries r
def uptoBulkEntry {H : Type} : Lit × DataW H → Nat
  | (.string bytes, d) => bytes.length + uptoBulk d + 1
  | (_, d) => uptoBulk d + 1
 end
def uptoSmall : (H : Type) → List (DataW H) → Bool := fun _ ds => decide (uptoBulkAll ds ≤ 1048576)
def OpenSpec.upto (s : _root_.Go.ChangeSpec) : _root_.Go.OpenSpec := { _root_.Go.OpenSpec.ofChange s with cond := some uptoSmall }

/-- 'furrowlaw05.ExtentsAreas', WHERE WHAT IT READS IS OF BULK AT MOST 1048576: true; the input reads as it did. -/
def extentsAreasUptoRow : OpenClaim := { program := "ytoghdhjeopcjkaa", sum := "22e493d7c266967413bd1e58706cd42c7b532813ddc4fcd34e4a3448c8f9de93", func := "furrow/furrowlaw05.ExtentsAreas", spec := "extentsAreas", apart := false, narrowed := true }
def ExtentsAreasUptoSaid : Prop := extentsAreasUptoRow.holds Try.pinned (OpenSpec.upto extentsAreasSpec)

/-- 'furrowlaw05.ExtentsNames', WHERE WHAT IT READS IS OF BULK AT MOST 1048576: true; the input reads as it did. -/
def extentsNamesUptoRow : OpenClaim := { program := "ytoghdhjeopcjkaa", sum := "22e493d7c266967413bd1e58706cd42c7b532813ddc4fcd34e4a3448c8f9de93", func := "furrow/furrowlaw05.ExtentsNames", spec := "extentsNames", apart := false, narrowed := true }
def ExtentsNamesUptoSaid : Prop := extentsNamesUptoRow.holds Try.pinned (OpenSpec.upto extentsNamesSpec)

/-- 'furrowlaw05.ExtentsRefuses', WHERE WHAT IT READS IS OF BULK AT MOST 1048576: true; the input reads as it did. -/
def extentsRefusesUptoRow : OpenClaim := { program := "ytoghdhjeopcjkaa", sum := "22e493d7c266967413bd1e58706cd42c7b532813ddc4fcd34e4a3448c8f9de93", func := "furrow/furrowlaw05.ExtentsRefuses", spec := "extentsRefuses", apart := false, narrowed := true }
def ExtentsRefusesUptoSaid : Prop := extentsRefusesUptoRow.holds Try.pinned (OpenSpec.upto extentsRefusesSpec)

/-- 'furrowlaw05.ExtentsLent', WHERE WHAT IT READS IS OF BULK AT MOST 1048576: true; the input reads as it did. -/
def extentsLentUptoRow : OpenClaim := { program := "ytoghdhjeopcjkaa", sum := "22e493d7c266967413bd1e58706cd42c7b532813ddc4fcd34e4a3448c8f9de93", func := "furrow/furrowlaw05.ExtentsLent", spec := "extentsLent", apart := false, narrowed := true }
def ExtentsLentUptoSaid : Prop := extentsLentUptoRow.holds Try.pinned (OpenSpec.upto extentsLentSpec)

/-- 'furrowlaw05.ExtentsNear', WHERE WHAT IT READS IS OF BULK AT MOST 1048576: true; the input reads as it did. -/
def extentsNearUptoRow : OpenClaim := { program := "ytoghdhjeopcjkaa", sum := "22e493d7c266967413bd1e58706cd42c7b532813ddc4fcd34e4a3448c8f9de93", func := "furrow/furrowlaw05.ExtentsNear", spec := "extentsNear", apart := false, narrowed := true }
def ExtentsNearUptoSaid : Prop := extentsNearUptoRow.holds Try.pinned (OpenSpec.upto extentsNearSpec)

/-- 'furrowlaw05.ExtentsForgets', WHERE WHAT IT READS IS OF BULK AT MOST 1048576: true; the input reads as it did. -/
def extentsForgetsUptoRow : OpenClaim := { program := "ytoghdhjeopcjkaa", sum := "22e493d7c266967413bd1e58706cd42c7b532813ddc4fcd34e4a3448c8f9de93", func := "furrow/furrowlaw05.ExtentsForgets", spec := "extentsForgets", apart := false, narrowed := true }
def ExtentsForgetsUptoSaid : Prop := extentsForgetsUptoRow.holds Try.pinned (OpenSpec.upto extentsForgetsSpec)

/-- 'furrowlaw05.ExtentsParts', WHERE WHAT IT READS IS OF BULK AT MOST 1048576: true; the input reads as it did. -/
def extentsPartsUptoRow : OpenClaim := { program := "ytoghdhjeopcjkaa", sum := "22e493d7c266967413bd1e58706cd42c7b532813ddc4fcd34e4a3448c8f9de93", func := "furrow/furrowlaw05.ExtentsParts", spec := "extentsParts", apart := false, narrowed := true }
def ExtentsPartsUptoSaid : Prop := extentsPartsUptoRow.holds Try.pinned (OpenSpec.upto extentsPartsSpec)

/-- 'furrowlaw05.ExtentsFresh', WHERE WHAT IT READS IS OF BULK AT MOST 1048576: true; the input reads as it did. -/
def extentsFreshUptoRow : OpenClaim := { program := "ytoghdhjeopcjkaa", sum := "22e493d7c266967413bd1e58706cd42c7b532813ddc4fcd34e4a3448c8f9de93", func := "furrow/furrowlaw05.ExtentsFresh", spec := "extentsFresh", apart := false, narrowed := true }
def ExtentsFreshUptoSaid : Prop := extentsFreshUptoRow.holds Try.pinned (OpenSpec.upto extentsFreshSpec)

/-- 'furrowlaw05.ExtentsApart', WHERE WHAT IT READS IS OF BULK AT MOST 1048576: true; the input reads as it did. -/
def extentsApartUptoRow : OpenClaim := { program := "ytoghdhjeopcjkaa", sum := "22e493d7c266967413bd1e58706cd42c7b532813ddc4fcd34e4a3448c8f9de93", func := "furrow/furrowlaw05.ExtentsApart", spec := "extentsApart", apart := false, narrowed := true }
def ExtentsApartUptoSaid : Prop := extentsApartUptoRow.holds Try.pinned (OpenSpec.upto extentsApartSpec)

/-- 'furrowlaw05.ExtentsPools', WHERE WHAT IT READS IS OF BULK AT MOST 1048576: true; the input reads as it did. -/
def extentsPoolsUptoRow : OpenClaim := { program := "ytoghdhjeopcjkaa", sum := "22e493d7c266967413bd1e58706cd42c7b532813ddc4fcd34e4a3448c8f9de93", func := "furrow/furrowlaw05.ExtentsPools", spec := "extentsPools", apart := false, narrowed := true }
def ExtentsPoolsUptoSaid : Prop := extentsPoolsUptoRow.holds Try.pinned (OpenSpec.upto extentsPoolsSpec)

end Rows
end Go.Proofs.Ytoghdhjeopcjkaa
