/-
  No cell of these rows narrows 'for every input' (looked for: loops, veiled, ifaces, maps, wideKeys, modest, calm, conditions, laid).
  DERIVED. THE GIVEN ROWS OF THIS SEAT. 6 by the template 'for every input the law returns true; each argument reads behind the call as it read before'; 0 by the template 'total and deterministic' (their statements: YtcedljbapgmdmaaGreatTotals.lean).
  GIVEN WITH THE SEED: the statements are not yours to turn. If you find one false, say at which input.
  Laid BY PROGRAM, IN A SANDBOX (cutbox-rows.mjs): the forced cells as the released guide's own fill.sh prints them over the translation 2fe7db64b1437f26… (all of the seat's roots in one cut). By AI agents, Wed Nov 11 2026. No macro, syntax, notation, axiom, sorry.
-/
import Derived.Test.YtcedljbapgmdmaaGreatChecked
import GoSem.Claim
import GoSem.ClaimJoined
import GoSem.ClaimMapViews
import Derived.JoinedTies
import Derived.KernelRfl
namespace Go.Proofs.YtcedljbapgmdmaaGreat
/- THE CELL 'sum', in the pinned program and in every row, IS THE sha256 OF THE DUMP (.gsa) THAT YtcedljbapgmdmaaGreatProg.lean LOADS. Nothing in Lean hashes anything: it is a label: what it is worth is what the hold of that sum in a sandbox is worth. -/
noncomputable def Tryz.pinned : Pinned := { name := "ytcedljbapgmdmaagreat", sum := "2fe7db64b1437f2658eb65c740aa717a7116a32bb544f4523458c749e5b2d986", checked := Tryz.checked }
namespace Rows
def none {H : Type} : Left H := { results := [], args := [] }

/-- 'pharoslaw8.G1Scalars': WHATEVER THE INPUT: true; the input reads as it did. -/
def g1ScalarsSpec : ChangeSpec := { name := "g1Scalars", fn := fun _ => fun
  | [d1, d2, d3] => { results := [.lit (.bool true)], args := [d1, d2, d3] }
  | _ => none }
def g1ScalarsRow : OpenClaim := { program := "ytcedljbapgmdmaagreat", sum := "2fe7db64b1437f2658eb65c740aa717a7116a32bb544f4523458c749e5b2d986", func := "pharos/pharoslaw8.G1Scalars", spec := "g1Scalars", inPlace := ["math/bits.Add64", "math/bits.Sub64"], unfollowed := true, recurses := true, apart := false }
def G1ScalarsSaid : Prop := g1ScalarsRow.holds Tryz.pinned (OpenSpec.ofChange g1ScalarsSpec)

/-- ITS FALSE NEIGHBOUR: 'it returns false'. Refute it at one input. -/
def g1ScalarsWrong : ChangeSpec := { name := "g1Scalars", fn := fun _ => fun
  | [d1, d2, d3] => { results := [.lit (.bool false)], args := [d1, d2, d3] }
  | _ => none }
def G1ScalarsWrongFalsely : Prop := g1ScalarsRow.holds Tryz.pinned (OpenSpec.ofChange g1ScalarsWrong)

/-- 'pharoslaw8.G1Lifts': WHATEVER THE INPUT: true; the input reads as it did. -/
def g1LiftsSpec : ChangeSpec := { name := "g1Lifts", fn := fun _ => fun
  | [d1, d2] => { results := [.lit (.bool true)], args := [d1, d2] }
  | _ => none }
def g1LiftsRow : OpenClaim := { program := "ytcedljbapgmdmaagreat", sum := "2fe7db64b1437f2658eb65c740aa717a7116a32bb544f4523458c749e5b2d986", func := "pharos/pharoslaw8.G1Lifts", spec := "g1Lifts", inPlace := ["math/bits.Add64", "math/bits.Sub64"], unfollowed := true, recurses := true, apart := false }
def G1LiftsSaid : Prop := g1LiftsRow.holds Tryz.pinned (OpenSpec.ofChange g1LiftsSpec)

/-- ITS FALSE NEIGHBOUR: 'it returns false'. Refute it at one input. -/
def g1LiftsWrong : ChangeSpec := { name := "g1Lifts", fn := fun _ => fun
  | [d1, d2] => { results := [.lit (.bool false)], args := [d1, d2] }
  | _ => none }
def G1LiftsWrongFalsely : Prop := g1LiftsRow.holds Tryz.pinned (OpenSpec.ofChange g1LiftsWrong)

/-- 'pharoslaw8.G1Adds': WHATEVER THE INPUT: true; the input reads as it did. -/
def g1AddsSpec : ChangeSpec := { name := "g1Adds", fn := fun _ => fun
  | [d1, d2, d3, d4, d5, d6, d7, d8] => { results := [.lit (.bool true)], args := [d1, d2, d3, d4, d5, d6, d7, d8] }
  | _ => none }
def g1AddsRow : OpenClaim := { program := "ytcedljbapgmdmaagreat", sum := "2fe7db64b1437f2658eb65c740aa717a7116a32bb544f4523458c749e5b2d986", func := "pharos/pharoslaw8.G1Adds", spec := "g1Adds", inPlace := ["math/bits.Add64", "math/bits.Sub64"], unfollowed := true, recurses := true, apart := false }
def G1AddsSaid : Prop := g1AddsRow.holds Tryz.pinned (OpenSpec.ofChange g1AddsSpec)

/-- ITS FALSE NEIGHBOUR: 'it returns false'. Refute it at one input. -/
def g1AddsWrong : ChangeSpec := { name := "g1Adds", fn := fun _ => fun
  | [d1, d2, d3, d4, d5, d6, d7, d8] => { results := [.lit (.bool false)], args := [d1, d2, d3, d4, d5, d6, d7, d8] }
  | _ => none }
def G1AddsWrongFalsely : Prop := g1AddsRow.holds Tryz.pinned (OpenSpec.ofChange g1AddsWrong)

/-- 'pharoslaw8.G1Times': WHATEVER THE INPUT: true; the input reads as it did. -/
def g1TimesSpec : ChangeSpec := { name := "g1Times", fn := fun _ => fun
  | [d1, d2, d3, d4] => { results := [.lit (.bool true)], args := [d1, d2, d3, d4] }
  | _ => none }
def g1TimesRow : OpenClaim := { program := "ytcedljbapgmdmaagreat", sum := "2fe7db64b1437f2658eb65c740aa717a7116a32bb544f4523458c749e5b2d986", func := "pharos/pharoslaw8.G1Times", spec := "g1Times", inPlace := ["math/bits.Add64", "math/bits.Sub64"], unfollowed := true, recurses := true, apart := false }
def G1TimesSaid : Prop := g1TimesRow.holds Tryz.pinned (OpenSpec.ofChange g1TimesSpec)

/-- ITS FALSE NEIGHBOUR: 'it returns false'. Refute it at one input. -/
def g1TimesWrong : ChangeSpec := { name := "g1Times", fn := fun _ => fun
  | [d1, d2, d3, d4] => { results := [.lit (.bool false)], args := [d1, d2, d3, d4] }
  | _ => none }
def G1TimesWrongFalsely : Prop := g1TimesRow.holds Tryz.pinned (OpenSpec.ofChange g1TimesWrong)

/-- 'pharoslaw8.G1Groups': WHATEVER THE INPUT: true; the input reads as it did. -/
def g1GroupsSpec : ChangeSpec := { name := "g1Groups", fn := fun _ => fun
  | [d1, d2, d3] => { results := [.lit (.bool true)], args := [d1, d2, d3] }
  | _ => none }
def g1GroupsRow : OpenClaim := { program := "ytcedljbapgmdmaagreat", sum := "2fe7db64b1437f2658eb65c740aa717a7116a32bb544f4523458c749e5b2d986", func := "pharos/pharoslaw8.G1Groups", spec := "g1Groups", inPlace := ["math/bits.Add64", "math/bits.Sub64"], unfollowed := true, recurses := true, apart := false }
def G1GroupsSaid : Prop := g1GroupsRow.holds Tryz.pinned (OpenSpec.ofChange g1GroupsSpec)

/-- ITS FALSE NEIGHBOUR: 'it returns false'. Refute it at one input. -/
def g1GroupsWrong : ChangeSpec := { name := "g1Groups", fn := fun _ => fun
  | [d1, d2, d3] => { results := [.lit (.bool false)], args := [d1, d2, d3] }
  | _ => none }
def G1GroupsWrongFalsely : Prop := g1GroupsRow.holds Tryz.pinned (OpenSpec.ofChange g1GroupsWrong)

/-- 'pharoslaw8.G1Laws': WHATEVER THE INPUT: true; the input reads as it did. -/
def g1LawsSpec : ChangeSpec := { name := "g1Laws", fn := fun _ => fun
  | [d1, d2, d3, d4, d5] => { results := [.lit (.bool true)], args := [d1, d2, d3, d4, d5] }
  | _ => none }
def g1LawsRow : OpenClaim := { program := "ytcedljbapgmdmaagreat", sum := "2fe7db64b1437f2658eb65c740aa717a7116a32bb544f4523458c749e5b2d986", func := "pharos/pharoslaw8.G1Laws", spec := "g1Laws", inPlace := ["math/bits.Add64", "math/bits.Sub64"], unfollowed := true, recurses := true, apart := false }
def G1LawsSaid : Prop := g1LawsRow.holds Tryz.pinned (OpenSpec.ofChange g1LawsSpec)

/-- ITS FALSE NEIGHBOUR: 'it returns false'. Refute it at one input. -/
def g1LawsWrong : ChangeSpec := { name := "g1Laws", fn := fun _ => fun
  | [d1, d2, d3, d4, d5] => { results := [.lit (.bool false)], args := [d1, d2, d3, d4, d5] }
  | _ => none }
def G1LawsWrongFalsely : Prop := g1LawsRow.holds Tryz.pinned (OpenSpec.ofChange g1LawsWrong)

/- THE SECOND FORM. 'bulk': how many values and letters a reading holds, each counted each time it is reached (what is shared counts as often as it is met; a slice's spare places count too). A statement '..UptoSaid' is the law's where the arguments, and the package variables that the reading takes, are together of bulk at most 1048576: NARROWER than '..Said'. Prove '..Said' where nothing that the law and all that it calls make is longer than what came in: it says more and counts as full. Else prove '..UptoSaid'. A law counts once. -/
mutual
def uptoBulk {H : Type} : DataW H → Nat
  | .lit (.string bytes) => bytes.length + 1
  | .lit _ => 1
  | .nil => 1
  | .ptr d => uptoBulk d + 1
  | .slice elems spare => uptoBulkAll elems + uptoBulkAll spare + 1
  | .agg parts => uptoBulkAll parts + 1
  | .iface _ d => uptoBulk d + 1
  | .map entries => uptoBulkEntries entries + 1
  | .held _ => 1
def uptoBulkAll {H : Type} : List (DataW H) → Nat
  | [] => 0
  | d :: r => uptoBulk d + uptoBulkAll r
def uptoBulkEntries {H : Type} : List (Lit × DataW H) → Nat
  | [] => 0
  | x :: r => uptoBulkEntry x + uptoBulkEntries r
def uptoBulkEntry {H : Type} : Lit × DataW H → Nat
  | (.string bytes, d) => bytes.length + uptoBulk d + 1
  | (_, d) => uptoBulk d + 1
 end
def uptoSmall : (H : Type) → List (DataW H) → Bool := fun _ ds => decide (uptoBulkAll ds ≤ 1048576)
def OpenSpec.upto (s : _root_.Go.ChangeSpec) : _root_.Go.OpenSpec := { _root_.Go.OpenSpec.ofChange s with cond := some uptoSmall }

/-- 'pharoslaw8.G1Scalars', WHERE WHAT IT READS IS OF BULK AT MOST 1048576: true; the input reads as it did. -/
def g1ScalarsUptoRow : OpenClaim := { program := "ytcedljbapgmdmaagreat", sum := "2fe7db64b1437f2658eb65c740aa717a7116a32bb544f4523458c749e5b2d986", func := "pharos/pharoslaw8.G1Scalars", spec := "g1Scalars", inPlace := ["math/bits.Add64", "math/bits.Sub64"], unfollowed := true, recurses := true, apart := false, narrowed := true }
def G1ScalarsUptoSaid : Prop := g1ScalarsUptoRow.holds Tryz.pinned (OpenSpec.upto g1ScalarsSpec)

/-- 'pharoslaw8.G1Lifts', WHERE WHAT IT READS IS OF BULK AT MOST 1048576: true; the input reads as it did. -/
def g1LiftsUptoRow : OpenClaim := { program := "ytcedljbapgmdmaagreat", sum := "2fe7db64b1437f2658eb65c740aa717a7116a32bb544f4523458c749e5b2d986", func := "pharos/pharoslaw8.G1Lifts", spec := "g1Lifts", inPlace := ["math/bits.Add64", "math/bits.Sub64"], unfollowed := true, recurses := true, apart := false, narrowed := true }
def G1LiftsUptoSaid : Prop := g1LiftsUptoRow.holds Tryz.pinned (OpenSpec.upto g1LiftsSpec)

/-- 'pharoslaw8.G1Adds', WHERE WHAT IT READS IS OF BULK AT MOST 1048576: true; the input reads as it did. -/
def g1AddsUptoRow : OpenClaim := { program := "ytcedljbapgmdmaagreat", sum := "2fe7db64b1437f2658eb65c740aa717a7116a32bb544f4523458c749e5b2d986", func := "pharos/pharoslaw8.G1Adds", spec := "g1Adds", inPlace := ["math/bits.Add64", "math/bits.Sub64"], unfollowed := true, recurses := true, apart := false, narrowed := true }
def G1AddsUptoSaid : Prop := g1AddsUptoRow.holds Tryz.pinned (OpenSpec.upto g1AddsSpec)

/-- 'pharoslaw8.G1Times', WHERE WHAT IT READS IS OF BULK AT MOST 1048576: true; the input reads as it did. -/
def g1TimesUptoRow : OpenClaim := { program := "ytcedljbapgmdmaagreat", sum := "2fe7db64b1437f2658eb65c740aa717a7116a32bb544f4523458c749e5b2d986", func := "pharos/pharoslaw8.G1Times", spec := "g1Times", inPlace := ["math/bits.Add64", "math/bits.Sub64"], unfollowed := true, recurses := true, apart := false, narrowed := true }
def G1TimesUptoSaid : Prop := g1TimesUptoRow.holds Tryz.pinned (OpenSpec.upto g1TimesSpec)

/-- 'pharoslaw8.G1Groups', WHERE WHAT IT READS IS OF BULK AT MOST 1048576: true; the input reads as it did. -/
def g1GroupsUptoRow : OpenClaim := { program := "ytcedljbapgmdmaagreat", sum := "2fe7db64b1437f2658eb65c740aa717a7116a32bb544f4523458c749e5b2d986", func := "pharos/pharoslaw8.G1Groups", spec := "g1Groups", inPlace := ["math/bits.Add64", "math/bits.Sub64"], unfollowed := true, recurses := true, apart := false, narrowed := true }
def G1GroupsUptoSaid : Prop := g1GroupsUptoRow.holds Tryz.pinned (OpenSpec.upto g1GroupsSpec)

/-- 'pharoslaw8.G1Laws', WHERE WHAT IT READS IS OF BULK AT MOST 1048576: true; the input reads as it did. -/
def g1LawsUptoRow : OpenClaim := { program := "ytcedljbapgmdmaagreat", sum := "2fe7db64b1437f2658eb65c740aa717a7116a32bb544f4523458c749e5b2d986", func := "pharos/pharoslaw8.G1Laws", spec := "g1Laws", inPlace := ["math/bits.Add64", "math/bits.Sub64"], unfollowed := true, recurses := true, apart := false, narrowed := true }
def G1LawsUptoSaid : Prop := g1LawsUptoRow.holds Tryz.pinned (OpenSpec.upto g1LawsSpec)

end Rows
end Go.Proofs.YtcedljbapgmdmaaGreat
