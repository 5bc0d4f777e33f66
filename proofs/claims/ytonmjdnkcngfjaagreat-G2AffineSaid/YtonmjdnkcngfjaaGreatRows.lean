/-
  No cell of these rows narrows 'for every input' (looked for: loops, veiled, ifaces, maps, wideKeys, modest, calm, conditions, laid).
  DERIVED. THE GIVEN ROWS OF THIS SEAT. 7 by the template 'for every input the law returns true; each argument reads behind the call as it read before'; 0 by the template 'total and deterministic' (their statements: YtonmjdnkcngfjaaGreatTotals.lean).
  GIVEN WITH THE SEED: the statements are not yours to turn. If you find one false, say at which input.
  Laid BY PROGRAM, IN A SANDBOX (cutbox-rows.mjs): the forced cells as the released guide's own fill.sh prints them over the translation 461a85e9d9978150… (all of the seat's roots in one cut). By AI agents, Wed Nov 11 2026. No macro, syntax, notation, axiom, sorry.
-/
import Derived.Test.YtonmjdnkcngfjaaGreatChecked
import GoSem.Claim
import GoSem.ClaimJoined
import GoSem.ClaimMapViews
import Derived.JoinedTies
import Derived.KernelRfl
namespace Go.Proofs.YtonmjdnkcngfjaaGreat
/- THE CELL 'sum', in the pinned program and in every row, IS THE sha256 OF THE DUMP (.gsa) THAT YtonmjdnkcngfjaaGreatProg.lean LOADS. Nothing in Lean hashes anything: it is a label: what it is worth is what the hold of that sum in a sandbox is worth. -/
noncomputable def Tryz.pinned : Pinned := { name := "ytonmjdnkcngfjaagreat", sum := "461a85e9d997815038f8ff324629573d868d8fe4cb1733fe5a06f6b954800110", checked := Tryz.checked }
namespace Rows
def none {H : Type} : Left H := { results := [], args := [] }

/-- 'pharoslaw9.G2Affine': WHATEVER THE INPUT: true; the input reads as it did. -/
def g2AffineSpec : ChangeSpec := { name := "g2Affine", fn := fun _ => fun
  | [d1, d2] => { results := [.lit (.bool true)], args := [d1, d2] }
  | _ => none }
def g2AffineRow : OpenClaim := { program := "ytonmjdnkcngfjaagreat", sum := "461a85e9d997815038f8ff324629573d868d8fe4cb1733fe5a06f6b954800110", func := "pharos/pharoslaw9.G2Affine", spec := "g2Affine", inPlace := ["math/bits.Add64", "math/bits.Sub64"], unfollowed := true, recurses := true, apart := false }
def G2AffineSaid : Prop := g2AffineRow.holds Tryz.pinned (OpenSpec.ofChange g2AffineSpec)

/-- ITS FALSE NEIGHBOUR: 'it returns false'. Refute it at one input. -/
def g2AffineWrong : ChangeSpec := { name := "g2Affine", fn := fun _ => fun
  | [d1, d2] => { results := [.lit (.bool false)], args := [d1, d2] }
  | _ => none }
def G2AffineWrongFalsely : Prop := g2AffineRow.holds Tryz.pinned (OpenSpec.ofChange g2AffineWrong)

/-- 'pharoslaw9.G2Scalars': WHATEVER THE INPUT: true; the input reads as it did. -/
def g2ScalarsSpec : ChangeSpec := { name := "g2Scalars", fn := fun _ => fun
  | [d1, d2, d3] => { results := [.lit (.bool true)], args := [d1, d2, d3] }
  | _ => none }
def g2ScalarsRow : OpenClaim := { program := "ytonmjdnkcngfjaagreat", sum := "461a85e9d997815038f8ff324629573d868d8fe4cb1733fe5a06f6b954800110", func := "pharos/pharoslaw9.G2Scalars", spec := "g2Scalars", inPlace := ["math/bits.Add64", "math/bits.Sub64"], unfollowed := true, recurses := true, apart := false }
def G2ScalarsSaid : Prop := g2ScalarsRow.holds Tryz.pinned (OpenSpec.ofChange g2ScalarsSpec)

/-- ITS FALSE NEIGHBOUR: 'it returns false'. Refute it at one input. -/
def g2ScalarsWrong : ChangeSpec := { name := "g2Scalars", fn := fun _ => fun
  | [d1, d2, d3] => { results := [.lit (.bool false)], args := [d1, d2, d3] }
  | _ => none }
def G2ScalarsWrongFalsely : Prop := g2ScalarsRow.holds Tryz.pinned (OpenSpec.ofChange g2ScalarsWrong)

/-- 'pharoslaw9.G2Lifts': WHATEVER THE INPUT: true; the input reads as it did. -/
def g2LiftsSpec : ChangeSpec := { name := "g2Lifts", fn := fun _ => fun
  | [d1, d2] => { results := [.lit (.bool true)], args := [d1, d2] }
  | _ => none }
def g2LiftsRow : OpenClaim := { program := "ytonmjdnkcngfjaagreat", sum := "461a85e9d997815038f8ff324629573d868d8fe4cb1733fe5a06f6b954800110", func := "pharos/pharoslaw9.G2Lifts", spec := "g2Lifts", inPlace := ["math/bits.Add64", "math/bits.Sub64"], unfollowed := true, recurses := true, apart := false }
def G2LiftsSaid : Prop := g2LiftsRow.holds Tryz.pinned (OpenSpec.ofChange g2LiftsSpec)

/-- ITS FALSE NEIGHBOUR: 'it returns false'. Refute it at one input. -/
def g2LiftsWrong : ChangeSpec := { name := "g2Lifts", fn := fun _ => fun
  | [d1, d2] => { results := [.lit (.bool false)], args := [d1, d2] }
  | _ => none }
def G2LiftsWrongFalsely : Prop := g2LiftsRow.holds Tryz.pinned (OpenSpec.ofChange g2LiftsWrong)

/-- 'pharoslaw9.G2Adds': WHATEVER THE INPUT: true; the input reads as it did. -/
def g2AddsSpec : ChangeSpec := { name := "g2Adds", fn := fun _ => fun
  | [d1, d2, d3, d4, d5, d6, d7, d8] => { results := [.lit (.bool true)], args := [d1, d2, d3, d4, d5, d6, d7, d8] }
  | _ => none }
def g2AddsRow : OpenClaim := { program := "ytonmjdnkcngfjaagreat", sum := "461a85e9d997815038f8ff324629573d868d8fe4cb1733fe5a06f6b954800110", func := "pharos/pharoslaw9.G2Adds", spec := "g2Adds", inPlace := ["math/bits.Add64", "math/bits.Sub64"], unfollowed := true, recurses := true, apart := false }
def G2AddsSaid : Prop := g2AddsRow.holds Tryz.pinned (OpenSpec.ofChange g2AddsSpec)

/-- ITS FALSE NEIGHBOUR: 'it returns false'. Refute it at one input. -/
def g2AddsWrong : ChangeSpec := { name := "g2Adds", fn := fun _ => fun
  | [d1, d2, d3, d4, d5, d6, d7, d8] => { results := [.lit (.bool false)], args := [d1, d2, d3, d4, d5, d6, d7, d8] }
  | _ => none }
def G2AddsWrongFalsely : Prop := g2AddsRow.holds Tryz.pinned (OpenSpec.ofChange g2AddsWrong)

/-- 'pharoslaw9.G2Times': WHATEVER THE INPUT: true; the input reads as it did. -/
def g2TimesSpec : ChangeSpec := { name := "g2Times", fn := fun _ => fun
  | [d1, d2, d3, d4] => { results := [.lit (.bool true)], args := [d1, d2, d3, d4] }
  | _ => none }
def g2TimesRow : OpenClaim := { program := "ytonmjdnkcngfjaagreat", sum := "461a85e9d997815038f8ff324629573d868d8fe4cb1733fe5a06f6b954800110", func := "pharos/pharoslaw9.G2Times", spec := "g2Times", inPlace := ["math/bits.Add64", "math/bits.Sub64"], unfollowed := true, recurses := true, apart := false }
def G2TimesSaid : Prop := g2TimesRow.holds Tryz.pinned (OpenSpec.ofChange g2TimesSpec)

/-- ITS FALSE NEIGHBOUR: 'it returns false'. Refute it at one input. -/
def g2TimesWrong : ChangeSpec := { name := "g2Times", fn := fun _ => fun
  | [d1, d2, d3, d4] => { results := [.lit (.bool false)], args := [d1, d2, d3, d4] }
  | _ => none }
def G2TimesWrongFalsely : Prop := g2TimesRow.holds Tryz.pinned (OpenSpec.ofChange g2TimesWrong)

/-- 'pharoslaw9.G2Groups': WHATEVER THE INPUT: true; the input reads as it did. -/
def g2GroupsSpec : ChangeSpec := { name := "g2Groups", fn := fun _ => fun
  | [d1, d2, d3] => { results := [.lit (.bool true)], args := [d1, d2, d3] }
  | _ => none }
def g2GroupsRow : OpenClaim := { program := "ytonmjdnkcngfjaagreat", sum := "461a85e9d997815038f8ff324629573d868d8fe4cb1733fe5a06f6b954800110", func := "pharos/pharoslaw9.G2Groups", spec := "g2Groups", inPlace := ["math/bits.Add64", "math/bits.Sub64"], unfollowed := true, recurses := true, apart := false }
def G2GroupsSaid : Prop := g2GroupsRow.holds Tryz.pinned (OpenSpec.ofChange g2GroupsSpec)

/-- ITS FALSE NEIGHBOUR: 'it returns false'. Refute it at one input. -/
def g2GroupsWrong : ChangeSpec := { name := "g2Groups", fn := fun _ => fun
  | [d1, d2, d3] => { results := [.lit (.bool false)], args := [d1, d2, d3] }
  | _ => none }
def G2GroupsWrongFalsely : Prop := g2GroupsRow.holds Tryz.pinned (OpenSpec.ofChange g2GroupsWrong)

/-- 'pharoslaw9.G2Laws': WHATEVER THE INPUT: true; the input reads as it did. -/
def g2LawsSpec : ChangeSpec := { name := "g2Laws", fn := fun _ => fun
  | [d1, d2, d3, d4, d5] => { results := [.lit (.bool true)], args := [d1, d2, d3, d4, d5] }
  | _ => none }
def g2LawsRow : OpenClaim := { program := "ytonmjdnkcngfjaagreat", sum := "461a85e9d997815038f8ff324629573d868d8fe4cb1733fe5a06f6b954800110", func := "pharos/pharoslaw9.G2Laws", spec := "g2Laws", inPlace := ["math/bits.Add64", "math/bits.Sub64"], unfollowed := true, recurses := true, apart := false }
def G2LawsSaid : Prop := g2LawsRow.holds Tryz.pinned (OpenSpec.ofChange g2LawsSpec)

/-- ITS FALSE NEIGHBOUR: 'it returns false'. Refute it at one input. -/
def g2LawsWrong : ChangeSpec := { name := "g2Laws", fn := fun _ => fun
  | [d1, d2, d3, d4, d5] => { results := [.lit (.bool false)], args := [d1, d2, d3, d4, d5] }
  | _ => none }
def G2LawsWrongFalsely : Prop := g2LawsRow.holds Tryz.pinned (OpenSpec.ofChange g2LawsWrong)

/- THE SECOND FORM. 'bulk': how many values and letters a reading holds, each counted each time it is reached (what is shared counts as often as it is met; a slice's spare places count too). A statement '..UptoSaid' is the law's where the arguments, and the package variables that the reading takes, are together of bulk at most 1048576: NARROWER than '..Said'. Prove '..Said' where nothing that the law and all that it calls make is longer than what came in: it says more and counts as full. Else prove '..UptoSaid'. A law counts once. -/
mutual
def uptoBulk {H : Type} : DataW H → Nat
  | .lit (.string bytes) => bytes.length + 1
  | .lit _ => 1
  | .nil => 1
  | .ptr d => uptoBulk d + 1
  | .slice elems spare => uptoBulkAll elems + uptoBulkAll spare + 1
  | .agg parts => uptoBulkAll parts + 1
  | .iface _ d => uptoBulk d + 1
  | .map entries => uptoBulkEntries entries + 1
  | .held _ => 1
def uptoBulkAll {H : Type} : List (DataW H) → Nat
  | [] => 0
  | d :: r => uptoBulk d + uptoBulkAll r
def uptoBulkEntries {H : Type} : List (Lit × DataW H) → Nat
  | [] => 0
  | x :: r => uptoBulkEntry x + uptoBulkEntries r
def uptoBulkEntry {H : Type} : Lit × DataW H → Nat
  | (.string bytes, d) => bytes.length + uptoBulk d + 1
  | (_, d) => uptoBulk d + 1
 end
def uptoSmall : (H : Type) → List (DataW H) → Bool := fun _ ds => decide (uptoBulkAll ds ≤ 1048576)
def OpenSpec.upto (s : _root_.Go.ChangeSpec) : _root_.Go.OpenSpec := { _root_.Go.OpenSpec.ofChange s with cond := some uptoSmall }

/-- 'pharoslaw9.G2Affine', WHERE WHAT IT READS IS OF BULK AT MOST 1048576: true; the input reads as it did. -/
def g2AffineUptoRow : OpenClaim := { program := "ytonmjdnkcngfjaagreat", sum := "461a85e9d997815038f8ff324629573d868d8fe4cb1733fe5a06f6b954800110", func := "pharos/pharoslaw9.G2Affine", spec := "g2Affine", inPlace := ["math/bits.Add64", "math/bits.Sub64"], unfollowed := true, recurses := true, apart := false, narrowed := true }
def G2AffineUptoSaid : Prop := g2AffineUptoRow.holds Tryz.pinned (OpenSpec.upto g2AffineSpec)

/-- 'pharoslaw9.G2Scalars', WHERE WHAT IT READS IS OF BULK AT MOST 1048576: true; the input reads as it did. -/
def g2ScalarsUptoRow : OpenClaim := { program := "ytonmjdnkcngfjaagreat", sum := "461a85e9d997815038f8ff324629573d868d8fe4cb1733fe5a06f6b954800110", func := "pharos/pharoslaw9.G2Scalars", spec := "g2Scalars", inPlace := ["math/bits.Add64", "math/bits.Sub64"], unfollowed := true, recurses := true, apart := false, narrowed := true }
def G2ScalarsUptoSaid : Prop := g2ScalarsUptoRow.holds Tryz.pinned (OpenSpec.upto g2ScalarsSpec)

/-- 'pharoslaw9.G2Lifts', WHERE WHAT IT READS IS OF BULK AT MOST 1048576: true; the input reads as it did. -/
def g2LiftsUptoRow : OpenClaim := { program := "ytonmjdnkcngfjaagreat", sum := "461a85e9d997815038f8ff324629573d868d8fe4cb1733fe5a06f6b954800110", func := "pharos/pharoslaw9.G2Lifts", spec := "g2Lifts", inPlace := ["math/bits.Add64", "math/bits.Sub64"], unfollowed := true, recurses := true, apart := false, narrowed := true }
def G2LiftsUptoSaid : Prop := g2LiftsUptoRow.holds Tryz.pinned (OpenSpec.upto g2LiftsSpec)

/-- 'pharoslaw9.G2Adds', WHERE WHAT IT READS IS OF BULK AT MOST 1048576: true; the input reads as it did. -/
def g2AddsUptoRow : OpenClaim := { program := "ytonmjdnkcngfjaagreat", sum := "461a85e9d997815038f8ff324629573d868d8fe4cb1733fe5a06f6b954800110", func := "pharos/pharoslaw9.G2Adds", spec := "g2Adds", inPlace := ["math/bits.Add64", "math/bits.Sub64"], unfollowed := true, recurses := true, apart := false, narrowed := true }
def G2AddsUptoSaid : Prop := g2AddsUptoRow.holds Tryz.pinned (OpenSpec.upto g2AddsSpec)

/-- 'pharoslaw9.G2Times', WHERE WHAT IT READS IS OF BULK AT MOST 1048576: true; the input reads as it did. -/
def g2TimesUptoRow : OpenClaim := { program := "ytonmjdnkcngfjaagreat", sum := "461a85e9d997815038f8ff324629573d868d8fe4cb1733fe5a06f6b954800110", func := "pharos/pharoslaw9.G2Times", spec := "g2Times", inPlace := ["math/bits.Add64", "math/bits.Sub64"], unfollowed := true, recurses := true, apart := false, narrowed := true }
def G2TimesUptoSaid : Prop := g2TimesUptoRow.holds Tryz.pinned (OpenSpec.upto g2TimesSpec)

/-- 'pharoslaw9.G2Groups', WHERE WHAT IT READS IS OF BULK AT MOST 1048576: true; the input reads as it did. -/
def g2GroupsUptoRow : OpenClaim := { program := "ytonmjdnkcngfjaagreat", sum := "461a85e9d997815038f8ff324629573d868d8fe4cb1733fe5a06f6b954800110", func := "pharos/pharoslaw9.G2Groups", spec := "g2Groups", inPlace := ["math/bits.Add64", "math/bits.Sub64"], unfollowed := true, recurses := true, apart := false, narrowed := true }
def G2GroupsUptoSaid : Prop := g2GroupsUptoRow.holds Tryz.pinned (OpenSpec.upto g2GroupsSpec)

/-- 'pharoslaw9.G2Laws', WHERE WHAT IT READS IS OF BULK AT MOST 1048576: true; the input reads as it did. -/
def g2LawsUptoRow : OpenClaim := { program := "ytonmjdnkcngfjaagreat", sum := "461a85e9d997815038f8ff324629573d868d8fe4cb1733fe5a06f6b954800110", func := "pharos/pharoslaw9.G2Laws", spec := "g2Laws", inPlace := ["math/bits.Add64", "math/bits.Sub64"], unfollowed := true, recurses := true, apart := false, narrowed := true }
def G2LawsUptoSaid : Prop := g2LawsUptoRow.holds Tryz.pinned (OpenSpec.upto g2LawsSpec)

end Rows
end Go.Proofs.YtonmjdnkcngfjaaGreat
