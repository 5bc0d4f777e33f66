/-
  No cell of these rows narrows 'for every input' (looked for: loops, veiled, ifaces, maps, wideKeys, modest, calm, conditions, laid).
  DERIVED. THE GIVEN ROWS OF THIS SEAT. 10 by the template 'for every input the law returns true; each argument reads behind the call as it read before'; 0 by the template 'total and deterministic' (their statements: YtjhjockdkpgpeaaTotals.lean).
  GIVEN WITH THE SEED: the statements are not yours to turn. If you find one false, say at which input.
  Laid BY PROGRAM, IN A SANDBOX (cutbox-rows.mjs): the forced cells as the released guide's own fill.sh prints them over the translation a963026c4c292528… (all of the seat's roots in one cut). By AI agents, Wed Nov 11 2026. No macro, syntax, notation, axiom, sorry.
-/
import Derived.Test.YtjhjockdkpgpeaaChecked
import GoSem.Claim
import GoSem.ClaimJoined
import GoSem.ClaimMapViews
import Derived.JoinedTies
import Derived.KernelRfl
namespace Go.Proofs.Ytjhjockdkpgpeaa
/- THE CELL 'sum', in the pinned program and in every row, IS THE sha256 OF THE DUMP (.gsa) THAT YtjhjockdkpgpeaaProg.lean LOADS. Nothing in Lean hashes anything: it is a label: what it is worth is what the hold of that sum in a sandbox is worth. -/
noncomputable def Try.pinned : Pinned := { name := "ytjhjockdkpgpeaa", sum := "a963026c4c29252848baeab43540f653e3b8c6f778c56ac237ea9c0f747895dc", checked := Try.checked }
namespace Rows
def none {H : Type} : Left H := { results := [], args := [] }

/-- 'pharoslaw17.SszWrites': WHATEVER THE INPUT: true; the input reads as it did. -/
def sszWritesSpec : ChangeSpec := { name := "sszWrites", fn := fun _ => fun
  | [d] => { results := [.lit (.bool true)], args := [d] }
  | _ => none }
def sszWritesRow : OpenClaim := { program := "ytjhjockdkpgpeaa", sum := "a963026c4c29252848baeab43540f653e3b8c6f778c56ac237ea9c0f747895dc", func := "pharos/pharoslaw17.SszWrites", spec := "sszWrites", apart := false }
def SszWritesSaid : Prop := sszWritesRow.holds Try.pinned (OpenSpec.ofChange sszWritesSpec)

/-- ITS FALSE NEIGHBOUR: 'it returns false'. Refute it at one input. -/
def sszWritesWrong : ChangeSpec := { name := "sszWrites", fn := fun _ => fun
  | [d] => { results := [.lit (.bool false)], args := [d] }
  | _ => none }
def SszWritesWrongFalsely : Prop := sszWritesRow.holds Try.pinned (OpenSpec.ofChange sszWritesWrong)

/-- 'pharoslaw17.SszBits': WHATEVER THE INPUT: true; the input reads as it did. -/
def sszBitsSpec : ChangeSpec := { name := "sszBits", fn := fun _ => fun
  | [d1, d2] => { results := [.lit (.bool true)], args := [d1, d2] }
  | _ => none }
def sszBitsRow : OpenClaim := { program := "ytjhjockdkpgpeaa", sum := "a963026c4c29252848baeab43540f653e3b8c6f778c56ac237ea9c0f747895dc", func := "pharos/pharoslaw17.SszBits", spec := "sszBits", apart := false }
def SszBitsSaid : Prop := sszBitsRow.holds Try.pinned (OpenSpec.ofChange sszBitsSpec)

/-- ITS FALSE NEIGHBOUR: 'it returns false'. Refute it at one input. -/
def sszBitsWrong : ChangeSpec := { name := "sszBits", fn := fun _ => fun
  | [d1, d2] => { results := [.lit (.bool false)], args := [d1, d2] }
  | _ => none }
def SszBitsWrongFalsely : Prop := sszBitsRow.holds Try.pinned (OpenSpec.ofChange sszBitsWrong)

/-- 'pharoslaw17.SszChunks': WHATEVER THE INPUT: true; the input reads as it did. -/
def sszChunksSpec : ChangeSpec := { name := "sszChunks", fn := fun _ => fun
  | [d1, d2] => { results := [.lit (.bool true)], args := [d1, d2] }
  | _ => none }
def sszChunksRow : OpenClaim := { program := "ytjhjockdkpgpeaa", sum := "a963026c4c29252848baeab43540f653e3b8c6f778c56ac237ea9c0f747895dc", func := "pharos/pharoslaw17.SszChunks", spec := "sszChunks", apart := false }
def SszChunksSaid : Prop := sszChunksRow.holds Try.pinned (OpenSpec.ofChange sszChunksSpec)

/-- ITS FALSE NEIGHBOUR: 'it returns false'. Refute it at one input. -/
def sszChunksWrong : ChangeSpec := { name := "sszChunks", fn := fun _ => fun
  | [d1, d2] => { results := [.lit (.bool false)], args := [d1, d2] }
  | _ => none }
def SszChunksWrongFalsely : Prop := sszChunksRow.holds Try.pinned (OpenSpec.ofChange sszChunksWrong)

/-- 'pharoslaw17.SszReads': WHATEVER THE INPUT: true; the input reads as it did. -/
def sszReadsSpec : ChangeSpec := { name := "sszReads", fn := fun _ => fun
  | [d1, d2] => { results := [.lit (.bool true)], args := [d1, d2] }
  | _ => none }
def sszReadsRow : OpenClaim := { program := "ytjhjockdkpgpeaa", sum := "a963026c4c29252848baeab43540f653e3b8c6f778c56ac237ea9c0f747895dc", func := "pharos/pharoslaw17.SszReads", spec := "sszReads", apart := false }
def SszReadsSaid : Prop := sszReadsRow.holds Try.pinned (OpenSpec.ofChange sszReadsSpec)

/-- ITS FALSE NEIGHBOUR: 'it returns false'. Refute it at one input. -/
def sszReadsWrong : ChangeSpec := { name := "sszReads", fn := fun _ => fun
  | [d1, d2] => { results := [.lit (.bool false)], args := [d1, d2] }
  | _ => none }
def SszReadsWrongFalsely : Prop := sszReadsRow.holds Try.pinned (OpenSpec.ofChange sszReadsWrong)

/-- 'pharoslaw17.SszBack': WHATEVER THE INPUT: true; the input reads as it did. -/
def sszBackSpec : ChangeSpec := { name := "sszBack", fn := fun _ => fun
  | [d1, d2] => { results := [.lit (.bool true)], args := [d1, d2] }
  | _ => none }
def sszBackRow : OpenClaim := { program := "ytjhjockdkpgpeaa", sum := "a963026c4c29252848baeab43540f653e3b8c6f778c56ac237ea9c0f747895dc", func := "pharos/pharoslaw17.SszBack", spec := "sszBack", apart := false }
def SszBackSaid : Prop := sszBackRow.holds Try.pinned (OpenSpec.ofChange sszBackSpec)

/-- ITS FALSE NEIGHBOUR: 'it returns false'. Refute it at one input. -/
def sszBackWrong : ChangeSpec := { name := "sszBack", fn := fun _ => fun
  | [d1, d2] => { results := [.lit (.bool false)], args := [d1, d2] }
  | _ => none }
def SszBackWrongFalsely : Prop := sszBackRow.holds Try.pinned (OpenSpec.ofChange sszBackWrong)

/-- 'pharoslaw19.TypesSizes': WHATEVER THE INPUT: true; the input reads as it did. -/
def typesSizesSpec : ChangeSpec := { name := "typesSizes", fn := fun _ => fun
  | [d] => { results := [.lit (.bool true)], args := [d] }
  | _ => none }
def typesSizesRow : OpenClaim := { program := "ytjhjockdkpgpeaa", sum := "a963026c4c29252848baeab43540f653e3b8c6f778c56ac237ea9c0f747895dc", func := "pharos/pharoslaw19.TypesSizes", spec := "typesSizes", unfollowed := true, recurses := true, apart := false }
def TypesSizesSaid : Prop := typesSizesRow.holds Try.pinned (OpenSpec.ofChange typesSizesSpec)

/-- ITS FALSE NEIGHBOUR: 'it returns false'. Refute it at one input. -/
def typesSizesWrong : ChangeSpec := { name := "typesSizes", fn := fun _ => fun
  | [d] => { results := [.lit (.bool false)], args := [d] }
  | _ => none }
def TypesSizesWrongFalsely : Prop := typesSizesRow.holds Try.pinned (OpenSpec.ofChange typesSizesWrong)

/-- 'pharoslaw19.TypesPads': WHATEVER THE INPUT: true; the input reads as it did. -/
def typesPadsSpec : ChangeSpec := { name := "typesPads", fn := fun _ => fun
  | [d1, d2, d3] => { results := [.lit (.bool true)], args := [d1, d2, d3] }
  | _ => none }
def typesPadsRow : OpenClaim := { program := "ytjhjockdkpgpeaa", sum := "a963026c4c29252848baeab43540f653e3b8c6f778c56ac237ea9c0f747895dc", func := "pharos/pharoslaw19.TypesPads", spec := "typesPads", unfollowed := true, recurses := true, apart := false }
def TypesPadsSaid : Prop := typesPadsRow.holds Try.pinned (OpenSpec.ofChange typesPadsSpec)

/-- ITS FALSE NEIGHBOUR: 'it returns false'. Refute it at one input. -/
def typesPadsWrong : ChangeSpec := { name := "typesPads", fn := fun _ => fun
  | [d1, d2, d3] => { results := [.lit (.bool false)], args := [d1, d2, d3] }
  | _ => none }
def TypesPadsWrongFalsely : Prop := typesPadsRow.holds Try.pinned (OpenSpec.ofChange typesPadsWrong)

/-- 'pharoslaw19.TypesDecode': WHATEVER THE INPUT: true; the input reads as it did. -/
def typesDecodeSpec : ChangeSpec := { name := "typesDecode", fn := fun _ => fun
  | [d1, d2] => { results := [.lit (.bool true)], args := [d1, d2] }
  | _ => none }
def typesDecodeRow : OpenClaim := { program := "ytjhjockdkpgpeaa", sum := "a963026c4c29252848baeab43540f653e3b8c6f778c56ac237ea9c0f747895dc", func := "pharos/pharoslaw19.TypesDecode", spec := "typesDecode", unfollowed := true, recurses := true, apart := false }
def TypesDecodeSaid : Prop := typesDecodeRow.holds Try.pinned (OpenSpec.ofChange typesDecodeSpec)

/-- ITS FALSE NEIGHBOUR: 'it returns false'. Refute it at one input. -/
def typesDecodeWrong : ChangeSpec := { name := "typesDecode", fn := fun _ => fun
  | [d1, d2] => { results := [.lit (.bool false)], args := [d1, d2] }
  | _ => none }
def TypesDecodeWrongFalsely : Prop := typesDecodeRow.holds Try.pinned (OpenSpec.ofChange typesDecodeWrong)

/-- 'pharoslaw19.TypesBack': WHATEVER THE INPUT: true; the input reads as it did. -/
def typesBackSpec : ChangeSpec := { name := "typesBack", fn := fun _ => fun
  | [d1, d2, d3] => { results := [.lit (.bool true)], args := [d1, d2, d3] }
  | _ => none }
def typesBackRow : OpenClaim := { program := "ytjhjockdkpgpeaa", sum := "a963026c4c29252848baeab43540f653e3b8c6f778c56ac237ea9c0f747895dc", func := "pharos/pharoslaw19.TypesBack", spec := "typesBack", unfollowed := true, recurses := true, apart := false }
def TypesBackSaid : Prop := typesBackRow.holds Try.pinned (OpenSpec.ofChange typesBackSpec)

/-- ITS FALSE NEIGHBOUR: 'it returns false'. Refute it at one input. -/
def typesBackWrong : ChangeSpec := { name := "typesBack", fn := fun _ => fun
  | [d1, d2, d3] => { results := [.lit (.bool false)], args := [d1, d2, d3] }
  | _ => none }
def TypesBackWrongFalsely : Prop := typesBackRow.holds Try.pinned (OpenSpec.ofChange typesBackWrong)

/-- 'pharoslaw19.TypesOnce': WHATEVER THE INPUT: true; the input reads as it did. -/
def typesOnceSpec : ChangeSpec := { name := "typesOnce", fn := fun _ => fun
  | [d1, d2] => { results := [.lit (.bool true)], args := [d1, d2] }
  | _ => none }
def typesOnceRow : OpenClaim := { program := "ytjhjockdkpgpeaa", sum := "a963026c4c29252848baeab43540f653e3b8c6f778c56ac237ea9c0f747895dc", func := "pharos/pharoslaw19.TypesOnce", spec := "typesOnce", unfollowed := true, recurses := true, apart := false }
def TypesOnceSaid : Prop := typesOnceRow.holds Try.pinned (OpenSpec.ofChange typesOnceSpec)

/-- ITS FALSE NEIGHBOUR: 'it returns false'. Refute it at one input. -/
def typesOnceWrong : ChangeSpec := { name := "typesOnce", fn := fun _ => fun
  | [d1, d2] => { results := [.lit (.bool false)], args := [d1, d2] }
  | _ => none }
def TypesOnceWrongFalsely : Prop := typesOnceRow.holds Try.pinned (OpenSpec.ofChange typesOnceWrong)

/- THE SECOND FORM. 'bulk': how many values and letters a reading holds, each counted each time it is reached (what is shared counts as often as it is met; a slice's spare places count too). A statement '..UptoSaid' is the law's where the arguments, and the package variables that the reading takes, are together of bulk at most 1048576: NARROWER than '..Said'. Prove '..Said' where nothing that the law and all that it calls make is longer than what came in: it says more and counts as full. Else prove '..UptoSaid'. A law counts once. -/
mutual
def uptoBulk {H : Type} : DataW H → Nat
  | .lit (.string bytes) => bytes.length + 1
  | .lit _ => 1
  | .nil => 1
  | .ptr d => uptoBulk d + 1
  | .slice elems spare => uptoBulkAll elems + uptoBulkAll spare + 1
  | .agg parts => uptoBulkAll parts + 1
  | .iface _ d => uptoBulk d + 1
  | .map entries => uptoBulkEntries entries + 1
  | .held _ => 1
def uptoBulkAll {H : Type} : List (DataW H) → Nat
  | [] => 0
  | d :: r => uptoBulk d + uptoBulkAll r
def uptoBulkEntries {H : Type} : List (Lit × DataW H) → Nat
  | [] => 0
  | x :: r => uptoBulkEntry x + uptoBulkEntries r
def uptoBulkEntry {H : Type} : Lit × DataW H → Nat
  | (.string bytes, d) => bytes.length + uptoBulk d + 1
  | (_, d) => uptoBulk d + 1
 end
def uptoSmall : (H : Type) → List (DataW H) → Bool := fun _ ds => decide (uptoBulkAll ds ≤ 1048576)
def OpenSpec.upto (s : _root_.Go.ChangeSpec) : _root_.Go.OpenSpec := { _root_.Go.OpenSpec.ofChange s with cond := some uptoSmall }

/-- 'pharoslaw17.SszWrites', WHERE WHAT IT READS IS OF BULK AT MOST 1048576: true; the input reads as it did. -/
def sszWritesUptoRow : OpenClaim := { program := "ytjhjockdkpgpeaa", sum := "a963026c4c29252848baeab43540f653e3b8c6f778c56ac237ea9c0f747895dc", func := "pharos/pharoslaw17.SszWrites", spec := "sszWrites", apart := false, narrowed := true }
def SszWritesUptoSaid : Prop := sszWritesUptoRow.holds Try.pinned (OpenSpec.upto sszWritesSpec)

/-- 'pharoslaw17.SszBits', WHERE WHAT IT READS IS OF BULK AT MOST 1048576: true; the input reads as it did. -/
def sszBitsUptoRow : OpenClaim := { program := "ytjhjockdkpgpeaa", sum := "a963026c4c29252848baeab43540f653e3b8c6f778c56ac237ea9c0f747895dc", func := "pharos/pharoslaw17.SszBits", spec := "sszBits", apart := false, narrowed := true }
def SszBitsUptoSaid : Prop := sszBitsUptoRow.holds Try.pinned (OpenSpec.upto sszBitsSpec)

/-- 'pharoslaw17.SszChunks', WHERE WHAT IT READS IS OF BULK AT MOST 1048576: true; the input reads as it did. -/
def sszChunksUptoRow : OpenClaim := { program := "ytjhjockdkpgpeaa", sum := "a963026c4c29252848baeab43540f653e3b8c6f778c56ac237ea9c0f747895dc", func := "pharos/pharoslaw17.SszChunks", spec := "sszChunks", apart := false, narrowed := true }
def SszChunksUptoSaid : Prop := sszChunksUptoRow.holds Try.pinned (OpenSpec.upto sszChunksSpec)

/-- 'pharoslaw17.SszReads', WHERE WHAT IT READS IS OF BULK AT MOST 1048576: true; the input reads as it did. -/
def sszReadsUptoRow : OpenClaim := { program := "ytjhjockdkpgpeaa", sum := "a963026c4c29252848baeab43540f653e3b8c6f778c56ac237ea9c0f747895dc", func := "pharos/pharoslaw17.SszReads", spec := "sszReads", apart := false, narrowed := true }
def SszReadsUptoSaid : Prop := sszReadsUptoRow.holds Try.pinned (OpenSpec.upto sszReadsSpec)

/-- 'pharoslaw17.SszBack', WHERE WHAT IT READS IS OF BULK AT MOST 1048576: true; the input reads as it did. -/
def sszBackUptoRow : OpenClaim := { program := "ytjhjockdkpgpeaa", sum := "a963026c4c29252848baeab43540f653e3b8c6f778c56ac237ea9c0f747895dc", func := "pharos/pharoslaw17.SszBack", spec := "sszBack", apart := false, narrowed := true }
def SszBackUptoSaid : Prop := sszBackUptoRow.holds Try.pinned (OpenSpec.upto sszBackSpec)

/-- 'pharoslaw19.TypesSizes', WHERE WHAT IT READS IS OF BULK AT MOST 1048576: true; the input reads as it did. -/
def typesSizesUptoRow : OpenClaim := { program := "ytjhjockdkpgpeaa", sum := "a963026c4c29252848baeab43540f653e3b8c6f778c56ac237ea9c0f747895dc", func := "pharos/pharoslaw19.TypesSizes", spec := "typesSizes", unfollowed := true, recurses := true, apart := false, narrowed := true }
def TypesSizesUptoSaid : Prop := typesSizesUptoRow.holds Try.pinned (OpenSpec.upto typesSizesSpec)

/-- 'pharoslaw19.TypesPads', WHERE WHAT IT READS IS OF BULK AT MOST 1048576: true; the input reads as it did. -/
def typesPadsUptoRow : OpenClaim := { program := "ytjhjockdkpgpeaa", sum := "a963026c4c29252848baeab43540f653e3b8c6f778c56ac237ea9c0f747895dc", func := "pharos/pharoslaw19.TypesPads", spec := "typesPads", unfollowed := true, recurses := true, apart := false, narrowed := true }
def TypesPadsUptoSaid : Prop := typesPadsUptoRow.holds Try.pinned (OpenSpec.upto typesPadsSpec)

/-- 'pharoslaw19.TypesDecode', WHERE WHAT IT READS IS OF BULK AT MOST 1048576: true; the input reads as it did. -/
def typesDecodeUptoRow : OpenClaim := { program := "ytjhjockdkpgpeaa", sum := "a963026c4c29252848baeab43540f653e3b8c6f778c56ac237ea9c0f747895dc", func := "pharos/pharoslaw19.TypesDecode", spec := "typesDecode", unfollowed := true, recurses := true, apart := false, narrowed := true }
def TypesDecodeUptoSaid : Prop := typesDecodeUptoRow.holds Try.pinned (OpenSpec.upto typesDecodeSpec)

/-- 'pharoslaw19.TypesBack', WHERE WHAT IT READS IS OF BULK AT MOST 1048576: true; the input reads as it did. -/
def typesBackUptoRow : OpenClaim := { program := "ytjhjockdkpgpeaa", sum := "a963026c4c29252848baeab43540f653e3b8c6f778c56ac237ea9c0f747895dc", func := "pharos/pharoslaw19.TypesBack", spec := "typesBack", unfollowed := true, recurses := true, apart := false, narrowed := true }
def TypesBackUptoSaid : Prop := typesBackUptoRow.holds Try.pinned (OpenSpec.upto typesBackSpec)

/-- 'pharoslaw19.TypesOnce', WHERE WHAT IT READS IS OF BULK AT MOST 1048576: true; the input reads as it did. -/
def typesOnceUptoRow : OpenClaim := { program := "ytjhjockdkpgpeaa", sum := "a963026c4c29252848baeab43540f653e3b8c6f778c56ac237ea9c0f747895dc", func := "pharos/pharoslaw19.TypesOnce", spec := "typesOnce", unfollowed := true, recurses := true, apart := false, narrowed := true }
def TypesOnceUptoSaid : Prop := typesOnceUptoRow.holds Try.pinned (OpenSpec.upto typesOnceSpec)

end Rows
end Go.Proofs.Ytjhjockdkpgpeaa
