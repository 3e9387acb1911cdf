/-
  No cell of these rows narrows 'for every input' (looked for: loops, veiled, ifaces, maps, wideKeys, modest, calm, conditions, laid).
  DERIVED. THE GIVEN ROWS OF THIS SEAT. 5 by the template 'for every input the law returns true; each argument reads behind the call as it read before'; 0 by the template 'total and deterministic' (their statements: YtipmeclcamllbaaTotals.lean).
  GIVEN WITH THE SEED: the statements are not yours to turn. If you find one false, say at which input.
  Laid BY PROGRAM, IN A SANDBOX (cutbox-rows.mjs): the forced cells as the released guide's own fill.sh prints them over the translation 5b8eba6e9d5208e1… (all of the seat's roots in one cut). By AI agents, Wed Nov 11 2026. No macro, syntax, notation, axiom, sorry.
-/
import Derived.Test.YtipmeclcamllbaaChecked
import GoSem.Claim
import GoSem.ClaimJoined
import GoSem.ClaimMapViews
import Derived.JoinedTies
import Derived.KernelRfl
namespace Go.Proofs.Ytipmeclcamllbaa
/- THE CELL 'sum', in the pinned program and in every row, IS THE sha256 OF THE DUMP (.gsa) THAT YtipmeclcamllbaaProg.lean LOADS. Nothing in Lean hashes anything: it is a label: what it is worth is what the hold of that sum in a sandbox is worth. -/
noncomputable def Try.pinned : Pinned := { name := "ytipmeclcamllbaa", sum := "5b8eba6e9d5208e141421a92cf99b317b148ea01179f2afe27982f5ef211536b", checked := Try.checked }
namespace Rows
def none {H : Type} : Left H := { results := [], args := [] }

/-- 'truchmanlaw09.NameApart': WHATEVER THE INPUT: true; the input reads as it did. -/
def nameApartSpec : ChangeSpec := { name := "nameApart", fn := fun _ => fun
  | [d1, d2] => { results := [.lit (.bool true)], args := [d1, d2] }
  | _ => none }
def nameApartRow : OpenClaim := { program := "ytipmeclcamllbaa", sum := "5b8eba6e9d5208e141421a92cf99b317b148ea01179f2afe27982f5ef211536b", func := "truchman/truchmanlaw09.NameApart", spec := "nameApart", apart := false }
def NameApartSaid : Prop := nameApartRow.holds Try.pinned (OpenSpec.ofChange nameApartSpec)

/-- ITS FALSE NEIGHBOUR: 'it returns false'. Refute it at one input. -/
def nameApartWrong : ChangeSpec := { name := "nameApart", fn := fun _ => fun
  | [d1, d2] => { results := [.lit (.bool false)], args := [d1, d2] }
  | _ => none }
def NameApartWrongFalsely : Prop := nameApartRow.holds Try.pinned (OpenSpec.ofChange nameApartWrong)

/-- 'truchmanlaw09.NameNames': WHATEVER THE INPUT: true; the input reads as it did. -/
def nameNamesSpec : ChangeSpec := { name := "nameNames", fn := fun _ => fun
  | [d1, d2, d3, d4] => { results := [.lit (.bool true)], args := [d1, d2, d3, d4] }
  | _ => none }
def nameNamesRow : OpenClaim := { program := "ytipmeclcamllbaa", sum := "5b8eba6e9d5208e141421a92cf99b317b148ea01179f2afe27982f5ef211536b", func := "truchman/truchmanlaw09.NameNames", spec := "nameNames", apart := false }
def NameNamesSaid : Prop := nameNamesRow.holds Try.pinned (OpenSpec.ofChange nameNamesSpec)

/-- ITS FALSE NEIGHBOUR: 'it returns false'. Refute it at one input. -/
def nameNamesWrong : ChangeSpec := { name := "nameNames", fn := fun _ => fun
  | [d1, d2, d3, d4] => { results := [.lit (.bool false)], args := [d1, d2, d3, d4] }
  | _ => none }
def NameNamesWrongFalsely : Prop := nameNamesRow.holds Try.pinned (OpenSpec.ofChange nameNamesWrong)

/-- 'truchmanlaw09.NameChecks': WHATEVER THE INPUT: true; the input reads as it did. -/
def nameChecksSpec : ChangeSpec := { name := "nameChecks", fn := fun _ => fun
  | [d1, d2, d3, d4] => { results := [.lit (.bool true)], args := [d1, d2, d3, d4] }
  | _ => none }
def nameChecksRow : OpenClaim := { program := "ytipmeclcamllbaa", sum := "5b8eba6e9d5208e141421a92cf99b317b148ea01179f2afe27982f5ef211536b", func := "truchman/truchmanlaw09.NameChecks", spec := "nameChecks", apart := false }
def NameChecksSaid : Prop := nameChecksRow.holds Try.pinned (OpenSpec.ofChange nameChecksSpec)

/-- ITS FALSE NEIGHBOUR: 'it returns false'. Refute it at one input. -/
def nameChecksWrong : ChangeSpec := { name := "nameChecks", fn := fun _ => fun
  | [d1, d2, d3, d4] => { results := [.lit (.bool false)], args := [d1, d2, d3, d4] }
  | _ => none }
def NameChecksWrongFalsely : Prop := nameChecksRow.holds Try.pinned (OpenSpec.ofChange nameChecksWrong)

/-- 'truchmanlaw09.NamePrints': WHATEVER THE INPUT: true; the input reads as it did. -/
def namePrintsSpec : ChangeSpec := { name := "namePrints", fn := fun _ => fun
  | [d1, d2] => { results := [.lit (.bool true)], args := [d1, d2] }
  | _ => none }
def namePrintsRow : OpenClaim := { program := "ytipmeclcamllbaa", sum := "5b8eba6e9d5208e141421a92cf99b317b148ea01179f2afe27982f5ef211536b", func := "truchman/truchmanlaw09.NamePrints", spec := "namePrints", inPlace := ["internal/bytealg.IndexByteString"], apart := false }
def NamePrintsSaid : Prop := namePrintsRow.holds Try.pinned (OpenSpec.ofChange namePrintsSpec)

/-- ITS FALSE NEIGHBOUR: 'it returns false'. Refute it at one input. -/
def namePrintsWrong : ChangeSpec := { name := "namePrints", fn := fun _ => fun
  | [d1, d2] => { results := [.lit (.bool false)], args := [d1, d2] }
  | _ => none }
def NamePrintsWrongFalsely : Prop := namePrintsRow.holds Try.pinned (OpenSpec.ofChange namePrintsWrong)

/-- 'truchmanlaw09.NameScans': WHATEVER THE INPUT: true; the input reads as it did. -/
def nameScansSpec : ChangeSpec := { name := "nameScans", fn := fun _ => fun
  | [d1, d2, d3, d4] => { results := [.lit (.bool true)], args := [d1, d2, d3, d4] }
  | _ => none }
def nameScansRow : OpenClaim := { program := "ytipmeclcamllbaa", sum := "5b8eba6e9d5208e141421a92cf99b317b148ea01179f2afe27982f5ef211536b", func := "truchman/truchmanlaw09.NameScans", spec := "nameScans", inPlace := ["internal/bytealg.IndexByteString"], apart := false }
def NameScansSaid : Prop := nameScansRow.holds Try.pinned (OpenSpec.ofChange nameScansSpec)

/-- ITS FALSE NEIGHBOUR: 'it returns false'. Refute it at one input. -/
def nameScansWrong : ChangeSpec := { name := "nameScans", fn := fun _ => fun
  | [d1, d2, d3, d4] => { results := [.lit (.bool false)], args := [d1, d2, d3, d4] }
  | _ => none }
def NameScansWrongFalsely : Prop := nameScansRow.holds Try.pinned (OpenSpec.ofChange nameScansWrong)

/- THE SECOND FORM. 'bulk': how many values and letters a reading holds, each counted each time it is reached (what is shared counts as often as it is met; a slice's spare places count too). A statement '..UptoSaid' is the law's where the arguments, and the package variables that the reading takes, are together of bulk at most 1048576: NARROWER than '..Said'. Prove '..Said' where nothing that the law and all that it calls make is longer than what came in: it says more and counts as full. Else prove '..UptoSaid'. A law counts once. -/
mutual
def uptoBulk {H : Type} : DataW H → Nat
  | .lit (.string bytes) => bytes.length + 1
  | .lit _ => 1
  | .nil => 1
  | .ptr d => uptoBulk d + 1
  | .slice elems spare => uptoBulkAll elems + uptoBulkAll spare + 1
  | .agg parts => uptoBulkAll parts + 1
  | .iface _ d => uptoBulk d + 1
  | .map entries => uptoBulkEntries entries + 1
  | .held _ => 1
def uptoBulkAll {H : Type} : List (DataW H) → Nat
  | [] => 0
  | d :: r => uptoBulk d + uptoBulkAll r
def uptoBulkEntries {H : Type} : List (Lit × DataW H) → Nat
  | [] => 0
  | x :: r => uptoBulkEntry x + uptoBulkEntries r
def uptoBulkEntry {H : Type} : Lit × DataW H → Nat
  | (.string bytes, d) => bytes.length + uptoBulk d + 1
  | (_, d) => uptoBulk d + 1
 end
def uptoSmall : (H : Type) → List (DataW H) → Bool := fun _ ds => decide (uptoBulkAll ds ≤ 1048576)
def OpenSpec.upto (s : _root_.Go.ChangeSpec) : _root_.Go.OpenSpec := { _root_.Go.OpenSpec.ofChange s with cond := some uptoSmall }

/-- 'truchmanlaw09.NameApart', WHERE WHAT IT READS IS OF BULK AT MOST 1048576: true; the input reads as it did. -/
def nameApartUptoRow : OpenClaim := { program := "ytipmeclcamllbaa", sum := "5b8eba6e9d5208e141421a92cf99b317b148ea01179f2afe27982f5ef211536b", func := "truchman/truchmanlaw09.NameApart", spec := "nameApart", apart := false, narrowed := true }
def NameApartUptoSaid : Prop := nameApartUptoRow.holds Try.pinned (OpenSpec.upto nameApartSpec)

/-- 'truchmanlaw09.NameNames', WHERE WHAT IT READS IS OF BULK AT MOST 1048576: true; the input reads as it did. -/
def nameNamesUptoRow : OpenClaim := { program := "ytipmeclcamllbaa", sum := "5b8eba6e9d5208e141421a92cf99b317b148ea01179f2afe27982f5ef211536b", func := "truchman/truchmanlaw09.NameNames", spec := "nameNames", apart := false, narrowed := true }
def NameNamesUptoSaid : Prop := nameNamesUptoRow.holds Try.pinned (OpenSpec.upto nameNamesSpec)

/-- 'truchmanlaw09.NameChecks', WHERE WHAT IT READS IS OF BULK AT MOST 1048576: true; the input reads as it did. -/
def nameChecksUptoRow : OpenClaim := { program := "ytipmeclcamllbaa", sum := "5b8eba6e9d5208e141421a92cf99b317b148ea01179f2afe27982f5ef211536b", func := "truchman/truchmanlaw09.NameChecks", spec := "nameChecks", apart := false, narrowed := true }
def NameChecksUptoSaid : Prop := nameChecksUptoRow.holds Try.pinned (OpenSpec.upto nameChecksSpec)

/-- 'truchmanlaw09.NamePrints', WHERE WHAT IT READS IS OF BULK AT MOST 1048576: true; the input reads as it did. -/
def namePrintsUptoRow : OpenClaim := { program := "ytipmeclcamllbaa", sum := "5b8eba6e9d5208e141421a92cf99b317b148ea01179f2afe27982f5ef211536b", func := "truchman/truchmanlaw09.NamePrints", spec := "namePrints", inPlace := ["internal/bytealg.IndexByteString"], apart := false, narrowed := true }
def NamePrintsUptoSaid : Prop := namePrintsUptoRow.holds Try.pinned (OpenSpec.upto namePrintsSpec)

/-- 'truchmanlaw09.NameScans', WHERE WHAT IT READS IS OF BULK AT MOST 1048576: true; the input reads as it did. -/
def nameScansUptoRow : OpenClaim := { program := "ytipmeclcamllbaa", sum := "5b8eba6e9d5208e141421a92cf99b317b148ea01179f2afe27982f5ef211536b", func := "truchman/truchmanlaw09.NameScans", spec := "nameScans", inPlace := ["internal/bytealg.IndexByteString"], apart := false, narrowed := true }
def NameScansUptoSaid : Prop := nameScansUptoRow.holds Try.pinned (OpenSpec.upto nameScansSpec)

end Rows
end Go.Proofs.Ytipmeclcamllbaa
