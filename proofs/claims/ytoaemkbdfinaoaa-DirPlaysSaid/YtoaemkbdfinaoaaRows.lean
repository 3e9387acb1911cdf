/-
  No cell of these rows narrows 'for every input' (looked for: loops, veiled, ifaces, maps, wideKeys, modest, calm, conditions, laid).
  DERIVED. THE GIVEN ROWS OF THIS SEAT. 5 by the template 'for every input the law returns true; each argument reads behind the call as it read before'; 0 by the template 'total and deterministic' (their statements: YtoaemkbdfinaoaaTotals.lean).
  GIVEN WITH THE SEED: the statements are not yours to turn. If you find one false, say at which input.
  Laid BY PROGRAM, IN A SANDBOX (cutbox-rows.mjs): the forced cells as the released guide's own fill.sh prints them over the translation 83767122bd58d1ce… (all of the seat's roots in one cut). By AI agents, Wed Nov 11 2026. No macro, syntax, notation, axiom, sorry.
-/
import Derived.Test.YtoaemkbdfinaoaaChecked
import GoSem.Claim
import GoSem.ClaimJoined
import GoSem.ClaimMapViews
import Derived.JoinedTies
import Derived.KernelRfl
namespace Go.Proofs.Ytoaemkbdfinaoaa
/- THE CELL 'sum', in the pinned program and in every row, IS THE sha256 OF THE DUMP (.gsa) THAT YtoaemkbdfinaoaaProg.lean LOADS. Nothing in Lean hashes anything: it is a label: what it is worth is what the hold of that sum in a sandbox is worth. -/
noncomputable def Try.pinned : Pinned := { name := "ytoaemkbdfinaoaa", sum := "83767122bd58d1cedeb1409003e61150d4e736fbf79078d347a9dc9fedf529ed", checked := Try.checked }
namespace Rows
def none {H : Type} : Left H := { results := [], args := [] }

/-- 'truchmanlaw11.DirPages': WHATEVER THE INPUT: true; the input reads as it did. -/
def dirPagesSpec : ChangeSpec := { name := "dirPages", fn := fun _ => fun
  | [d1, d2] => { results := [.lit (.bool true)], args := [d1, d2] }
  | _ => none }
def dirPagesRow : OpenClaim := { program := "ytoaemkbdfinaoaa", sum := "83767122bd58d1cedeb1409003e61150d4e736fbf79078d347a9dc9fedf529ed", func := "truchman/truchmanlaw11.DirPages", spec := "dirPages", inPlace := ["internal/bytealg.abigen_runtime_cmpstring", "slices.overlaps[truchman/api.Entry]"], unfollowed := true, recurses := true, apart := false }
def DirPagesSaid : Prop := dirPagesRow.holds Try.pinned (OpenSpec.ofChange dirPagesSpec)

/-- ITS FALSE NEIGHBOUR: 'it returns false'. Refute it at one input. -/
def dirPagesWrong : ChangeSpec := { name := "dirPages", fn := fun _ => fun
  | [d1, d2] => { results := [.lit (.bool false)], args := [d1, d2] }
  | _ => none }
def DirPagesWrongFalsely : Prop := dirPagesRow.holds Try.pinned (OpenSpec.ofChange dirPagesWrong)

/-- 'truchmanlaw11.DirRow': WHATEVER THE INPUT: true; the input reads as it did. -/
def dirRowSpec : ChangeSpec := { name := "dirRow", fn := fun _ => fun
  | [d] => { results := [.lit (.bool true)], args := [d] }
  | _ => none }
def dirRowRow : OpenClaim := { program := "ytoaemkbdfinaoaa", sum := "83767122bd58d1cedeb1409003e61150d4e736fbf79078d347a9dc9fedf529ed", func := "truchman/truchmanlaw11.DirRow", spec := "dirRow", inPlace := ["internal/bytealg.abigen_runtime_cmpstring", "slices.overlaps[truchman/api.Entry]"], unfollowed := true, recurses := true, apart := false }
def DirRowSaid : Prop := dirRowRow.holds Try.pinned (OpenSpec.ofChange dirRowSpec)

/-- ITS FALSE NEIGHBOUR: 'it returns false'. Refute it at one input. -/
def dirRowWrong : ChangeSpec := { name := "dirRow", fn := fun _ => fun
  | [d] => { results := [.lit (.bool false)], args := [d] }
  | _ => none }
def DirRowWrongFalsely : Prop := dirRowRow.holds Try.pinned (OpenSpec.ofChange dirRowWrong)

/-- 'truchmanlaw11.DirStops': WHATEVER THE INPUT: true; the input reads as it did. -/
def dirStopsSpec : ChangeSpec := { name := "dirStops", fn := fun _ => fun
  | [d1, d2] => { results := [.lit (.bool true)], args := [d1, d2] }
  | _ => none }
def dirStopsRow : OpenClaim := { program := "ytoaemkbdfinaoaa", sum := "83767122bd58d1cedeb1409003e61150d4e736fbf79078d347a9dc9fedf529ed", func := "truchman/truchmanlaw11.DirStops", spec := "dirStops", inPlace := ["internal/bytealg.abigen_runtime_cmpstring", "slices.overlaps[truchman/api.Entry]"], unfollowed := true, recurses := true, apart := false }
def DirStopsSaid : Prop := dirStopsRow.holds Try.pinned (OpenSpec.ofChange dirStopsSpec)

/-- ITS FALSE NEIGHBOUR: 'it returns false'. Refute it at one input. -/
def dirStopsWrong : ChangeSpec := { name := "dirStops", fn := fun _ => fun
  | [d1, d2] => { results := [.lit (.bool false)], args := [d1, d2] }
  | _ => none }
def DirStopsWrongFalsely : Prop := dirStopsRow.holds Try.pinned (OpenSpec.ofChange dirStopsWrong)

/-- 'truchmanlaw11.DirNames': WHATEVER THE INPUT: true; the input reads as it did. -/
def dirNamesSpec : ChangeSpec := { name := "dirNames", fn := fun _ => fun
  | [d1, d2] => { results := [.lit (.bool true)], args := [d1, d2] }
  | _ => none }
def dirNamesRow : OpenClaim := { program := "ytoaemkbdfinaoaa", sum := "83767122bd58d1cedeb1409003e61150d4e736fbf79078d347a9dc9fedf529ed", func := "truchman/truchmanlaw11.DirNames", spec := "dirNames", inPlace := ["internal/bytealg.abigen_runtime_cmpstring", "slices.overlaps[truchman/api.Entry]"], unfollowed := true, recurses := true, apart := false }
def DirNamesSaid : Prop := dirNamesRow.holds Try.pinned (OpenSpec.ofChange dirNamesSpec)

/-- ITS FALSE NEIGHBOUR: 'it returns false'. Refute it at one input. -/
def dirNamesWrong : ChangeSpec := { name := "dirNames", fn := fun _ => fun
  | [d1, d2] => { results := [.lit (.bool false)], args := [d1, d2] }
  | _ => none }
def DirNamesWrongFalsely : Prop := dirNamesRow.holds Try.pinned (OpenSpec.ofChange dirNamesWrong)

/-- 'truchmanlaw11.DirPlays': WHATEVER THE INPUT: true; the input reads as it did. -/
def dirPlaysSpec : ChangeSpec := { name := "dirPlays", fn := fun _ => fun
  | [d] => { results := [.lit (.bool true)], args := [d] }
  | _ => none }
def dirPlaysRow : OpenClaim := { program := "ytoaemkbdfinaoaa", sum := "83767122bd58d1cedeb1409003e61150d4e736fbf79078d347a9dc9fedf529ed", func := "truchman/truchmanlaw11.DirPlays", spec := "dirPlays", inPlace := ["internal/bytealg.abigen_runtime_cmpstring", "slices.overlaps[truchman/api.Entry]"], unfollowed := true, recurses := true, apart := false }
def DirPlaysSaid : Prop := dirPlaysRow.holds Try.pinned (OpenSpec.ofChange dirPlaysSpec)

/-- ITS FALSE NEIGHBOUR: 'it returns false'. Refute it at one input. -/
def dirPlaysWrong : ChangeSpec := { name := "dirPlays", fn := fun _ => fun
  | [d] => { results := [.lit (.bool false)], args := [d] }
  | _ => none }
def DirPlaysWrongFalsely : Prop := dirPlaysRow.holds Try.pinned (OpenSpec.ofChange dirPlaysWrong)

/- THE SECOND FORM. 'bulk': how many values and letters a reading holds, each counted each time it is reached (what is shared counts as often as it is met; a slice's spare places count too). A statement '..UptoSaid' is the law's where the arguments, and the package variables that the reading takes, are together of bulk at most 1048576: NARROWER than '..Said'. Prove '..Said' where nothing that the law and all that it calls make is longer than what came in: it says more and counts as full. Else prove '..UptoSaid'. A law counts once. -/
mutual
def uptoBulk {H : Type} : DataW H → Nat
  | .lit (.string bytes) => bytes.length + 1
  | .lit _ => 1
  | .nil => 1
  | .ptr d => uptoBulk d + 1
  | .slice elems spare => uptoBulkAll elems + uptoBulkAll spare + 1
  | .agg parts => uptoBulkAll parts + 1
  | .iface _ d => uptoBulk d + 1
  | .map entries => uptoBulkEntries entries + 1
  | .held _ => 1
def uptoBulkAll {H : Type} : List (DataW H) → Nat
  | [] => 0
  | d :: r => uptoBulk d + uptoBulkAll r
def uptoBulkEntries {H : Type} : List (Lit × DataW H) → Nat
  | [] => 0
  | x :: r => uptoBulkEntry x + uptoBulkEntries r
def uptoBulkEntry {H : Type} : Lit × DataW H → Nat
  | (.string bytes, d) => bytes.length + uptoBulk d + 1
  | (_, d) => uptoBulk d + 1
 end
def uptoSmall : (H : Type) → List (DataW H) → Bool := fun _ ds => decide (uptoBulkAll ds ≤ 1048576)
def OpenSpec.upto (s : _root_.Go.ChangeSpec) : _root_.Go.OpenSpec := { _root_.Go.OpenSpec.ofChange s with cond := some uptoSmall }

/-- 'truchmanlaw11.DirPages', WHERE WHAT IT READS IS OF BULK AT MOST 1048576: true; the input reads as it did. -/
def dirPagesUptoRow : OpenClaim := { program := "ytoaemkbdfinaoaa", sum := "83767122bd58d1cedeb1409003e61150d4e736fbf79078d347a9dc9fedf529ed", func := "truchman/truchmanlaw11.DirPages", spec := "dirPages", inPlace := ["internal/bytealg.abigen_runtime_cmpstring", "slices.overlaps[truchman/api.Entry]"], unfollowed := true, recurses := true, apart := false, narrowed := true }
def DirPagesUptoSaid : Prop := dirPagesUptoRow.holds Try.pinned (OpenSpec.upto dirPagesSpec)

/-- 'truchmanlaw11.DirRow', WHERE WHAT IT READS IS OF BULK AT MOST 1048576: true; the input reads as it did. -/
def dirRowUptoRow : OpenClaim := { program := "ytoaemkbdfinaoaa", sum := "83767122bd58d1cedeb1409003e61150d4e736fbf79078d347a9dc9fedf529ed", func := "truchman/truchmanlaw11.DirRow", spec := "dirRow", inPlace := ["internal/bytealg.abigen_runtime_cmpstring", "slices.overlaps[truchman/api.Entry]"], unfollowed := true, recurses := true, apart := false, narrowed := true }
def DirRowUptoSaid : Prop := dirRowUptoRow.holds Try.pinned (OpenSpec.upto dirRowSpec)

/-- 'truchmanlaw11.DirStops', WHERE WHAT IT READS IS OF BULK AT MOST 1048576: true; the input reads as it did. -/
def dirStopsUptoRow : OpenClaim := { program := "ytoaemkbdfinaoaa", sum := "83767122bd58d1cedeb1409003e61150d4e736fbf79078d347a9dc9fedf529ed", func := "truchman/truchmanlaw11.DirStops", spec := "dirStops", inPlace := ["internal/bytealg.abigen_runtime_cmpstring", "slices.overlaps[truchman/api.Entry]"], unfollowed := true, recurses := true, apart := false, narrowed := true }
def DirStopsUptoSaid : Prop := dirStopsUptoRow.holds Try.pinned (OpenSpec.upto dirStopsSpec)

/-- 'truchmanlaw11.DirNames', WHERE WHAT IT READS IS OF BULK AT MOST 1048576: true; the input reads as it did. -/
def dirNamesUptoRow : OpenClaim := { program := "ytoaemkbdfinaoaa", sum := "83767122bd58d1cedeb1409003e61150d4e736fbf79078d347a9dc9fedf529ed", func := "truchman/truchmanlaw11.DirNames", spec := "dirNames", inPlace := ["internal/bytealg.abigen_runtime_cmpstring", "slices.overlaps[truchman/api.Entry]"], unfollowed := true, recurses := true, apart := false, narrowed := true }
def DirNamesUptoSaid : Prop := dirNamesUptoRow.holds Try.pinned (OpenSpec.upto dirNamesSpec)

/-- 'truchmanlaw11.DirPlays', WHERE WHAT IT READS IS OF BULK AT MOST 1048576: true; the input reads as it did. -/
def dirPlaysUptoRow : OpenClaim := { program := "ytoaemkbdfinaoaa", sum := "83767122bd58d1cedeb1409003e61150d4e736fbf79078d347a9dc9fedf529ed", func := "truchman/truchmanlaw11.DirPlays", spec := "dirPlays", inPlace := ["internal/bytealg.abigen_runtime_cmpstring", "slices.overlaps[truchman/api.Entry]"], unfollowed := true, recurses := true, apart := false, narrowed := true }
def DirPlaysUptoSaid : Prop := dirPlaysUptoRow.holds Try.pinned (OpenSpec.upto dirPlaysSpec)

end Rows
end Go.Proofs.Ytoaemkbdfinaoaa
