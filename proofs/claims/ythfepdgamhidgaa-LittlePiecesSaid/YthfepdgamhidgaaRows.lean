/-
  No cell of these rows narrows 'for every input' (looked for: loops, veiled, ifaces, maps, wideKeys, modest, calm, conditions, laid).
  DERIVED. THE GIVEN ROWS OF THIS SEAT. 5 by the template 'for every input the law returns true; each argument reads behind the call as it read before'; 0 by the template 'total and deterministic' (their statements: YthfepdgamhidgaaTotals.lean).
  GIVEN WITH THE SEED: the statements are not yours to turn. If you find one false, say at which input.
  Laid BY PROGRAM, IN A SANDBOX (cutbox-rows.mjs): the forced cells as the released guide's own fill.sh prints them over the translation d0fd26537b8a0930… (all of the seat's roots in one cut). By AI agents, Wed Nov 11 2026. No macro, syntax, notation, axiom, sorry.
-/
import Derived.Test.YthfepdgamhidgaaChecked
import GoSem.Claim
import GoSem.ClaimJoined
import GoSem.ClaimMapViews
import Derived.JoinedTies
import Derived.KernelRfl
namespace Go.Proofs.Ythfepdgamhidgaa
/- THE CELL 'sum', in the pinned program and in every row, IS THE sha256 OF THE DUMP (.gsa) THAT YthfepdgamhidgaaProg.lean LOADS. Nothing in Lean hashes anything: it is a label: what it is worth is what the hold of that sum in a sandbox is worth. -/
noncomputable def Try.pinned : Pinned := { name := "ythfepdgamhidgaa", sum := "d0fd26537b8a093068a11107940080aea5434ab4469263e7ee1c6aa89ccc5728", checked := Try.checked }
namespace Rows
def none {H : Type} : Left H := { results := [], args := [] }

/-- 'truchmanlaw02.LittlePuts': WHATEVER THE INPUT: true; the input reads as it did. -/
def littlePutsSpec : ChangeSpec := { name := "littlePuts", fn := fun _ => fun
  | [d1, d2, d3, d4, d5] => { results := [.lit (.bool true)], args := [d1, d2, d3, d4, d5] }
  | _ => none }
def littlePutsRow : OpenClaim := { program := "ythfepdgamhidgaa", sum := "d0fd26537b8a093068a11107940080aea5434ab4469263e7ee1c6aa89ccc5728", func := "truchman/truchmanlaw02.LittlePuts", spec := "littlePuts", apart := false }
def LittlePutsSaid : Prop := littlePutsRow.holds Try.pinned (OpenSpec.ofChange littlePutsSpec)

/-- ITS FALSE NEIGHBOUR: 'it returns false'. Refute it at one input. -/
def littlePutsWrong : ChangeSpec := { name := "littlePuts", fn := fun _ => fun
  | [d1, d2, d3, d4, d5] => { results := [.lit (.bool false)], args := [d1, d2, d3, d4, d5] }
  | _ => none }
def LittlePutsWrongFalsely : Prop := littlePutsRow.holds Try.pinned (OpenSpec.ofChange littlePutsWrong)

/-- 'truchmanlaw02.LittleSplits': WHATEVER THE INPUT: true; the input reads as it did. -/
def littleSplitsSpec : ChangeSpec := { name := "littleSplits", fn := fun _ => fun
  | [d1, d2, d3] => { results := [.lit (.bool true)], args := [d1, d2, d3] }
  | _ => none }
def littleSplitsRow : OpenClaim := { program := "ythfepdgamhidgaa", sum := "d0fd26537b8a093068a11107940080aea5434ab4469263e7ee1c6aa89ccc5728", func := "truchman/truchmanlaw02.LittleSplits", spec := "littleSplits", apart := false }
def LittleSplitsSaid : Prop := littleSplitsRow.holds Try.pinned (OpenSpec.ofChange littleSplitsSpec)

/-- ITS FALSE NEIGHBOUR: 'it returns false'. Refute it at one input. -/
def littleSplitsWrong : ChangeSpec := { name := "littleSplits", fn := fun _ => fun
  | [d1, d2, d3] => { results := [.lit (.bool false)], args := [d1, d2, d3] }
  | _ => none }
def LittleSplitsWrongFalsely : Prop := littleSplitsRow.holds Try.pinned (OpenSpec.ofChange littleSplitsWrong)

/-- 'truchmanlaw02.LittlePieces': WHATEVER THE INPUT: true; the input reads as it did. -/
def littlePiecesSpec : ChangeSpec := { name := "littlePieces", fn := fun _ => fun
  | [d1, d2, d3] => { results := [.lit (.bool true)], args := [d1, d2, d3] }
  | _ => none }
def littlePiecesRow : OpenClaim := { program := "ythfepdgamhidgaa", sum := "d0fd26537b8a093068a11107940080aea5434ab4469263e7ee1c6aa89ccc5728", func := "truchman/truchmanlaw02.LittlePieces", spec := "littlePieces", apart := false }
def LittlePiecesSaid : Prop := littlePiecesRow.holds Try.pinned (OpenSpec.ofChange littlePiecesSpec)

/-- ITS FALSE NEIGHBOUR: 'it returns false'. Refute it at one input. -/
def littlePiecesWrong : ChangeSpec := { name := "littlePieces", fn := fun _ => fun
  | [d1, d2, d3] => { results := [.lit (.bool false)], args := [d1, d2, d3] }
  | _ => none }
def LittlePiecesWrongFalsely : Prop := littlePiecesRow.holds Try.pinned (OpenSpec.ofChange littlePiecesWrong)

/-- 'truchmanlaw02.LittleReads': WHATEVER THE INPUT: true; the input reads as it did. -/
def littleReadsSpec : ChangeSpec := { name := "littleReads", fn := fun _ => fun
  | [d1, d2] => { results := [.lit (.bool true)], args := [d1, d2] }
  | _ => none }
def littleReadsRow : OpenClaim := { program := "ythfepdgamhidgaa", sum := "d0fd26537b8a093068a11107940080aea5434ab4469263e7ee1c6aa89ccc5728", func := "truchman/truchmanlaw02.LittleReads", spec := "littleReads", apart := false }
def LittleReadsSaid : Prop := littleReadsRow.holds Try.pinned (OpenSpec.ofChange littleReadsSpec)

/-- ITS FALSE NEIGHBOUR: 'it returns false'. Refute it at one input. -/
def littleReadsWrong : ChangeSpec := { name := "littleReads", fn := fun _ => fun
  | [d1, d2] => { results := [.lit (.bool false)], args := [d1, d2] }
  | _ => none }
def LittleReadsWrongFalsely : Prop := littleReadsRow.holds Try.pinned (OpenSpec.ofChange littleReadsWrong)

/-- 'truchmanlaw02.LittleRound': WHATEVER THE INPUT: true; the input reads as it did. -/
def littleRoundSpec : ChangeSpec := { name := "littleRound", fn := fun _ => fun
  | [d1, d2] => { results := [.lit (.bool true)], args := [d1, d2] }
  | _ => none }
def littleRoundRow : OpenClaim := { program := "ythfepdgamhidgaa", sum := "d0fd26537b8a093068a11107940080aea5434ab4469263e7ee1c6aa89ccc5728", func := "truchman/truchmanlaw02.LittleRound", spec := "littleRound", apart := false }
def LittleRoundSaid : Prop := littleRoundRow.holds Try.pinned (OpenSpec.ofChange littleRoundSpec)

/-- ITS FALSE NEIGHBOUR: 'it returns false'. Refute it at one input. -/
def littleRoundWrong : ChangeSpec := { name := "littleRound", fn := fun _ => fun
  | [d1, d2] => { results := [.lit (.bool false)], args := [d1, d2] }
  | _ => none }
def LittleRoundWrongFalsely : Prop := littleRoundRow.holds Try.pinned (OpenSpec.ofChange littleRoundWrong)

/- THE SECOND FORM. 'bulk': how many values and letters a reading holds, each counted each time it is reached (what is shared counts as often as it is met; a slice's spare places count too). A statement '..UptoSaid' is the law's where the arguments, and the package variables that the reading takes, are together of bulk at most 1048576: NARROWER than '..Said'. Prove '..Said' where nothing that the law and all that it calls make is longer than what came in: it says more and counts as full. Else prove '..UptoSaid'. A law counts once. -/
mutual
def uptoBulk {H : Type} : DataW H → Nat
  | .lit (.string bytes) => bytes.length + 1
  | .lit _ => 1
  | .nil => 1
  | .ptr d => uptoBulk d + 1
  | .slice elems spare => uptoBulkAll elems + uptoBulkAll spare + 1
  | .agg parts => uptoBulkAll parts + 1
  | .iface _ d => uptoBulk d + 1
  | .map entries => uptoBulkEntries entries + 1
  | .held _ => 1
def uptoBulkAll {H : Type} : List (DataW H) → Nat
  | [] => 0
  | d :: r => uptoBulk d + uptoBulkAll r
def uptoBulkEntries {H : Type} : List (Lit × DataW H) → Nat
  | [] => 0
  | x :: r => uptoBulkEntry x + uptoBulkEntries r
def uptoBulkEntry {H : Type} : Lit × DataW H → Nat
  | (.string bytes, d) => bytes.length + uptoBulk d + 1
  | (_, d) => uptoBulk d + 1
 end
def uptoSmall : (H : Type) → List (DataW H) → Bool := fun _ ds => decide (uptoBulkAll ds ≤ 1048576)
def OpenSpec.upto (s : _root_.Go.ChangeSpec) : _root_.Go.OpenSpec := { _root_.Go.OpenSpec.ofChange s with cond := some uptoSmall }

/-- 'truchmanlaw02.LittlePuts', WHERE WHAT IT READS IS OF BULK AT MOST 1048576: true; the input reads as it did. -/
def littlePutsUptoRow : OpenClaim := { program := "ythfepdgamhidgaa", sum := "d0fd26537b8a093068a11107940080aea5434ab4469263e7ee1c6aa89ccc5728", func := "truchman/truchmanlaw02.LittlePuts", spec := "littlePuts", apart := false, narrowed := true }
def LittlePutsUptoSaid : Prop := littlePutsUptoRow.holds Try.pinned (OpenSpec.upto littlePutsSpec)

/-- 'truchmanlaw02.LittleSplits', WHERE WHAT IT READS IS OF BULK AT MOST 1048576: true; the input reads as it did. -/
def littleSplitsUptoRow : OpenClaim := { program := "ythfepdgamhidgaa", sum := "d0fd26537b8a093068a11107940080aea5434ab4469263e7ee1c6aa89ccc5728", func := "truchman/truchmanlaw02.LittleSplits", spec := "littleSplits", apart := false, narrowed := true }
def LittleSplitsUptoSaid : Prop := littleSplitsUptoRow.holds Try.pinned (OpenSpec.upto littleSplitsSpec)

/-- 'truchmanlaw02.LittlePieces', WHERE WHAT IT READS IS OF BULK AT MOST 1048576: true; the input reads as it did. -/
def littlePiecesUptoRow : OpenClaim := { program := "ythfepdgamhidgaa", sum := "d0fd26537b8a093068a11107940080aea5434ab4469263e7ee1c6aa89ccc5728", func := "truchman/truchmanlaw02.LittlePieces", spec := "littlePieces", apart := false, narrowed := true }
def LittlePiecesUptoSaid : Prop := littlePiecesUptoRow.holds Try.pinned (OpenSpec.upto littlePiecesSpec)

/-- 'truchmanlaw02.LittleReads', WHERE WHAT IT READS IS OF BULK AT MOST 1048576: true; the input reads as it did. -/
def littleReadsUptoRow : OpenClaim := { program := "ythfepdgamhidgaa", sum := "d0fd26537b8a093068a11107940080aea5434ab4469263e7ee1c6aa89ccc5728", func := "truchman/truchmanlaw02.LittleReads", spec := "littleReads", apart := false, narrowed := true }
def LittleReadsUptoSaid : Prop := littleReadsUptoRow.holds Try.pinned (OpenSpec.upto littleReadsSpec)

/-- 'truchmanlaw02.LittleRound', WHERE WHAT IT READS IS OF BULK AT MOST 1048576: true; the input reads as it did. -/
def littleRoundUptoRow : OpenClaim := { program := "ythfepdgamhidgaa", sum := "d0fd26537b8a093068a11107940080aea5434ab4469263e7ee1c6aa89ccc5728", func := "truchman/truchmanlaw02.LittleRound", spec := "littleRound", apart := false, narrowed := true }
def LittleRoundUptoSaid : Prop := littleRoundUptoRow.holds Try.pinned (OpenSpec.upto littleRoundSpec)

end Rows
end Go.Proofs.Ythfepdgamhidgaa
