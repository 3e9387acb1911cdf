/-
  What the laws' walks share.
-/
import Derived.Test.YtoaemkbdfinaoaaBytesB
import Derived.Test.YtoaemkbdfinaoaaPlan
import Derived.WalkKit
import Derived.Deep.RegionWith
namespace Go.Proofs.Ytoaemkbdfinaoaa
open Go.RowKit
set_option linter.unusedVariables false

theorem below_of_drew {a w : World} (h : Below a.drew.heap.size a.drew w) : Below a.heap.size a w := ⟨h.os, h.tape, h.output, h.size, h.block⟩

def RoundRel (most : Nat) (w1 : World) (i : Value) (wr : World) : Prop := ∃ j : Nat, j ≤ most ∧ i = .int .i64 j ∧ Below w1.heap.size w1 wr

theorem cell3 (w : World) (x y z : Nat) (hx : x ≤ 9223372036854775807) (hy : y ≤ 9223372036854775807) (hz : z ≤ 9223372036854775807) (t : TypeId) :
    ∀ j, j < 3 → ∃ o : Nat, o ≤ 9223372036854775807 ∧ (w.alloc (.cells #[.int .i64 x, .int .i64 y, .int .i64 z] t)).cell? ⟨w.heap.size, j, none⟩ = some (.int .i64 o) := by
  intro j hj
  have h : (w.alloc (.cells #[.int .i64 x, .int .i64 y, .int .i64 z] t)).heap[w.heap.size]? = some (.cells #[.int .i64 x, .int .i64 y, .int .i64 z] t) := heap_alloc_new w _
  simp only [World.cell?, h]
  match j, hj with
  | 0, _ => exact ⟨x, hx, rfl⟩
  | 1, _ => exact ⟨y, hy, rfl⟩
  | 2, _ => exact ⟨z, hz, rfl⟩

theorem cell2 (w : World) (x y : Nat) (hx : x ≤ 9223372036854775807) (hy : y ≤ 9223372036854775807) (t : TypeId) :
    ∀ j, j < 2 → ∃ o : Nat, o ≤ 9223372036854775807 ∧ (w.alloc (.cells #[.int .i64 x, .int .i64 y] t)).cell? ⟨w.heap.size, j, none⟩ = some (.int .i64 o) := by
  intro j hj
  have h : (w.alloc (.cells #[.int .i64 x, .int .i64 y] t)).heap[w.heap.size]? = some (.cells #[.int .i64 x, .int .i64 y] t) := heap_alloc_new w _
  simp only [World.cell?, h]
  match j, hj with
  | 0, _ => exact ⟨x, hx, rfl⟩
  | 1, _ => exact ⟨y, hy, rfl⟩
theorem Up.trans {a b c : World} (h : Below a.heap.size a b) (k : Below b.heap.size b c) : Below a.heap.size a c := h.trans (k.mono h.size)

end Go.Proofs.Ytoaemkbdfinaoaa
