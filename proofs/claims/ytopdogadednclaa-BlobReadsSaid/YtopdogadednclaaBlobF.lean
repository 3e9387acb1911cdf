/-
  Layer 12: the example, and the law of fits.
-/
import Derived.Test.YtopdogadednclaaBlobE
import Derived.Lib.SlBytesConst
import Derived.Deep.RegionHeld3
namespace Go.Proofs.Ytopdogadednclaa
open Go.RowKit
set_option linter.unusedVariables false

theorem const1 (w : World) (C : Array Value) (n c : Nat) : (convert 22 22 (.slice (some ⟨w.heap.size, 0, none⟩) n c)).run Try.prog (w.alloc (.cells C 5)) = .ok (.slice (some ⟨w.heap.size, 0, none⟩) n c) (w.alloc (.cells C 5 (C.size, C.size + 1))) :=
  Lib.run_convert_bytes_const (P := Try.prog) w 22 5 C n c Try.underlying22 Try.underlying5
theorem const2 (w : World) (o : Obj) (C : Array Value) (n c : Nat) : (convert 22 22 (.slice (some ⟨w.heap.size + 1, 0, none⟩) n c)).run Try.prog ((w.alloc o).alloc (.cells C 5)) = .ok (.slice (some ⟨w.heap.size + 1, 0, none⟩) n c) ((w.alloc o).alloc (.cells C 5 (C.size, C.size + 1))) := by
  have := const1 (w.alloc o) C n c
  simpa using this

/-- A row of bytes that was just laid. -/
theorem RdB.new (w : World) (l : List UInt8) (C : Array Value) (hC : C.toList = bv l) (t : TypeId) (fz : Nat × Nat) : RdB (w.alloc (.cells C t fz)) (w.heap.size + 1) (some ⟨w.heap.size, 0, none⟩) l.length l := by
  refine ⟨by rw [bv_length, Nat.mul_one], fun _ => ⟨_, rfl, by simp, fun j u hu => ?_⟩⟩
  rw [add_plain, Nat.zero_add]
  rw [← hC] at hu
  have : (w.alloc (.cells C t fz)).heap[w.heap.size]? = some (.cells C t fz) := heap_alloc_new w _
  simp only [World.cell?, this]
  simpa using hu

theorem RdB.new2 (w : World) (o : Obj) (l : List UInt8) (C : Array Value) (hC : C.toList = bv l) (t : TypeId) (fz : Nat × Nat) : RdB ((w.alloc o).alloc (.cells C t fz)) (w.heap.size + 2) (some ⟨w.heap.size + 1, 0, none⟩) l.length l := by
  have := RdB.new (w.alloc o) l C hC t fz
  simpa using this

theorem lives_any (w : World) : Calls Try.prog 15 #[] w fun e w' => e = .returned (.bool true) ∧ Below w.heap.size w w' := by
  have k1 := const1
  have k2 := const2
  have hlive : wrB [97, 98] 3 [99] = [97, 98, 0, 99] := by decide
  have hlive2 : wrE 3 [99] = 0 := by decide
  have HL := Lib.hid hlive
  have HL2 := Lib.hid hlive2
  clear hlive hlive2
  go_enter Try.func15, Try.ntmps15
  go_wp2_with fail
  refine (write_any _ 2 2 [97, 98] 3 _ 1 1 [99] _ ?_ (by omega) ?_ (by omega) (by omega)).mono ?_
  · exact ((RdB.new w [97, 98] _ rfl _ _).alloc (by simp) _).more (by simp)
  · exact (RdB.new2 w _ [99] _ rfl _ _).more (by simp)
  rintro e w1 ⟨A1, n1, c1, l1, E, hl1, hE, rfl, hown1, hb1⟩
  rw [HL.out] at hl1
  rw [HL2.out] at hE
  obtain rfl := hl1.out
  obtain rfl := hE.out
  have hcv := run_bytes_string (P := Try.prog) (c := c1) 22 9 5 Try.underlying22 Try.underlying5 Try.underlying9 hown1.rd
  go_wp2
  go_ret
  refine ⟨rfl, (((Below.refl _ w).alloc (Nat.le_refl _) _).alloc (by simp) _).trans (hb1.mono (by simp; omega))⟩
end Go.Proofs.Ytopdogadednclaa
