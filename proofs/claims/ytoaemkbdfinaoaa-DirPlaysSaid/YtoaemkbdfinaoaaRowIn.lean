/-
  From what the row gives of an argument to what the walks take.
-/
import Derived.Test.YtoaemkbdfinaoaaBytes
namespace Go.Proofs.Ytoaemkbdfinaoaa
open Go.RowKit
set_option linter.unusedVariables false

theorem i64_of_wf {n : Int} (h : (Lit.int .i64 n).wf = true) : -9223372036854775808 ≤ n ∧ n ≤ 9223372036854775807 := by
  simp only [Lit.wf, decide_eq_true_eq, IntKind.min, IntKind.max, IntKind.signed, IntKind.bits, Bool.and_eq_true] at h
  simp at h
  omega
theorem u8_of_wf {n : Int} (h : (Lit.int .u8 n).wf = true) : 0 ≤ n ∧ n ≤ 255 := by
  simp only [Lit.wf, IntKind.min, IntKind.max, IntKind.signed, IntKind.bits, Bool.and_eq_true] at h
  simp at h
  omega

theorem u16_of_wf {n : Int} (h : (Lit.int .u16 n).wf = true) : 0 ≤ n ∧ n ≤ 65535 := by
  simp only [Lit.wf, IntKind.min, IntKind.max, IntKind.signed, IntKind.bits, Bool.and_eq_true] at h
  simp at h
  omega
theorem u32_of_wf {n : Int} (h : (Lit.int .u32 n).wf = true) : 0 ≤ n ∧ n ≤ 4294967295 := by
  simp only [Lit.wf, IntKind.min, IntKind.max, IntKind.signed, IntKind.bits, Bool.and_eq_true] at h
  simp at h
  omega
theorem u64_of_wf {n : Int} (h : (Lit.int .u64 n).wf = true) : 0 ≤ n ∧ n ≤ 18446744073709551615 := by
  simp only [Lit.wf, IntKind.min, IntKind.max, IntKind.signed, IntKind.bits, Bool.and_eq_true] at h
  simp at h
  omega

theorem rd_of_row {w : World} {a : Option Addr} {len cap : Nat} {zs : List Int}
    (h : (a = none ∧ len = 0 ∧ cap = 0 ∧ zs = []) ∨ ∃ x, a = some x ∧ len ≤ cap ∧ cap ≤ maxLen ∧ zs.length = cap ∧ (∀ i, i < zs.length → w.cell? (x.add i) = some (.int .u8 (zs.getD i 0))) ∧ ∀ n ∈ zs, (Lit.int .u8 n).wf = true) :
    ∃ l : List UInt8, RdB w w.heap.size a len l ∧ len ≤ cap ∧ cap ≤ maxLen := by
  rcases h with ⟨rfl, rfl, rfl, rfl⟩ | ⟨x, rfl, h1, h2, h3, h4, h5⟩
  · exact ⟨[], RdB.nil, Nat.le_refl _, by unfold maxLen; omega⟩
  · refine ⟨(zs.take len).map fun n => UInt8.ofNat n.toNat, ⟨?_, fun h0 => ⟨x, rfl, ?_, fun j u hu => ?_⟩⟩, h1, h2⟩
    · simp [bv]; omega
    · have := World.block_lt_of_cell? w _ (h4 0 (by omega))
      rwa [block_of_add] at this
    · simp only [bv, List.map_map, List.getElem?_map, List.getElem?_take] at hu
      split at hu
      · rename_i hj
        have hj2 : j < zs.length := by omega
        rw [List.getElem?_eq_getElem hj2] at hu
        simp at hu
        have hw := u8_of_wf (h5 zs[j] (List.getElem_mem hj2))
        rw [h4 j hj2, ← hu]
        simp [List.getD, List.getElem?_eq_getElem hj2]
        omega
      · simp at hu
end Go.Proofs.Ytoaemkbdfinaoaa
