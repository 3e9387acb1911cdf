/-
  From what the row gives of a slice of strings or of numbers to what the walks take.
-/
import Derived.Test.YtoaemkbdfinaoaaRowIn
import Derived.Test.YtoaemkbdfinaoaaVals
import Derived.SliceStrings
import Derived.ChangeSlices
import Derived.OpenShut
namespace Go.Proofs.Ytoaemkbdfinaoaa
open Go.RowKit Go.ChangeShapes Go.WideShapes Go.ChangeAt
set_option linter.unusedVariables false

/-- Numbers as cells. -/
def kv (k : IntKind) (zs : List Int) : List Value := zs.map (Value.int k)

theorem rdV_of_cells {w : World} {x : Addr} {n : Nat} {vs : List Value} (hn : vs.length = n) (hc : ∀ i u, vs[i]? = some u → w.cell? (x.add i) = some u) : RdV w w.heap.size (some x) n vs := by
  refine ⟨by omega, fun h0 => ⟨x, rfl, ?_, fun j u hu => hc j u hu⟩⟩
  have hl : 0 < vs.length := by
    cases vs with
    | nil => first | exact absurd rfl h0 | (simp at h0) | (simp at hn; omega)
    | cons a r => simp
  have := World.block_lt_of_cell? w _ (hc 0 _ (List.getElem?_eq_getElem hl))
  rwa [block_of_add] at this

theorem rd_of_strings {w : World} {x : Addr} {len : Nat} {ss : List ByteArray} (hl : len ≤ ss.length) (hc : ∀ i, i < ss.length → w.cell? (x.add i) = some (.string (ss.getD i ByteArray.empty))) (hm : ∀ s ∈ ss, s.size ≤ maxLen) :
    ∃ ls : List (List UInt8), RdV w w.heap.size (some x) len (sv ls) ∧ ∀ l ∈ ls, l.length ≤ 9223372036854775807 := by
  refine ⟨(ss.take len).map fun b => b.data.toList, rdV_of_cells (by simp [sv]; omega) ?_, ?_⟩
  · intro i u hu
    simp only [sv, List.map_map, List.getElem?_map, List.getElem?_take] at hu
    split at hu
    · have hj2 : i < ss.length := by omega
      rw [List.getElem?_eq_getElem hj2] at hu
      simp at hu
      rw [hc i hj2, ← hu]
      simp [List.getD, List.getElem?_eq_getElem hj2, ← st_of]
    · simp at hu
  · intro l hl'
    obtain ⟨b, hb, rfl⟩ := List.mem_map.1 hl'
    have h1 := hm b (List.mem_of_mem_take hb)
    have h2 := size_toList b
    unfold maxLen at h1
    omega

theorem rd_of_ints {w : World} {x : Addr} {len : Nat} {k : IntKind} {zs : List Int} (hl : len ≤ zs.length) (hc : ∀ i, i < zs.length → w.cell? (x.add i) = some (.int k (zs.getD i 0))) (hm : ∀ n ∈ zs, (Lit.int k n).wf = true) :
    ∃ ls : List Int, RdV w w.heap.size (some x) len (kv k ls) ∧ ∀ n ∈ ls, (Lit.int k n).wf = true := by
  refine ⟨zs.take len, rdV_of_cells (by simp [kv]; omega) ?_, fun n h => hm n (List.mem_of_mem_take h)⟩
  intro i u hu
  simp only [kv, List.getElem?_map, List.getElem?_take] at hu
  split at hu
  · have hj2 : i < zs.length := by omega
    rw [List.getElem?_eq_getElem hj2] at hu
    simp at hu
    rw [hc i hj2, ← hu]
    simp [List.getD, List.getElem?_eq_getElem hj2]
  · simp at hu
end Go.Proofs.Ytoaemkbdfinaoaa
