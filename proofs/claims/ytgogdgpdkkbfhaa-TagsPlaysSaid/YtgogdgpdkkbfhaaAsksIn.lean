/-
  From what the row gives of requests to what the walks take.
-/
import Derived.Test.YtgogdgpdkkbfhaaAskIn
import Derived.Deep.Slices
namespace Go.Proofs.Ytgogdgpdkkbfhaa
open Go.RowKit Go.ChangeShapes Go.WideShapes Go.ChangeAt Go.Deep
set_option linter.unusedVariables false

/-- '.slice A n c' holds requests. -/
def AskArg (w : World) (B : Nat) (A : Option Addr) (n : Nat) : Prop :=
  ∀ i, i < n → ∃ (b off : Nat) (x : AskV) (An : Option Addr) (nn cn : Nat) (Ad : Option Addr) (nd cd : Nat), A = some ⟨b, off, none⟩ ∧ b < B ∧ (∀ (j : Nat) (v : Value), (askC x An nn cn Ad nd cd)[j]? = some v → w.cell? ⟨b, off + i * 14 + j, none⟩ = some v) ∧ AskOk w B x An nn cn Ad nd cd
theorem AskArg.up {w w' : World} {B n : Nat} {A : Option Addr} (h : AskArg w B A n) (k : Below B w w') : AskArg w' B A n := fun i hi => by
  obtain ⟨b, off, x, An, nn, cn, Ad, nd, cd, hA, hb, hc, hok⟩ := h i hi
  exact ⟨b, off, x, An, nn, cn, Ad, nd, cd, hA, hb, fun j v hv => (k.cell (p := ⟨b, off + i * 14 + j, none⟩) hb).trans (hc j v hv), hok.up k⟩

theorem asks_in {H : Type} {enc : TypeId × Value → H} {w : World} {held : Bool} {a : Option Addr} {n c : Nat} {d : DataW H} {p : List MemPlace} (h : DataW.Trod enc Try.prog w 0 (fun _ => true) held 40 (.slice a n c) d p) :
    AskArg w w.heap.size a n ∧ n ≤ 9223372036854775807 := by
  have ce : Try.prog.cellsOf 32 = 14 := by kernel_rfl
  obtain ⟨fuel, hf⟩ := h
  rcases open_slice Try.underlying40 hf with ⟨hcs, _⟩ | ⟨x, len, cap, m, k, D, Pl, hcs, _, hl, hm, hmm, _, hr⟩
  · simp [Value.cells] at hcs
    obtain ⟨rfl, rfl, rfl⟩ := hcs
    exact ⟨fun i hi => by omega, by omega⟩
  · simp [Value.cells] at hcs
    obtain ⟨rfl, rfl, rfl⟩ := hcs
    simp at hmm
    unfold maxLen at hm
    have each : ∀ i, i < n → ∃ (y : AskV) (An : Option Addr) (nn cn : Nat) (Ad : Option Addr) (nd cd : Nat), AskOk w w.heap.size y An nn cn Ad nd cd ∧ ∀ (j : Nat) (v : Value), (askC y An nn cn Ad nd cd)[j]? = some v → w.cell? ((x.add (i * 14)).add j) = some v := fun i hi => by
      obtain ⟨cs', hc, htr⟩ := hr i (by omega)
      rw [ce] at hc
      obtain ⟨_, hcl, hat⟩ := World.cells?_some hc
      obtain ⟨y, An, nn, cn, Ad, nd, cd, he, hok⟩ := ask_cells hcl htr
      refine ⟨y, An, nn, cn, Ad, nd, cd, hok, fun j v hv => ?_⟩
      have hj : j < 14 := by have := (List.getElem?_eq_some_iff.1 hv).1; simpa [askC] using this
      have h3 := hat j hj
      rw [he, hv] at h3
      exact h3
    refine ⟨fun i hi => ?_, by omega⟩
    obtain ⟨b, off, rfl⟩ : ∃ b off, x = ⟨b, off, none⟩ := by
      obtain ⟨_, _, _, _, _, _, _, _, h0⟩ := each 0 (by omega)
      have e0 := h0 0 _ rfl
      rw [add_of_add] at e0
      exact cell_plain e0
    obtain ⟨y, An, nn, cn, Ad, nd, cd, hok, hcell⟩ := each i hi
    have e0 := hcell 0 _ rfl
    rw [add_of_add] at e0
    have hb := World.block_lt_of_cell? w _ e0
    rw [block_of_add] at hb
    refine ⟨b, off, y, An, nn, cn, Ad, nd, cd, rfl, hb, fun j v hv => ?_, hok⟩
    have h1 := hcell j v hv
    rw [add_of_add, add_plain] at h1
    rw [Nat.add_assoc]
    exact h1
end Go.Proofs.Ytgogdgpdkkbfhaa
