/-
  From what the row gives of things done to what the walks take.
-/
import Derived.Test.YtoaemkbdfinaoaaDirB
import Derived.Test.YtoaemkbdfinaoaaRowInW
import Derived.OpenShut
import Derived.ChangeSame
import Derived.Deep.Slices
namespace Go.Proofs.Ytoaemkbdfinaoaa
open Go.RowKit Go.ChangeShapes Go.WideShapes Go.ChangeAt Go.Deep
set_option linter.unusedVariables false

structure DoV where
  dd : Int
  n : Int
  s : List UInt8
  hi : Int
  hg : Int
  fr : Int
  mo : Int
def doC (o : DoV) : List Value := [.int .i64 o.dd, .int .i64 o.n, .string (st o.s), .int .i64 o.hi, .int .i64 o.hg, .int .i64 o.fr, .int .i64 o.mo]
structure DoOk (o : DoV) : Prop where
  d0 : -9223372036854775808 ≤ o.dd
  d1 : o.dd ≤ 9223372036854775807
  n0 : -9223372036854775808 ≤ o.n
  n1 : o.n ≤ 9223372036854775807
  s1 : o.s.length ≤ 9223372036854775807
/-- '.slice A n c' holds things done. -/
def DoArg (w : World) (B : Nat) (A : Option Addr) (n : Nat) : Prop :=
  ∀ i, i < n → ∃ (b off : Nat) (x : DoV), A = some ⟨b, off, none⟩ ∧ b < B ∧ (∀ (j : Nat) (v : Value), (doC x)[j]? = some v → w.cell? ⟨b, off + i * 7 + j, none⟩ = some v) ∧ DoOk x
theorem DoArg.up {w w' : World} {B n : Nat} {A : Option Addr} (h : DoArg w B A n) (k : Below B w w') : DoArg w' B A n := fun i hi => by
  obtain ⟨b, off, x, hA, hb, hc, hok⟩ := h i hi
  exact ⟨b, off, x, hA, hb, fun j v hv => (k.cell (p := ⟨b, off + i * 7 + j, none⟩) hb).trans (hc j v hv), hok⟩
section
variable {H : Type} {enc : TypeId × Value → H} {w : World} {held : Bool}
theorem do_cells {cs : List Value} {fuel : Nat} {x : DataW H × List MemPlace} (hl : cs.length = 7)
    (hf : DataW.trod enc Try.prog w 0 (fun _ => true) held fuel 56 cs = some x) : ∃ o : DoV, cs = doC o ∧ DoOk o := by
  match cs, hl with
  | [c0, c1, c2, c3, c4, c5, c6], _ =>
    obtain ⟨xs, n, _, hx, _, hlen, hg⟩ := DataW.trod_struct Try.underlying56 hf
    have k1 : Try.prog.cellsOf 3 = 1 := by kernel_rfl
    have k2 : Try.prog.cellsOf 9 = 1 := by kernel_rfl
    have k3 : Try.prog.cellsOf 31 = 2 := by kernel_rfl
    match xs, hlen with
    | [y0, y1, y2, y3, y4, y5], _ =>
      have h0 := hg 0 _ rfl
      have h1 := hg 1 _ rfl
      have h2 := hg 2 _ rfl
      have h3 := hg 3 _ rfl
      have h4 := hg 4 _ rfl
      have h5 := hg 5 _ rfl
      simp [k1, k2, k3] at h0 h1 h2 h3 h4 h5
      obtain ⟨i0, e0, _, w0⟩ := DataW.trod_int Try.underlying3 h0
      obtain ⟨i1, e1, _, w1⟩ := DataW.trod_int Try.underlying3 h1
      obtain ⟨s2, e2, _, w2⟩ := DataW.trod_string Try.underlying9 h2
      obtain ⟨i4, e4, _, _⟩ := DataW.trod_int Try.underlying3 h4
      obtain ⟨i5, e5, _, _⟩ := DataW.trod_int Try.underlying3 h5
      obtain ⟨zs, m, _, hz, _, hzl, hzg⟩ := DataW.trod_struct Try.underlying31 h3
      match zs, hzl with
      | [z0, z1], _ =>
        have g0 := hzg 0 _ rfl
        have g1 := hzg 1 _ rfl
        simp [k1] at g0 g1
        obtain ⟨j1, f1, _, _⟩ := DataW.trod_int Try.underlying3 g0
        obtain ⟨j2, f2, _, _⟩ := DataW.trod_int Try.underlying3 g1
        simp at e0 e1 e2 e4 e5 f1 f2
        subst e0 e1 e2 e4 e5 f1 f2
        have b0 := i64_of_wf w0
        have b1 := i64_of_wf w1
        exact ⟨⟨i0, i1, s2.data.toList, j1, j2, i4, i5⟩, by simp only [doC, ← st_of], b0.1, b0.2, b1.1, b1.2, by unfold maxLen at w2; have := size_toList s2; show s2.data.toList.length ≤ _; omega⟩
theorem dos_in {a : Option Addr} {n c : Nat} {d : DataW H} {p : List MemPlace} (h : DataW.Trod enc Try.prog w 0 (fun _ => true) held 54 (.slice a n c) d p) :
    DoArg w w.heap.size a n ∧ n ≤ 9223372036854775807 := by
  have ce : Try.prog.cellsOf 56 = 7 := by kernel_rfl
  obtain ⟨fuel, hf⟩ := h
  rcases open_slice Try.underlying54 hf with ⟨hcs, _⟩ | ⟨x, len, cap, m, k, D, Pl, hcs, _, hl, hm, hmm, _, hr⟩
  · simp [Value.cells] at hcs
    obtain ⟨rfl, rfl, rfl⟩ := hcs
    exact ⟨fun i hi => by omega, by omega⟩
  · simp [Value.cells] at hcs
    obtain ⟨rfl, rfl, rfl⟩ := hcs
    simp at hmm
    unfold maxLen at hm
    have each : ∀ i, i < n → ∃ (y : DoV), DoOk y ∧ ∀ (j : Nat) (v : Value), (doC y)[j]? = some v → w.cell? ((x.add (i * 7)).add j) = some v := fun i hi => by
      obtain ⟨cs', hc, htr⟩ := hr i (by omega)
      rw [ce] at hc
      obtain ⟨_, hcl, hat⟩ := World.cells?_some hc
      obtain ⟨y, he, hok⟩ := do_cells hcl htr
      refine ⟨y, hok, fun j v hv => ?_⟩
      have hj : j < 7 := by have := (List.getElem?_eq_some_iff.1 hv).1; simpa [doC] using this
      have h3 := hat j hj
      rw [he, hv] at h3
      exact h3
    refine ⟨fun i hi => ?_, by omega⟩
    obtain ⟨b, off, rfl⟩ : ∃ b off, x = ⟨b, off, none⟩ := by
      obtain ⟨_, _, h0⟩ := each 0 (by omega)
      have e0 := h0 0 _ rfl
      rw [add_of_add] at e0
      exact cell_plain e0
    obtain ⟨y, hok, hcell⟩ := each i hi
    have e0 := hcell 0 _ rfl
    rw [add_of_add] at e0
    have hb := World.block_lt_of_cell? w _ e0
    rw [block_of_add] at hb
    refine ⟨b, off, y, rfl, hb, fun j v hv => ?_, hok⟩
    have h1 := hcell j v hv
    rw [add_of_add, add_plain] at h1
    rw [Nat.add_assoc]
    exact h1
end
end Go.Proofs.Ytoaemkbdfinaoaa
