/-
  From what the row gives of entries to what the walks take.
-/
import Derived.Test.YtanafeeekofejaaEntB
import Derived.Test.YtanafeeekofejaaRowInW
import Derived.OpenShut
import Derived.ChangeSame
namespace Go.Proofs.Ytanafeeekofejaa
open Go.RowKit Go.ChangeShapes Go.WideShapes Go.ChangeAt Go.Deep
set_option linter.unusedVariables false

section
variable {H : Type} {enc : TypeId × Value → H} {w : World} {held : Bool}
theorem ent_cells {cs : List Value} {fuel : Nat} {x : DataW H × List MemPlace} (hl : cs.length = 3)
    (hf : DataW.trod enc Try.prog w 0 (fun _ => true) held fuel 53 cs = some x) : ∃ e : EntI, cs = eiC e ∧ EiOk e := by
  match cs, hl with
  | [c0, c1, c2], _ =>
    obtain ⟨xs, n, _, hx, _, hlen, hg⟩ := DataW.trod_struct Try.underlying53 hf
    have k1 : Try.prog.cellsOf 3 = 1 := by kernel_rfl
    have k2 : Try.prog.cellsOf 9 = 1 := by kernel_rfl
    have k3 : Try.prog.cellsOf 32 = 2 := by kernel_rfl
    match xs, hlen with
    | [y0, y1], _ =>
      have h0 := hg 0 _ rfl
      have h1 := hg 1 _ rfl
      simp [k1, k2, k3] at h0 h1
      obtain ⟨s0, e0, _, w0⟩ := DataW.trod_string Try.underlying9 h0
      obtain ⟨zs, m, _, hz, _, hzl, hzg⟩ := DataW.trod_struct Try.underlying32 h1
      match zs, hzl with
      | [z0, z1], _ =>
        have g0 := hzg 0 _ rfl
        have g1 := hzg 1 _ rfl
        simp [k1] at g0 g1
        obtain ⟨i1, e1, _, w1⟩ := DataW.trod_int Try.underlying3 g0
        obtain ⟨i2, e2, _, w2⟩ := DataW.trod_int Try.underlying3 g1
        simp at e0 e1 e2
        subst e0 e1 e2
        have b1 := i64_of_wf w1
        have b2 := i64_of_wf w2
        exact ⟨(s0.data.toList, i1, i2), by simp only [eiC, ← st_of], b1.1, b1.2, b2.1, b2.2⟩

theorem ents_in {a : Option Addr} {n c : Nat} {d : DataW H} {p : List MemPlace} (h : DataW.Trod enc Try.prog w 0 (fun _ => true) held 47 (.slice a n c) d p) :
    ∃ rs : List EntI, RdR w w.heap.size 3 a n (rs.map eiC) ∧ ∀ r ∈ rs, EiOk r := by
  have ce : Try.prog.cellsOf 53 = 3 := by kernel_rfl
  obtain ⟨fuel, hf⟩ := h
  rcases open_slice Try.underlying47 hf with ⟨hcs, _⟩ | ⟨x, len, cap, m, k, D, Pl, hcs, _, hl, hm, hmm, _, hr⟩
  · simp [Value.cells] at hcs
    obtain ⟨rfl, rfl, rfl⟩ := hcs
    exact ⟨[], RdR.nil, by simp⟩
  · simp [Value.cells] at hcs
    obtain ⟨rfl, rfl, rfl⟩ := hcs
    simp at hmm
    have each : ∀ i, i < n → ∃ e : EntI, EiOk e ∧ ∀ (j : Nat) (v : Value), (eiC e)[j]? = some v → w.cell? ((x.add (i * 3)).add j) = some v := fun i hi => by
      obtain ⟨cs', hc, htr⟩ := hr i (by omega)
      rw [ce] at hc
      obtain ⟨_, hcl, hat⟩ := World.cells?_some hc
      obtain ⟨e, he, hok⟩ := ent_cells hcl htr
      refine ⟨e, hok, fun j v hv => ?_⟩
      have hj : j < 3 := by have := (List.getElem?_eq_some_iff.1 hv).1; simpa [eiC] using this
      have h3 := hat j hj
      rw [he, hv] at h3
      exact h3
    refine ⟨(List.range n).map fun i => if hi : i < n then (each i hi).choose else ([], 0, 0), ⟨?_, by simp, fun h0 => ?_⟩, ?_⟩
    · intro r hr'
      obtain ⟨e, _, rfl⟩ := List.mem_map.1 hr'
      rfl
    · have e0 := (each 0 h0).choose_spec.2 0 _ rfl
      rw [add_of_add] at e0
      obtain ⟨b, off, rfl⟩ := cell_plain e0
      have hb := World.block_lt_of_cell? w _ e0
      rw [block_of_add] at hb
      refine ⟨b, off, rfl, hb, fun i j r v hri hv => ?_⟩
      rw [List.getElem?_map, List.getElem?_map] at hri
      have hin : i < n := by
        rcases Nat.lt_or_ge i n with h' | h'
        · exact h'
        · rw [List.getElem?_eq_none (by simpa using h')] at hri; cases hri
      rw [List.getElem?_range hin] at hri
      simp only [Option.map_some, dif_pos hin] at hri
      obtain rfl := Option.some.inj hri
      have h1 := (each i hin).choose_spec.2 j v hv
      rw [add_of_add, add_plain] at h1
      rw [Nat.add_assoc]
      exact h1
    · intro r hr'
      obtain ⟨i, hi, rfl⟩ := List.mem_map.1 hr'
      have hin : i < n := by simpa using hi
      show EiOk (if hi : i < n then (each i hi).choose else ([], 0, 0))
      rw [dif_pos hin]
      exact (each i hin).choose_spec.1
end
end Go.Proofs.Ytanafeeekofejaa
