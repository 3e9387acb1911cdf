/-
  From what the row gives of an argument to what the walks take: bytes, slices of bytes, pairs of numbers.
-/
import Derived.Test.YtoaemkbdfinaoaaRowInV
import Derived.Deep.Matrix
import Derived.Deep.Slices
namespace Go.Proofs.Ytoaemkbdfinaoaa
open Go.RowKit Go.ChangeShapes Go.WideShapes Go.ChangeAt Go.Deep
set_option linter.unusedVariables false

/-- '.slice A n c', a slice of slices of bytes, reads as the lists ls, below block B. -/
def RdBB (w : World) (B : Nat) (A : Option Addr) (n : Nat) (ls : List (List UInt8)) : Prop :=
  ls.length = n ∧ (0 < n → ∃ b off, A = some ⟨b, off, none⟩ ∧ b < B ∧ ∀ i l, ls[i]? = some l → ∃ Ai ni ci, w.cell? ⟨b, off + i, none⟩ = some (.slice Ai ni ci) ∧ RdB w B Ai ni l ∧ ni ≤ ci ∧ ci ≤ maxLen)

section
variable {w w' : World} {B n : Nat} {A : Option Addr} {ls : List (List UInt8)}
theorem RdBB.below (h : RdBB w B A n ls) (k : Below B w w') : RdBB w' B A n ls := by
  refine ⟨h.1, fun hn => ?_⟩
  obtain ⟨b, off, hA, hb, hc⟩ := h.2 hn
  refine ⟨b, off, hA, hb, fun i l hl => ?_⟩
  obtain ⟨Ai, ni, ci, h1, h2, h3⟩ := hc i l hl
  exact ⟨Ai, ni, ci, (k.cell (p := ⟨b, off + i, none⟩) hb).trans h1, h2.below k, h3⟩
theorem RdBB.up (h : RdBB w w.heap.size A n ls) (k : Below w.heap.size w w') : RdBB w' w.heap.size A n ls := h.below k
theorem RdBB.at_ {k : Nat} (h : RdBB w B A n ls) (hk : k < n) : ∃ b off l Ai ni ci, A = some ⟨b, off, none⟩ ∧ b < B ∧ ls[k]? = some l ∧ w.cell? ⟨b, off + k, none⟩ = some (.slice Ai ni ci) ∧ RdB w B Ai ni l ∧ ni ≤ ci ∧ ci ≤ maxLen := by
  obtain ⟨b, off, hA, hb, hc⟩ := h.2 (by omega)
  have hl : k < ls.length := by rw [h.1]; exact hk
  obtain ⟨Ai, ni, ci, h1, h2, h3, h4⟩ := hc k _ (List.getElem?_eq_getElem hl)
  exact ⟨b, off, _, Ai, ni, ci, hA, hb, List.getElem?_eq_getElem hl, h1, h2, h3, h4⟩
end

section
variable {H : Type} {enc : TypeId × Value → H} {P : Program} {w : World} {held : Bool}
theorem bytes_in {t e : TypeId} {a : Option Addr} {n c : Nat} {d : DataW H} {p : List MemPlace} (ht : P.underlying t = some (.slice e)) (he : P.underlying e = some (.int .u8)) (hc : P.cellsOf e = 1)
    (h : DataW.Trod enc P w 0 (fun _ => true) held t (.slice a n c) d p) : ∃ l : List UInt8, RdB w w.heap.size a n l ∧ n ≤ c ∧ c ≤ maxLen := by
  obtain ⟨fuel, hf⟩ := h
  rcases open_ints ht he hc hf with ⟨hcs, _⟩ | ⟨x, l, cp, zs, hcs, _, hl, hm, hz, _, hcell, hwz⟩
  · simp [Value.cells] at hcs
    obtain ⟨rfl, rfl, rfl⟩ := hcs
    exact ⟨[], RdB.nil, Nat.le_refl _, by unfold maxLen; omega⟩
  · simp [Value.cells] at hcs
    obtain ⟨rfl, rfl, rfl⟩ := hcs
    exact rd_of_row (zs := zs) (.inr ⟨x, rfl, hl, hm, by simpa using hz, hcell, hwz⟩)

theorem cell_plain {a : Addr} {v : Value} (h : w.cell? (a.add 0) = some v) : ∃ b off, a = ⟨b, off, none⟩ := by
  have hs := World.cell?_spot h
  obtain ⟨b, off, spot⟩ := a
  simp [Addr.add] at hs
  exact ⟨b, off, by rw [hs]⟩

theorem rows_in {t e q : TypeId} {a : Option Addr} {n c : Nat} {d : DataW H} {p : List MemPlace} (ht : P.underlying t = some (.slice e)) (he : P.underlying e = some (.slice q)) (hq : P.underlying q = some (.int .u8)) (ce : P.cellsOf e = 1) (cq : P.cellsOf q = 1)
    (h : DataW.Trod enc P w 0 (fun _ => true) held t (.slice a n c) d p) : ∃ ls : List (List UInt8), RdBB w w.heap.size a n ls ∧ n ≤ 9223372036854775807 := by
  obtain ⟨fuel, hf⟩ := h
  rcases open_int_rows ht he hq ce cq hf with ⟨hcs, _⟩ | ⟨x, len, cap, A, L, C, Z, hcs, _, hl, hm, _, hr⟩
  · simp [Value.cells] at hcs
    obtain ⟨rfl, rfl, rfl⟩ := hcs
    exact ⟨[], ⟨rfl, fun h => absurd h (by omega)⟩, by omega⟩
  · simp [Value.cells] at hcs
    obtain ⟨rfl, rfl, rfl⟩ := hcs
    unfold maxLen at hm
    have each : ∀ i, i < n → ∃ l : List UInt8, RdB w w.heap.size (A i) (L i) l := fun i hi => by
      obtain ⟨_, h1, h2, h3, h4, h5, h6⟩ := hr i (by omega)
      cases hA : A i with
      | none =>
        have := h5 hA
        have e : L i = 0 := by omega
        rw [e]
        exact ⟨[], RdB.nil⟩
      | some a' =>
        obtain ⟨_, hc⟩ := h6 a' hA
        obtain ⟨l, hl, _⟩ := rd_of_row (w := w) (a := some a') (len := L i) (cap := C i) (zs := Z i) (.inr ⟨a', rfl, h1, h2, h3, fun j hj => hc j (by omega), h4⟩)
        exact ⟨l, hl⟩
    refine ⟨(List.range n).map fun i => if hi : i < n then (each i hi).choose else [], ⟨by simp, fun h0 => ?_⟩, by omega⟩
    obtain ⟨b, off, rfl⟩ := cell_plain (hr 0 (by omega)).1
    refine ⟨b, off, rfl, ?_, fun i l hl => ?_⟩
    · have := World.block_lt_of_cell? w _ (hr 0 (by omega)).1
      rwa [block_of_add] at this
    · simp only [List.getElem?_map, Option.map_eq_some_iff] at hl
      obtain ⟨j, hj, rfl⟩ := hl
      have hlt : i < n := by
        have := (List.getElem?_eq_some_iff.1 hj).1
        simpa using this
      have e : j = i := by
        rw [List.getElem?_range hlt] at hj
        exact (Option.some.inj hj).symm
      subst e
      rw [dif_pos hlt]
      have h1 := hr j (by omega)
      have h0 := h1.1
      rw [add_plain] at h0
      exact ⟨A j, L j, C j, h0, (each j hlt).choose_spec, h1.2.1, h1.2.2.1⟩

theorem pairs_in {t e q : TypeId} {a : Option Addr} {n c : Nat} {d : DataW H} {p : List MemPlace} (ht : P.underlying t = some (.slice e)) (he : P.underlying e = some (.array 2 q)) (hq : P.underlying q = some (.int .i64)) (ce : P.cellsOf e = 2) (cq : P.cellsOf q = 1)
    (h : DataW.Trod enc P w 0 (fun _ => true) held t (.slice a n c) d p) :
    (∀ i, i < n → ∃ b off x y, a = some ⟨b, off, none⟩ ∧ b < w.heap.size ∧ w.cell? ⟨b, off + i * 2, none⟩ = some (.int .i64 x) ∧ w.cell? ⟨b, off + i * 2 + 1, none⟩ = some (.int .i64 y) ∧ -9223372036854775808 ≤ x ∧ x ≤ 9223372036854775807 ∧ -9223372036854775808 ≤ y ∧ y ≤ 9223372036854775807) ∧ n ≤ 9223372036854775807 := by
  obtain ⟨fuel, hf⟩ := h
  rcases open_slice ht hf with ⟨hcs, _⟩ | ⟨x, len, cap, m, k, D, Pl, hcs, _, hl, hm, hmm, _, hr⟩
  · simp [Value.cells] at hcs
    obtain ⟨rfl, rfl, rfl⟩ := hcs
    exact ⟨fun i hi => absurd hi (by omega), by omega⟩
  · simp [Value.cells] at hcs
    obtain ⟨rfl, rfl, rfl⟩ := hcs
    unfold maxLen at hm
    simp at hmm
    have one : ∀ i, i < n → ∀ j, j < 2 → ∃ z, w.cell? ((x.add (i * 2)).add j) = some (.int .i64 z) ∧ -9223372036854775808 ≤ z ∧ z ≤ 9223372036854775807 := fun i hi j hj => by
      obtain ⟨cs', hc, htr⟩ := hr i (by omega)
      rw [ce] at hc
      obtain ⟨_, hcl, hat⟩ := World.cells?_some hc
      obtain ⟨xs, m', hm', _, hlen, hxl, hg⟩ := DataW.trod_array he htr
      have h1 := hg j hj
      rw [cq, Nat.mul_one, List.getElem?_eq_getElem (by omega)] at h1
      have hcl' : j < cs'.length := by omega
      have h2 : (cs'.drop j).take 1 = [cs'[j]] := by
        rw [List.drop_eq_getElem_cons hcl']
        rfl
      rw [h2] at h1
      obtain ⟨z, hz, _, hw⟩ := DataW.trod_int hq h1
      have h3 := hat j hj
      rw [List.getElem?_eq_getElem hcl', List.singleton_inj.1 hz] at h3
      exact ⟨z, h3, i64_of_wf hw⟩
    refine ⟨fun i hi => ?_, by omega⟩
    obtain ⟨z, e, _⟩ := one 0 (by omega) 0 (by omega)
    rw [add_of_add] at e
    obtain ⟨b, off, rfl⟩ := cell_plain e
    have hb := World.block_lt_of_cell? w _ e
    rw [block_of_add] at hb
    obtain ⟨z0, e0, b0, t0⟩ := one i hi 0 (by omega)
    obtain ⟨z1, e1, b1, t1⟩ := one i hi 1 (by omega)
    rw [add_of_add, add_plain] at e0 e1
    exact ⟨b, off, z0, z1, rfl, hb, e0, by rw [Nat.add_assoc]; exact e1, b0, t0, b1, t1⟩
end
end Go.Proofs.Ytoaemkbdfinaoaa
