/-
  From what the row gives of an argument to what the walks take.
  From what the row gives of a slice of strings or of numbers to what the walks take.
  From what the row gives of an argument to what the walks take: bytes, slices of bytes, pairs of numbers.
  From what the row gives of a reply to what the walks take.
-/
import Derived.Test.YtoplkglnjgllnaaTrA
import Derived.SliceStrings
import Derived.ChangeSlices
import Derived.OpenShut
import Derived.Deep.Matrix
import Derived.Deep.Slices
import Derived.Test.YtoplkglnjgllnaaTrS
import Derived.ChangeSame
namespace Go.Proofs.Ytoplkglnjgllnaa
open Go.RowKit
set_option linter.unusedVariables false
set_option linter.unusedSimpArgs false

theorem i64_of_wf {n : Int} (h : (Lit.int .i64 n).wf = true) : -9223372036854775808 ≤ n ∧ n ≤ 9223372036854775807 := by
  simp only [Lit.wf, decide_eq_true_eq, IntKind.min, IntKind.max, IntKind.signed, IntKind.bits, Bool.and_eq_true] at h
  simp at h
  omega
theorem u8_of_wf {n : Int} (h : (Lit.int .u8 n).wf = true) : 0 ≤ n ∧ n ≤ 255 := by
  simp only [Lit.wf, IntKind.min, IntKind.max, IntKind.signed, IntKind.bits, Bool.and_eq_true] at h
  simp at h
  omega
theorem u16_of_wf {n : Int} (h : (Lit.int .u16 n).wf = true) : 0 ≤ n ∧ n ≤ 65535 := by
  simp only [Lit.wf, IntKind.min, IntKind.max, IntKind.signed, IntKind.bits, Bool.and_eq_true] at h
  simp at h
  omega
theorem u32_of_wf {n : Int} (h : (Lit.int .u32 n).wf = true) : 0 ≤ n ∧ n ≤ 4294967295 := by
  simp only [Lit.wf, IntKind.min, IntKind.max, IntKind.signed, IntKind.bits, Bool.and_eq_true] at h
  simp at h
  omega
theorem u64_of_wf {n : Int} (h : (Lit.int .u64 n).wf = true) : 0 ≤ n ∧ n ≤ 18446744073709551615 := by
  simp only [Lit.wf, IntKind.min, IntKind.max, IntKind.signed, IntKind.bits, Bool.and_eq_true] at h
  simp at h
  omega
theorem rd_of_row {w : World} {a : Option Addr} {len cap : Nat} {zs : List Int}
    (h : (a = none ∧ len = 0 ∧ cap = 0 ∧ zs = []) ∨ ∃ x, a = some x ∧ len ≤ cap ∧ cap ≤ maxLen ∧ zs.length = cap ∧ (∀ i, i < zs.length → w.cell? (x.add i) = some (.int .u8 (zs.getD i 0))) ∧ ∀ n ∈ zs, (Lit.int .u8 n).wf = true) :
    ∃ l : List UInt8, RdB w w.heap.size a len l ∧ len ≤ cap ∧ cap ≤ maxLen := by
  rcases h with ⟨rfl, rfl, rfl, rfl⟩ | ⟨x, rfl, h1, h2, h3, h4, h5⟩
  · exact ⟨[], RdB.nil, Nat.le_refl _, by unfold maxLen; omega⟩
  · refine ⟨(zs.take len).map fun n => UInt8.ofNat n.toNat, ⟨?_, fun h0 => ⟨x, rfl, ?_, fun j u hu => ?_⟩⟩, h1, h2⟩
    · simp [bv]; omega
    · have := World.block_lt_of_cell? w _ (h4 0 (by omega))
      rwa [block_of_add] at this
    · simp only [bv, List.map_map, List.getElem?_map, List.getElem?_take] at hu
      split at hu
      · rename_i hj
        have hj2 : j < zs.length := by omega
        rw [List.getElem?_eq_getElem hj2] at hu
        simp at hu
        have hw := u8_of_wf (h5 zs[j] (List.getElem_mem hj2))
        rw [h4 j hj2, ← hu]
        simp [List.getD, List.getElem?_eq_getElem hj2]
        omega
      · simp at hu

open Go.RowKit Go.ChangeShapes Go.WideShapes Go.ChangeAt
/-- Numbers as cells. -/
def kv (k : IntKind) (zs : List Int) : List Value := zs.map (Value.int k)
theorem rdV_of_cells {w : World} {x : Addr} {n : Nat} {vs : List Value} (hn : vs.length = n) (hc : ∀ i u, vs[i]? = some u → w.cell? (x.add i) = some u) : RdV w w.heap.size (some x) n vs := by
  refine ⟨by omega, fun h0 => ⟨x, rfl, ?_, fun j u hu => hc j u hu⟩⟩
  have hl : 0 < vs.length := by
    cases vs with
    | nil => first | exact absurd rfl h0 | (simp at h0) | (simp at hn; omega)
    | cons a r => simp
  have := World.block_lt_of_cell? w _ (hc 0 _ (List.getElem?_eq_getElem hl))
  rwa [block_of_add] at this
theorem rd_of_strings {w : World} {x : Addr} {len : Nat} {ss : List ByteArray} (hl : len ≤ ss.length) (hc : ∀ i, i < ss.length → w.cell? (x.add i) = some (.string (ss.getD i ByteArray.empty))) (hm : ∀ s ∈ ss, s.size ≤ maxLen) :
    ∃ ls : List (List UInt8), RdV w w.heap.size (some x) len (sv ls) ∧ ∀ l ∈ ls, l.length ≤ 9223372036854775807 := by
  refine ⟨(ss.take len).map fun b => b.data.toList, rdV_of_cells (by simp [sv]; omega) ?_, ?_⟩
  · intro i u hu
    simp only [sv, List.map_map, List.getElem?_map, List.getElem?_take] at hu
    split at hu
    · have hj2 : i < ss.length := by omega
      rw [List.getElem?_eq_getElem hj2] at hu
      simp at hu
      rw [hc i hj2, ← hu]
      simp [List.getD, List.getElem?_eq_getElem hj2, ← st_of]
    · simp at hu
  · intro l hl'
    obtain ⟨b, hb, rfl⟩ := List.mem_map.1 hl'
    have h1 := hm b (List.mem_of_mem_take hb)
    have h2 := size_toList b
    unfold maxLen at h1
    omega
theorem rd_of_ints {w : World} {x : Addr} {len : Nat} {k : IntKind} {zs : List Int} (hl : len ≤ zs.length) (hc : ∀ i, i < zs.length → w.cell? (x.add i) = some (.int k (zs.getD i 0))) (hm : ∀ n ∈ zs, (Lit.int k n).wf = true) :
    ∃ ls : List Int, RdV w w.heap.size (some x) len (kv k ls) ∧ ∀ n ∈ ls, (Lit.int k n).wf = true := by
  refine ⟨zs.take len, rdV_of_cells (by simp [kv]; omega) ?_, fun n h => hm n (List.mem_of_mem_take h)⟩
  intro i u hu
  simp only [kv, List.getElem?_map, List.getElem?_take] at hu
  split at hu
  · have hj2 : i < zs.length := by omega
    rw [List.getElem?_eq_getElem hj2] at hu
    simp at hu
    rw [hc i hj2, ← hu]
    simp [List.getD, List.getElem?_eq_getElem hj2]
  · simp at hu

open Go.RowKit Go.ChangeShapes Go.WideShapes Go.ChangeAt Go.Deep
/-- '.slice A n c', a slice of slices of bytes, reads as the lists ls, below block B. -/
def RdBB (w : World) (B : Nat) (A : Option Addr) (n : Nat) (ls : List (List UInt8)) : Prop :=
  ls.length = n ∧ (0 < n → ∃ b off, A = some ⟨b, off, none⟩ ∧ b < B ∧ ∀ i l, ls[i]? = some l → ∃ Ai ni ci, w.cell? ⟨b, off + i, none⟩ = some (.slice Ai ni ci) ∧ RdB w B Ai ni l ∧ ni ≤ ci ∧ ci ≤ maxLen)
section
variable {w w' : World} {B n : Nat} {A : Option Addr} {ls : List (List UInt8)}
theorem RdBB.below (h : RdBB w B A n ls) (k : Below B w w') : RdBB w' B A n ls := by
  refine ⟨h.1, fun hn => ?_⟩
  obtain ⟨b, off, hA, hb, hc⟩ := h.2 hn
  refine ⟨b, off, hA, hb, fun i l hl => ?_⟩
  obtain ⟨Ai, ni, ci, h1, h2, h3⟩ := hc i l hl
  exact ⟨Ai, ni, ci, (k.cell (p := ⟨b, off + i, none⟩) hb).trans h1, h2.below k, h3⟩
theorem RdBB.up (h : RdBB w w.heap.size A n ls) (k : Below w.heap.size w w') : RdBB w' w.heap.size A n ls := h.below k
theorem RdBB.at_ {k : Nat} (h : RdBB w B A n ls) (hk : k < n) : ∃ b off l Ai ni ci, A = some ⟨b, off, none⟩ ∧ b < B ∧ ls[k]? = some l ∧ w.cell? ⟨b, off + k, none⟩ = some (.slice Ai ni ci) ∧ RdB w B Ai ni l ∧ ni ≤ ci ∧ ci ≤ maxLen := by
  obtain ⟨b, off, hA, hb, hc⟩ := h.2 (by omega)
  have hl : k < ls.length := by rw [h.1]; exact hk
  obtain ⟨Ai, ni, ci, h1, h2, h3, h4⟩ := hc k _ (List.getElem?_eq_getElem hl)
  exact ⟨b, off, _, Ai, ni, ci, hA, hb, List.getElem?_eq_getElem hl, h1, h2, h3, h4⟩
end
section
variable {H : Type} {enc : TypeId × Value → H} {P : Program} {w : World} {held : Bool}
theorem bytes_in {t e : TypeId} {a : Option Addr} {n c : Nat} {d : DataW H} {p : List MemPlace} (ht : P.underlying t = some (.slice e)) (he : P.underlying e = some (.int .u8)) (hc : P.cellsOf e = 1)
    (h : DataW.Trod enc P w 0 (fun _ => true) held t (.slice a n c) d p) : ∃ l : List UInt8, RdB w w.heap.size a n l ∧ n ≤ c ∧ c ≤ maxLen := by
  obtain ⟨fuel, hf⟩ := h
  rcases open_ints ht he hc hf with ⟨hcs, _⟩ | ⟨x, l, cp, zs, hcs, _, hl, hm, hz, _, hcell, hwz⟩
  · simp [Value.cells] at hcs
    obtain ⟨rfl, rfl, rfl⟩ := hcs
    exact ⟨[], RdB.nil, Nat.le_refl _, by unfold maxLen; omega⟩
  · simp [Value.cells] at hcs
    obtain ⟨rfl, rfl, rfl⟩ := hcs
    exact rd_of_row (zs := zs) (.inr ⟨x, rfl, hl, hm, by simpa using hz, hcell, hwz⟩)
theorem cell_plain {a : Addr} {v : Value} (h : w.cell? (a.add 0) = some v) : ∃ b off, a = ⟨b, off, none⟩ := by
  have hs := World.cell?_spot h
  obtain ⟨b, off, spot⟩ := a
  simp [Addr.add] at hs
  exact ⟨b, off, by rw [hs]⟩
theorem rows_in {t e q : TypeId} {a : Option Addr} {n c : Nat} {d : DataW H} {p : List MemPlace} (ht : P.underlying t = some (.slice e)) (he : P.underlying e = some (.slice q)) (hq : P.underlying q = some (.int .u8)) (ce : P.cellsOf e = 1) (cq : P.cellsOf q = 1)
    (h : DataW.Trod enc P w 0 (fun _ => true) held t (.slice a n c) d p) : ∃ ls : List (List UInt8), RdBB w w.heap.size a n ls ∧ n ≤ 9223372036854775807 := by
  obtain ⟨fuel, hf⟩ := h
  rcases open_int_rows ht he hq ce cq hf with ⟨hcs, _⟩ | ⟨x, len, cap, A, L, C, Z, hcs, _, hl, hm, _, hr⟩
  · simp [Value.cells] at hcs
    obtain ⟨rfl, rfl, rfl⟩ := hcs
    exact ⟨[], ⟨rfl, fun h => absurd h (by omega)⟩, by omega⟩
  · simp [Value.cells] at hcs
    obtain ⟨rfl, rfl, rfl⟩ := hcs
    unfold maxLen at hm
    have each : ∀ i, i < n → ∃ l : List UInt8, RdB w w.heap.size (A i) (L i) l := fun i hi => by
      obtain ⟨_, h1, h2, h3, h4, h5, h6⟩ := hr i (by omega)
      cases hA : A i with
      | none =>
        have := h5 hA
        have e : L i = 0 := by omega
        rw [e]
        exact ⟨[], RdB.nil⟩
      | some a' =>
        obtain ⟨_, hc⟩ := h6 a' hA
        obtain ⟨l, hl, _⟩ := rd_of_row (w := w) (a := some a') (len := L i) (cap := C i) (zs := Z i) (.inr ⟨a', rfl, h1, h2, h3, fun j hj => hc j (by omega), h4⟩)
        exact ⟨l, hl⟩
    refine ⟨(List.range n).map fun i => if hi : i < n then (each i hi).choose else [], ⟨by simp, fun h0 => ?_⟩, by omega⟩
    obtain ⟨b, off, rfl⟩ := cell_plain (hr 0 (by omega)).1
    refine ⟨b, off, rfl, ?_, fun i l hl => ?_⟩
    · have := World.block_lt_of_cell? w _ (hr 0 (by omega)).1
      rwa [block_of_add] at this
    · simp only [List.getElem?_map, Option.map_eq_some_iff] at hl
      obtain ⟨j, hj, rfl⟩ := hl
      have hlt : i < n := by
        have := (List.getElem?_eq_some_iff.1 hj).1
        simpa using this
      have e : j = i := by
        rw [List.getElem?_range hlt] at hj
        exact (Option.some.inj hj).symm
      subst e
      rw [dif_pos hlt]
      have h1 := hr j (by omega)
      have h0 := h1.1
      rw [add_plain] at h0
      exact ⟨A j, L j, C j, h0, (each j hlt).choose_spec, h1.2.1, h1.2.2.1⟩
theorem pairs_in {t e q : TypeId} {a : Option Addr} {n c : Nat} {d : DataW H} {p : List MemPlace} (ht : P.underlying t = some (.slice e)) (he : P.underlying e = some (.array 2 q)) (hq : P.underlying q = some (.int .i64)) (ce : P.cellsOf e = 2) (cq : P.cellsOf q = 1)
    (h : DataW.Trod enc P w 0 (fun _ => true) held t (.slice a n c) d p) :
    (∀ i, i < n → ∃ b off x y, a = some ⟨b, off, none⟩ ∧ b < w.heap.size ∧ w.cell? ⟨b, off + i * 2, none⟩ = some (.int .i64 x) ∧ w.cell? ⟨b, off + i * 2 + 1, none⟩ = some (.int .i64 y) ∧ -9223372036854775808 ≤ x ∧ x ≤ 9223372036854775807 ∧ -9223372036854775808 ≤ y ∧ y ≤ 9223372036854775807) ∧ n ≤ 9223372036854775807 := by
  obtain ⟨fuel, hf⟩ := h
  rcases open_slice ht hf with ⟨hcs, _⟩ | ⟨x, len, cap, m, k, D, Pl, hcs, _, hl, hm, hmm, _, hr⟩
  · simp [Value.cells] at hcs
    obtain ⟨rfl, rfl, rfl⟩ := hcs
    exact ⟨fun i hi => absurd hi (by omega), by omega⟩
  · simp [Value.cells] at hcs
    obtain ⟨rfl, rfl, rfl⟩ := hcs
    unfold maxLen at hm
    simp at hmm
    have one : ∀ i, i < n → ∀ j, j < 2 → ∃ z, w.cell? ((x.add (i * 2)).add j) = some (.int .i64 z) ∧ -9223372036854775808 ≤ z ∧ z ≤ 9223372036854775807 := fun i hi j hj => by
      obtain ⟨cs', hc, htr⟩ := hr i (by omega)
      rw [ce] at hc
      obtain ⟨_, hcl, hat⟩ := World.cells?_some hc
      obtain ⟨xs, m', hm', _, hlen, hxl, hg⟩ := DataW.trod_array he htr
      have h1 := hg j hj
      rw [cq, Nat.mul_one, List.getElem?_eq_getElem (by omega)] at h1
      have hcl' : j < cs'.length := by omega
      have h2 : (cs'.drop j).take 1 = [cs'[j]] := by
        rw [List.drop_eq_getElem_cons hcl']
        rfl
      rw [h2] at h1
      obtain ⟨z, hz, _, hw⟩ := DataW.trod_int hq h1
      have h3 := hat j hj
      rw [List.getElem?_eq_getElem hcl', List.singleton_inj.1 hz] at h3
      exact ⟨z, h3, i64_of_wf hw⟩
    refine ⟨fun i hi => ?_, by omega⟩
    obtain ⟨z, e, _⟩ := one 0 (by omega) 0 (by omega)
    rw [add_of_add] at e
    obtain ⟨b, off, rfl⟩ := cell_plain e
    have hb := World.block_lt_of_cell? w _ e
    rw [block_of_add] at hb
    obtain ⟨z0, e0, b0, t0⟩ := one i hi 0 (by omega)
    obtain ⟨z1, e1, b1, t1⟩ := one i hi 1 (by omega)
    rw [add_of_add, add_plain] at e0 e1
    exact ⟨b, off, z0, z1, rfl, hb, e0, by rw [Nat.add_assoc]; exact e1, b0, t0, b1, t1⟩
end

open Go.RowKit Go.ChangeShapes Go.WideShapes Go.ChangeAt Go.Deep
section
variable {H : Type} {enc : TypeId × Value → H} {w : World} {held : Bool}
theorem qid_cells {cs : List Value} {fuel : Nat} {x : DataW H × List MemPlace} (hl : cs.length = 3)
    (hf : DataW.trod enc Try.prog w 0 (fun _ => true) held fuel 23 cs = some x) :
    ∃ q : QidV, cs = qidC q ∧ QidIn q := by
  match cs, hl with
  | [c0, c1, c2], _ =>
    obtain ⟨xs, n, _, hx, _, hlen, hg⟩ := DataW.trod_struct Try.underlying23 hf
    have k1 : Try.prog.cellsOf 3 = 1 := by kernel_rfl
    have k2 : Try.prog.cellsOf 4 = 1 := by kernel_rfl
    match xs, hlen with
    | [y0, y1, y2], _ =>
      have h0 := hg 0 _ rfl
      have h1 := hg 1 _ rfl
      have h2 := hg 2 _ rfl
      simp [k1, k2] at h0 h1 h2
      obtain ⟨b0, e0, _⟩ := DataW.trod_bool Try.underlying4 h0
      obtain ⟨i1, e1, _, w1⟩ := DataW.trod_int Try.underlying3 h1
      obtain ⟨i2, e2, _, w2⟩ := DataW.trod_int Try.underlying3 h2
      simp at e0 e1 e2
      subst e0 e1 e2
      exact ⟨⟨b0, i1, i2⟩, rfl, i64_of_wf w1, i64_of_wf w2⟩
theorem qids_cells {cs : List Value} {fuel : Nat} {x : DataW H × List MemPlace}
    (hf : DataW.trod enc Try.prog w 0 (fun _ => true) held fuel 24 cs = some x) :
    ∃ (a : Option Addr) (n c : Nat) (qs : List QidV), cs = [.slice a n c] ∧ RdR w w.heap.size 3 a n (qs.map qidC) ∧ (∀ q ∈ qs, QidIn q) ∧ n ≤ c ∧ c ≤ maxLen := by
  have ce : Try.prog.cellsOf 23 = 3 := by kernel_rfl
  rcases open_slice Try.underlying24 hf with ⟨hcs, _⟩ | ⟨x, n, cap, m, k, D, Pl, hcs, _, hl, hm, hmm, _, hr⟩
  · exact ⟨none, 0, 0, [], hcs, RdR.nil, by simp, by omega, by unfold maxLen; omega⟩
  · simp at hmm
    have each : ∀ i, i < n → ∃ e : QidV, QidIn e ∧ ∀ (j : Nat) (v : Value), (qidC e)[j]? = some v → w.cell? ((x.add (i * 3)).add j) = some v := fun i hi => by
      obtain ⟨cs', hc, htr⟩ := hr i (by omega)
      rw [ce] at hc
      obtain ⟨_, hcl, hat⟩ := World.cells?_some hc
      obtain ⟨e, he, hok⟩ := qid_cells hcl htr
      refine ⟨e, hok, fun j v hv => ?_⟩
      have hj : j < 3 := by have := (List.getElem?_eq_some_iff.1 hv).1; simpa [qidC] using this
      have h3 := hat j hj
      rw [he, hv] at h3
      exact h3
    refine ⟨some x, n, cap, (List.range n).map fun i => if hi : i < n then (each i hi).choose else ⟨false, 0, 0⟩, hcs, ⟨?_, by simp, fun h0 => ?_⟩, ?_, hl, by unfold maxLen at *; omega⟩
    · intro r hr'
      obtain ⟨e, _, rfl⟩ := List.mem_map.1 hr'
      rfl
    · have e0 := (each 0 h0).choose_spec.2 0 _ rfl
      rw [add_of_add] at e0
      obtain ⟨b, off, rfl⟩ := cell_plain e0
      have hb := World.block_lt_of_cell? w _ e0
      rw [block_of_add] at hb
      refine ⟨b, off, rfl, hb, fun i j r v hri hv => ?_⟩
      rw [List.getElem?_map, List.getElem?_map] at hri
      have hin : i < n := by
        rcases Nat.lt_or_ge i n with h' | h'
        · exact h'
        · rw [List.getElem?_eq_none (by simpa using h')] at hri; cases hri
      rw [List.getElem?_range hin] at hri
      simp only [Option.map_some, dif_pos hin] at hri
      obtain rfl := Option.some.inj hri
      have h1 := (each i hin).choose_spec.2 j v hv
      rw [add_of_add, add_plain] at h1
      rw [Nat.add_assoc]
      exact h1
    · intro r hr'
      obtain ⟨i, hi, rfl⟩ := List.mem_map.1 hr'
      have hin : i < n := by simpa using hi
      show QidIn (if hi : i < n then (each i hi).choose else ⟨false, 0, 0⟩)
      rw [dif_pos hin]
      exact (each i hin).choose_spec.1
theorem stat_cells {cs : List Value} {fuel : Nat} {x : DataW H × List MemPlace} (hl : cs.length = 6)
    (hf : DataW.trod enc Try.prog w 0 (fun _ => true) held fuel 27 cs = some x) :
    ∃ (q : QidV) (m s : Int) (n : List UInt8), cs = qidC q ++ [.int .i64 m, .int .i64 s, .string (st n)] ∧ QidIn q ∧ I64 m ∧ I64 s ∧ n.length ≤ 9223372036854775807 := by
  match cs, hl with
  | [c0, c1, c2, c3, c4, c5], _ =>
    obtain ⟨xs, n, _, hx, _, hlen, hg⟩ := DataW.trod_struct Try.underlying27 hf
    have k1 : Try.prog.cellsOf 3 = 1 := by kernel_rfl
    have k2 : Try.prog.cellsOf 9 = 1 := by kernel_rfl
    have k3 : Try.prog.cellsOf 23 = 3 := by kernel_rfl
    match xs, hlen with
    | [y0, y1, y2, y3], _ =>
      have h0 := hg 0 _ rfl
      have h1 := hg 1 _ rfl
      have h2 := hg 2 _ rfl
      have h3 := hg 3 _ rfl
      simp [k1, k2, k3] at h0 h1 h2 h3
      obtain ⟨q, hq, hqi⟩ := qid_cells rfl h0
      obtain ⟨i1, e1, _, w1⟩ := DataW.trod_int Try.underlying3 h1
      obtain ⟨i2, e2, _, w2⟩ := DataW.trod_int Try.underlying3 h2
      obtain ⟨s3, e3, _, w3⟩ := DataW.trod_string Try.underlying9 h3
      simp at e1 e2 e3
      simp only [qidC, List.cons.injEq, and_true] at hq
      obtain ⟨rfl, rfl, rfl⟩ := hq
      subst e1 e2 e3
      refine ⟨q, i1, i2, s3.data.toList, ?_, hqi, i64_of_wf w1, i64_of_wf w2, ?_⟩
      · rw [← st_of]; rfl
      · have := w3; unfold maxLen at this; have := size_toList s3; omega
theorem tell_cells {cs : List Value} {fuel : Nat} {x : DataW H × List MemPlace} (hl : cs.length = 18)
    (hf : DataW.trod enc Try.prog w 0 (fun _ => true) held fuel 29 cs = some x) :
    ∃ (t : TellV) (Aq : Option Addr) (nq cq : Nat) (Ad : Option Addr) (nd cd : Nat), cs = tellC t Aq nq cq Ad nd cd ∧ TellOk w w.heap.size t Aq nq cq Ad nd cd := by
  match cs, hl with
  | [c0, c1, c2, c3, c4, c5, c6, c7, c8, c9, c10, c11, c12, c13, c14, c15, c16, c17], _ =>
    obtain ⟨xs, n, _, hx, _, hlen, hg⟩ := DataW.trod_struct Try.underlying29 hf
    have k1 : Try.prog.cellsOf 3 = 1 := by kernel_rfl
    have k2 : Try.prog.cellsOf 9 = 1 := by kernel_rfl
    have k3 : Try.prog.cellsOf 23 = 3 := by kernel_rfl
    have k4 : Try.prog.cellsOf 24 = 1 := by kernel_rfl
    have k5 : Try.prog.cellsOf 25 = 1 := by kernel_rfl
    have k6 : Try.prog.cellsOf 27 = 6 := by kernel_rfl
    match xs, hlen with
    | [y0, y1, y2, y3, y4, y5, y6, y7, y8, y9, y10], _ =>
      have h0 := hg 0 _ rfl
      have h1 := hg 1 _ rfl
      have h2 := hg 2 _ rfl
      have h3 := hg 3 _ rfl
      have h4 := hg 4 _ rfl
      have h5 := hg 5 _ rfl
      have h6 := hg 6 _ rfl
      have h7 := hg 7 _ rfl
      have h8 := hg 8 _ rfl
      have h9 := hg 9 _ rfl
      have h10 := hg 10 _ rfl
      simp [k1, k2, k3, k4, k5, k6] at h0 h1 h2 h3 h4 h5 h6 h7 h8 h9 h10
      obtain ⟨i0, e0, _, w0⟩ := DataW.trod_int Try.underlying3 h0
      obtain ⟨i1, e1, _, w1⟩ := DataW.trod_int Try.underlying3 h1
      obtain ⟨i2, e2, _, w2⟩ := DataW.trod_int Try.underlying3 h2
      obtain ⟨i3, e3, _, w3⟩ := DataW.trod_int Try.underlying3 h3
      obtain ⟨i4, e4, _, w4⟩ := DataW.trod_int Try.underlying3 h4
      obtain ⟨i5, e5, _, w5⟩ := DataW.trod_int Try.underlying3 h5
      obtain ⟨s6, e6, _, w6⟩ := DataW.trod_string Try.underlying9 h6
      obtain ⟨q, hq, hqi⟩ := qid_cells rfl h7
      obtain ⟨Aq, nq, cq, qs, e8, hR, hRe, hRc, hRm⟩ := qids_cells h8
      obtain ⟨Ad, nd, cd, ld, e9, hD, hDc, hDm⟩ : ∃ (Ad : Option Addr) (nd cd : Nat) (ld : List UInt8), [c11] = [.slice Ad nd cd] ∧ RdB w w.heap.size Ad nd ld ∧ nd ≤ cd ∧ cd ≤ maxLen := by
        rcases open_ints Try.underlying25 Try.underlying5 (by kernel_rfl) h9 with ⟨hcs, _⟩ | ⟨x, l, c, zs, hcs, _, hl, hm, hz, _, hcell, hwz⟩
        · exact ⟨none, 0, 0, [], hcs, RdB.nil, by omega, by unfold maxLen; omega⟩
        · obtain ⟨l', h1, h2, h3⟩ := rd_of_row (zs := zs) (.inr ⟨x, rfl, hl, hm, by simpa using hz, hcell, hwz⟩)
          exact ⟨some x, l, c, l', hcs, h1, h2, h3⟩
      obtain ⟨sq, sm, ss, sn, hs, hsq, hsm, hss, hsn⟩ := stat_cells rfl h10
      simp at e0 e1 e2 e3 e4 e5 e6 e8 e9
      simp only [qidC, List.cons.injEq, and_true] at hq
      simp only [qidC, List.cons_append, List.nil_append, List.cons.injEq, and_true] at hs
      obtain ⟨rfl, rfl, rfl⟩ := hq
      obtain ⟨rfl, rfl, rfl, rfl, rfl, rfl⟩ := hs
      subst e0 e1 e2 e3 e4 e5 e6 e8 e9
      refine ⟨⟨i0, i1, i2, i3, i4, i5, s6.data.toList, q, qs, ld, sq, sm, ss, sn⟩, Aq, nq, cq, Ad, nd, cd, ?_, ?_⟩
      · simp only [tellC, ← st_of]
      · exact { bkind := i64_of_wf w0, btag := i64_of_wf w1, bcode := i64_of_wf w2, bmsize := i64_of_wf w3, biounit := i64_of_wf w4, bcount := i64_of_wf w5, bqid := hqi, bsqid := hsq, bsmode := hsm, bssize := hss, name := (by
          show s6.data.toList.length ≤ 9223372036854775807
          have := w6; unfold maxLen at this; have := size_toList s6; omega), sname := hsn, qids := hR, each := hRe, nq_le := hRc, cq_le := hRm, data := hD, nd_le := hDc, cd_le := hDm }
theorem tell_in {cs : Array Value} {d : DataW H} {p : List MemPlace} (hsz : cs.size = 18) (h : DataW.Trod enc Try.prog w 0 (fun _ => true) held 29 (.agg cs) d p) :
    ∃ (t : TellV) (Aq : Option Addr) (nq cq : Nat) (Ad : Option Addr) (nd cd : Nat), cs = (tellC t Aq nq cq Ad nd cd).toArray ∧ TellOk w w.heap.size t Aq nq cq Ad nd cd := by
  obtain ⟨fuel, hf⟩ := h
  obtain ⟨t, Aq, nq, cq, Ad, nd, cd, he, hok⟩ := tell_cells (cs := cs.toList) (by simpa using hsz) hf
  exact ⟨t, Aq, nq, cq, Ad, nd, cd, by rw [← he], hok⟩
end
end Go.Proofs.Ytoplkglnjgllnaa
