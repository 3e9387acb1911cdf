/-
  From what the row gives of a reply to what the walks take.
-/
import Derived.Test.YtoplkglnjgllnaaTellS
import Derived.Test.YtoplkglnjgllnaaRowInW
import Derived.OpenShut
import Derived.ChangeSame
import Derived.SliceStrings
namespace Go.Proofs.Ytoplkglnjgllnaa
open Go.RowKit Go.ChangeShapes Go.WideShapes Go.ChangeAt Go.Deep
set_option linter.unusedVariables false

section
variable {H : Type} {enc : TypeId × Value → H} {w : World} {held : Bool}

theorem qid_cells {cs : List Value} {fuel : Nat} {x : DataW H × List MemPlace} (hl : cs.length = 3)
    (hf : DataW.trod enc Try.prog w 0 (fun _ => true) held fuel 23 cs = some x) :
    ∃ q : QidV, cs = qidC q ∧ QidIn q := by
  match cs, hl with
  | [c0, c1, c2], _ =>
    obtain ⟨xs, n, _, hx, _, hlen, hg⟩ := DataW.trod_struct Try.underlying23 hf
    have k1 : Try.prog.cellsOf 3 = 1 := by kernel_rfl
    have k2 : Try.prog.cellsOf 4 = 1 := by kernel_rfl
    match xs, hlen with
    | [y0, y1, y2], _ =>
      have h0 := hg 0 _ rfl
      have h1 := hg 1 _ rfl
      have h2 := hg 2 _ rfl
      simp [k1, k2] at h0 h1 h2
      obtain ⟨b0, e0, _⟩ := DataW.trod_bool Try.underlying4 h0
      obtain ⟨i1, e1, _, w1⟩ := DataW.trod_int Try.underlying3 h1
      obtain ⟨i2, e2, _, w2⟩ := DataW.trod_int Try.underlying3 h2
      simp at e0 e1 e2
      subst e0 e1 e2
      exact ⟨⟨b0, i1, i2⟩, rfl, i64_of_wf w1, i64_of_wf w2⟩

theorem qids_cells {cs : List Value} {fuel : Nat} {x : DataW H × List MemPlace}
    (hf : DataW.trod enc Try.prog w 0 (fun _ => true) held fuel 24 cs = some x) :
    ∃ (a : Option Addr) (n c : Nat) (qs : List QidV), cs = [.slice a n c] ∧ RdR w w.heap.size 3 a n (qs.map qidC) ∧ (∀ q ∈ qs, QidIn q) ∧ n ≤ c ∧ c ≤ maxLen := by
  have ce : Try.prog.cellsOf 23 = 3 := by kernel_rfl
  rcases open_slice Try.underlying24 hf with ⟨hcs, _⟩ | ⟨x, n, cap, m, k, D, Pl, hcs, _, hl, hm, hmm, _, hr⟩
  · exact ⟨none, 0, 0, [], hcs, RdR.nil, by simp, by omega, by unfold maxLen; omega⟩
  · simp at hmm
    have each : ∀ i, i < n → ∃ e : QidV, QidIn e ∧ ∀ (j : Nat) (v : Value), (qidC e)[j]? = some v → w.cell? ((x.add (i * 3)).add j) = some v := fun i hi => by
      obtain ⟨cs', hc, htr⟩ := hr i (by omega)
      rw [ce] at hc
      obtain ⟨_, hcl, hat⟩ := World.cells?_some hc
      obtain ⟨e, he, hok⟩ := qid_cells hcl htr
      refine ⟨e, hok, fun j v hv => ?_⟩
      have hj : j < 3 := by have := (List.getElem?_eq_some_iff.1 hv).1; simpa [qidC] using this
      have h3 := hat j hj
      rw [he, hv] at h3
      exact h3
    refine ⟨some x, n, cap, (List.range n).map fun i => if hi : i < n then (each i hi).choose else ⟨false, 0, 0⟩, hcs, ⟨?_, by simp, fun h0 => ?_⟩, ?_, hl, by unfold maxLen at *; omega⟩
    · intro r hr'
      obtain ⟨e, _, rfl⟩ := List.mem_map.1 hr'
      rfl
    · have e0 := (each 0 h0).choose_spec.2 0 _ rfl
      rw [add_of_add] at e0
      obtain ⟨b, off, rfl⟩ := cell_plain e0
      have hb := World.block_lt_of_cell? w _ e0
      rw [block_of_add] at hb
      refine ⟨b, off, rfl, hb, fun i j r v hri hv => ?_⟩
      rw [List.getElem?_map, List.getElem?_map] at hri
      have hin : i < n := by
        rcases Nat.lt_or_ge i n with h' | h'
        · exact h'
        · rw [List.getElem?_eq_none (by simpa using h')] at hri; cases hri
      rw [List.getElem?_range hin] at hri
      simp only [Option.map_some, dif_pos hin] at hri
      obtain rfl := Option.some.inj hri
      have h1 := (each i hin).choose_spec.2 j v hv
      rw [add_of_add, add_plain] at h1
      rw [Nat.add_assoc]
      exact h1
    · intro r hr'
      obtain ⟨i, hi, rfl⟩ := List.mem_map.1 hr'
      have hin : i < n := by simpa using hi
      show QidIn (if hi : i < n then (each i hi).choose else ⟨false, 0, 0⟩)
      rw [dif_pos hin]
      exact (each i hin).choose_spec.1

theorem stat_cells {cs : List Value} {fuel : Nat} {x : DataW H × List MemPlace} (hl : cs.length = 6)
    (hf : DataW.trod enc Try.prog w 0 (fun _ => true) held fuel 27 cs = some x) :
    ∃ (q : QidV) (m s : Int) (n : List UInt8), cs = qidC q ++ [.int .i64 m, .int .i64 s, .string (st n)] ∧ QidIn q ∧ I64 m ∧ I64 s ∧ n.length ≤ 9223372036854775807 := by
  match cs, hl with
  | [c0, c1, c2, c3, c4, c5], _ =>
    obtain ⟨xs, n, _, hx, _, hlen, hg⟩ := DataW.trod_struct Try.underlying27 hf
    have k1 : Try.prog.cellsOf 3 = 1 := by kernel_rfl
    have k2 : Try.prog.cellsOf 9 = 1 := by kernel_rfl
    have k3 : Try.prog.cellsOf 23 = 3 := by kernel_rfl
    match xs, hlen with
    | [y0, y1, y2, y3], _ =>
      have h0 := hg 0 _ rfl
      have h1 := hg 1 _ rfl
      have h2 := hg 2 _ rfl
      have h3 := hg 3 _ rfl
      simp [k1, k2, k3] at h0 h1 h2 h3
      obtain ⟨q, hq, hqi⟩ := qid_cells rfl h0
      obtain ⟨i1, e1, _, w1⟩ := DataW.trod_int Try.underlying3 h1
      obtain ⟨i2, e2, _, w2⟩ := DataW.trod_int Try.underlying3 h2
      obtain ⟨s3, e3, _, w3⟩ := DataW.trod_string Try.underlying9 h3
      simp at e1 e2 e3
      simp only [qidC, List.cons.injEq, and_true] at hq
      obtain ⟨rfl, rfl, rfl⟩ := hq
      subst e1 e2 e3
      refine ⟨q, i1, i2, s3.data.toList, ?_, hqi, i64_of_wf w1, i64_of_wf w2, ?_⟩
      · rw [← st_of]; rfl
      · have := w3; unfold maxLen at this; have := size_toList s3; omega

theorem tell_cells {cs : List Value} {fuel : Nat} {x : DataW H × List MemPlace} (hl : cs.length = 18)
    (hf : DataW.trod enc Try.prog w 0 (fun _ => true) held fuel 29 cs = some x) :
    ∃ (t : TellV) (Aq : Option Addr) (nq cq : Nat) (Ad : Option Addr) (nd cd : Nat), cs = tellC t Aq nq cq Ad nd cd ∧ TellOk w w.heap.size t Aq nq cq Ad nd cd := by
  match cs, hl with
  | [c0, c1, c2, c3, c4, c5, c6, c7, c8, c9, c10, c11, c12, c13, c14, c15, c16, c17], _ =>
    obtain ⟨xs, n, _, hx, _, hlen, hg⟩ := DataW.trod_struct Try.underlying29 hf
    have k1 : Try.prog.cellsOf 3 = 1 := by kernel_rfl
    have k2 : Try.prog.cellsOf 9 = 1 := by kernel_rfl
    have k3 : Try.prog.cellsOf 23 = 3 := by kernel_rfl
    have k4 : Try.prog.cellsOf 24 = 1 := by kernel_rfl
    have k5 : Try.prog.cellsOf 25 = 1 := by kernel_rfl
    have k6 : Try.prog.cellsOf 27 = 6 := by kernel_rfl
    match xs, hlen with
    | [y0, y1, y2, y3, y4, y5, y6, y7, y8, y9, y10], _ =>
      have h0 := hg 0 _ rfl
      have h1 := hg 1 _ rfl
      have h2 := hg 2 _ rfl
      have h3 := hg 3 _ rfl
      have h4 := hg 4 _ rfl
      have h5 := hg 5 _ rfl
      have h6 := hg 6 _ rfl
      have h7 := hg 7 _ rfl
      have h8 := hg 8 _ rfl
      have h9 := hg 9 _ rfl
      have h10 := hg 10 _ rfl
      simp [k1, k2, k3, k4, k5, k6] at h0 h1 h2 h3 h4 h5 h6 h7 h8 h9 h10
      obtain ⟨i0, e0, _, w0⟩ := DataW.trod_int Try.underlying3 h0
      obtain ⟨i1, e1, _, w1⟩ := DataW.trod_int Try.underlying3 h1
      obtain ⟨i2, e2, _, w2⟩ := DataW.trod_int Try.underlying3 h2
      obtain ⟨i3, e3, _, w3⟩ := DataW.trod_int Try.underlying3 h3
      obtain ⟨i4, e4, _, w4⟩ := DataW.trod_int Try.underlying3 h4
      obtain ⟨i5, e5, _, w5⟩ := DataW.trod_int Try.underlying3 h5
      obtain ⟨s6, e6, _, w6⟩ := DataW.trod_string Try.underlying9 h6
      obtain ⟨q, hq, hqi⟩ := qid_cells rfl h7
      obtain ⟨Aq, nq, cq, qs, e8, hR, hRe, hRc, hRm⟩ := qids_cells h8
      obtain ⟨Ad, nd, cd, ld, e9, hD, hDc, hDm⟩ : ∃ (Ad : Option Addr) (nd cd : Nat) (ld : List UInt8), [c11] = [.slice Ad nd cd] ∧ RdB w w.heap.size Ad nd ld ∧ nd ≤ cd ∧ cd ≤ maxLen := by
        rcases open_ints Try.underlying25 Try.underlying5 (by kernel_rfl) h9 with ⟨hcs, _⟩ | ⟨x, l, c, zs, hcs, _, hl, hm, hz, _, hcell, hwz⟩
        · exact ⟨none, 0, 0, [], hcs, RdB.nil, by omega, by unfold maxLen; omega⟩
        · obtain ⟨l', h1, h2, h3⟩ := rd_of_row (zs := zs) (.inr ⟨x, rfl, hl, hm, by simpa using hz, hcell, hwz⟩)
          exact ⟨some x, l, c, l', hcs, h1, h2, h3⟩
      obtain ⟨sq, sm, ss, sn, hs, hsq, hsm, hss, hsn⟩ := stat_cells rfl h10
      simp at e0 e1 e2 e3 e4 e5 e6 e8 e9
      simp only [qidC, List.cons.injEq, and_true] at hq
      simp only [qidC, List.cons_append, List.nil_append, List.cons.injEq, and_true] at hs
      obtain ⟨rfl, rfl, rfl⟩ := hq
      obtain ⟨rfl, rfl, rfl, rfl, rfl, rfl⟩ := hs
      subst e0 e1 e2 e3 e4 e5 e6 e8 e9
      refine ⟨⟨i0, i1, i2, i3, i4, i5, s6.data.toList, q, qs, ld, sq, sm, ss, sn⟩, Aq, nq, cq, Ad, nd, cd, ?_, ?_⟩
      · simp only [tellC, ← st_of]
      · exact { bkind := i64_of_wf w0, btag := i64_of_wf w1, bcode := i64_of_wf w2, bmsize := i64_of_wf w3, biounit := i64_of_wf w4, bcount := i64_of_wf w5, bqid := hqi, bsqid := hsq, bsmode := hsm, bssize := hss, name := (by
          show s6.data.toList.length ≤ 9223372036854775807
          have := w6; unfold maxLen at this; have := size_toList s6; omega), sname := hsn, qids := hR, each := hRe, nq_le := hRc, cq_le := hRm, data := hD, nd_le := hDc, cd_le := hDm }
theorem tell_in {cs : Array Value} {d : DataW H} {p : List MemPlace} (hsz : cs.size = 18) (h : DataW.Trod enc Try.prog w 0 (fun _ => true) held 29 (.agg cs) d p) :
    ∃ (t : TellV) (Aq : Option Addr) (nq cq : Nat) (Ad : Option Addr) (nd cd : Nat), cs = (tellC t Aq nq cq Ad nd cd).toArray ∧ TellOk w w.heap.size t Aq nq cq Ad nd cd := by
  obtain ⟨fuel, hf⟩ := h
  obtain ⟨t, Aq, nq, cq, Ad, nd, cd, he, hok⟩ := tell_cells (cs := cs.toList) (by simpa using hsz) hf
  exact ⟨t, Aq, nq, cq, Ad, nd, cd, by rw [← he], hok⟩
end
end Go.Proofs.Ytoplkglnjgllnaa
