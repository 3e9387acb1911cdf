/-
  From what the row gives of a request to what the walks take.
-/
import Derived.Test.YtgogdgpdkkbfhaaAskD
import Derived.Test.YtgogdgpdkkbfhaaRowInW
import Derived.OpenShut
import Derived.ChangeSame
import Derived.SliceStrings
namespace Go.Proofs.Ytgogdgpdkkbfhaa
open Go.RowKit Go.ChangeShapes Go.WideShapes Go.ChangeAt Go.Deep
set_option linter.unusedVariables false

/-- What is known of a request that was handed in. -/
structure AskOk (w : World) (B : Nat) (a : AskV) (An : Option Addr) (nn cn : Nat) (Ad : Option Addr) (nd cd : Nat) : Prop where
  bkind : -9223372036854775808 ≤ a.kind ∧ a.kind ≤ 9223372036854775807
  btag : -9223372036854775808 ≤ a.tag ∧ a.tag ≤ 9223372036854775807
  bfid : -9223372036854775808 ≤ a.fid ∧ a.fid ≤ 9223372036854775807
  bnfid : -9223372036854775808 ≤ a.nfid ∧ a.nfid ≤ 9223372036854775807
  botag : -9223372036854775808 ≤ a.otag ∧ a.otag ≤ 9223372036854775807
  bmsize : -9223372036854775808 ≤ a.msize ∧ a.msize ≤ 9223372036854775807
  bmode : -9223372036854775808 ≤ a.mode ∧ a.mode ≤ 9223372036854775807
  bperm : -9223372036854775808 ≤ a.perm ∧ a.perm ≤ 9223372036854775807
  boff : -9223372036854775808 ≤ a.off ∧ a.off ≤ 9223372036854775807
  bcount : -9223372036854775808 ≤ a.count ∧ a.count ≤ 9223372036854775807
  bsize : -9223372036854775808 ≤ a.size ∧ a.size ≤ 9223372036854775807
  name : a.name.length ≤ 9223372036854775807
  names : RdV w B An nn (sv a.names)
  each : ∀ l ∈ a.names, l.length ≤ 9223372036854775807
  nn_le : nn ≤ 9223372036854775807
  data : RdB w B Ad nd a.data
  nd_le : nd ≤ cd
  cd_le : cd ≤ maxLen

section
variable {H : Type} {enc : TypeId × Value → H} {w : World} {held : Bool}
theorem AskOk.up {w' : World} {a : AskV} {B : Nat} {An : Option Addr} {nn cn : Nat} {Ad : Option Addr} {nd cd : Nat} (h : AskOk w B a An nn cn Ad nd cd) (k : Below B w w') : AskOk w' B a An nn cn Ad nd cd :=
  { h with names := h.names.below k, data := h.data.below k }

theorem ask_cells {cs : List Value} {fuel : Nat} {x : DataW H × List MemPlace} (hl : cs.length = 14)
    (hf : DataW.trod enc Try.prog w 0 (fun _ => true) held fuel 32 cs = some x) :
    ∃ (a : AskV) (An : Option Addr) (nn cn : Nat) (Ad : Option Addr) (nd cd : Nat), cs = askC a An nn cn Ad nd cd ∧ AskOk w w.heap.size a An nn cn Ad nd cd := by
  match cs, hl with
  | [c0, c1, c2, c3, c4, c5, c6, c7, c8, c9, c10, c11, c12, c13], _ =>
    obtain ⟨xs, n, _, hx, _, hlen, hg⟩ := DataW.trod_struct Try.underlying32 hf
    have k1 : Try.prog.cellsOf 3 = 1 := by kernel_rfl
    have k2 : Try.prog.cellsOf 9 = 1 := by kernel_rfl
    have k3 : Try.prog.cellsOf 29 = 1 := by kernel_rfl
    have k4 : Try.prog.cellsOf 30 = 1 := by kernel_rfl
    match xs, hlen with
    | [y0, y1, y2, y3, y4, y5, y6, y7, y8, y9, y10, y11, y12, y13], _ =>
      have h0 := hg 0 _ rfl
      have h1 := hg 1 _ rfl
      have h2 := hg 2 _ rfl
      have h3 := hg 3 _ rfl
      have h4 := hg 4 _ rfl
      have h5 := hg 5 _ rfl
      have h6 := hg 6 _ rfl
      have h7 := hg 7 _ rfl
      have h8 := hg 8 _ rfl
      have h9 := hg 9 _ rfl
      have h10 := hg 10 _ rfl
      have h11 := hg 11 _ rfl
      have h12 := hg 12 _ rfl
      have h13 := hg 13 _ rfl
      simp [k1, k2, k3, k4] at h0 h1 h2 h3 h4 h5 h6 h7 h8 h9 h10 h11 h12 h13
      obtain ⟨i0, e0, _, w0⟩ := DataW.trod_int Try.underlying3 h0
      obtain ⟨i1, e1, _, w1⟩ := DataW.trod_int Try.underlying3 h1
      obtain ⟨i2, e2, _, w2⟩ := DataW.trod_int Try.underlying3 h2
      obtain ⟨i3, e3, _, w3⟩ := DataW.trod_int Try.underlying3 h3
      obtain ⟨i4, e4, _, w4⟩ := DataW.trod_int Try.underlying3 h4
      obtain ⟨i5, e5, _, w5⟩ := DataW.trod_int Try.underlying3 h5
      obtain ⟨i6, e6, _, w6⟩ := DataW.trod_int Try.underlying3 h6
      obtain ⟨i7, e7, _, w7⟩ := DataW.trod_int Try.underlying3 h7
      obtain ⟨i8, e8, _, w8⟩ := DataW.trod_int Try.underlying3 h8
      obtain ⟨i9, e9, _, w9⟩ := DataW.trod_int Try.underlying3 h9
      obtain ⟨i12, e12, _, w12⟩ := DataW.trod_int Try.underlying3 h12
      obtain ⟨s10, e10, _, w10⟩ := DataW.trod_string Try.underlying9 h10
      obtain ⟨An, nn, cn, ls, e11, hN, hNl, hNn⟩ : ∃ (An : Option Addr) (nn cn : Nat) (ls : List (List UInt8)), [c11] = [.slice An nn cn] ∧ RdV w w.heap.size An nn (sv ls) ∧ (∀ l ∈ ls, l.length ≤ 9223372036854775807) ∧ nn ≤ 9223372036854775807 := by
        rcases open_strings Try.underlying29 Try.underlying9 (by kernel_rfl) h11 with ⟨hcs, _⟩ | ⟨x, l, c, zs, hcs, _, hl, hm, hz, _, hcell, hwz⟩
        · exact ⟨none, 0, 0, [], hcs, RdV.nil, by simp, by omega⟩
        · have hz' : zs.length = c := by simpa using hz
          obtain ⟨ls, h1, h2⟩ := rd_of_strings (len := l) (by omega) hcell hwz
          unfold maxLen at hm
          exact ⟨some x, l, c, ls, hcs, h1, h2, by omega⟩
      obtain ⟨Ad, nd, cd, ld, e13, hD, hDc, hDm⟩ : ∃ (Ad : Option Addr) (nd cd : Nat) (ld : List UInt8), [c13] = [.slice Ad nd cd] ∧ RdB w w.heap.size Ad nd ld ∧ nd ≤ cd ∧ cd ≤ maxLen := by
        rcases open_ints Try.underlying30 Try.underlying5 (by kernel_rfl) h13 with ⟨hcs, _⟩ | ⟨x, l, c, zs, hcs, _, hl, hm, hz, _, hcell, hwz⟩
        · exact ⟨none, 0, 0, [], hcs, RdB.nil, by omega, by unfold maxLen; omega⟩
        · obtain ⟨l', h1, h2, h3⟩ := rd_of_row (zs := zs) (.inr ⟨x, rfl, hl, hm, by simpa using hz, hcell, hwz⟩)
          exact ⟨some x, l, c, l', hcs, h1, h2, h3⟩
      simp at e0 e1 e2 e3 e4 e5 e6 e7 e8 e9 e10 e11 e12 e13
      subst e0 e1 e2 e3 e4 e5 e6 e7 e8 e9 e10 e11 e12 e13
      refine ⟨⟨i0, i1, i2, i3, i4, i5, i6, i7, i8, i9, i12, s10.data.toList, ls, ld⟩, An, nn, cn, Ad, nd, cd, ?_, ?_⟩
      · simp only [askC, ← st_of]
      · exact ⟨i64_of_wf w0, i64_of_wf w1, i64_of_wf w2, i64_of_wf w3, i64_of_wf w4, i64_of_wf w5, i64_of_wf w6, i64_of_wf w7, i64_of_wf w8, i64_of_wf w9, i64_of_wf w12, by
          show s10.data.toList.length ≤ 9223372036854775807
          have := w10; unfold maxLen at this; have := size_toList s10; omega, hN, hNl, hNn, hD, hDc, hDm⟩
theorem ask_in {cs : Array Value} {d : DataW H} {p : List MemPlace} (hsz : cs.size = 14) (h : DataW.Trod enc Try.prog w 0 (fun _ => true) held 32 (.agg cs) d p) :
    ∃ (a : AskV) (An : Option Addr) (nn cn : Nat) (Ad : Option Addr) (nd cd : Nat), cs = (askC a An nn cn Ad nd cd).toArray ∧ AskOk w w.heap.size a An nn cn Ad nd cd := by
  obtain ⟨fuel, hf⟩ := h
  obtain ⟨a, An, nn, cn, Ad, nd, cd, he, hok⟩ := ask_cells (cs := cs.toList) (by simpa using hsz) hf
  exact ⟨a, An, nn, cn, Ad, nd, cd, by rw [← he], hok⟩
end

/-- Good of a request that was handed in. -/
theorem good_ok (a : AskV) (An : Option Addr) (nn cn : Nat) (Ad : Option Addr) (nd cd : Nat) (w : World) (h : AskOk w w.heap.size a An nn cn Ad nd cd) :
    Calls Try.prog 12 #[.agg (askC a An nn cn Ad nd cd).toArray] w (GoodPost a w) :=
  good_any a.kind a.tag a.fid a.nfid a.otag a.msize a.mode a.perm a.off a.count a.size a.name a.names a.data An nn cn Ad nd cd w h.bkind h.btag h.bfid h.bnfid h.botag h.bmsize h.bmode h.bperm h.boff h.bcount h.bsize h.name h.names h.each h.nn_le h.data h.nd_le h.cd_le
end Go.Proofs.Ytgogdgpdkkbfhaa
