/-
  What is written is read as it was (no program in sight).
  A good reply may be (no program in sight).
-/
import Derived.Test.YtoplkglnjgllnaaTrY
import Derived.Test.YtoplkglnjgllnaaTrT
import Derived.Test.YtoplkglnjgllnaaTrB
import Derived.Test.YtoplkglnjgllnaaTrS
namespace Go.Proofs.Ytoplkglnjgllnaa
open Go.RowKit
set_option linter.unusedVariables false
set_option linter.unusedSimpArgs false

theorem inB_iff (n m : Int) : inB n m = true ↔ 0 ≤ n ∧ n ≤ m := by simp [inB]

/-- A reply whose numbers, texts and lists are in their bounds. -/
structure InT (u : TellV) : Prop where
  tag : inB u.tag 65535 = true
  code : inB u.code 65535 = true
  msize : inB u.msize 4294967295 = true
  iounit : inB u.iounit 4294967295 = true
  count : inB u.count 4294967295 = true
  name : u.name.length ≤ 255
  qid : qidOk u.qid = true
  qids : qidsOk u.qids = true
  data : u.data.length ≤ 1024
  stat : statOk u.sqid u.smode u.ssize u.sname = true
theorem own_ok_101 (tag code msize iounit count : Int) (name : List UInt8) (qid : QidV) (qids : List QidV) (data : List UInt8) (sqid : QidV) (smode ssize : Int) (sname : List UInt8) (h : InT ⟨101, tag, code, msize, iounit, count, name, qid, qids, data, sqid, smode, ssize, sname⟩) : layOk (ownT ⟨101, tag, code, msize, iounit, count, name, qid, qids, data, sqid, smode, ssize, sname⟩) = true := by
  obtain ⟨h1, h2, h3, h4, h5, h6, h7, h8, h9, h10⟩ := h
  simp only at h1 h2 h3 h4 h5 h6 h7 h8 h9 h10
  have hp : partsM 101 = [0, 4] := rfl
  have hk : (101 : Int) ∈ kindsW := by decide
  have f101 : hasM 101 101 = false := rfl
  have f122 : hasM 101 122 = true := rfl
  have f105 : hasM 101 105 = false := rfl
  have f99 : hasM 101 99 = false := rfl
  have f113 : hasM 101 113 = false := rfl
  have f108 : hasM 101 108 = false := rfl
  have f100 : hasM 101 100 = false := rfl
  have f115 : hasM 101 115 = false := rfl
  simp [ownT, layOk, layS, lay0, stepT, partT, partOk, hp, hk, f101, f122, f105, f99, f113, f108, f100, f115, h1, h2, h3, h4, h5, h6, h7, h8, h9, h10, sameT, bareT, sameQs, qidZ]
theorem own_ok_105 (tag code msize iounit count : Int) (name : List UInt8) (qid : QidV) (qids : List QidV) (data : List UInt8) (sqid : QidV) (smode ssize : Int) (sname : List UInt8) (h : InT ⟨105, tag, code, msize, iounit, count, name, qid, qids, data, sqid, smode, ssize, sname⟩) : layOk (ownT ⟨105, tag, code, msize, iounit, count, name, qid, qids, data, sqid, smode, ssize, sname⟩) = true := by
  obtain ⟨h1, h2, h3, h4, h5, h6, h7, h8, h9, h10⟩ := h
  simp only at h1 h2 h3 h4 h5 h6 h7 h8 h9 h10
  have hp : partsM 105 = [5] := rfl
  have hk : (105 : Int) ∈ kindsW := by decide
  have f101 : hasM 105 101 = false := rfl
  have f122 : hasM 105 122 = false := rfl
  have f105 : hasM 105 105 = false := rfl
  have f99 : hasM 105 99 = false := rfl
  have f113 : hasM 105 113 = true := rfl
  have f108 : hasM 105 108 = false := rfl
  have f100 : hasM 105 100 = false := rfl
  have f115 : hasM 105 115 = false := rfl
  simp [ownT, layOk, layS, lay0, stepT, partT, partOk, hp, hk, f101, f122, f105, f99, f113, f108, f100, f115, h1, h2, h3, h4, h5, h6, h7, h8, h9, h10, sameT, bareT, sameQs, qidZ]
theorem own_ok_107 (tag code msize iounit count : Int) (name : List UInt8) (qid : QidV) (qids : List QidV) (data : List UInt8) (sqid : QidV) (smode ssize : Int) (sname : List UInt8) (h : InT ⟨107, tag, code, msize, iounit, count, name, qid, qids, data, sqid, smode, ssize, sname⟩) : layOk (ownT ⟨107, tag, code, msize, iounit, count, name, qid, qids, data, sqid, smode, ssize, sname⟩) = true := by
  obtain ⟨h1, h2, h3, h4, h5, h6, h7, h8, h9, h10⟩ := h
  simp only at h1 h2 h3 h4 h5 h6 h7 h8 h9 h10
  have hp : partsM 107 = [3] := rfl
  have hk : (107 : Int) ∈ kindsW := by decide
  have f101 : hasM 107 101 = true := rfl
  have f122 : hasM 107 122 = false := rfl
  have f105 : hasM 107 105 = false := rfl
  have f99 : hasM 107 99 = false := rfl
  have f113 : hasM 107 113 = false := rfl
  have f108 : hasM 107 108 = false := rfl
  have f100 : hasM 107 100 = false := rfl
  have f115 : hasM 107 115 = false := rfl
  simp [ownT, layOk, layS, lay0, stepT, partT, partOk, hp, hk, f101, f122, f105, f99, f113, f108, f100, f115, h1, h2, h3, h4, h5, h6, h7, h8, h9, h10, sameT, bareT, sameQs, qidZ]
theorem own_ok_109 (tag code msize iounit count : Int) (name : List UInt8) (qid : QidV) (qids : List QidV) (data : List UInt8) (sqid : QidV) (smode ssize : Int) (sname : List UInt8) (h : InT ⟨109, tag, code, msize, iounit, count, name, qid, qids, data, sqid, smode, ssize, sname⟩) : layOk (ownT ⟨109, tag, code, msize, iounit, count, name, qid, qids, data, sqid, smode, ssize, sname⟩) = true := by
  obtain ⟨h1, h2, h3, h4, h5, h6, h7, h8, h9, h10⟩ := h
  simp only at h1 h2 h3 h4 h5 h6 h7 h8 h9 h10
  have hp : partsM 109 = [] := rfl
  have hk : (109 : Int) ∈ kindsW := by decide
  have f101 : hasM 109 101 = false := rfl
  have f122 : hasM 109 122 = false := rfl
  have f105 : hasM 109 105 = false := rfl
  have f99 : hasM 109 99 = false := rfl
  have f113 : hasM 109 113 = false := rfl
  have f108 : hasM 109 108 = false := rfl
  have f100 : hasM 109 100 = false := rfl
  have f115 : hasM 109 115 = false := rfl
  simp [ownT, layOk, layS, lay0, stepT, partT, partOk, hp, hk, f101, f122, f105, f99, f113, f108, f100, f115, h1, h2, h3, h4, h5, h6, h7, h8, h9, h10, sameT, bareT, sameQs, qidZ]
theorem own_ok_111 (tag code msize iounit count : Int) (name : List UInt8) (qid : QidV) (qids : List QidV) (data : List UInt8) (sqid : QidV) (smode ssize : Int) (sname : List UInt8) (h : InT ⟨111, tag, code, msize, iounit, count, name, qid, qids, data, sqid, smode, ssize, sname⟩) : layOk (ownT ⟨111, tag, code, msize, iounit, count, name, qid, qids, data, sqid, smode, ssize, sname⟩) = true := by
  obtain ⟨h1, h2, h3, h4, h5, h6, h7, h8, h9, h10⟩ := h
  simp only at h1 h2 h3 h4 h5 h6 h7 h8 h9 h10
  have hp : partsM 111 = [6] := rfl
  have hk : (111 : Int) ∈ kindsW := by decide
  have f101 : hasM 111 101 = false := rfl
  have f122 : hasM 111 122 = false := rfl
  have f105 : hasM 111 105 = false := rfl
  have f99 : hasM 111 99 = false := rfl
  have f113 : hasM 111 113 = false := rfl
  have f108 : hasM 111 108 = true := rfl
  have f100 : hasM 111 100 = false := rfl
  have f115 : hasM 111 115 = false := rfl
  simp [ownT, layOk, layS, lay0, stepT, partT, partOk, hp, hk, f101, f122, f105, f99, f113, f108, f100, f115, h1, h2, h3, h4, h5, h6, h7, h8, h9, h10, sameT, bareT, sameQs, qidZ]
theorem own_ok_113 (tag code msize iounit count : Int) (name : List UInt8) (qid : QidV) (qids : List QidV) (data : List UInt8) (sqid : QidV) (smode ssize : Int) (sname : List UInt8) (h : InT ⟨113, tag, code, msize, iounit, count, name, qid, qids, data, sqid, smode, ssize, sname⟩) : layOk (ownT ⟨113, tag, code, msize, iounit, count, name, qid, qids, data, sqid, smode, ssize, sname⟩) = true := by
  obtain ⟨h1, h2, h3, h4, h5, h6, h7, h8, h9, h10⟩ := h
  simp only at h1 h2 h3 h4 h5 h6 h7 h8 h9 h10
  have hp : partsM 113 = [5, 1] := rfl
  have hk : (113 : Int) ∈ kindsW := by decide
  have f101 : hasM 113 101 = false := rfl
  have f122 : hasM 113 122 = false := rfl
  have f105 : hasM 113 105 = true := rfl
  have f99 : hasM 113 99 = false := rfl
  have f113 : hasM 113 113 = true := rfl
  have f108 : hasM 113 108 = false := rfl
  have f100 : hasM 113 100 = false := rfl
  have f115 : hasM 113 115 = false := rfl
  simp [ownT, layOk, layS, lay0, stepT, partT, partOk, hp, hk, f101, f122, f105, f99, f113, f108, f100, f115, h1, h2, h3, h4, h5, h6, h7, h8, h9, h10, sameT, bareT, sameQs, qidZ]
theorem own_ok_115 (tag code msize iounit count : Int) (name : List UInt8) (qid : QidV) (qids : List QidV) (data : List UInt8) (sqid : QidV) (smode ssize : Int) (sname : List UInt8) (h : InT ⟨115, tag, code, msize, iounit, count, name, qid, qids, data, sqid, smode, ssize, sname⟩) : layOk (ownT ⟨115, tag, code, msize, iounit, count, name, qid, qids, data, sqid, smode, ssize, sname⟩) = true := by
  obtain ⟨h1, h2, h3, h4, h5, h6, h7, h8, h9, h10⟩ := h
  simp only at h1 h2 h3 h4 h5 h6 h7 h8 h9 h10
  have hp : partsM 115 = [5, 1] := rfl
  have hk : (115 : Int) ∈ kindsW := by decide
  have f101 : hasM 115 101 = false := rfl
  have f122 : hasM 115 122 = false := rfl
  have f105 : hasM 115 105 = true := rfl
  have f99 : hasM 115 99 = false := rfl
  have f113 : hasM 115 113 = true := rfl
  have f108 : hasM 115 108 = false := rfl
  have f100 : hasM 115 100 = false := rfl
  have f115 : hasM 115 115 = false := rfl
  simp [ownT, layOk, layS, lay0, stepT, partT, partOk, hp, hk, f101, f122, f105, f99, f113, f108, f100, f115, h1, h2, h3, h4, h5, h6, h7, h8, h9, h10, sameT, bareT, sameQs, qidZ]
theorem own_ok_117 (tag code msize iounit count : Int) (name : List UInt8) (qid : QidV) (qids : List QidV) (data : List UInt8) (sqid : QidV) (smode ssize : Int) (sname : List UInt8) (h : InT ⟨117, tag, code, msize, iounit, count, name, qid, qids, data, sqid, smode, ssize, sname⟩) : layOk (ownT ⟨117, tag, code, msize, iounit, count, name, qid, qids, data, sqid, smode, ssize, sname⟩) = true := by
  obtain ⟨h1, h2, h3, h4, h5, h6, h7, h8, h9, h10⟩ := h
  simp only at h1 h2 h3 h4 h5 h6 h7 h8 h9 h10
  have hp : partsM 117 = [7] := rfl
  have hk : (117 : Int) ∈ kindsW := by decide
  have f101 : hasM 117 101 = false := rfl
  have f122 : hasM 117 122 = false := rfl
  have f105 : hasM 117 105 = false := rfl
  have f99 : hasM 117 99 = false := rfl
  have f113 : hasM 117 113 = false := rfl
  have f108 : hasM 117 108 = false := rfl
  have f100 : hasM 117 100 = true := rfl
  have f115 : hasM 117 115 = false := rfl
  simp [ownT, layOk, layS, lay0, stepT, partT, partOk, hp, hk, f101, f122, f105, f99, f113, f108, f100, f115, h1, h2, h3, h4, h5, h6, h7, h8, h9, h10, sameT, bareT, sameQs, qidZ]
theorem own_ok_119 (tag code msize iounit count : Int) (name : List UInt8) (qid : QidV) (qids : List QidV) (data : List UInt8) (sqid : QidV) (smode ssize : Int) (sname : List UInt8) (h : InT ⟨119, tag, code, msize, iounit, count, name, qid, qids, data, sqid, smode, ssize, sname⟩) : layOk (ownT ⟨119, tag, code, msize, iounit, count, name, qid, qids, data, sqid, smode, ssize, sname⟩) = true := by
  obtain ⟨h1, h2, h3, h4, h5, h6, h7, h8, h9, h10⟩ := h
  simp only at h1 h2 h3 h4 h5 h6 h7 h8 h9 h10
  have hp : partsM 119 = [2] := rfl
  have hk : (119 : Int) ∈ kindsW := by decide
  have f101 : hasM 119 101 = false := rfl
  have f122 : hasM 119 122 = false := rfl
  have f105 : hasM 119 105 = false := rfl
  have f99 : hasM 119 99 = true := rfl
  have f113 : hasM 119 113 = false := rfl
  have f108 : hasM 119 108 = false := rfl
  have f100 : hasM 119 100 = false := rfl
  have f115 : hasM 119 115 = false := rfl
  simp [ownT, layOk, layS, lay0, stepT, partT, partOk, hp, hk, f101, f122, f105, f99, f113, f108, f100, f115, h1, h2, h3, h4, h5, h6, h7, h8, h9, h10, sameT, bareT, sameQs, qidZ]
theorem own_ok_121 (tag code msize iounit count : Int) (name : List UInt8) (qid : QidV) (qids : List QidV) (data : List UInt8) (sqid : QidV) (smode ssize : Int) (sname : List UInt8) (h : InT ⟨121, tag, code, msize, iounit, count, name, qid, qids, data, sqid, smode, ssize, sname⟩) : layOk (ownT ⟨121, tag, code, msize, iounit, count, name, qid, qids, data, sqid, smode, ssize, sname⟩) = true := by
  obtain ⟨h1, h2, h3, h4, h5, h6, h7, h8, h9, h10⟩ := h
  simp only at h1 h2 h3 h4 h5 h6 h7 h8 h9 h10
  have hp : partsM 121 = [] := rfl
  have hk : (121 : Int) ∈ kindsW := by decide
  have f101 : hasM 121 101 = false := rfl
  have f122 : hasM 121 122 = false := rfl
  have f105 : hasM 121 105 = false := rfl
  have f99 : hasM 121 99 = false := rfl
  have f113 : hasM 121 113 = false := rfl
  have f108 : hasM 121 108 = false := rfl
  have f100 : hasM 121 100 = false := rfl
  have f115 : hasM 121 115 = false := rfl
  simp [ownT, layOk, layS, lay0, stepT, partT, partOk, hp, hk, f101, f122, f105, f99, f113, f108, f100, f115, h1, h2, h3, h4, h5, h6, h7, h8, h9, h10, sameT, bareT, sameQs, qidZ]
theorem own_ok_123 (tag code msize iounit count : Int) (name : List UInt8) (qid : QidV) (qids : List QidV) (data : List UInt8) (sqid : QidV) (smode ssize : Int) (sname : List UInt8) (h : InT ⟨123, tag, code, msize, iounit, count, name, qid, qids, data, sqid, smode, ssize, sname⟩) : layOk (ownT ⟨123, tag, code, msize, iounit, count, name, qid, qids, data, sqid, smode, ssize, sname⟩) = true := by
  obtain ⟨h1, h2, h3, h4, h5, h6, h7, h8, h9, h10⟩ := h
  simp only at h1 h2 h3 h4 h5 h6 h7 h8 h9 h10
  have hp : partsM 123 = [] := rfl
  have hk : (123 : Int) ∈ kindsW := by decide
  have f101 : hasM 123 101 = false := rfl
  have f122 : hasM 123 122 = false := rfl
  have f105 : hasM 123 105 = false := rfl
  have f99 : hasM 123 99 = false := rfl
  have f113 : hasM 123 113 = false := rfl
  have f108 : hasM 123 108 = false := rfl
  have f100 : hasM 123 100 = false := rfl
  have f115 : hasM 123 115 = false := rfl
  simp [ownT, layOk, layS, lay0, stepT, partT, partOk, hp, hk, f101, f122, f105, f99, f113, f108, f100, f115, h1, h2, h3, h4, h5, h6, h7, h8, h9, h10, sameT, bareT, sameQs, qidZ]
theorem own_ok_125 (tag code msize iounit count : Int) (name : List UInt8) (qid : QidV) (qids : List QidV) (data : List UInt8) (sqid : QidV) (smode ssize : Int) (sname : List UInt8) (h : InT ⟨125, tag, code, msize, iounit, count, name, qid, qids, data, sqid, smode, ssize, sname⟩) : layOk (ownT ⟨125, tag, code, msize, iounit, count, name, qid, qids, data, sqid, smode, ssize, sname⟩) = true := by
  obtain ⟨h1, h2, h3, h4, h5, h6, h7, h8, h9, h10⟩ := h
  simp only at h1 h2 h3 h4 h5 h6 h7 h8 h9 h10
  have hp : partsM 125 = [8] := rfl
  have hk : (125 : Int) ∈ kindsW := by decide
  have f101 : hasM 125 101 = false := rfl
  have f122 : hasM 125 122 = false := rfl
  have f105 : hasM 125 105 = false := rfl
  have f99 : hasM 125 99 = false := rfl
  have f113 : hasM 125 113 = false := rfl
  have f108 : hasM 125 108 = false := rfl
  have f100 : hasM 125 100 = false := rfl
  have f115 : hasM 125 115 = true := rfl
  simp [ownT, layOk, layS, lay0, stepT, partT, partOk, hp, hk, f101, f122, f105, f99, f113, f108, f100, f115, h1, h2, h3, h4, h5, h6, h7, h8, h9, h10, sameT, bareT, sameQs, qidZ]
theorem own_ok_127 (tag code msize iounit count : Int) (name : List UInt8) (qid : QidV) (qids : List QidV) (data : List UInt8) (sqid : QidV) (smode ssize : Int) (sname : List UInt8) (h : InT ⟨127, tag, code, msize, iounit, count, name, qid, qids, data, sqid, smode, ssize, sname⟩) : layOk (ownT ⟨127, tag, code, msize, iounit, count, name, qid, qids, data, sqid, smode, ssize, sname⟩) = true := by
  obtain ⟨h1, h2, h3, h4, h5, h6, h7, h8, h9, h10⟩ := h
  simp only at h1 h2 h3 h4 h5 h6 h7 h8 h9 h10
  have hp : partsM 127 = [] := rfl
  have hk : (127 : Int) ∈ kindsW := by decide
  have f101 : hasM 127 101 = false := rfl
  have f122 : hasM 127 122 = false := rfl
  have f105 : hasM 127 105 = false := rfl
  have f99 : hasM 127 99 = false := rfl
  have f113 : hasM 127 113 = false := rfl
  have f108 : hasM 127 108 = false := rfl
  have f100 : hasM 127 100 = false := rfl
  have f115 : hasM 127 115 = false := rfl
  simp [ownT, layOk, layS, lay0, stepT, partT, partOk, hp, hk, f101, f122, f105, f99, f113, f108, f100, f115, h1, h2, h3, h4, h5, h6, h7, h8, h9, h10, sameT, bareT, sameQs, qidZ]
theorem own_ok (u : TellV) (hk : u.kind ∈ kindsW) (h : InT u) : layOk (ownT u) = true := by
  obtain ⟨kind, tag, code, msize, iounit, count, name, qid, qids, data, sqid, smode, ssize, sname⟩ := u
  simp only [kindsW, List.mem_cons, List.not_mem_nil, or_false] at hk
  rcases hk with rfl | rfl | rfl | rfl | rfl | rfl | rfl | rfl | rfl | rfl | rfl | rfl | rfl
  · exact own_ok_101 tag code msize iounit count name qid qids data sqid smode ssize sname h
  · exact own_ok_105 tag code msize iounit count name qid qids data sqid smode ssize sname h
  · exact own_ok_107 tag code msize iounit count name qid qids data sqid smode ssize sname h
  · exact own_ok_109 tag code msize iounit count name qid qids data sqid smode ssize sname h
  · exact own_ok_111 tag code msize iounit count name qid qids data sqid smode ssize sname h
  · exact own_ok_113 tag code msize iounit count name qid qids data sqid smode ssize sname h
  · exact own_ok_115 tag code msize iounit count name qid qids data sqid smode ssize sname h
  · exact own_ok_117 tag code msize iounit count name qid qids data sqid smode ssize sname h
  · exact own_ok_119 tag code msize iounit count name qid qids data sqid smode ssize sname h
  · exact own_ok_121 tag code msize iounit count name qid qids data sqid smode ssize sname h
  · exact own_ok_123 tag code msize iounit count name qid qids data sqid smode ssize sname h
  · exact own_ok_125 tag code msize iounit count name qid qids data sqid smode ssize sname h
  · exact own_ok_127 tag code msize iounit count name qid qids data sqid smode ssize sname h
theorem kindB_mem (n : Int) : kindB n ∈ kindsW := by
  have h0 := Int.emod_nonneg (up0 n) (show (13 : Int) ≠ 0 by omega)
  have h1 := Int.emod_lt_of_pos (up0 n) (show (0 : Int) < 13 by omega)
  have hl : kindsW.length = 13 := rfl
  unfold kindB
  rw [List.getElem?_eq_getElem (by omega)]
  exact List.getElem_mem _
theorem mod_in (n : Int) (m : Int) (h : 0 < m) : inB (up0 n % m) (m - 1) = true := by
  rw [inB_iff]
  have h0 := Int.emod_nonneg (up0 n) (show m ≠ 0 by omega)
  have h1 := Int.emod_lt_of_pos (up0 n) h
  omega
theorem goodQ_ok (q : QidV) : qidOk (goodQ q) = true := by
  unfold qidOk goodQ
  rw [Bool.and_eq_true]
  exact ⟨mod_in _ 4294967296 (by omega), mod_in _ 4611686018427387905 (by omega)⟩
theorem good_in (t : TellV) : InT (goodU18 t) where
  tag := mod_in _ 65536 (by omega)
  code := mod_in _ 65536 (by omega)
  msize := mod_in _ 4294967296 (by omega)
  iounit := mod_in _ 4294967296 (by omega)
  count := mod_in _ 4294967296 (by omega)
  name := by simp [goodU18]; omega
  qid := goodQ_ok _
  qids := by
    unfold qidsOk goodU18
    rw [Bool.and_eq_true]
    refine ⟨by simp; omega, ?_⟩
    rw [List.all_eq_true]
    intro q hq
    obtain ⟨p, _, rfl⟩ := List.mem_map.1 hq
    exact goodQ_ok p
  data := by simp [goodU18]; omega
  stat := by
    unfold statOk goodU18
    simp only [Bool.and_eq_true, decide_eq_true_eq]
    exact ⟨⟨⟨goodQ_ok _, mod_in _ 4294967296 (by omega)⟩, mod_in _ 4611686018427387905 (by omega)⟩, by simp; omega⟩
theorem good_ok18 (t : TellV) : layOk (goodT t) = true := own_ok _ (kindB_mem t.kind) (good_in t)
theorem sameT_refl (t : TellV) : sameT t t = true := by simp [sameT, sameQs_refl]
end Go.Proofs.Ytoplkglnjgllnaa
