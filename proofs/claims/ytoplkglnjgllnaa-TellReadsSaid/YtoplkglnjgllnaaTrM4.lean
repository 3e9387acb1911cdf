/-
  ref18.May of any reply; that it is layOk, and what Bytes gives (plain).
-/
import Derived.Test.YtoplkglnjgllnaaTrM1
import Derived.Test.YtoplkglnjgllnaaTrM2
import Derived.Test.YtoplkglnjgllnaaTrM3
import Derived.Test.YtoplkglnjgllnaaTrM5
namespace Go.Proofs.Ytoplkglnjgllnaa
open Go.RowKit
set_option linter.unusedVariables false
set_option linter.unusedSimpArgs false

/-- May a reply be, by the document. -/
def mayT (t : TellV) : Bool :=
  sameT (ownT t) t && !(fieldsM t.kind).isEmpty && inB t.tag 65535 && inB t.code 65535 && decide (t.qids.length ≤ 8) && decide (t.data.length ≤ 1024) && decide (t.name.length ≤ 255) && decide (t.sname.length ≤ 255) && t.qids.all qidOk && qidOk t.qid && qidOk t.sqid && inB t.msize 4294967295 && inB t.iounit 4294967295 && inB t.count 4294967295 && inB t.smode 4294967295 && inB t.ssize 4611686018427387904
theorem refMay_any (t : TellV) (Aq : Option Addr) (nq cq : Nat) (Ad : Option Addr) (nd cd : Nat) (w : World) (hrd : TellRd w t Aq nq cq Ad nd cd) :
    Calls Try.prog 16 #[.agg (tellC t Aq nq cq Ad nd cd).toArray] w fun e w' => e = .returned (.bool (mayT t)) ∧ Below w.heap.size w w' := by
  obtain ⟨kind, tag, code, msize, iounit, count, name, ⟨qdir, qver, qpath⟩, qids, data, ⟨sdir, sver, spath⟩, smode, ssize, sname⟩ := t
  have hlq : qids.length = nq := by have := hrd.q.len; simpa using this
  have hld : data.length = nd := hrd.d.len
  obtain ⟨b, hb⟩ : ∃ b, b = mayT ⟨kind, tag, code, msize, iounit, count, name, ⟨qdir, qver, qpath⟩, qids, data, ⟨sdir, sver, spath⟩, smode, ssize, sname⟩ := ⟨_, rfl⟩
  rw [← hb]
  unfold mayT at hb
  simp only at hb
  rcases ha0 : sameT (ownT ⟨kind, tag, code, msize, iounit, count, name, ⟨qdir, qver, qpath⟩, qids, data, ⟨sdir, sver, spath⟩, smode, ssize, sname⟩) ⟨kind, tag, code, msize, iounit, count, name, ⟨qdir, qver, qpath⟩, qids, data, ⟨sdir, sver, spath⟩, smode, ssize, sname⟩ with _ | _
  · rw [ha0] at hb
    simp only [Bool.false_and] at hb
    subst hb
    exact rmay_c0 kind tag code msize iounit count name qdir qver qpath qids data sdir sver spath smode ssize sname Aq nq cq Ad nd cd w hrd ha0
  rw [ha0] at hb
  by_cases ha1 : fieldsM kind = []
  · rw [ha1] at hb
    simp only [List.isEmpty_nil, Bool.not_true, Bool.and_false, Bool.false_and] at hb
    subst hb
    exact rmay_c1 kind tag code msize iounit count name qdir qver qpath qids data sdir sver spath smode ssize sname Aq nq cq Ad nd cd w hrd ha0 ha1
  have he1 : (fieldsM kind).isEmpty = false := by simpa using ha1
  rw [he1] at hb
  by_cases ha2 : tag < 0
  · have hf : inB tag 65535 = false := by rw [← Bool.not_eq_true, inB_def]; omega
    rw [hf] at hb
    simp only [Bool.and_false, Bool.false_and] at hb
    subst hb
    exact rmay_c2 kind tag code msize iounit count name qdir qver qpath qids data sdir sver spath smode ssize sname Aq nq cq Ad nd cd w hrd ha0 ha1 ha2
  by_cases ha3 : 65535 < tag
  · have hf : inB tag 65535 = false := by rw [← Bool.not_eq_true, inB_def]; omega
    rw [hf] at hb
    simp only [Bool.and_false, Bool.false_and] at hb
    subst hb
    exact rmay_c3 kind tag code msize iounit count name qdir qver qpath qids data sdir sver spath smode ssize sname Aq nq cq Ad nd cd w hrd ha0 ha1 ha2 ha3
  have ht3 : inB tag 65535 = true := by rw [inB_def]; omega
  rw [ht3] at hb
  by_cases ha4 : code < 0
  · have hf : inB code 65535 = false := by rw [← Bool.not_eq_true, inB_def]; omega
    rw [hf] at hb
    simp only [Bool.and_false, Bool.false_and] at hb
    subst hb
    exact rmay_c4 kind tag code msize iounit count name qdir qver qpath qids data sdir sver spath smode ssize sname Aq nq cq Ad nd cd w hrd ha0 ha1 ha2 ha3 ha4
  by_cases ha5 : 65535 < code
  · have hf : inB code 65535 = false := by rw [← Bool.not_eq_true, inB_def]; omega
    rw [hf] at hb
    simp only [Bool.and_false, Bool.false_and] at hb
    subst hb
    exact rmay_c5 kind tag code msize iounit count name qdir qver qpath qids data sdir sver spath smode ssize sname Aq nq cq Ad nd cd w hrd ha0 ha1 ha2 ha3 ha4 ha5
  have ht5 : inB code 65535 = true := by rw [inB_def]; omega
  rw [ht5] at hb
  by_cases ha6 : (8 : Int) < nq
  · have hf : decide (qids.length ≤ 8) = false := decide_eq_false (by omega)
    rw [hf] at hb
    simp only [Bool.and_false, Bool.false_and] at hb
    subst hb
    exact rmay_c6 kind tag code msize iounit count name qdir qver qpath qids data sdir sver spath smode ssize sname Aq nq cq Ad nd cd w hrd ha0 ha1 ha2 ha3 ha4 ha5 ha6
  have ht6 : decide (qids.length ≤ 8) = true := decide_eq_true (by omega)
  rw [ht6] at hb
  by_cases ha7 : (1024 : Int) < nd
  · have hf : decide (data.length ≤ 1024) = false := decide_eq_false (by omega)
    rw [hf] at hb
    simp only [Bool.and_false, Bool.false_and] at hb
    subst hb
    exact rmay_c7 kind tag code msize iounit count name qdir qver qpath qids data sdir sver spath smode ssize sname Aq nq cq Ad nd cd w hrd ha0 ha1 ha2 ha3 ha4 ha5 ha6 ha7
  have ht7 : decide (data.length ≤ 1024) = true := decide_eq_true (by omega)
  rw [ht7] at hb
  by_cases ha8 : (255 : Int) < name.length
  · have hf : decide (name.length ≤ 255) = false := decide_eq_false (by omega)
    rw [hf] at hb
    simp only [Bool.and_false, Bool.false_and] at hb
    subst hb
    exact rmay_c8 kind tag code msize iounit count name qdir qver qpath qids data sdir sver spath smode ssize sname Aq nq cq Ad nd cd w hrd ha0 ha1 ha2 ha3 ha4 ha5 ha6 ha7 ha8
  have ht8 : decide (name.length ≤ 255) = true := decide_eq_true (by omega)
  rw [ht8] at hb
  by_cases ha9 : (255 : Int) < sname.length
  · have hf : decide (sname.length ≤ 255) = false := decide_eq_false (by omega)
    rw [hf] at hb
    simp only [Bool.and_false, Bool.false_and] at hb
    subst hb
    exact rmay_c9 kind tag code msize iounit count name qdir qver qpath qids data sdir sver spath smode ssize sname Aq nq cq Ad nd cd w hrd ha0 ha1 ha2 ha3 ha4 ha5 ha6 ha7 ha8 ha9
  have ht9 : decide (sname.length ≤ 255) = true := decide_eq_true (by omega)
  rw [ht9] at hb
  rcases hall : qids.all qidOk with _ | _
  · rw [hall] at hb
    simp only [Bool.and_false, Bool.false_and] at hb
    subst hb
    exact rmay_l kind tag code msize iounit count name qdir qver qpath qids data sdir sver spath smode ssize sname Aq nq cq Ad nd cd w hrd ha0 ha1 ha2 ha3 ha4 ha5 ha6 ha7 ha8 ha9 hall
  rw [hall] at hb
  rcases hfq : qidOk ⟨qdir, qver, qpath⟩ with _ | _
  · rw [hfq] at hb
    simp only [Bool.and_false, Bool.false_and] at hb
    subst hb
    exact rmay_f0 kind tag code msize iounit count name qdir qver qpath qids data sdir sver spath smode ssize sname Aq nq cq Ad nd cd w hrd ha0 ha1 ha2 ha3 ha4 ha5 ha6 ha7 ha8 ha9 hall hfq
  rw [hfq] at hb
  rcases hfs : qidOk ⟨sdir, sver, spath⟩ with _ | _
  · rw [hfs] at hb
    simp only [Bool.and_false, Bool.false_and] at hb
    subst hb
    exact rmay_f1 kind tag code msize iounit count name qdir qver qpath qids data sdir sver spath smode ssize sname Aq nq cq Ad nd cd w hrd ha0 ha1 ha2 ha3 ha4 ha5 ha6 ha7 ha8 ha9 hall hfq hfs
  rw [hfs] at hb
  rcases hf3 : inB msize 4294967295 with _ | _
  · rw [hf3] at hb
    simp only [Bool.and_false, Bool.false_and] at hb
    subst hb
    exact rmay_f2 kind tag code msize iounit count name qdir qver qpath qids data sdir sver spath smode ssize sname Aq nq cq Ad nd cd w hrd ha0 ha1 ha2 ha3 ha4 ha5 ha6 ha7 ha8 ha9 hall hfq hfs hf3
  rw [hf3] at hb
  rcases hf4 : inB iounit 4294967295 with _ | _
  · rw [hf4] at hb
    simp only [Bool.and_false, Bool.false_and] at hb
    subst hb
    exact rmay_f3 kind tag code msize iounit count name qdir qver qpath qids data sdir sver spath smode ssize sname Aq nq cq Ad nd cd w hrd ha0 ha1 ha2 ha3 ha4 ha5 ha6 ha7 ha8 ha9 hall hfq hfs hf3 hf4
  rw [hf4] at hb
  rcases hf5 : inB count 4294967295 with _ | _
  · rw [hf5] at hb
    simp only [Bool.and_false, Bool.false_and] at hb
    subst hb
    exact rmay_f4 kind tag code msize iounit count name qdir qver qpath qids data sdir sver spath smode ssize sname Aq nq cq Ad nd cd w hrd ha0 ha1 ha2 ha3 ha4 ha5 ha6 ha7 ha8 ha9 hall hfq hfs hf3 hf4 hf5
  rw [hf5] at hb
  rcases hf6 : inB smode 4294967295 with _ | _
  · rw [hf6] at hb
    simp only [Bool.and_false, Bool.false_and] at hb
    subst hb
    exact rmay_f5 kind tag code msize iounit count name qdir qver qpath qids data sdir sver spath smode ssize sname Aq nq cq Ad nd cd w hrd ha0 ha1 ha2 ha3 ha4 ha5 ha6 ha7 ha8 ha9 hall hfq hfs hf3 hf4 hf5 hf6
  rw [hf6] at hb
  rcases hf7 : inB ssize 4611686018427387904 with _ | _
  · rw [hf7] at hb
    simp only [Bool.and_false, Bool.false_and] at hb
    subst hb
    exact rmay_f6 kind tag code msize iounit count name qdir qver qpath qids data sdir sver spath smode ssize sname Aq nq cq Ad nd cd w hrd ha0 ha1 ha2 ha3 ha4 ha5 ha6 ha7 ha8 ha9 hall hfq hfs hf3 hf4 hf5 hf6 hf7
  rw [hf7] at hb
  simp only [Bool.not_false, Bool.and_true, Bool.true_and] at hb
  subst hb
  exact rmay_t kind tag code msize iounit count name qdir qver qpath qids data sdir sver spath smode ssize sname Aq nq cq Ad nd cd w hrd ha0 ha1 ha2 ha3 ha4 ha5 ha6 ha7 ha8 ha9 hall hfq hfs hf3 hf4 hf5 hf6 hf7
/-- A reply whose numbers, texts and lists are in their bounds. -/
structure InT2 (u : TellV) : Prop where
  tag : inB u.tag 65535 = true
  code : inB u.code 65535 = true
  msize : inB u.msize 4294967295 = true
  iounit : inB u.iounit 4294967295 = true
  count : inB u.count 4294967295 = true
  name : u.name.length ≤ 255
  qid : qidOk u.qid = true
  qids : qidsOk u.qids = true
  data : u.data.length ≤ 1024
  stat : statOk u.sqid u.smode u.ssize u.sname = true
theorem own2_ok_101 (tag code msize iounit count : Int) (name : List UInt8) (qid : QidV) (qids : List QidV) (data : List UInt8) (sqid : QidV) (smode ssize : Int) (sname : List UInt8) (h : InT2 ⟨101, tag, code, msize, iounit, count, name, qid, qids, data, sqid, smode, ssize, sname⟩) : layOk (ownT ⟨101, tag, code, msize, iounit, count, name, qid, qids, data, sqid, smode, ssize, sname⟩) = true := by
  obtain ⟨h1, h2, h3, h4, h5, h6, h7, h8, h9, h10⟩ := h
  simp only at h1 h2 h3 h4 h5 h6 h7 h8 h9 h10
  have hp : partsM 101 = [0, 4] := rfl
  have hk : (101 : Int) ∈ kindsW := by decide
  have f101 : hasM 101 101 = false := rfl
  have f122 : hasM 101 122 = true := rfl
  have f105 : hasM 101 105 = false := rfl
  have f99 : hasM 101 99 = false := rfl
  have f113 : hasM 101 113 = false := rfl
  have f108 : hasM 101 108 = false := rfl
  have f100 : hasM 101 100 = false := rfl
  have f115 : hasM 101 115 = false := rfl
  simp [ownT, layOk, layS, lay0, stepT, partT, partOk, hp, hk, f101, f122, f105, f99, f113, f108, f100, f115, h1, h2, h3, h4, h5, h6, h7, h8, h9, h10, sameT, bareT, sameQs, qidZ]
theorem own2_ok_105 (tag code msize iounit count : Int) (name : List UInt8) (qid : QidV) (qids : List QidV) (data : List UInt8) (sqid : QidV) (smode ssize : Int) (sname : List UInt8) (h : InT2 ⟨105, tag, code, msize, iounit, count, name, qid, qids, data, sqid, smode, ssize, sname⟩) : layOk (ownT ⟨105, tag, code, msize, iounit, count, name, qid, qids, data, sqid, smode, ssize, sname⟩) = true := by
  obtain ⟨h1, h2, h3, h4, h5, h6, h7, h8, h9, h10⟩ := h
  simp only at h1 h2 h3 h4 h5 h6 h7 h8 h9 h10
  have hp : partsM 105 = [5] := rfl
  have hk : (105 : Int) ∈ kindsW := by decide
  have f101 : hasM 105 101 = false := rfl
  have f122 : hasM 105 122 = false := rfl
  have f105 : hasM 105 105 = false := rfl
  have f99 : hasM 105 99 = false := rfl
  have f113 : hasM 105 113 = true := rfl
  have f108 : hasM 105 108 = false := rfl
  have f100 : hasM 105 100 = false := rfl
  have f115 : hasM 105 115 = false := rfl
  simp [ownT, layOk, layS, lay0, stepT, partT, partOk, hp, hk, f101, f122, f105, f99, f113, f108, f100, f115, h1, h2, h3, h4, h5, h6, h7, h8, h9, h10, sameT, bareT, sameQs, qidZ]
theorem own2_ok_107 (tag code msize iounit count : Int) (name : List UInt8) (qid : QidV) (qids : List QidV) (data : List UInt8) (sqid : QidV) (smode ssize : Int) (sname : List UInt8) (h : InT2 ⟨107, tag, code, msize, iounit, count, name, qid, qids, data, sqid, smode, ssize, sname⟩) : layOk (ownT ⟨107, tag, code, msize, iounit, count, name, qid, qids, data, sqid, smode, ssize, sname⟩) = true := by
  obtain ⟨h1, h2, h3, h4, h5, h6, h7, h8, h9, h10⟩ := h
  simp only at h1 h2 h3 h4 h5 h6 h7 h8 h9 h10
  have hp : partsM 107 = [3] := rfl
  have hk : (107 : Int) ∈ kindsW := by decide
  have f101 : hasM 107 101 = true := rfl
  have f122 : hasM 107 122 = false := rfl
  have f105 : hasM 107 105 = false := rfl
  have f99 : hasM 107 99 = false := rfl
  have f113 : hasM 107 113 = false := rfl
  have f108 : hasM 107 108 = false := rfl
  have f100 : hasM 107 100 = false := rfl
  have f115 : hasM 107 115 = false := rfl
  simp [ownT, layOk, layS, lay0, stepT, partT, partOk, hp, hk, f101, f122, f105, f99, f113, f108, f100, f115, h1, h2, h3, h4, h5, h6, h7, h8, h9, h10, sameT, bareT, sameQs, qidZ]
theorem own2_ok_109 (tag code msize iounit count : Int) (name : List UInt8) (qid : QidV) (qids : List QidV) (data : List UInt8) (sqid : QidV) (smode ssize : Int) (sname : List UInt8) (h : InT2 ⟨109, tag, code, msize, iounit, count, name, qid, qids, data, sqid, smode, ssize, sname⟩) : layOk (ownT ⟨109, tag, code, msize, iounit, count, name, qid, qids, data, sqid, smode, ssize, sname⟩) = true := by
  obtain ⟨h1, h2, h3, h4, h5, h6, h7, h8, h9, h10⟩ := h
  simp only at h1 h2 h3 h4 h5 h6 h7 h8 h9 h10
  have hp : partsM 109 = [] := rfl
  have hk : (109 : Int) ∈ kindsW := by decide
  have f101 : hasM 109 101 = false := rfl
  have f122 : hasM 109 122 = false := rfl
  have f105 : hasM 109 105 = false := rfl
  have f99 : hasM 109 99 = false := rfl
  have f113 : hasM 109 113 = false := rfl
  have f108 : hasM 109 108 = false := rfl
  have f100 : hasM 109 100 = false := rfl
  have f115 : hasM 109 115 = false := rfl
  simp [ownT, layOk, layS, lay0, stepT, partT, partOk, hp, hk, f101, f122, f105, f99, f113, f108, f100, f115, h1, h2, h3, h4, h5, h6, h7, h8, h9, h10, sameT, bareT, sameQs, qidZ]
theorem own2_ok_111 (tag code msize iounit count : Int) (name : List UInt8) (qid : QidV) (qids : List QidV) (data : List UInt8) (sqid : QidV) (smode ssize : Int) (sname : List UInt8) (h : InT2 ⟨111, tag, code, msize, iounit, count, name, qid, qids, data, sqid, smode, ssize, sname⟩) : layOk (ownT ⟨111, tag, code, msize, iounit, count, name, qid, qids, data, sqid, smode, ssize, sname⟩) = true := by
  obtain ⟨h1, h2, h3, h4, h5, h6, h7, h8, h9, h10⟩ := h
  simp only at h1 h2 h3 h4 h5 h6 h7 h8 h9 h10
  have hp : partsM 111 = [6] := rfl
  have hk : (111 : Int) ∈ kindsW := by decide
  have f101 : hasM 111 101 = false := rfl
  have f122 : hasM 111 122 = false := rfl
  have f105 : hasM 111 105 = false := rfl
  have f99 : hasM 111 99 = false := rfl
  have f113 : hasM 111 113 = false := rfl
  have f108 : hasM 111 108 = true := rfl
  have f100 : hasM 111 100 = false := rfl
  have f115 : hasM 111 115 = false := rfl
  simp [ownT, layOk, layS, lay0, stepT, partT, partOk, hp, hk, f101, f122, f105, f99, f113, f108, f100, f115, h1, h2, h3, h4, h5, h6, h7, h8, h9, h10, sameT, bareT, sameQs, qidZ]
theorem own2_ok_113 (tag code msize iounit count : Int) (name : List UInt8) (qid : QidV) (qids : List QidV) (data : List UInt8) (sqid : QidV) (smode ssize : Int) (sname : List UInt8) (h : InT2 ⟨113, tag, code, msize, iounit, count, name, qid, qids, data, sqid, smode, ssize, sname⟩) : layOk (ownT ⟨113, tag, code, msize, iounit, count, name, qid, qids, data, sqid, smode, ssize, sname⟩) = true := by
  obtain ⟨h1, h2, h3, h4, h5, h6, h7, h8, h9, h10⟩ := h
  simp only at h1 h2 h3 h4 h5 h6 h7 h8 h9 h10
  have hp : partsM 113 = [5, 1] := rfl
  have hk : (113 : Int) ∈ kindsW := by decide
  have f101 : hasM 113 101 = false := rfl
  have f122 : hasM 113 122 = false := rfl
  have f105 : hasM 113 105 = true := rfl
  have f99 : hasM 113 99 = false := rfl
  have f113 : hasM 113 113 = true := rfl
  have f108 : hasM 113 108 = false := rfl
  have f100 : hasM 113 100 = false := rfl
  have f115 : hasM 113 115 = false := rfl
  simp [ownT, layOk, layS, lay0, stepT, partT, partOk, hp, hk, f101, f122, f105, f99, f113, f108, f100, f115, h1, h2, h3, h4, h5, h6, h7, h8, h9, h10, sameT, bareT, sameQs, qidZ]
theorem own2_ok_115 (tag code msize iounit count : Int) (name : List UInt8) (qid : QidV) (qids : List QidV) (data : List UInt8) (sqid : QidV) (smode ssize : Int) (sname : List UInt8) (h : InT2 ⟨115, tag, code, msize, iounit, count, name, qid, qids, data, sqid, smode, ssize, sname⟩) : layOk (ownT ⟨115, tag, code, msize, iounit, count, name, qid, qids, data, sqid, smode, ssize, sname⟩) = true := by
  obtain ⟨h1, h2, h3, h4, h5, h6, h7, h8, h9, h10⟩ := h
  simp only at h1 h2 h3 h4 h5 h6 h7 h8 h9 h10
  have hp : partsM 115 = [5, 1] := rfl
  have hk : (115 : Int) ∈ kindsW := by decide
  have f101 : hasM 115 101 = false := rfl
  have f122 : hasM 115 122 = false := rfl
  have f105 : hasM 115 105 = true := rfl
  have f99 : hasM 115 99 = false := rfl
  have f113 : hasM 115 113 = true := rfl
  have f108 : hasM 115 108 = false := rfl
  have f100 : hasM 115 100 = false := rfl
  have f115 : hasM 115 115 = false := rfl
  simp [ownT, layOk, layS, lay0, stepT, partT, partOk, hp, hk, f101, f122, f105, f99, f113, f108, f100, f115, h1, h2, h3, h4, h5, h6, h7, h8, h9, h10, sameT, bareT, sameQs, qidZ]
theorem own2_ok_117 (tag code msize iounit count : Int) (name : List UInt8) (qid : QidV) (qids : List QidV) (data : List UInt8) (sqid : QidV) (smode ssize : Int) (sname : List UInt8) (h : InT2 ⟨117, tag, code, msize, iounit, count, name, qid, qids, data, sqid, smode, ssize, sname⟩) : layOk (ownT ⟨117, tag, code, msize, iounit, count, name, qid, qids, data, sqid, smode, ssize, sname⟩) = true := by
  obtain ⟨h1, h2, h3, h4, h5, h6, h7, h8, h9, h10⟩ := h
  simp only at h1 h2 h3 h4 h5 h6 h7 h8 h9 h10
  have hp : partsM 117 = [7] := rfl
  have hk : (117 : Int) ∈ kindsW := by decide
  have f101 : hasM 117 101 = false := rfl
  have f122 : hasM 117 122 = false := rfl
  have f105 : hasM 117 105 = false := rfl
  have f99 : hasM 117 99 = false := rfl
  have f113 : hasM 117 113 = false := rfl
  have f108 : hasM 117 108 = false := rfl
  have f100 : hasM 117 100 = true := rfl
  have f115 : hasM 117 115 = false := rfl
  simp [ownT, layOk, layS, lay0, stepT, partT, partOk, hp, hk, f101, f122, f105, f99, f113, f108, f100, f115, h1, h2, h3, h4, h5, h6, h7, h8, h9, h10, sameT, bareT, sameQs, qidZ]
theorem own2_ok_119 (tag code msize iounit count : Int) (name : List UInt8) (qid : QidV) (qids : List QidV) (data : List UInt8) (sqid : QidV) (smode ssize : Int) (sname : List UInt8) (h : InT2 ⟨119, tag, code, msize, iounit, count, name, qid, qids, data, sqid, smode, ssize, sname⟩) : layOk (ownT ⟨119, tag, code, msize, iounit, count, name, qid, qids, data, sqid, smode, ssize, sname⟩) = true := by
  obtain ⟨h1, h2, h3, h4, h5, h6, h7, h8, h9, h10⟩ := h
  simp only at h1 h2 h3 h4 h5 h6 h7 h8 h9 h10
  have hp : partsM 119 = [2] := rfl
  have hk : (119 : Int) ∈ kindsW := by decide
  have f101 : hasM 119 101 = false := rfl
  have f122 : hasM 119 122 = false := rfl
  have f105 : hasM 119 105 = false := rfl
  have f99 : hasM 119 99 = true := rfl
  have f113 : hasM 119 113 = false := rfl
  have f108 : hasM 119 108 = false := rfl
  have f100 : hasM 119 100 = false := rfl
  have f115 : hasM 119 115 = false := rfl
  simp [ownT, layOk, layS, lay0, stepT, partT, partOk, hp, hk, f101, f122, f105, f99, f113, f108, f100, f115, h1, h2, h3, h4, h5, h6, h7, h8, h9, h10, sameT, bareT, sameQs, qidZ]
theorem own2_ok_121 (tag code msize iounit count : Int) (name : List UInt8) (qid : QidV) (qids : List QidV) (data : List UInt8) (sqid : QidV) (smode ssize : Int) (sname : List UInt8) (h : InT2 ⟨121, tag, code, msize, iounit, count, name, qid, qids, data, sqid, smode, ssize, sname⟩) : layOk (ownT ⟨121, tag, code, msize, iounit, count, name, qid, qids, data, sqid, smode, ssize, sname⟩) = true := by
  obtain ⟨h1, h2, h3, h4, h5, h6, h7, h8, h9, h10⟩ := h
  simp only at h1 h2 h3 h4 h5 h6 h7 h8 h9 h10
  have hp : partsM 121 = [] := rfl
  have hk : (121 : Int) ∈ kindsW := by decide
  have f101 : hasM 121 101 = false := rfl
  have f122 : hasM 121 122 = false := rfl
  have f105 : hasM 121 105 = false := rfl
  have f99 : hasM 121 99 = false := rfl
  have f113 : hasM 121 113 = false := rfl
  have f108 : hasM 121 108 = false := rfl
  have f100 : hasM 121 100 = false := rfl
  have f115 : hasM 121 115 = false := rfl
  simp [ownT, layOk, layS, lay0, stepT, partT, partOk, hp, hk, f101, f122, f105, f99, f113, f108, f100, f115, h1, h2, h3, h4, h5, h6, h7, h8, h9, h10, sameT, bareT, sameQs, qidZ]
theorem own2_ok_123 (tag code msize iounit count : Int) (name : List UInt8) (qid : QidV) (qids : List QidV) (data : List UInt8) (sqid : QidV) (smode ssize : Int) (sname : List UInt8) (h : InT2 ⟨123, tag, code, msize, iounit, count, name, qid, qids, data, sqid, smode, ssize, sname⟩) : layOk (ownT ⟨123, tag, code, msize, iounit, count, name, qid, qids, data, sqid, smode, ssize, sname⟩) = true := by
  obtain ⟨h1, h2, h3, h4, h5, h6, h7, h8, h9, h10⟩ := h
  simp only at h1 h2 h3 h4 h5 h6 h7 h8 h9 h10
  have hp : partsM 123 = [] := rfl
  have hk : (123 : Int) ∈ kindsW := by decide
  have f101 : hasM 123 101 = false := rfl
  have f122 : hasM 123 122 = false := rfl
  have f105 : hasM 123 105 = false := rfl
  have f99 : hasM 123 99 = false := rfl
  have f113 : hasM 123 113 = false := rfl
  have f108 : hasM 123 108 = false := rfl
  have f100 : hasM 123 100 = false := rfl
  have f115 : hasM 123 115 = false := rfl
  simp [ownT, layOk, layS, lay0, stepT, partT, partOk, hp, hk, f101, f122, f105, f99, f113, f108, f100, f115, h1, h2, h3, h4, h5, h6, h7, h8, h9, h10, sameT, bareT, sameQs, qidZ]
theorem own2_ok_125 (tag code msize iounit count : Int) (name : List UInt8) (qid : QidV) (qids : List QidV) (data : List UInt8) (sqid : QidV) (smode ssize : Int) (sname : List UInt8) (h : InT2 ⟨125, tag, code, msize, iounit, count, name, qid, qids, data, sqid, smode, ssize, sname⟩) : layOk (ownT ⟨125, tag, code, msize, iounit, count, name, qid, qids, data, sqid, smode, ssize, sname⟩) = true := by
  obtain ⟨h1, h2, h3, h4, h5, h6, h7, h8, h9, h10⟩ := h
  simp only at h1 h2 h3 h4 h5 h6 h7 h8 h9 h10
  have hp : partsM 125 = [8] := rfl
  have hk : (125 : Int) ∈ kindsW := by decide
  have f101 : hasM 125 101 = false := rfl
  have f122 : hasM 125 122 = false := rfl
  have f105 : hasM 125 105 = false := rfl
  have f99 : hasM 125 99 = false := rfl
  have f113 : hasM 125 113 = false := rfl
  have f108 : hasM 125 108 = false := rfl
  have f100 : hasM 125 100 = false := rfl
  have f115 : hasM 125 115 = true := rfl
  simp [ownT, layOk, layS, lay0, stepT, partT, partOk, hp, hk, f101, f122, f105, f99, f113, f108, f100, f115, h1, h2, h3, h4, h5, h6, h7, h8, h9, h10, sameT, bareT, sameQs, qidZ]
theorem own2_ok_127 (tag code msize iounit count : Int) (name : List UInt8) (qid : QidV) (qids : List QidV) (data : List UInt8) (sqid : QidV) (smode ssize : Int) (sname : List UInt8) (h : InT2 ⟨127, tag, code, msize, iounit, count, name, qid, qids, data, sqid, smode, ssize, sname⟩) : layOk (ownT ⟨127, tag, code, msize, iounit, count, name, qid, qids, data, sqid, smode, ssize, sname⟩) = true := by
  obtain ⟨h1, h2, h3, h4, h5, h6, h7, h8, h9, h10⟩ := h
  simp only at h1 h2 h3 h4 h5 h6 h7 h8 h9 h10
  have hp : partsM 127 = [] := rfl
  have hk : (127 : Int) ∈ kindsW := by decide
  have f101 : hasM 127 101 = false := rfl
  have f122 : hasM 127 122 = false := rfl
  have f105 : hasM 127 105 = false := rfl
  have f99 : hasM 127 99 = false := rfl
  have f113 : hasM 127 113 = false := rfl
  have f108 : hasM 127 108 = false := rfl
  have f100 : hasM 127 100 = false := rfl
  have f115 : hasM 127 115 = false := rfl
  simp [ownT, layOk, layS, lay0, stepT, partT, partOk, hp, hk, f101, f122, f105, f99, f113, f108, f100, f115, h1, h2, h3, h4, h5, h6, h7, h8, h9, h10, sameT, bareT, sameQs, qidZ]
theorem own2_ok (u : TellV) (hk : u.kind ∈ kindsW) (h : InT2 u) : layOk (ownT u) = true := by
  obtain ⟨kind, tag, code, msize, iounit, count, name, qid, qids, data, sqid, smode, ssize, sname⟩ := u
  simp only [kindsW, List.mem_cons, List.not_mem_nil, or_false] at hk
  rcases hk with rfl | rfl | rfl | rfl | rfl | rfl | rfl | rfl | rfl | rfl | rfl | rfl | rfl
  · exact own2_ok_101 tag code msize iounit count name qid qids data sqid smode ssize sname h
  · exact own2_ok_105 tag code msize iounit count name qid qids data sqid smode ssize sname h
  · exact own2_ok_107 tag code msize iounit count name qid qids data sqid smode ssize sname h
  · exact own2_ok_109 tag code msize iounit count name qid qids data sqid smode ssize sname h
  · exact own2_ok_111 tag code msize iounit count name qid qids data sqid smode ssize sname h
  · exact own2_ok_113 tag code msize iounit count name qid qids data sqid smode ssize sname h
  · exact own2_ok_115 tag code msize iounit count name qid qids data sqid smode ssize sname h
  · exact own2_ok_117 tag code msize iounit count name qid qids data sqid smode ssize sname h
  · exact own2_ok_119 tag code msize iounit count name qid qids data sqid smode ssize sname h
  · exact own2_ok_121 tag code msize iounit count name qid qids data sqid smode ssize sname h
  · exact own2_ok_123 tag code msize iounit count name qid qids data sqid smode ssize sname h
  · exact own2_ok_125 tag code msize iounit count name qid qids data sqid smode ssize sname h
  · exact own2_ok_127 tag code msize iounit count name qid qids data sqid smode ssize sname h
theorem sameT_eq (a b : TellV) (h : sameT a b = true) : a = b := by
  obtain ⟨a1, a2, a3, a4, a5, a6, a7, ⟨a8, a9, a10⟩, a11, a12, ⟨a13, a14, a15⟩, a16, a17, a18⟩ := a
  obtain ⟨b1, b2, b3, b4, b5, b6, b7, ⟨b8, b9, b10⟩, b11, b12, ⟨b13, b14, b15⟩, b16, b17, b18⟩ := b
  simp only [sameT, Bool.and_eq_true, beq_iff_eq] at h
  obtain ⟨⟨⟨⟨⟨⟨⟨⟨⟨⟨⟨⟨⟨⟨⟨⟨⟨h1, h2⟩, h3⟩, h4⟩, h5⟩, h6⟩, h7⟩, h8⟩, h9⟩, h10⟩, h11⟩, h12⟩, h13⟩, h14⟩, h15⟩, h16⟩, h17⟩, h18⟩ := h
  have h11 := sameQs_eq _ _ h11
  subst h1 h2 h3 h4 h5 h6 h7 h8 h9 h10 h11 h12 h13 h14 h15 h16 h17 h18
  rfl
theorem may_lay (t : TellV) (h : mayT t = true) : layOk t = true := by
  simp only [mayT, Bool.and_eq_true, decide_eq_true_eq] at h
  obtain ⟨⟨⟨⟨⟨⟨⟨⟨⟨⟨⟨⟨⟨⟨⟨h0, h1⟩, h2⟩, h3⟩, h4⟩, h5⟩, h6⟩, h7⟩, h8⟩, h9⟩, h10⟩, h11⟩, h12⟩, h13⟩, h14⟩, h15⟩ := h
  have he := sameT_eq _ _ h0
  have hk : t.kind ∈ kindsW := by
    apply Classical.byContradiction
    intro hn
    have h1' : kindsW.findIdx (· == t.kind) = kindsW.length := by
      rw [List.findIdx_eq_length]
      intro x hx
      simp only [beq_eq_false_iff_ne, ne_eq]
      rintro rfl
      exact hn hx
    have hf : fieldsM t.kind = [] := by unfold fieldsM; rw [h1']; rfl
    rw [hf] at h1
    simp at h1
  have := own2_ok t hk ⟨h2, h3, h11, h12, h13, h6, h9, by simp [qidsOk, h4, h8], h5, by simp [statOk, h10, h14, h15, h7]⟩
  rw [he] at this
  exact this
theorem sameQs_iffB (a b : List QidV) : sameQs a b = true ↔ a = b := ⟨sameQs_eq a b, fun h => by rw [h]; exact sameQs_refl b⟩
theorem lay_may_101 (tag code msize iounit count : Int) (name : List UInt8) (qid : QidV) (qids : List QidV) (data : List UInt8) (sqid : QidV) (smode ssize : Int) (sname : List UInt8) (h : layOk ⟨101, tag, code, msize, iounit, count, name, qid, qids, data, sqid, smode, ssize, sname⟩ = true) : mayT ⟨101, tag, code, msize, iounit, count, name, qid, qids, data, sqid, smode, ssize, sname⟩ = true := by
  obtain ⟨qd, qv, qp⟩ := qid
  obtain ⟨sd, sv, sp⟩ := sqid
  have hp : partsM 101 = [0, 4] := rfl
  have hf : fieldsM 101 = [122, 110] := rfl
  have f101 : hasM 101 101 = false := rfl
  have f122 : hasM 101 122 = true := rfl
  have f105 : hasM 101 105 = false := rfl
  have f99 : hasM 101 99 = false := rfl
  have f113 : hasM 101 113 = false := rfl
  have f108 : hasM 101 108 = false := rfl
  have f100 : hasM 101 100 = false := rfl
  have f115 : hasM 101 115 = false := rfl
  simp [layOk, layS, lay0, stepT, partT, partOk, hp, sameT, bareT, qidZ, sameQs_iffB] at h
  simp [mayT, ownT, f101, f122, f105, f99, f113, f108, f100, f115, hf, sameT, sameQs_refl, sameQs_iffB, qidZ]
  clear hp hf f101 f122 f105 f99 f113 f108 f100 f115
  simp_all [inB_def, qidOk, qidsOk, statOk]
theorem lay_may_105 (tag code msize iounit count : Int) (name : List UInt8) (qid : QidV) (qids : List QidV) (data : List UInt8) (sqid : QidV) (smode ssize : Int) (sname : List UInt8) (h : layOk ⟨105, tag, code, msize, iounit, count, name, qid, qids, data, sqid, smode, ssize, sname⟩ = true) : mayT ⟨105, tag, code, msize, iounit, count, name, qid, qids, data, sqid, smode, ssize, sname⟩ = true := by
  obtain ⟨qd, qv, qp⟩ := qid
  obtain ⟨sd, sv, sp⟩ := sqid
  have hp : partsM 105 = [5] := rfl
  have hf : fieldsM 105 = [113] := rfl
  have f101 : hasM 105 101 = false := rfl
  have f122 : hasM 105 122 = false := rfl
  have f105 : hasM 105 105 = false := rfl
  have f99 : hasM 105 99 = false := rfl
  have f113 : hasM 105 113 = true := rfl
  have f108 : hasM 105 108 = false := rfl
  have f100 : hasM 105 100 = false := rfl
  have f115 : hasM 105 115 = false := rfl
  simp [layOk, layS, lay0, stepT, partT, partOk, hp, sameT, bareT, qidZ, sameQs_iffB] at h
  simp [mayT, ownT, f101, f122, f105, f99, f113, f108, f100, f115, hf, sameT, sameQs_refl, sameQs_iffB, qidZ]
  clear hp hf f101 f122 f105 f99 f113 f108 f100 f115
  simp_all [inB_def, qidOk, qidsOk, statOk]
theorem lay_may_107 (tag code msize iounit count : Int) (name : List UInt8) (qid : QidV) (qids : List QidV) (data : List UInt8) (sqid : QidV) (smode ssize : Int) (sname : List UInt8) (h : layOk ⟨107, tag, code, msize, iounit, count, name, qid, qids, data, sqid, smode, ssize, sname⟩ = true) : mayT ⟨107, tag, code, msize, iounit, count, name, qid, qids, data, sqid, smode, ssize, sname⟩ = true := by
  obtain ⟨qd, qv, qp⟩ := qid
  obtain ⟨sd, sv, sp⟩ := sqid
  have hp : partsM 107 = [3] := rfl
  have hf : fieldsM 107 = [101] := rfl
  have f101 : hasM 107 101 = true := rfl
  have f122 : hasM 107 122 = false := rfl
  have f105 : hasM 107 105 = false := rfl
  have f99 : hasM 107 99 = false := rfl
  have f113 : hasM 107 113 = false := rfl
  have f108 : hasM 107 108 = false := rfl
  have f100 : hasM 107 100 = false := rfl
  have f115 : hasM 107 115 = false := rfl
  simp [layOk, layS, lay0, stepT, partT, partOk, hp, sameT, bareT, qidZ, sameQs_iffB] at h
  simp [mayT, ownT, f101, f122, f105, f99, f113, f108, f100, f115, hf, sameT, sameQs_refl, sameQs_iffB, qidZ]
  clear hp hf f101 f122 f105 f99 f113 f108 f100 f115
  simp_all [inB_def, qidOk, qidsOk, statOk]
theorem lay_may_109 (tag code msize iounit count : Int) (name : List UInt8) (qid : QidV) (qids : List QidV) (data : List UInt8) (sqid : QidV) (smode ssize : Int) (sname : List UInt8) (h : layOk ⟨109, tag, code, msize, iounit, count, name, qid, qids, data, sqid, smode, ssize, sname⟩ = true) : mayT ⟨109, tag, code, msize, iounit, count, name, qid, qids, data, sqid, smode, ssize, sname⟩ = true := by
  obtain ⟨qd, qv, qp⟩ := qid
  obtain ⟨sd, sv, sp⟩ := sqid
  have hp : partsM 109 = [] := rfl
  have hf : fieldsM 109 = [45] := rfl
  have f101 : hasM 109 101 = false := rfl
  have f122 : hasM 109 122 = false := rfl
  have f105 : hasM 109 105 = false := rfl
  have f99 : hasM 109 99 = false := rfl
  have f113 : hasM 109 113 = false := rfl
  have f108 : hasM 109 108 = false := rfl
  have f100 : hasM 109 100 = false := rfl
  have f115 : hasM 109 115 = false := rfl
  simp [layOk, layS, lay0, stepT, partT, partOk, hp, sameT, bareT, qidZ, sameQs_iffB] at h
  simp [mayT, ownT, f101, f122, f105, f99, f113, f108, f100, f115, hf, sameT, sameQs_refl, sameQs_iffB, qidZ]
  clear hp hf f101 f122 f105 f99 f113 f108 f100 f115
  simp_all [inB_def, qidOk, qidsOk, statOk]
theorem lay_may_111 (tag code msize iounit count : Int) (name : List UInt8) (qid : QidV) (qids : List QidV) (data : List UInt8) (sqid : QidV) (smode ssize : Int) (sname : List UInt8) (h : layOk ⟨111, tag, code, msize, iounit, count, name, qid, qids, data, sqid, smode, ssize, sname⟩ = true) : mayT ⟨111, tag, code, msize, iounit, count, name, qid, qids, data, sqid, smode, ssize, sname⟩ = true := by
  obtain ⟨qd, qv, qp⟩ := qid
  obtain ⟨sd, sv, sp⟩ := sqid
  have hp : partsM 111 = [6] := rfl
  have hf : fieldsM 111 = [108] := rfl
  have f101 : hasM 111 101 = false := rfl
  have f122 : hasM 111 122 = false := rfl
  have f105 : hasM 111 105 = false := rfl
  have f99 : hasM 111 99 = false := rfl
  have f113 : hasM 111 113 = false := rfl
  have f108 : hasM 111 108 = true := rfl
  have f100 : hasM 111 100 = false := rfl
  have f115 : hasM 111 115 = false := rfl
  simp [layOk, layS, lay0, stepT, partT, partOk, hp, sameT, bareT, qidZ, sameQs_iffB] at h
  simp [mayT, ownT, f101, f122, f105, f99, f113, f108, f100, f115, hf, sameT, sameQs_refl, sameQs_iffB, qidZ]
  clear hp hf f101 f122 f105 f99 f113 f108 f100 f115
  simp_all [inB_def, qidOk, qidsOk, statOk]
theorem lay_may_113 (tag code msize iounit count : Int) (name : List UInt8) (qid : QidV) (qids : List QidV) (data : List UInt8) (sqid : QidV) (smode ssize : Int) (sname : List UInt8) (h : layOk ⟨113, tag, code, msize, iounit, count, name, qid, qids, data, sqid, smode, ssize, sname⟩ = true) : mayT ⟨113, tag, code, msize, iounit, count, name, qid, qids, data, sqid, smode, ssize, sname⟩ = true := by
  obtain ⟨qd, qv, qp⟩ := qid
  obtain ⟨sd, sv, sp⟩ := sqid
  have hp : partsM 113 = [5, 1] := rfl
  have hf : fieldsM 113 = [113, 105] := rfl
  have f101 : hasM 113 101 = false := rfl
  have f122 : hasM 113 122 = false := rfl
  have f105 : hasM 113 105 = true := rfl
  have f99 : hasM 113 99 = false := rfl
  have f113 : hasM 113 113 = true := rfl
  have f108 : hasM 113 108 = false := rfl
  have f100 : hasM 113 100 = false := rfl
  have f115 : hasM 113 115 = false := rfl
  simp [layOk, layS, lay0, stepT, partT, partOk, hp, sameT, bareT, qidZ, sameQs_iffB] at h
  simp [mayT, ownT, f101, f122, f105, f99, f113, f108, f100, f115, hf, sameT, sameQs_refl, sameQs_iffB, qidZ]
  clear hp hf f101 f122 f105 f99 f113 f108 f100 f115
  simp_all [inB_def, qidOk, qidsOk, statOk]
theorem lay_may_115 (tag code msize iounit count : Int) (name : List UInt8) (qid : QidV) (qids : List QidV) (data : List UInt8) (sqid : QidV) (smode ssize : Int) (sname : List UInt8) (h : layOk ⟨115, tag, code, msize, iounit, count, name, qid, qids, data, sqid, smode, ssize, sname⟩ = true) : mayT ⟨115, tag, code, msize, iounit, count, name, qid, qids, data, sqid, smode, ssize, sname⟩ = true := by
  obtain ⟨qd, qv, qp⟩ := qid
  obtain ⟨sd, sv, sp⟩ := sqid
  have hp : partsM 115 = [5, 1] := rfl
  have hf : fieldsM 115 = [113, 105] := rfl
  have f101 : hasM 115 101 = false := rfl
  have f122 : hasM 115 122 = false := rfl
  have f105 : hasM 115 105 = true := rfl
  have f99 : hasM 115 99 = false := rfl
  have f113 : hasM 115 113 = true := rfl
  have f108 : hasM 115 108 = false := rfl
  have f100 : hasM 115 100 = false := rfl
  have f115 : hasM 115 115 = false := rfl
  simp [layOk, layS, lay0, stepT, partT, partOk, hp, sameT, bareT, qidZ, sameQs_iffB] at h
  simp [mayT, ownT, f101, f122, f105, f99, f113, f108, f100, f115, hf, sameT, sameQs_refl, sameQs_iffB, qidZ]
  clear hp hf f101 f122 f105 f99 f113 f108 f100 f115
  simp_all [inB_def, qidOk, qidsOk, statOk]
theorem lay_may_117 (tag code msize iounit count : Int) (name : List UInt8) (qid : QidV) (qids : List QidV) (data : List UInt8) (sqid : QidV) (smode ssize : Int) (sname : List UInt8) (h : layOk ⟨117, tag, code, msize, iounit, count, name, qid, qids, data, sqid, smode, ssize, sname⟩ = true) : mayT ⟨117, tag, code, msize, iounit, count, name, qid, qids, data, sqid, smode, ssize, sname⟩ = true := by
  obtain ⟨qd, qv, qp⟩ := qid
  obtain ⟨sd, sv, sp⟩ := sqid
  have hp : partsM 117 = [7] := rfl
  have hf : fieldsM 117 = [100] := rfl
  have f101 : hasM 117 101 = false := rfl
  have f122 : hasM 117 122 = false := rfl
  have f105 : hasM 117 105 = false := rfl
  have f99 : hasM 117 99 = false := rfl
  have f113 : hasM 117 113 = false := rfl
  have f108 : hasM 117 108 = false := rfl
  have f100 : hasM 117 100 = true := rfl
  have f115 : hasM 117 115 = false := rfl
  simp [layOk, layS, lay0, stepT, partT, partOk, hp, sameT, bareT, qidZ, sameQs_iffB] at h
  simp [mayT, ownT, f101, f122, f105, f99, f113, f108, f100, f115, hf, sameT, sameQs_refl, sameQs_iffB, qidZ]
  clear hp hf f101 f122 f105 f99 f113 f108 f100 f115
  simp_all [inB_def, qidOk, qidsOk, statOk]
theorem lay_may_119 (tag code msize iounit count : Int) (name : List UInt8) (qid : QidV) (qids : List QidV) (data : List UInt8) (sqid : QidV) (smode ssize : Int) (sname : List UInt8) (h : layOk ⟨119, tag, code, msize, iounit, count, name, qid, qids, data, sqid, smode, ssize, sname⟩ = true) : mayT ⟨119, tag, code, msize, iounit, count, name, qid, qids, data, sqid, smode, ssize, sname⟩ = true := by
  obtain ⟨qd, qv, qp⟩ := qid
  obtain ⟨sd, sv, sp⟩ := sqid
  have hp : partsM 119 = [2] := rfl
  have hf : fieldsM 119 = [99] := rfl
  have f101 : hasM 119 101 = false := rfl
  have f122 : hasM 119 122 = false := rfl
  have f105 : hasM 119 105 = false := rfl
  have f99 : hasM 119 99 = true := rfl
  have f113 : hasM 119 113 = false := rfl
  have f108 : hasM 119 108 = false := rfl
  have f100 : hasM 119 100 = false := rfl
  have f115 : hasM 119 115 = false := rfl
  simp [layOk, layS, lay0, stepT, partT, partOk, hp, sameT, bareT, qidZ, sameQs_iffB] at h
  simp [mayT, ownT, f101, f122, f105, f99, f113, f108, f100, f115, hf, sameT, sameQs_refl, sameQs_iffB, qidZ]
  clear hp hf f101 f122 f105 f99 f113 f108 f100 f115
  simp_all [inB_def, qidOk, qidsOk, statOk]
theorem lay_may_121 (tag code msize iounit count : Int) (name : List UInt8) (qid : QidV) (qids : List QidV) (data : List UInt8) (sqid : QidV) (smode ssize : Int) (sname : List UInt8) (h : layOk ⟨121, tag, code, msize, iounit, count, name, qid, qids, data, sqid, smode, ssize, sname⟩ = true) : mayT ⟨121, tag, code, msize, iounit, count, name, qid, qids, data, sqid, smode, ssize, sname⟩ = true := by
  obtain ⟨qd, qv, qp⟩ := qid
  obtain ⟨sd, sv, sp⟩ := sqid
  have hp : partsM 121 = [] := rfl
  have hf : fieldsM 121 = [45] := rfl
  have f101 : hasM 121 101 = false := rfl
  have f122 : hasM 121 122 = false := rfl
  have f105 : hasM 121 105 = false := rfl
  have f99 : hasM 121 99 = false := rfl
  have f113 : hasM 121 113 = false := rfl
  have f108 : hasM 121 108 = false := rfl
  have f100 : hasM 121 100 = false := rfl
  have f115 : hasM 121 115 = false := rfl
  simp [layOk, layS, lay0, stepT, partT, partOk, hp, sameT, bareT, qidZ, sameQs_iffB] at h
  simp [mayT, ownT, f101, f122, f105, f99, f113, f108, f100, f115, hf, sameT, sameQs_refl, sameQs_iffB, qidZ]
  clear hp hf f101 f122 f105 f99 f113 f108 f100 f115
  simp_all [inB_def, qidOk, qidsOk, statOk]
theorem lay_may_123 (tag code msize iounit count : Int) (name : List UInt8) (qid : QidV) (qids : List QidV) (data : List UInt8) (sqid : QidV) (smode ssize : Int) (sname : List UInt8) (h : layOk ⟨123, tag, code, msize, iounit, count, name, qid, qids, data, sqid, smode, ssize, sname⟩ = true) : mayT ⟨123, tag, code, msize, iounit, count, name, qid, qids, data, sqid, smode, ssize, sname⟩ = true := by
  obtain ⟨qd, qv, qp⟩ := qid
  obtain ⟨sd, sv, sp⟩ := sqid
  have hp : partsM 123 = [] := rfl
  have hf : fieldsM 123 = [45] := rfl
  have f101 : hasM 123 101 = false := rfl
  have f122 : hasM 123 122 = false := rfl
  have f105 : hasM 123 105 = false := rfl
  have f99 : hasM 123 99 = false := rfl
  have f113 : hasM 123 113 = false := rfl
  have f108 : hasM 123 108 = false := rfl
  have f100 : hasM 123 100 = false := rfl
  have f115 : hasM 123 115 = false := rfl
  simp [layOk, layS, lay0, stepT, partT, partOk, hp, sameT, bareT, qidZ, sameQs_iffB] at h
  simp [mayT, ownT, f101, f122, f105, f99, f113, f108, f100, f115, hf, sameT, sameQs_refl, sameQs_iffB, qidZ]
  clear hp hf f101 f122 f105 f99 f113 f108 f100 f115
  simp_all [inB_def, qidOk, qidsOk, statOk]
theorem lay_may_125 (tag code msize iounit count : Int) (name : List UInt8) (qid : QidV) (qids : List QidV) (data : List UInt8) (sqid : QidV) (smode ssize : Int) (sname : List UInt8) (h : layOk ⟨125, tag, code, msize, iounit, count, name, qid, qids, data, sqid, smode, ssize, sname⟩ = true) : mayT ⟨125, tag, code, msize, iounit, count, name, qid, qids, data, sqid, smode, ssize, sname⟩ = true := by
  obtain ⟨qd, qv, qp⟩ := qid
  obtain ⟨sd, sv, sp⟩ := sqid
  have hp : partsM 125 = [8] := rfl
  have hf : fieldsM 125 = [115] := rfl
  have f101 : hasM 125 101 = false := rfl
  have f122 : hasM 125 122 = false := rfl
  have f105 : hasM 125 105 = false := rfl
  have f99 : hasM 125 99 = false := rfl
  have f113 : hasM 125 113 = false := rfl
  have f108 : hasM 125 108 = false := rfl
  have f100 : hasM 125 100 = false := rfl
  have f115 : hasM 125 115 = true := rfl
  simp [layOk, layS, lay0, stepT, partT, partOk, hp, sameT, bareT, qidZ, sameQs_iffB] at h
  simp [mayT, ownT, f101, f122, f105, f99, f113, f108, f100, f115, hf, sameT, sameQs_refl, sameQs_iffB, qidZ]
  clear hp hf f101 f122 f105 f99 f113 f108 f100 f115
  simp_all [inB_def, qidOk, qidsOk, statOk]
theorem lay_may_127 (tag code msize iounit count : Int) (name : List UInt8) (qid : QidV) (qids : List QidV) (data : List UInt8) (sqid : QidV) (smode ssize : Int) (sname : List UInt8) (h : layOk ⟨127, tag, code, msize, iounit, count, name, qid, qids, data, sqid, smode, ssize, sname⟩ = true) : mayT ⟨127, tag, code, msize, iounit, count, name, qid, qids, data, sqid, smode, ssize, sname⟩ = true := by
  obtain ⟨qd, qv, qp⟩ := qid
  obtain ⟨sd, sv, sp⟩ := sqid
  have hp : partsM 127 = [] := rfl
  have hf : fieldsM 127 = [45] := rfl
  have f101 : hasM 127 101 = false := rfl
  have f122 : hasM 127 122 = false := rfl
  have f105 : hasM 127 105 = false := rfl
  have f99 : hasM 127 99 = false := rfl
  have f113 : hasM 127 113 = false := rfl
  have f108 : hasM 127 108 = false := rfl
  have f100 : hasM 127 100 = false := rfl
  have f115 : hasM 127 115 = false := rfl
  simp [layOk, layS, lay0, stepT, partT, partOk, hp, sameT, bareT, qidZ, sameQs_iffB] at h
  simp [mayT, ownT, f101, f122, f105, f99, f113, f108, f100, f115, hf, sameT, sameQs_refl, sameQs_iffB, qidZ]
  clear hp hf f101 f122 f105 f99 f113 f108 f100 f115
  simp_all [inB_def, qidOk, qidsOk, statOk]
theorem layOk_kind (t : TellV) (h : layOk t = true) : t.kind ∈ kindsW ∧ inB t.tag 65535 = true := by
  unfold layOk at h
  rw [Bool.and_eq_true] at h
  have hfold : ∀ (p : List Int) (s : TellV × List UInt8 × Bool), (p.foldl stepT s).2.2 = true → s.2.2 = true := by
    intro p
    induction p with
    | nil => intro s h; exact h
    | cons k ks ih => intro s h; have := ih _ h; simp only [stepT, Bool.and_eq_true] at this; exact this.1
  have hb : (kindsW.contains t.kind && inB t.tag 65535) = true := hfold _ _ h.1
  rw [Bool.and_eq_true] at hb
  exact ⟨by simpa using hb.1, hb.2⟩
theorem lay_may (t : TellV) (h : layOk t = true) : mayT t = true := by
  have hk := (layOk_kind t h).1
  obtain ⟨kind, tag, code, msize, iounit, count, name, qid, qids, data, sqid, smode, ssize, sname⟩ := t
  simp only [kindsW, List.mem_cons, List.not_mem_nil, or_false] at hk
  rcases hk with rfl | rfl | rfl | rfl | rfl | rfl | rfl | rfl | rfl | rfl | rfl | rfl | rfl
  · exact lay_may_101 tag code msize iounit count name qid qids data sqid smode ssize sname h
  · exact lay_may_105 tag code msize iounit count name qid qids data sqid smode ssize sname h
  · exact lay_may_107 tag code msize iounit count name qid qids data sqid smode ssize sname h
  · exact lay_may_109 tag code msize iounit count name qid qids data sqid smode ssize sname h
  · exact lay_may_111 tag code msize iounit count name qid qids data sqid smode ssize sname h
  · exact lay_may_113 tag code msize iounit count name qid qids data sqid smode ssize sname h
  · exact lay_may_115 tag code msize iounit count name qid qids data sqid smode ssize sname h
  · exact lay_may_117 tag code msize iounit count name qid qids data sqid smode ssize sname h
  · exact lay_may_119 tag code msize iounit count name qid qids data sqid smode ssize sname h
  · exact lay_may_121 tag code msize iounit count name qid qids data sqid smode ssize sname h
  · exact lay_may_123 tag code msize iounit count name qid qids data sqid smode ssize sname h
  · exact lay_may_125 tag code msize iounit count name qid qids data sqid smode ssize sname h
  · exact lay_may_127 tag code msize iounit count name qid qids data sqid smode ssize sname h
theorem may_is (t : TellV) : mayT t = layOk t := by
  rw [Bool.eq_iff_iff]
  exact ⟨may_lay t, lay_may t⟩
theorem body_101 (tag code msize iounit count : Int) (name : List UInt8) (qid : QidV) (qids : List QidV) (data : List UInt8) (sqid : QidV) (smode ssize : Int) (sname : List UInt8) (h1 : name.length ≤ 255) (h2 : sname.length ≤ 255) (h3 : qids.length ≤ 8) : (fieldsM 101).flatMap (fieldB ⟨101, tag, code, msize, iounit, count, name, qid, qids, data, sqid, smode, ssize, sname⟩) = layB ⟨101, tag, code, msize, iounit, count, name, qid, qids, data, sqid, smode, ssize, sname⟩ := by
  have hp : partsM 101 = [0, 4] := rfl
  have hf : fieldsM 101 = [122, 110] := rfl
  have e1 : txtB name = le 2 name.length ++ name := by unfold txtB; rw [if_pos h1]
  have e2 : txtB sname = le 2 sname.length ++ sname := by unfold txtB; rw [if_pos h2]
  have e3 : qidsB qids = le 2 qids.length ++ qids.flatMap qidB := by unfold qidsB; rw [if_pos h3]
  simp [hf, layB, layS, lay0, hp, stepT, partB, partT, fieldB, statB, e1, e2, e3]
theorem body_105 (tag code msize iounit count : Int) (name : List UInt8) (qid : QidV) (qids : List QidV) (data : List UInt8) (sqid : QidV) (smode ssize : Int) (sname : List UInt8) (h1 : name.length ≤ 255) (h2 : sname.length ≤ 255) (h3 : qids.length ≤ 8) : (fieldsM 105).flatMap (fieldB ⟨105, tag, code, msize, iounit, count, name, qid, qids, data, sqid, smode, ssize, sname⟩) = layB ⟨105, tag, code, msize, iounit, count, name, qid, qids, data, sqid, smode, ssize, sname⟩ := by
  have hp : partsM 105 = [5] := rfl
  have hf : fieldsM 105 = [113] := rfl
  have e1 : txtB name = le 2 name.length ++ name := by unfold txtB; rw [if_pos h1]
  have e2 : txtB sname = le 2 sname.length ++ sname := by unfold txtB; rw [if_pos h2]
  have e3 : qidsB qids = le 2 qids.length ++ qids.flatMap qidB := by unfold qidsB; rw [if_pos h3]
  simp [hf, layB, layS, lay0, hp, stepT, partB, partT, fieldB, statB, e1, e2, e3]
theorem body_107 (tag code msize iounit count : Int) (name : List UInt8) (qid : QidV) (qids : List QidV) (data : List UInt8) (sqid : QidV) (smode ssize : Int) (sname : List UInt8) (h1 : name.length ≤ 255) (h2 : sname.length ≤ 255) (h3 : qids.length ≤ 8) : (fieldsM 107).flatMap (fieldB ⟨107, tag, code, msize, iounit, count, name, qid, qids, data, sqid, smode, ssize, sname⟩) = layB ⟨107, tag, code, msize, iounit, count, name, qid, qids, data, sqid, smode, ssize, sname⟩ := by
  have hp : partsM 107 = [3] := rfl
  have hf : fieldsM 107 = [101] := rfl
  have e1 : txtB name = le 2 name.length ++ name := by unfold txtB; rw [if_pos h1]
  have e2 : txtB sname = le 2 sname.length ++ sname := by unfold txtB; rw [if_pos h2]
  have e3 : qidsB qids = le 2 qids.length ++ qids.flatMap qidB := by unfold qidsB; rw [if_pos h3]
  simp [hf, layB, layS, lay0, hp, stepT, partB, partT, fieldB, statB, e1, e2, e3]
theorem body_109 (tag code msize iounit count : Int) (name : List UInt8) (qid : QidV) (qids : List QidV) (data : List UInt8) (sqid : QidV) (smode ssize : Int) (sname : List UInt8) (h1 : name.length ≤ 255) (h2 : sname.length ≤ 255) (h3 : qids.length ≤ 8) : (fieldsM 109).flatMap (fieldB ⟨109, tag, code, msize, iounit, count, name, qid, qids, data, sqid, smode, ssize, sname⟩) = layB ⟨109, tag, code, msize, iounit, count, name, qid, qids, data, sqid, smode, ssize, sname⟩ := by
  have hp : partsM 109 = [] := rfl
  have hf : fieldsM 109 = [45] := rfl
  have e1 : txtB name = le 2 name.length ++ name := by unfold txtB; rw [if_pos h1]
  have e2 : txtB sname = le 2 sname.length ++ sname := by unfold txtB; rw [if_pos h2]
  have e3 : qidsB qids = le 2 qids.length ++ qids.flatMap qidB := by unfold qidsB; rw [if_pos h3]
  simp [hf, layB, layS, lay0, hp, stepT, partB, partT, fieldB, statB, e1, e2, e3]
theorem body_111 (tag code msize iounit count : Int) (name : List UInt8) (qid : QidV) (qids : List QidV) (data : List UInt8) (sqid : QidV) (smode ssize : Int) (sname : List UInt8) (h1 : name.length ≤ 255) (h2 : sname.length ≤ 255) (h3 : qids.length ≤ 8) : (fieldsM 111).flatMap (fieldB ⟨111, tag, code, msize, iounit, count, name, qid, qids, data, sqid, smode, ssize, sname⟩) = layB ⟨111, tag, code, msize, iounit, count, name, qid, qids, data, sqid, smode, ssize, sname⟩ := by
  have hp : partsM 111 = [6] := rfl
  have hf : fieldsM 111 = [108] := rfl
  have e1 : txtB name = le 2 name.length ++ name := by unfold txtB; rw [if_pos h1]
  have e2 : txtB sname = le 2 sname.length ++ sname := by unfold txtB; rw [if_pos h2]
  have e3 : qidsB qids = le 2 qids.length ++ qids.flatMap qidB := by unfold qidsB; rw [if_pos h3]
  simp [hf, layB, layS, lay0, hp, stepT, partB, partT, fieldB, statB, e1, e2, e3]
theorem body_113 (tag code msize iounit count : Int) (name : List UInt8) (qid : QidV) (qids : List QidV) (data : List UInt8) (sqid : QidV) (smode ssize : Int) (sname : List UInt8) (h1 : name.length ≤ 255) (h2 : sname.length ≤ 255) (h3 : qids.length ≤ 8) : (fieldsM 113).flatMap (fieldB ⟨113, tag, code, msize, iounit, count, name, qid, qids, data, sqid, smode, ssize, sname⟩) = layB ⟨113, tag, code, msize, iounit, count, name, qid, qids, data, sqid, smode, ssize, sname⟩ := by
  have hp : partsM 113 = [5, 1] := rfl
  have hf : fieldsM 113 = [113, 105] := rfl
  have e1 : txtB name = le 2 name.length ++ name := by unfold txtB; rw [if_pos h1]
  have e2 : txtB sname = le 2 sname.length ++ sname := by unfold txtB; rw [if_pos h2]
  have e3 : qidsB qids = le 2 qids.length ++ qids.flatMap qidB := by unfold qidsB; rw [if_pos h3]
  simp [hf, layB, layS, lay0, hp, stepT, partB, partT, fieldB, statB, e1, e2, e3]
theorem body_115 (tag code msize iounit count : Int) (name : List UInt8) (qid : QidV) (qids : List QidV) (data : List UInt8) (sqid : QidV) (smode ssize : Int) (sname : List UInt8) (h1 : name.length ≤ 255) (h2 : sname.length ≤ 255) (h3 : qids.length ≤ 8) : (fieldsM 115).flatMap (fieldB ⟨115, tag, code, msize, iounit, count, name, qid, qids, data, sqid, smode, ssize, sname⟩) = layB ⟨115, tag, code, msize, iounit, count, name, qid, qids, data, sqid, smode, ssize, sname⟩ := by
  have hp : partsM 115 = [5, 1] := rfl
  have hf : fieldsM 115 = [113, 105] := rfl
  have e1 : txtB name = le 2 name.length ++ name := by unfold txtB; rw [if_pos h1]
  have e2 : txtB sname = le 2 sname.length ++ sname := by unfold txtB; rw [if_pos h2]
  have e3 : qidsB qids = le 2 qids.length ++ qids.flatMap qidB := by unfold qidsB; rw [if_pos h3]
  simp [hf, layB, layS, lay0, hp, stepT, partB, partT, fieldB, statB, e1, e2, e3]
theorem body_117 (tag code msize iounit count : Int) (name : List UInt8) (qid : QidV) (qids : List QidV) (data : List UInt8) (sqid : QidV) (smode ssize : Int) (sname : List UInt8) (h1 : name.length ≤ 255) (h2 : sname.length ≤ 255) (h3 : qids.length ≤ 8) : (fieldsM 117).flatMap (fieldB ⟨117, tag, code, msize, iounit, count, name, qid, qids, data, sqid, smode, ssize, sname⟩) = layB ⟨117, tag, code, msize, iounit, count, name, qid, qids, data, sqid, smode, ssize, sname⟩ := by
  have hp : partsM 117 = [7] := rfl
  have hf : fieldsM 117 = [100] := rfl
  have e1 : txtB name = le 2 name.length ++ name := by unfold txtB; rw [if_pos h1]
  have e2 : txtB sname = le 2 sname.length ++ sname := by unfold txtB; rw [if_pos h2]
  have e3 : qidsB qids = le 2 qids.length ++ qids.flatMap qidB := by unfold qidsB; rw [if_pos h3]
  simp [hf, layB, layS, lay0, hp, stepT, partB, partT, fieldB, statB, e1, e2, e3]
theorem body_119 (tag code msize iounit count : Int) (name : List UInt8) (qid : QidV) (qids : List QidV) (data : List UInt8) (sqid : QidV) (smode ssize : Int) (sname : List UInt8) (h1 : name.length ≤ 255) (h2 : sname.length ≤ 255) (h3 : qids.length ≤ 8) : (fieldsM 119).flatMap (fieldB ⟨119, tag, code, msize, iounit, count, name, qid, qids, data, sqid, smode, ssize, sname⟩) = layB ⟨119, tag, code, msize, iounit, count, name, qid, qids, data, sqid, smode, ssize, sname⟩ := by
  have hp : partsM 119 = [2] := rfl
  have hf : fieldsM 119 = [99] := rfl
  have e1 : txtB name = le 2 name.length ++ name := by unfold txtB; rw [if_pos h1]
  have e2 : txtB sname = le 2 sname.length ++ sname := by unfold txtB; rw [if_pos h2]
  have e3 : qidsB qids = le 2 qids.length ++ qids.flatMap qidB := by unfold qidsB; rw [if_pos h3]
  simp [hf, layB, layS, lay0, hp, stepT, partB, partT, fieldB, statB, e1, e2, e3]
theorem body_121 (tag code msize iounit count : Int) (name : List UInt8) (qid : QidV) (qids : List QidV) (data : List UInt8) (sqid : QidV) (smode ssize : Int) (sname : List UInt8) (h1 : name.length ≤ 255) (h2 : sname.length ≤ 255) (h3 : qids.length ≤ 8) : (fieldsM 121).flatMap (fieldB ⟨121, tag, code, msize, iounit, count, name, qid, qids, data, sqid, smode, ssize, sname⟩) = layB ⟨121, tag, code, msize, iounit, count, name, qid, qids, data, sqid, smode, ssize, sname⟩ := by
  have hp : partsM 121 = [] := rfl
  have hf : fieldsM 121 = [45] := rfl
  have e1 : txtB name = le 2 name.length ++ name := by unfold txtB; rw [if_pos h1]
  have e2 : txtB sname = le 2 sname.length ++ sname := by unfold txtB; rw [if_pos h2]
  have e3 : qidsB qids = le 2 qids.length ++ qids.flatMap qidB := by unfold qidsB; rw [if_pos h3]
  simp [hf, layB, layS, lay0, hp, stepT, partB, partT, fieldB, statB, e1, e2, e3]
theorem body_123 (tag code msize iounit count : Int) (name : List UInt8) (qid : QidV) (qids : List QidV) (data : List UInt8) (sqid : QidV) (smode ssize : Int) (sname : List UInt8) (h1 : name.length ≤ 255) (h2 : sname.length ≤ 255) (h3 : qids.length ≤ 8) : (fieldsM 123).flatMap (fieldB ⟨123, tag, code, msize, iounit, count, name, qid, qids, data, sqid, smode, ssize, sname⟩) = layB ⟨123, tag, code, msize, iounit, count, name, qid, qids, data, sqid, smode, ssize, sname⟩ := by
  have hp : partsM 123 = [] := rfl
  have hf : fieldsM 123 = [45] := rfl
  have e1 : txtB name = le 2 name.length ++ name := by unfold txtB; rw [if_pos h1]
  have e2 : txtB sname = le 2 sname.length ++ sname := by unfold txtB; rw [if_pos h2]
  have e3 : qidsB qids = le 2 qids.length ++ qids.flatMap qidB := by unfold qidsB; rw [if_pos h3]
  simp [hf, layB, layS, lay0, hp, stepT, partB, partT, fieldB, statB, e1, e2, e3]
theorem body_125 (tag code msize iounit count : Int) (name : List UInt8) (qid : QidV) (qids : List QidV) (data : List UInt8) (sqid : QidV) (smode ssize : Int) (sname : List UInt8) (h1 : name.length ≤ 255) (h2 : sname.length ≤ 255) (h3 : qids.length ≤ 8) : (fieldsM 125).flatMap (fieldB ⟨125, tag, code, msize, iounit, count, name, qid, qids, data, sqid, smode, ssize, sname⟩) = layB ⟨125, tag, code, msize, iounit, count, name, qid, qids, data, sqid, smode, ssize, sname⟩ := by
  have hp : partsM 125 = [8] := rfl
  have hf : fieldsM 125 = [115] := rfl
  have e1 : txtB name = le 2 name.length ++ name := by unfold txtB; rw [if_pos h1]
  have e2 : txtB sname = le 2 sname.length ++ sname := by unfold txtB; rw [if_pos h2]
  have e3 : qidsB qids = le 2 qids.length ++ qids.flatMap qidB := by unfold qidsB; rw [if_pos h3]
  simp [hf, layB, layS, lay0, hp, stepT, partB, partT, fieldB, statB, e1, e2, e3]
theorem body_127 (tag code msize iounit count : Int) (name : List UInt8) (qid : QidV) (qids : List QidV) (data : List UInt8) (sqid : QidV) (smode ssize : Int) (sname : List UInt8) (h1 : name.length ≤ 255) (h2 : sname.length ≤ 255) (h3 : qids.length ≤ 8) : (fieldsM 127).flatMap (fieldB ⟨127, tag, code, msize, iounit, count, name, qid, qids, data, sqid, smode, ssize, sname⟩) = layB ⟨127, tag, code, msize, iounit, count, name, qid, qids, data, sqid, smode, ssize, sname⟩ := by
  have hp : partsM 127 = [] := rfl
  have hf : fieldsM 127 = [45] := rfl
  have e1 : txtB name = le 2 name.length ++ name := by unfold txtB; rw [if_pos h1]
  have e2 : txtB sname = le 2 sname.length ++ sname := by unfold txtB; rw [if_pos h2]
  have e3 : qidsB qids = le 2 qids.length ++ qids.flatMap qidB := by unfold qidsB; rw [if_pos h3]
  simp [hf, layB, layS, lay0, hp, stepT, partB, partT, fieldB, statB, e1, e2, e3]
theorem body_is (t : TellV) (h : layOk t = true) : (fieldsM t.kind).flatMap (fieldB t) = layB t ∧ t.name.length ≤ 255 ∧ t.sname.length ≤ 255 := by
  have hk := (layOk_kind t h).1
  have hm := lay_may t h
  simp only [mayT, Bool.and_eq_true, decide_eq_true_eq] at hm
  obtain ⟨⟨⟨⟨⟨⟨⟨⟨⟨⟨⟨⟨⟨⟨⟨h0, h1⟩, h2⟩, h3⟩, h4⟩, h5⟩, h6⟩, h7⟩, h8⟩, h9⟩, h10⟩, h11⟩, h12⟩, h13⟩, h14⟩, h15⟩ := hm
  refine ⟨?_, h6, h7⟩
  obtain ⟨kind, tag, code, msize, iounit, count, name, qid, qids, data, sqid, smode, ssize, sname⟩ := t
  simp only [kindsW, List.mem_cons, List.not_mem_nil, or_false] at hk
  rcases hk with rfl | rfl | rfl | rfl | rfl | rfl | rfl | rfl | rfl | rfl | rfl | rfl | rfl
  · exact body_101 tag code msize iounit count name qid qids data sqid smode ssize sname h6 h7 h4
  · exact body_105 tag code msize iounit count name qid qids data sqid smode ssize sname h6 h7 h4
  · exact body_107 tag code msize iounit count name qid qids data sqid smode ssize sname h6 h7 h4
  · exact body_109 tag code msize iounit count name qid qids data sqid smode ssize sname h6 h7 h4
  · exact body_111 tag code msize iounit count name qid qids data sqid smode ssize sname h6 h7 h4
  · exact body_113 tag code msize iounit count name qid qids data sqid smode ssize sname h6 h7 h4
  · exact body_115 tag code msize iounit count name qid qids data sqid smode ssize sname h6 h7 h4
  · exact body_117 tag code msize iounit count name qid qids data sqid smode ssize sname h6 h7 h4
  · exact body_119 tag code msize iounit count name qid qids data sqid smode ssize sname h6 h7 h4
  · exact body_121 tag code msize iounit count name qid qids data sqid smode ssize sname h6 h7 h4
  · exact body_123 tag code msize iounit count name qid qids data sqid smode ssize sname h6 h7 h4
  · exact body_125 tag code msize iounit count name qid qids data sqid smode ssize sname h6 h7 h4
  · exact body_127 tag code msize iounit count name qid qids data sqid smode ssize sname h6 h7 h4
end Go.Proofs.Ytoplkglnjgllnaa
