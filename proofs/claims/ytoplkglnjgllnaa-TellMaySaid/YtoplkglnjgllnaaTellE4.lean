/-
  tell.Same of any two.
-/
import Derived.Test.YtoplkglnjgllnaaTellE
import Derived.Test.YtoplkglnjgllnaaTellE2
import Derived.Test.YtoplkglnjgllnaaTellE3
namespace Go.Proofs.Ytoplkglnjgllnaa
open Go.RowKit
set_option linter.unusedVariables false
set_option linter.unusedSimpArgs false

/-- Are two replies the same? -/
def sameT (a b : TellV) : Bool :=
  (a.kind == b.kind) && (a.tag == b.tag) && (a.code == b.code) && (a.msize == b.msize) && (a.iounit == b.iounit) && (a.count == b.count) && (a.name == b.name) && (a.qid.dir == b.qid.dir) && (a.qid.ver == b.qid.ver) && (a.qid.path == b.qid.path) && sameQs a.qids b.qids && (a.data == b.data) && (a.sqid.dir == b.sqid.dir) && (a.sqid.ver == b.sqid.ver) && (a.sqid.path == b.sqid.path) && (a.smode == b.smode) && (a.ssize == b.ssize) && (a.sname == b.sname)

theorem tellSame_flat (kind : Int) (tag : Int) (code : Int) (msize : Int) (iounit : Int) (count : Int) (name : List UInt8) (qdir : Bool) (qver : Int) (qpath : Int) (Aq : Option Addr) (nq cq : Nat) (Ad : Option Addr) (nd cd : Nat) (sdir : Bool) (sver : Int) (spath : Int) (smode : Int) (ssize : Int) (sname : List UInt8) (kind' : Int) (tag' : Int) (code' : Int) (msize' : Int) (iounit' : Int) (count' : Int) (name' : List UInt8) (qdir' : Bool) (qver' : Int) (qpath' : Int) (Aq' : Option Addr) (nq' cq' : Nat) (Ad' : Option Addr) (nd' cd' : Nat) (sdir' : Bool) (sver' : Int) (spath' : Int) (smode' : Int) (ssize' : Int) (sname' : List UInt8) (w : World) (qs qs' : List QidV) (hq1 : RdR w w.heap.size 3 Aq nq (qs.map qidC)) (hq2 : RdR w w.heap.size 3 Aq' nq' (qs'.map qidC)) (hn : nq ≤ 1048576) (ds ds' : List UInt8) (hd1 : RdB w w.heap.size Ad nd ds) (hd2 : RdB w w.heap.size Ad' nd' ds') :
    Calls Try.prog 12 #[.agg #[.int .i64 kind, .int .i64 tag, .int .i64 code, .int .i64 msize, .int .i64 iounit, .int .i64 count, .string (st name), .bool qdir, .int .i64 qver, .int .i64 qpath, .slice Aq nq cq, .slice Ad nd cd, .bool sdir, .int .i64 sver, .int .i64 spath, .int .i64 smode, .int .i64 ssize, .string (st sname)], .agg #[.int .i64 kind', .int .i64 tag', .int .i64 code', .int .i64 msize', .int .i64 iounit', .int .i64 count', .string (st name'), .bool qdir', .int .i64 qver', .int .i64 qpath', .slice Aq' nq' cq', .slice Ad' nd' cd', .bool sdir', .int .i64 sver', .int .i64 spath', .int .i64 smode', .int .i64 ssize', .string (st sname')]] w fun e w' => e = .returned (.bool ((kind == kind') && (tag == tag') && (code == code') && (msize == msize') && (iounit == iounit') && (count == count') && (name == name') && (qdir == qdir') && (qver == qver') && (qpath == qpath') && sameQs qs qs' && (ds == ds') && (sdir == sdir') && (sver == sver') && (spath == spath') && (smode == smode') && (ssize == ssize') && (sname == sname'))) ∧ Below w.heap.size w w' := by
  by_cases h0 : kind = kind'
  case neg =>
    refine (tsame_0 kind tag code msize iounit count name qdir qver qpath Aq nq cq Ad nd cd sdir sver spath smode ssize sname kind' tag' code' msize' iounit' count' name' qdir' qver' qpath' Aq' nq' cq' Ad' nd' cd' sdir' sver' spath' smode' ssize' sname' w h0).mono ?_
    rintro e w' ⟨rfl, hb⟩
    refine ⟨?_, hb⟩
    simp [beq_eq_false_iff_ne.2 h0]
  subst h0
  by_cases h1 : tag = tag'
  case neg =>
    refine (tsame_1 kind tag code msize iounit count name qdir qver qpath Aq nq cq Ad nd cd sdir sver spath smode ssize sname tag' code' msize' iounit' count' name' qdir' qver' qpath' Aq' nq' cq' Ad' nd' cd' sdir' sver' spath' smode' ssize' sname' w h1).mono ?_
    rintro e w' ⟨rfl, hb⟩
    refine ⟨?_, hb⟩
    simp [beq_eq_false_iff_ne.2 h1]
  subst h1
  by_cases h2 : code = code'
  case neg =>
    refine (tsame_2 kind tag code msize iounit count name qdir qver qpath Aq nq cq Ad nd cd sdir sver spath smode ssize sname code' msize' iounit' count' name' qdir' qver' qpath' Aq' nq' cq' Ad' nd' cd' sdir' sver' spath' smode' ssize' sname' w h2).mono ?_
    rintro e w' ⟨rfl, hb⟩
    refine ⟨?_, hb⟩
    simp [beq_eq_false_iff_ne.2 h2]
  subst h2
  by_cases h3 : msize = msize'
  case neg =>
    refine (tsame_3 kind tag code msize iounit count name qdir qver qpath Aq nq cq Ad nd cd sdir sver spath smode ssize sname msize' iounit' count' name' qdir' qver' qpath' Aq' nq' cq' Ad' nd' cd' sdir' sver' spath' smode' ssize' sname' w h3).mono ?_
    rintro e w' ⟨rfl, hb⟩
    refine ⟨?_, hb⟩
    simp [beq_eq_false_iff_ne.2 h3]
  subst h3
  by_cases h4 : iounit = iounit'
  case neg =>
    refine (tsame_4 kind tag code msize iounit count name qdir qver qpath Aq nq cq Ad nd cd sdir sver spath smode ssize sname iounit' count' name' qdir' qver' qpath' Aq' nq' cq' Ad' nd' cd' sdir' sver' spath' smode' ssize' sname' w h4).mono ?_
    rintro e w' ⟨rfl, hb⟩
    refine ⟨?_, hb⟩
    simp [beq_eq_false_iff_ne.2 h4]
  subst h4
  by_cases h5 : count = count'
  case neg =>
    refine (tsame_5 kind tag code msize iounit count name qdir qver qpath Aq nq cq Ad nd cd sdir sver spath smode ssize sname count' name' qdir' qver' qpath' Aq' nq' cq' Ad' nd' cd' sdir' sver' spath' smode' ssize' sname' w h5).mono ?_
    rintro e w' ⟨rfl, hb⟩
    refine ⟨?_, hb⟩
    simp [beq_eq_false_iff_ne.2 h5]
  subst h5
  by_cases h6 : name = name'
  case neg =>
    refine (tsame_6 kind tag code msize iounit count name qdir qver qpath Aq nq cq Ad nd cd sdir sver spath smode ssize sname name' qdir' qver' qpath' Aq' nq' cq' Ad' nd' cd' sdir' sver' spath' smode' ssize' sname' w h6).mono ?_
    rintro e w' ⟨rfl, hb⟩
    refine ⟨?_, hb⟩
    simp [beq_eq_false_iff_ne.2 h6]
  subst h6
  by_cases h7 : qdir = qdir'
  case neg =>
    refine (tsame_7 kind tag code msize iounit count name qdir qver qpath Aq nq cq Ad nd cd sdir sver spath smode ssize sname qdir' qver' qpath' Aq' nq' cq' Ad' nd' cd' sdir' sver' spath' smode' ssize' sname' w h7).mono ?_
    rintro e w' ⟨rfl, hb⟩
    refine ⟨?_, hb⟩
    simp [beq_eq_false_iff_ne.2 h7]
  subst h7
  by_cases h8 : qver = qver'
  case neg =>
    refine (tsame_8 kind tag code msize iounit count name qdir qver qpath Aq nq cq Ad nd cd sdir sver spath smode ssize sname qver' qpath' Aq' nq' cq' Ad' nd' cd' sdir' sver' spath' smode' ssize' sname' w h8).mono ?_
    rintro e w' ⟨rfl, hb⟩
    refine ⟨?_, hb⟩
    simp [beq_eq_false_iff_ne.2 h8]
  subst h8
  by_cases h9 : qpath = qpath'
  case neg =>
    refine (tsame_9 kind tag code msize iounit count name qdir qver qpath Aq nq cq Ad nd cd sdir sver spath smode ssize sname qpath' Aq' nq' cq' Ad' nd' cd' sdir' sver' spath' smode' ssize' sname' w h9).mono ?_
    rintro e w' ⟨rfl, hb⟩
    refine ⟨?_, hb⟩
    simp [beq_eq_false_iff_ne.2 h9]
  subst h9
  rcases hqe : sameQs qs qs' with _ | _
  · refine (tsame_10 kind tag code msize iounit count name qdir qver qpath Aq nq cq Ad nd cd sdir sver spath smode ssize sname Aq' nq' cq' Ad' nd' cd' sdir' sver' spath' smode' ssize' sname' w qs qs' hq1 hq2 hn hqe).mono ?_
    rintro e w' ⟨rfl, hb⟩
    exact ⟨by simp, hb⟩
  rcases hde : (ds == ds') with _ | _
  · refine (tsame_11 kind tag code msize iounit count name qdir qver qpath Aq nq cq Ad nd cd sdir sver spath smode ssize sname Aq' nq' cq' Ad' nd' cd' sdir' sver' spath' smode' ssize' sname' w qs qs' hq1 hq2 hn hqe ds ds' hd1 hd2 hde).mono ?_
    rintro e w' ⟨rfl, hb⟩
    exact ⟨by simp, hb⟩
  by_cases h12 : sdir = sdir'
  case neg =>
    refine (tsame_12 kind tag code msize iounit count name qdir qver qpath Aq nq cq Ad nd cd sdir sver spath smode ssize sname Aq' nq' cq' Ad' nd' cd' sdir' sver' spath' smode' ssize' sname' w h12 qs qs' hq1 hq2 hn hqe ds ds' hd1 hd2 hde).mono ?_
    rintro e w' ⟨rfl, hb⟩
    refine ⟨?_, hb⟩
    simp [beq_eq_false_iff_ne.2 h12]
  subst h12
  by_cases h13 : sver = sver'
  case neg =>
    refine (tsame_13 kind tag code msize iounit count name qdir qver qpath Aq nq cq Ad nd cd sdir sver spath smode ssize sname Aq' nq' cq' Ad' nd' cd' sver' spath' smode' ssize' sname' w h13 qs qs' hq1 hq2 hn hqe ds ds' hd1 hd2 hde).mono ?_
    rintro e w' ⟨rfl, hb⟩
    refine ⟨?_, hb⟩
    simp [beq_eq_false_iff_ne.2 h13]
  subst h13
  by_cases h14 : spath = spath'
  case neg =>
    refine (tsame_14 kind tag code msize iounit count name qdir qver qpath Aq nq cq Ad nd cd sdir sver spath smode ssize sname Aq' nq' cq' Ad' nd' cd' spath' smode' ssize' sname' w h14 qs qs' hq1 hq2 hn hqe ds ds' hd1 hd2 hde).mono ?_
    rintro e w' ⟨rfl, hb⟩
    refine ⟨?_, hb⟩
    simp [beq_eq_false_iff_ne.2 h14]
  subst h14
  by_cases h15 : smode = smode'
  case neg =>
    refine (tsame_15 kind tag code msize iounit count name qdir qver qpath Aq nq cq Ad nd cd sdir sver spath smode ssize sname Aq' nq' cq' Ad' nd' cd' smode' ssize' sname' w h15 qs qs' hq1 hq2 hn hqe ds ds' hd1 hd2 hde).mono ?_
    rintro e w' ⟨rfl, hb⟩
    refine ⟨?_, hb⟩
    simp [beq_eq_false_iff_ne.2 h15]
  subst h15
  by_cases h16 : ssize = ssize'
  case neg =>
    refine (tsame_16 kind tag code msize iounit count name qdir qver qpath Aq nq cq Ad nd cd sdir sver spath smode ssize sname Aq' nq' cq' Ad' nd' cd' ssize' sname' w h16 qs qs' hq1 hq2 hn hqe ds ds' hd1 hd2 hde).mono ?_
    rintro e w' ⟨rfl, hb⟩
    refine ⟨?_, hb⟩
    simp [beq_eq_false_iff_ne.2 h16]
  subst h16
  by_cases h17 : sname = sname'
  case neg =>
    refine (tsame_17 kind tag code msize iounit count name qdir qver qpath Aq nq cq Ad nd cd sdir sver spath smode ssize sname Aq' nq' cq' Ad' nd' cd' sname' w h17 qs qs' hq1 hq2 hn hqe ds ds' hd1 hd2 hde).mono ?_
    rintro e w' ⟨rfl, hb⟩
    refine ⟨?_, hb⟩
    simp [beq_eq_false_iff_ne.2 h17]
  subst h17
  refine (tsame_18 kind tag code msize iounit count name qdir qver qpath Aq nq cq Ad nd cd sdir sver spath smode ssize sname Aq' nq' cq' Ad' nd' cd' w qs qs' hq1 hq2 hn hqe ds ds' hd1 hd2 hde).mono ?_
  rintro e w' ⟨rfl, hb⟩
  exact ⟨by simp, hb⟩
end Go.Proofs.Ytoplkglnjgllnaa
