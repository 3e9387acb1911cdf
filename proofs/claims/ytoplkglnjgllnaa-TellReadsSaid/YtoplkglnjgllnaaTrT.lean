/-
  ref18.Same of any two.
  Replies that are only read; Same of them; odd.
-/
import Derived.Test.YtoplkglnjgllnaaTrR1
import Derived.Test.YtoplkglnjgllnaaTrR2
import Derived.Test.YtoplkglnjgllnaaTrR3
import Derived.Test.YtoplkglnjgllnaaTrR5
import Derived.Test.YtoplkglnjgllnaaTrS
import Derived.Test.YtoplkglnjgllnaaTrM
import Derived.Great.BuildSlice
namespace Go.Proofs.Ytoplkglnjgllnaa
open Go.RowKit
set_option linter.unusedVariables false
set_option linter.unusedSimpArgs false

theorem sameQs_eq : ∀ (a b : List QidV), sameQs a b = true → a = b
  | [], [], _ => rfl
  | [], _ :: _, h => by simp [sameQs] at h
  | _ :: _, [], h => by simp [sameQs] at h
  | ⟨_, _, _⟩ :: l, ⟨_, _, _⟩ :: m, h => by
    simp only [sameQs, sameQ, Bool.and_eq_true, beq_iff_eq] at h
    obtain ⟨⟨⟨h1, h2⟩, h3⟩, h4⟩ := h
    subst h1 h2 h3
    rw [sameQs_eq l m h4]
theorem sameQs_refl : ∀ a : List QidV, sameQs a a = true
  | [] => rfl
  | q :: l => by simp [sameQs, sameQ, sameQs_refl l]
theorem refSame_flat (kind : Int) (tag : Int) (code : Int) (msize : Int) (iounit : Int) (count : Int) (name : List UInt8) (qdir : Bool) (qver : Int) (qpath : Int) (Aq : Option Addr) (nq cq : Nat) (Ad : Option Addr) (nd cd : Nat) (sdir : Bool) (sver : Int) (spath : Int) (smode : Int) (ssize : Int) (sname : List UInt8) (kind' : Int) (tag' : Int) (code' : Int) (msize' : Int) (iounit' : Int) (count' : Int) (name' : List UInt8) (qdir' : Bool) (qver' : Int) (qpath' : Int) (Aq' : Option Addr) (nq' cq' : Nat) (Ad' : Option Addr) (nd' cd' : Nat) (sdir' : Bool) (sver' : Int) (spath' : Int) (smode' : Int) (ssize' : Int) (sname' : List UInt8) (w : World) (qs qs' : List QidV) (hq1 : RdR w w.heap.size 3 Aq nq (qs.map qidC)) (hq2 : RdR w w.heap.size 3 Aq' nq' (qs'.map qidC)) (hn : nq ≤ 1048576) (ds ds' : List UInt8) (hd1 : RdB w w.heap.size Ad nd ds) (hd2 : RdB w w.heap.size Ad' nd' ds') :
    Calls Try.prog 13 #[.agg #[.int .i64 kind, .int .i64 tag, .int .i64 code, .int .i64 msize, .int .i64 iounit, .int .i64 count, .string (st name), .bool qdir, .int .i64 qver, .int .i64 qpath, .slice Aq nq cq, .slice Ad nd cd, .bool sdir, .int .i64 sver, .int .i64 spath, .int .i64 smode, .int .i64 ssize, .string (st sname)], .agg #[.int .i64 kind', .int .i64 tag', .int .i64 code', .int .i64 msize', .int .i64 iounit', .int .i64 count', .string (st name'), .bool qdir', .int .i64 qver', .int .i64 qpath', .slice Aq' nq' cq', .slice Ad' nd' cd', .bool sdir', .int .i64 sver', .int .i64 spath', .int .i64 smode', .int .i64 ssize', .string (st sname')]] w fun e w' => e = .returned (.bool ((kind == kind') && (tag == tag') && (code == code') && (msize == msize') && (iounit == iounit') && (count == count') && (name == name') && (qdir == qdir') && (qver == qver') && (qpath == qpath') && sameQs qs qs' && (ds == ds') && (sdir == sdir') && (sver == sver') && (spath == spath') && (smode == smode') && (ssize == ssize') && (sname == sname'))) ∧ Below w.heap.size w w' := by
  rcases hqe : sameQs qs qs' with _ | _
  · refine (rsame_qs kind tag code msize iounit count name qdir qver qpath Aq nq cq Ad nd cd sdir sver spath smode ssize sname kind' tag' code' msize' iounit' count' name' qdir' qver' qpath' Aq' nq' cq' Ad' nd' cd' sdir' sver' spath' smode' ssize' sname' w qs qs' hq1 hq2 hn hqe).mono ?_
    rintro e w' ⟨rfl, hb⟩
    exact ⟨by simp, hb⟩
  obtain rfl := sameQs_eq qs qs' hqe
  by_cases h0 : kind = kind'
  case neg =>
    refine (rsame_0 kind tag code msize iounit count name qdir qver qpath Aq nq cq Ad nd cd sdir sver spath smode ssize sname kind' tag' code' msize' iounit' count' name' qdir' qver' qpath' Aq' nq' cq' Ad' nd' cd' sdir' sver' spath' smode' ssize' sname' w qs hq1 hq2 hn h0).mono ?_
    rintro e w' ⟨rfl, hb⟩
    refine ⟨?_, hb⟩
    simp [beq_eq_false_iff_ne.2 h0]
  subst h0
  by_cases h1 : tag = tag'
  case neg =>
    refine (rsame_1 kind tag code msize iounit count name qdir qver qpath Aq nq cq Ad nd cd sdir sver spath smode ssize sname tag' code' msize' iounit' count' name' qdir' qver' qpath' Aq' nq' cq' Ad' nd' cd' sdir' sver' spath' smode' ssize' sname' w qs hq1 hq2 hn h1).mono ?_
    rintro e w' ⟨rfl, hb⟩
    refine ⟨?_, hb⟩
    simp [beq_eq_false_iff_ne.2 h1]
  subst h1
  by_cases h2 : code = code'
  case neg =>
    refine (rsame_2 kind tag code msize iounit count name qdir qver qpath Aq nq cq Ad nd cd sdir sver spath smode ssize sname code' msize' iounit' count' name' qdir' qver' qpath' Aq' nq' cq' Ad' nd' cd' sdir' sver' spath' smode' ssize' sname' w qs hq1 hq2 hn h2).mono ?_
    rintro e w' ⟨rfl, hb⟩
    refine ⟨?_, hb⟩
    simp [beq_eq_false_iff_ne.2 h2]
  subst h2
  by_cases h3 : msize = msize'
  case neg =>
    refine (rsame_3 kind tag code msize iounit count name qdir qver qpath Aq nq cq Ad nd cd sdir sver spath smode ssize sname msize' iounit' count' name' qdir' qver' qpath' Aq' nq' cq' Ad' nd' cd' sdir' sver' spath' smode' ssize' sname' w qs hq1 hq2 hn h3).mono ?_
    rintro e w' ⟨rfl, hb⟩
    refine ⟨?_, hb⟩
    simp [beq_eq_false_iff_ne.2 h3]
  subst h3
  by_cases h4 : iounit = iounit'
  case neg =>
    refine (rsame_4 kind tag code msize iounit count name qdir qver qpath Aq nq cq Ad nd cd sdir sver spath smode ssize sname iounit' count' name' qdir' qver' qpath' Aq' nq' cq' Ad' nd' cd' sdir' sver' spath' smode' ssize' sname' w qs hq1 hq2 hn h4).mono ?_
    rintro e w' ⟨rfl, hb⟩
    refine ⟨?_, hb⟩
    simp [beq_eq_false_iff_ne.2 h4]
  subst h4
  by_cases h5 : count = count'
  case neg =>
    refine (rsame_5 kind tag code msize iounit count name qdir qver qpath Aq nq cq Ad nd cd sdir sver spath smode ssize sname count' name' qdir' qver' qpath' Aq' nq' cq' Ad' nd' cd' sdir' sver' spath' smode' ssize' sname' w qs hq1 hq2 hn h5).mono ?_
    rintro e w' ⟨rfl, hb⟩
    refine ⟨?_, hb⟩
    simp [beq_eq_false_iff_ne.2 h5]
  subst h5
  by_cases h6 : name = name'
  case neg =>
    refine (rsame_6 kind tag code msize iounit count name qdir qver qpath Aq nq cq Ad nd cd sdir sver spath smode ssize sname name' qdir' qver' qpath' Aq' nq' cq' Ad' nd' cd' sdir' sver' spath' smode' ssize' sname' w qs hq1 hq2 hn h6).mono ?_
    rintro e w' ⟨rfl, hb⟩
    refine ⟨?_, hb⟩
    simp [beq_eq_false_iff_ne.2 h6]
  subst h6
  by_cases h7 : qdir = qdir'
  case neg =>
    refine (rsame_7 kind tag code msize iounit count name qdir qver qpath Aq nq cq Ad nd cd sdir sver spath smode ssize sname qdir' qver' qpath' Aq' nq' cq' Ad' nd' cd' sdir' sver' spath' smode' ssize' sname' w qs hq1 hq2 hn h7).mono ?_
    rintro e w' ⟨rfl, hb⟩
    refine ⟨?_, hb⟩
    simp [beq_eq_false_iff_ne.2 h7]
  subst h7
  by_cases h8 : qver = qver'
  case neg =>
    refine (rsame_8 kind tag code msize iounit count name qdir qver qpath Aq nq cq Ad nd cd sdir sver spath smode ssize sname qver' qpath' Aq' nq' cq' Ad' nd' cd' sdir' sver' spath' smode' ssize' sname' w qs hq1 hq2 hn h8).mono ?_
    rintro e w' ⟨rfl, hb⟩
    refine ⟨?_, hb⟩
    simp [beq_eq_false_iff_ne.2 h8]
  subst h8
  by_cases h9 : qpath = qpath'
  case neg =>
    refine (rsame_9 kind tag code msize iounit count name qdir qver qpath Aq nq cq Ad nd cd sdir sver spath smode ssize sname qpath' Aq' nq' cq' Ad' nd' cd' sdir' sver' spath' smode' ssize' sname' w qs hq1 hq2 hn h9).mono ?_
    rintro e w' ⟨rfl, hb⟩
    refine ⟨?_, hb⟩
    simp [beq_eq_false_iff_ne.2 h9]
  subst h9
  by_cases h12 : sdir = sdir'
  case neg =>
    refine (rsame_12 kind tag code msize iounit count name qdir qver qpath Aq nq cq Ad nd cd sdir sver spath smode ssize sname Aq' nq' cq' Ad' nd' cd' sdir' sver' spath' smode' ssize' sname' w qs hq1 hq2 hn h12).mono ?_
    rintro e w' ⟨rfl, hb⟩
    refine ⟨?_, hb⟩
    simp [beq_eq_false_iff_ne.2 h12]
  subst h12
  by_cases h13 : sver = sver'
  case neg =>
    refine (rsame_13 kind tag code msize iounit count name qdir qver qpath Aq nq cq Ad nd cd sdir sver spath smode ssize sname Aq' nq' cq' Ad' nd' cd' sver' spath' smode' ssize' sname' w qs hq1 hq2 hn h13).mono ?_
    rintro e w' ⟨rfl, hb⟩
    refine ⟨?_, hb⟩
    simp [beq_eq_false_iff_ne.2 h13]
  subst h13
  by_cases h14 : spath = spath'
  case neg =>
    refine (rsame_14 kind tag code msize iounit count name qdir qver qpath Aq nq cq Ad nd cd sdir sver spath smode ssize sname Aq' nq' cq' Ad' nd' cd' spath' smode' ssize' sname' w qs hq1 hq2 hn h14).mono ?_
    rintro e w' ⟨rfl, hb⟩
    refine ⟨?_, hb⟩
    simp [beq_eq_false_iff_ne.2 h14]
  subst h14
  by_cases h15 : smode = smode'
  case neg =>
    refine (rsame_15 kind tag code msize iounit count name qdir qver qpath Aq nq cq Ad nd cd sdir sver spath smode ssize sname Aq' nq' cq' Ad' nd' cd' smode' ssize' sname' w qs hq1 hq2 hn h15).mono ?_
    rintro e w' ⟨rfl, hb⟩
    refine ⟨?_, hb⟩
    simp [beq_eq_false_iff_ne.2 h15]
  subst h15
  by_cases h16 : ssize = ssize'
  case neg =>
    refine (rsame_16 kind tag code msize iounit count name qdir qver qpath Aq nq cq Ad nd cd sdir sver spath smode ssize sname Aq' nq' cq' Ad' nd' cd' ssize' sname' w qs hq1 hq2 hn h16).mono ?_
    rintro e w' ⟨rfl, hb⟩
    refine ⟨?_, hb⟩
    simp [beq_eq_false_iff_ne.2 h16]
  subst h16
  by_cases h17 : sname = sname'
  case neg =>
    refine (rsame_17 kind tag code msize iounit count name qdir qver qpath Aq nq cq Ad nd cd sdir sver spath smode ssize sname Aq' nq' cq' Ad' nd' cd' sname' w qs hq1 hq2 hn h17).mono ?_
    rintro e w' ⟨rfl, hb⟩
    refine ⟨?_, hb⟩
    simp [beq_eq_false_iff_ne.2 h17]
  subst h17
  by_cases h11 : ds = ds'
  case neg =>
    refine (rsame_11 kind tag code msize iounit count name qdir qver qpath Aq nq cq Ad nd cd sdir sver spath smode ssize sname Aq' nq' cq' Ad' nd' cd' w qs hq1 hq2 hn ds ds' hd1 hd2 h11).mono ?_
    rintro e w' ⟨rfl, hb⟩
    refine ⟨?_, hb⟩
    simp [beq_eq_false_iff_ne.2 h11]
  subst h11
  refine (rsame_18 kind tag code msize iounit count name qdir qver qpath Aq nq cq Ad nd cd sdir sver spath smode ssize sname Aq' nq' cq' Ad' nd' cd' w qs hq1 hq2 hn ds hd1 hd2).mono ?_
  rintro e w' ⟨rfl, hb⟩
  exact ⟨by simp, hb⟩

/-- A reply that is only read. -/
structure TellRd (w : World) (x : TellV) (Aq : Option Addr) (nq cq : Nat) (Ad : Option Addr) (nd cd : Nat) : Prop where
  q : RdR w w.heap.size 3 Aq nq (x.qids.map qidC)
  d : RdB w w.heap.size Ad nd x.data
  nq_le : nq ≤ 1000
  nd_le : nd ≤ 1000
  name : x.name.length ≤ 1000000
  sname : x.sname.length ≤ 1000000
theorem TellRd.up {w w' : World} {x : TellV} {Aq : Option Addr} {nq cq : Nat} {Ad : Option Addr} {nd cd : Nat} (h : TellRd w x Aq nq cq Ad nd cd) (k : Below w.heap.size w w') : TellRd w' x Aq nq cq Ad nd cd :=
  { h with q := h.q.up k, d := h.d.up k }
theorem TellRd.drew {w : World} {x : TellV} {Aq : Option Addr} {nq cq : Nat} {Ad : Option Addr} {nd cd : Nat} (h : TellRd w x Aq nq cq Ad nd cd) : TellRd w.drew x Aq nq cq Ad nd cd := h.up (Below.refl _ _).drew
theorem refSame_any (x y : TellV) (Aq : Option Addr) (nq cq : Nat) (Ad : Option Addr) (nd cd : Nat) (Bq : Option Addr) (mq dq : Nat) (Bd : Option Addr) (md dd : Nat) (w : World) (hx : TellRd w x Aq nq cq Ad nd cd) (hy : TellRd w y Bq mq dq Bd md dd) :
    Calls Try.prog 13 #[.agg (tellC x Aq nq cq Ad nd cd).toArray, .agg (tellC y Bq mq dq Bd md dd).toArray] w fun e w' => e = .returned (.bool (sameT x y)) ∧ Below w.heap.size w w' :=
  refSame_flat x.kind x.tag x.code x.msize x.iounit x.count x.name x.qid.dir x.qid.ver x.qid.path Aq nq cq Ad nd cd x.sqid.dir x.sqid.ver x.sqid.path x.smode x.ssize x.sname y.kind y.tag y.code y.msize y.iounit y.count y.name y.qid.dir y.qid.ver y.qid.path Bq mq dq Bd md dd y.sqid.dir y.sqid.ver y.sqid.path y.smode y.ssize y.sname w x.qids y.qids hx.q hy.q (by have := hx.nq_le; omega) x.data y.data hx.d hy.d
/-- Good, of a reply that was handed in. -/
theorem goodT_ok (t : TellV) (Aq : Option Addr) (nq cq : Nat) (Ad : Option Addr) (nd cd : Nat) (w : World) (h : TellOk w w.heap.size t Aq nq cq Ad nd cd) :
    Calls Try.prog 10 #[.agg (tellC t Aq nq cq Ad nd cd).toArray] w (GoodTPost t w) :=
  goodT_any t.kind t.tag t.code t.msize t.iounit t.count t.name t.qid.dir t.qid.ver t.qid.path t.qids t.data t.sqid.dir t.sqid.ver t.sqid.path t.smode t.ssize t.sname Aq nq cq Ad nd cd w h
theorem goodT_lens (t : TellV) : (goodT t).qids.length ≤ 8 ∧ (goodT t).data.length ≤ 30 ∧ (goodT t).name.length ≤ 40 ∧ (goodT t).sname.length ≤ 40 := by
  simp only [goodT, ownT, goodU18]
  refine ⟨?_, ?_, ?_, ?_⟩
  · by_cases h : hasM (kindB t.kind) 108 = true <;> simp [h] <;> omega
  · by_cases h : hasM (kindB t.kind) 100 = true <;> simp [h] <;> omega
  · by_cases h : hasM (kindB t.kind) 122 = true <;> simp [h] <;> omega
  · by_cases h : hasM (kindB t.kind) 115 = true <;> simp [h] <;> omega
end Go.Proofs.Ytoplkglnjgllnaa
