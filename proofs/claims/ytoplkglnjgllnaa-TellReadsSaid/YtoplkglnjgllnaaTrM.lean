/-
  tell.Same of any two.
  tell.lay: the body of a reply, and whether it may be; May, Write, Error, Room.
  Layer 18's example.
-/
import Derived.Test.YtoplkglnjgllnaaTrE1
import Derived.Test.YtoplkglnjgllnaaTrE2
import Derived.Test.YtoplkglnjgllnaaTrE3
import Derived.Test.YtoplkglnjgllnaaTrC
import Derived.Test.YtoplkglnjgllnaaTrA
namespace Go.Proofs.Ytoplkglnjgllnaa
open Go.RowKit
set_option linter.unusedVariables false
set_option linter.unusedSimpArgs false

/-- Are two replies the same? -/
def sameT (a b : TellV) : Bool :=
  (a.kind == b.kind) && (a.tag == b.tag) && (a.code == b.code) && (a.msize == b.msize) && (a.iounit == b.iounit) && (a.count == b.count) && (a.name == b.name) && (a.qid.dir == b.qid.dir) && (a.qid.ver == b.qid.ver) && (a.qid.path == b.qid.path) && sameQs a.qids b.qids && (a.data == b.data) && (a.sqid.dir == b.sqid.dir) && (a.sqid.ver == b.sqid.ver) && (a.sqid.path == b.sqid.path) && (a.smode == b.smode) && (a.ssize == b.ssize) && (a.sname == b.sname)
theorem tellSame_flat (kind : Int) (tag : Int) (code : Int) (msize : Int) (iounit : Int) (count : Int) (name : List UInt8) (qdir : Bool) (qver : Int) (qpath : Int) (Aq : Option Addr) (nq cq : Nat) (Ad : Option Addr) (nd cd : Nat) (sdir : Bool) (sver : Int) (spath : Int) (smode : Int) (ssize : Int) (sname : List UInt8) (kind' : Int) (tag' : Int) (code' : Int) (msize' : Int) (iounit' : Int) (count' : Int) (name' : List UInt8) (qdir' : Bool) (qver' : Int) (qpath' : Int) (Aq' : Option Addr) (nq' cq' : Nat) (Ad' : Option Addr) (nd' cd' : Nat) (sdir' : Bool) (sver' : Int) (spath' : Int) (smode' : Int) (ssize' : Int) (sname' : List UInt8) (w : World) (qs qs' : List QidV) (hq1 : RdR w w.heap.size 3 Aq nq (qs.map qidC)) (hq2 : RdR w w.heap.size 3 Aq' nq' (qs'.map qidC)) (hn : nq ≤ 1048576) (ds ds' : List UInt8) (hd1 : RdB w w.heap.size Ad nd ds) (hd2 : RdB w w.heap.size Ad' nd' ds') :
    Calls Try.prog 12 #[.agg #[.int .i64 kind, .int .i64 tag, .int .i64 code, .int .i64 msize, .int .i64 iounit, .int .i64 count, .string (st name), .bool qdir, .int .i64 qver, .int .i64 qpath, .slice Aq nq cq, .slice Ad nd cd, .bool sdir, .int .i64 sver, .int .i64 spath, .int .i64 smode, .int .i64 ssize, .string (st sname)], .agg #[.int .i64 kind', .int .i64 tag', .int .i64 code', .int .i64 msize', .int .i64 iounit', .int .i64 count', .string (st name'), .bool qdir', .int .i64 qver', .int .i64 qpath', .slice Aq' nq' cq', .slice Ad' nd' cd', .bool sdir', .int .i64 sver', .int .i64 spath', .int .i64 smode', .int .i64 ssize', .string (st sname')]] w fun e w' => e = .returned (.bool ((kind == kind') && (tag == tag') && (code == code') && (msize == msize') && (iounit == iounit') && (count == count') && (name == name') && (qdir == qdir') && (qver == qver') && (qpath == qpath') && sameQs qs qs' && (ds == ds') && (sdir == sdir') && (sver == sver') && (spath == spath') && (smode == smode') && (ssize == ssize') && (sname == sname'))) ∧ Below w.heap.size w w' := by
  by_cases h0 : kind = kind'
  case neg =>
    refine (tsame_0 kind tag code msize iounit count name qdir qver qpath Aq nq cq Ad nd cd sdir sver spath smode ssize sname kind' tag' code' msize' iounit' count' name' qdir' qver' qpath' Aq' nq' cq' Ad' nd' cd' sdir' sver' spath' smode' ssize' sname' w h0).mono ?_
    rintro e w' ⟨rfl, hb⟩
    refine ⟨?_, hb⟩
    simp [beq_eq_false_iff_ne.2 h0]
  subst h0
  by_cases h1 : tag = tag'
  case neg =>
    refine (tsame_1 kind tag code msize iounit count name qdir qver qpath Aq nq cq Ad nd cd sdir sver spath smode ssize sname tag' code' msize' iounit' count' name' qdir' qver' qpath' Aq' nq' cq' Ad' nd' cd' sdir' sver' spath' smode' ssize' sname' w h1).mono ?_
    rintro e w' ⟨rfl, hb⟩
    refine ⟨?_, hb⟩
    simp [beq_eq_false_iff_ne.2 h1]
  subst h1
  by_cases h2 : code = code'
  case neg =>
    refine (tsame_2 kind tag code msize iounit count name qdir qver qpath Aq nq cq Ad nd cd sdir sver spath smode ssize sname code' msize' iounit' count' name' qdir' qver' qpath' Aq' nq' cq' Ad' nd' cd' sdir' sver' spath' smode' ssize' sname' w h2).mono ?_
    rintro e w' ⟨rfl, hb⟩
    refine ⟨?_, hb⟩
    simp [beq_eq_false_iff_ne.2 h2]
  subst h2
  by_cases h3 : msize = msize'
  case neg =>
    refine (tsame_3 kind tag code msize iounit count name qdir qver qpath Aq nq cq Ad nd cd sdir sver spath smode ssize sname msize' iounit' count' name' qdir' qver' qpath' Aq' nq' cq' Ad' nd' cd' sdir' sver' spath' smode' ssize' sname' w h3).mono ?_
    rintro e w' ⟨rfl, hb⟩
    refine ⟨?_, hb⟩
    simp [beq_eq_false_iff_ne.2 h3]
  subst h3
  by_cases h4 : iounit = iounit'
  case neg =>
    refine (tsame_4 kind tag code msize iounit count name qdir qver qpath Aq nq cq Ad nd cd sdir sver spath smode ssize sname iounit' count' name' qdir' qver' qpath' Aq' nq' cq' Ad' nd' cd' sdir' sver' spath' smode' ssize' sname' w h4).mono ?_
    rintro e w' ⟨rfl, hb⟩
    refine ⟨?_, hb⟩
    simp [beq_eq_false_iff_ne.2 h4]
  subst h4
  by_cases h5 : count = count'
  case neg =>
    refine (tsame_5 kind tag code msize iounit count name qdir qver qpath Aq nq cq Ad nd cd sdir sver spath smode ssize sname count' name' qdir' qver' qpath' Aq' nq' cq' Ad' nd' cd' sdir' sver' spath' smode' ssize' sname' w h5).mono ?_
    rintro e w' ⟨rfl, hb⟩
    refine ⟨?_, hb⟩
    simp [beq_eq_false_iff_ne.2 h5]
  subst h5
  by_cases h6 : name = name'
  case neg =>
    refine (tsame_6 kind tag code msize iounit count name qdir qver qpath Aq nq cq Ad nd cd sdir sver spath smode ssize sname name' qdir' qver' qpath' Aq' nq' cq' Ad' nd' cd' sdir' sver' spath' smode' ssize' sname' w h6).mono ?_
    rintro e w' ⟨rfl, hb⟩
    refine ⟨?_, hb⟩
    simp [beq_eq_false_iff_ne.2 h6]
  subst h6
  by_cases h7 : qdir = qdir'
  case neg =>
    refine (tsame_7 kind tag code msize iounit count name qdir qver qpath Aq nq cq Ad nd cd sdir sver spath smode ssize sname qdir' qver' qpath' Aq' nq' cq' Ad' nd' cd' sdir' sver' spath' smode' ssize' sname' w h7).mono ?_
    rintro e w' ⟨rfl, hb⟩
    refine ⟨?_, hb⟩
    simp [beq_eq_false_iff_ne.2 h7]
  subst h7
  by_cases h8 : qver = qver'
  case neg =>
    refine (tsame_8 kind tag code msize iounit count name qdir qver qpath Aq nq cq Ad nd cd sdir sver spath smode ssize sname qver' qpath' Aq' nq' cq' Ad' nd' cd' sdir' sver' spath' smode' ssize' sname' w h8).mono ?_
    rintro e w' ⟨rfl, hb⟩
    refine ⟨?_, hb⟩
    simp [beq_eq_false_iff_ne.2 h8]
  subst h8
  by_cases h9 : qpath = qpath'
  case neg =>
    refine (tsame_9 kind tag code msize iounit count name qdir qver qpath Aq nq cq Ad nd cd sdir sver spath smode ssize sname qpath' Aq' nq' cq' Ad' nd' cd' sdir' sver' spath' smode' ssize' sname' w h9).mono ?_
    rintro e w' ⟨rfl, hb⟩
    refine ⟨?_, hb⟩
    simp [beq_eq_false_iff_ne.2 h9]
  subst h9
  rcases hqe : sameQs qs qs' with _ | _
  · refine (tsame_10 kind tag code msize iounit count name qdir qver qpath Aq nq cq Ad nd cd sdir sver spath smode ssize sname Aq' nq' cq' Ad' nd' cd' sdir' sver' spath' smode' ssize' sname' w qs qs' hq1 hq2 hn hqe).mono ?_
    rintro e w' ⟨rfl, hb⟩
    exact ⟨by simp, hb⟩
  rcases hde : (ds == ds') with _ | _
  · refine (tsame_11 kind tag code msize iounit count name qdir qver qpath Aq nq cq Ad nd cd sdir sver spath smode ssize sname Aq' nq' cq' Ad' nd' cd' sdir' sver' spath' smode' ssize' sname' w qs qs' hq1 hq2 hn hqe ds ds' hd1 hd2 hde).mono ?_
    rintro e w' ⟨rfl, hb⟩
    exact ⟨by simp, hb⟩
  by_cases h12 : sdir = sdir'
  case neg =>
    refine (tsame_12 kind tag code msize iounit count name qdir qver qpath Aq nq cq Ad nd cd sdir sver spath smode ssize sname Aq' nq' cq' Ad' nd' cd' sdir' sver' spath' smode' ssize' sname' w h12 qs qs' hq1 hq2 hn hqe ds ds' hd1 hd2 hde).mono ?_
    rintro e w' ⟨rfl, hb⟩
    refine ⟨?_, hb⟩
    simp [beq_eq_false_iff_ne.2 h12]
  subst h12
  by_cases h13 : sver = sver'
  case neg =>
    refine (tsame_13 kind tag code msize iounit count name qdir qver qpath Aq nq cq Ad nd cd sdir sver spath smode ssize sname Aq' nq' cq' Ad' nd' cd' sver' spath' smode' ssize' sname' w h13 qs qs' hq1 hq2 hn hqe ds ds' hd1 hd2 hde).mono ?_
    rintro e w' ⟨rfl, hb⟩
    refine ⟨?_, hb⟩
    simp [beq_eq_false_iff_ne.2 h13]
  subst h13
  by_cases h14 : spath = spath'
  case neg =>
    refine (tsame_14 kind tag code msize iounit count name qdir qver qpath Aq nq cq Ad nd cd sdir sver spath smode ssize sname Aq' nq' cq' Ad' nd' cd' spath' smode' ssize' sname' w h14 qs qs' hq1 hq2 hn hqe ds ds' hd1 hd2 hde).mono ?_
    rintro e w' ⟨rfl, hb⟩
    refine ⟨?_, hb⟩
    simp [beq_eq_false_iff_ne.2 h14]
  subst h14
  by_cases h15 : smode = smode'
  case neg =>
    refine (tsame_15 kind tag code msize iounit count name qdir qver qpath Aq nq cq Ad nd cd sdir sver spath smode ssize sname Aq' nq' cq' Ad' nd' cd' smode' ssize' sname' w h15 qs qs' hq1 hq2 hn hqe ds ds' hd1 hd2 hde).mono ?_
    rintro e w' ⟨rfl, hb⟩
    refine ⟨?_, hb⟩
    simp [beq_eq_false_iff_ne.2 h15]
  subst h15
  by_cases h16 : ssize = ssize'
  case neg =>
    refine (tsame_16 kind tag code msize iounit count name qdir qver qpath Aq nq cq Ad nd cd sdir sver spath smode ssize sname Aq' nq' cq' Ad' nd' cd' ssize' sname' w h16 qs qs' hq1 hq2 hn hqe ds ds' hd1 hd2 hde).mono ?_
    rintro e w' ⟨rfl, hb⟩
    refine ⟨?_, hb⟩
    simp [beq_eq_false_iff_ne.2 h16]
  subst h16
  by_cases h17 : sname = sname'
  case neg =>
    refine (tsame_17 kind tag code msize iounit count name qdir qver qpath Aq nq cq Ad nd cd sdir sver spath smode ssize sname Aq' nq' cq' Ad' nd' cd' sname' w h17 qs qs' hq1 hq2 hn hqe ds ds' hd1 hd2 hde).mono ?_
    rintro e w' ⟨rfl, hb⟩
    refine ⟨?_, hb⟩
    simp [beq_eq_false_iff_ne.2 h17]
  subst h17
  refine (tsame_18 kind tag code msize iounit count name qdir qver qpath Aq nq cq Ad nd cd sdir sver spath smode ssize sname Aq' nq' cq' Ad' nd' cd' w qs qs' hq1 hq2 hn hqe ds ds' hd1 hd2 hde).mono ?_
  rintro e w' ⟨rfl, hb⟩
  exact ⟨by simp, hb⟩

/-- A struct loaded whose cells are known. -/
theorem run_loadMid {P : Program} {w : World} {g o : Nat} {t : TypeId} {xs : List Value} (hc : ∀ k v, xs[k]? = some v → w.cell? ⟨g, o + k, none⟩ = some v) (hs : (P.info? t).map (·.size) = some xs.length) (ha : ∀ w, (isAgg t).run P w = .ok true w) :
    (Instr.loadAt t (.pointer (some ⟨g, o, none⟩))).run P w = .ok (.agg xs.toArray) w := by
  obtain ⟨i, hi, hsz⟩ := Option.map_eq_some_iff.1 hs
  have hl := run_loadCells_list (P := P) w ⟨g, o, none⟩ xs (fun k v hk => by rw [add_plain]; exact hc k v hk)
  have hv : (loadVar t ⟨g, o, none⟩).run P w = .ok (.agg xs.toArray) w := by simp [Go.loadVar, ha, sizeOf, typeInfo, hi, hsz, hl]
  simp [Instr.loadAt, Instr.sureAddr, hv]
section
variable {P : Program} {ops : Array Oper} {Q : Exit → Act → World → Prop} {G : Nat → Prop}
/-- A value that no world of the region turns, taken first. -/
theorem tq_valK {i : Nat} {o : Oper} {d : Option Tmp} {r : Tq} {a : Act} {w : World} (ho : ops[i]? = some o) (hd : o.dst = d) (hw : Region.wanted o (yielded ops a.tmps) = true)
    (v : Value) (hrun : ∀ W, Keeps G w W → (execOp a.eval o).run P W = .ok (.value v) W) (h : wpTq P ops Q G r (a.put d v) w) : wpTq P ops Q G (.q i r) a w := by
  subst hd
  exact ⟨o, v, ho, .inl ⟨hw, fun W hW => .inl (hrun W hW)⟩, h⟩
theorem tq_skip {i : Nat} {o : Oper} {d : Option Tmp} {r : Tq} {a : Act} {w : World} (ho : ops[i]? = some o) (hd : o.dst = d) (hw : Region.wanted o (yielded ops a.tmps) = false)
    (h : wpTq P ops Q G r (a.put d undef) w) : wpTq P ops Q G (.q i r) a w := by
  subst hd
  exact ⟨o, undef, ho, .inr ⟨hw, rfl⟩, h⟩
theorem run_load_op {a : Act} {w w' : World} {o : Oper} (x : Operand) {t : TypeId} {p v : Value} (ho : o.op = .load t x) (hx : a.eval x = p) (h : (Instr.loadAt t p).run P w = .ok v w') : (execOp a.eval o).run P w = .ok (.value v) w' := by
  unfold execOp
  simp only [ho, hx, h, Sem.run_bind, Result.andThen_ok, Sem.run_pure]
end
theorem wPart_any (k : Int) (hk : 0 ≤ k ∧ k ≤ 8) (g : Nat) (t : TellV) (l : List UInt8) (ok : Bool) (w : World) (h : WrT w g t l ok) (hl : l.length ≤ 700000) (hnl : t.name.length ≤ 1048576) (hsl : t.sname.length ≤ 1048576) :
    Calls Try.prog 53 #[.pointer (some ⟨g, 0, none⟩), .int .i64 k] w (UnitT g (partT k t) (l ++ partB k t) (ok && partOk k t) w) := by
  obtain ⟨h0, h8⟩ := hk
  rcases (by omega : k = 0 ∨ k = 1 ∨ k = 2 ∨ k = 3 ∨ k = 4 ∨ k = 5 ∨ k = 6 ∨ k = 7 ∨ k = 8) with rfl | rfl | rfl | rfl | rfl | rfl | rfl | rfl | rfl
  · exact wPart_0 g t l ok w h hl hnl hsl
  · exact wPart_1 g t l ok w h hl hnl hsl
  · exact wPart_2 g t l ok w h hl hnl hsl
  · exact wPart_3 g t l ok w h hl hnl hsl
  · exact wPart_4 g t l ok w h hl hnl hsl
  · exact wPart_5 g t l ok w h hl hnl hsl
  · exact wPart_6 g t l ok w h hl hnl hsl
  · exact wPart_7 g t l ok w h hl hnl hsl
  · exact wPart_8 g t l ok w h hl hnl hsl
/-- What is laid, part by part. -/
def stepT (s : TellV × List UInt8 × Bool) (k : Int) : TellV × List UInt8 × Bool := (partT k s.1, s.2.1 ++ partB k s.1, s.2.2 && partOk k s.1)
def lay0 (t : TellV) : TellV × List UInt8 × Bool := (t, [], kindsW.contains t.kind && inB t.tag 65535)
def layS (t : TellV) : TellV × List UInt8 × Bool := (partsM t.kind).foldl stepT (lay0 t)
/-- A reply of a type and a tag alone. -/
def bareT (kind tag : Int) : TellV := ⟨kind, tag, 0, 0, 0, 0, [], qidZ, [], [], qidZ, 0, 0, []⟩
def layB (t : TellV) : List UInt8 := (layS t).2.1
def layOk (t : TellV) : Bool := (layS t).2.2 && sameT (layS t).1 (bareT t.kind t.tag)
theorem partT_name (k : Int) (t : TellV) : (partT k t).name.length ≤ t.name.length ∧ (partT k t).sname.length ≤ t.sname.length := by
  unfold partT
  repeat' split
  all_goals simp
theorem fold_name : ∀ (ks : List Int) (s : TellV × List UInt8 × Bool), (ks.foldl stepT s).1.name.length ≤ s.1.name.length ∧ (ks.foldl stepT s).1.sname.length ≤ s.1.sname.length
  | [], s => ⟨Nat.le_refl _, Nat.le_refl _⟩
  | k :: ks, s => by
    have h1 := fold_name ks (stepT s k)
    have h2 := partT_name k s.1
    exact ⟨Nat.le_trans h1.1 h2.1, Nat.le_trans h1.2 h2.2⟩
theorem partsM_mem (kind : Int) : partsM kind ∈ ([[0, 4], [5], [3], [], [6], [5, 1], [7], [2], [8]] : List (List Int)) := by
  unfold partsM
  have : ∀ l ∈ ([[0, 4], [5], [3], [], [6], [5, 1], [5, 1], [7], [2], [], [], [8], []] : List (List Int)), l ∈ ([[0, 4], [5], [3], [], [6], [5, 1], [7], [2], [8]] : List (List Int)) := by decide
  cases h : ([[0, 4], [5], [3], [], [6], [5, 1], [5, 1], [7], [2], [], [], [8], []] : List (List Int))[kindsW.findIdx (· == kind)]? with
  | none => simp
  | some l => exact this l (List.mem_of_getElem? h)
theorem parts_small (kind : Int) (j : Nat) (k : Int) (hk : (partsM kind)[j]? = some k) (t : TellV) (b : Bool) : (0 ≤ k ∧ k ≤ 8) ∧ (((partsM kind).take j).foldl stepT (t, [], b)).2.1.length ≤ 700000 := by
  have h := partsM_mem kind
  generalize partsM kind = p at h hk
  simp only [List.mem_cons, List.not_mem_nil, or_false] at h
  rcases h with rfl | rfl | rfl | rfl | rfl | rfl | rfl | rfl | rfl <;> rcases j with _ | _ | j <;> simp at hk <;> subst hk <;> simp [stepT, partB, le_length, qidB_len]
theorem partsM_len (kind : Int) : (partsM kind).length ≤ 2 := by
  have h := partsM_mem kind
  generalize partsM kind = p at h
  simp only [List.mem_cons, List.not_mem_nil, or_false] at h
  rcases h with rfl | rfl | rfl | rfl | rfl | rfl | rfl | rfl | rfl <;> simp
def LayT (t : TellV) (w : World) (e : Ending) (w' : World) : Prop :=
  ∃ A n c l ok, Hid (l = layB t) ∧ Hid (ok = layOk t) ∧ e = .returned (.tuple #[.slice A n c, .bool ok]) ∧ OwB w' w.heap.size A n c l ∧ Below w.heap.size w w'
def LayJ (g : Nat) (p : List Int) (s0 : TellV × List UInt8 × Bool) (w : World) (i : Value) (wr : World) : Prop :=
  ∃ (j : Nat) (t : TellV) (l : List UInt8) (ok : Bool), j ≤ p.length ∧ i = .int .i64 j ∧ Hid ((t, l, ok) = (p.take j).foldl stepT s0) ∧ WrT wr g t l ok ∧ Keeps (Is g) w wr
set_option maxRecDepth 20000 in
set_option maxHeartbeats 8000000 in
theorem lay_any (kind tag code msize iounit count : Int) (name : List UInt8) (qdir : Bool) (qver qpath : Int) (qids : List QidV) (data : List UInt8) (sdir : Bool) (sver spath smode ssize : Int) (sname : List UInt8) (Aq : Option Addr) (nq cq : Nat) (Ad : Option Addr) (nd cd : Nat) (w : World) (hq : RdR w w.heap.size 3 Aq nq (qids.map qidC)) (hd : RdB w w.heap.size Ad nd data) (hnq : nq ≤ 1048576) (hnd : nd ≤ 1048576) (hnl : name.length ≤ 1048576) (hsl : sname.length ≤ 1048576) :
    Calls Try.prog 38 #[.agg #[.int .i64 kind, .int .i64 tag, .int .i64 code, .int .i64 msize, .int .i64 iounit, .int .i64 count, .string (st name), .bool qdir, .int .i64 qver, .int .i64 qpath, .slice Aq nq cq, .slice Ad nd cd, .bool sdir, .int .i64 sver, .int .i64 spath, .int .i64 smode, .int .i64 ssize, .string (st sname)]] w (LayT ⟨kind, tag, code, msize, iounit, count, name, ⟨qdir, qver, qpath⟩, qids, data, ⟨sdir, sver, spath⟩, smode, ssize, sname⟩ w) := by
  have hA0 := Blk.new w 29 [.int .i64 kind, .int .i64 tag, .int .i64 code, .int .i64 msize, .int .i64 iounit, .int .i64 count, .string (st name), .bool qdir, .int .i64 qver, .int .i64 qpath, .slice Aq nq cq, .slice Ad nd cd, .bool sdir, .int .i64 sver, .int .i64 spath, .int .i64 smode, .int .i64 ssize, .string (st sname)]
  have hb0 : Below w.heap.size w (w.alloc (.cells #[.int .i64 kind, .int .i64 tag, .int .i64 code, .int .i64 msize, .int .i64 iounit, .int .i64 count, .string (st name), .bool qdir, .int .i64 qver, .int .i64 qpath, .slice Aq nq cq, .slice Ad nd cd, .bool sdir, .int .i64 sver, .int .i64 spath, .int .i64 smode, .int .i64 ssize, .string (st sname)] 29)) := (Below.refl _ _).alloc (Nat.le_refl _) _
  obtain ⟨W, hW⟩ : ∃ W, W = w.alloc (.cells #[.int .i64 kind, .int .i64 tag, .int .i64 code, .int .i64 msize, .int .i64 iounit, .int .i64 count, .string (st name), .bool qdir, .int .i64 qver, .int .i64 qpath, .slice Aq nq cq, .slice Ad nd cd, .bool sdir, .int .i64 sver, .int .i64 spath, .int .i64 smode, .int .i64 ssize, .string (st sname)] 29) := ⟨_, rfl⟩
  have hW' : W = w.alloc (.cells [.int .i64 kind, .int .i64 tag, .int .i64 code, .int .i64 msize, .int .i64 iounit, .int .i64 count, .string (st name), .bool qdir, .int .i64 qver, .int .i64 qpath, .slice Aq nq cq, .slice Ad nd cd, .bool sdir, .int .i64 sver, .int .i64 spath, .int .i64 smode, .int .i64 ssize, .string (st sname)].toArray 29) := hW
  rw [← hW'] at hA0
  rw [← hW] at hb0
  obtain ⟨T0, hT0⟩ : ∃ T, T = w.heap.size := ⟨_, rfl⟩
  rw [← hT0] at hA0
  have t0 := hA0.cell 0 _ rfl
  have HA := Lib.hid hA0
  have HB := Lib.hid hb0
  have HQ := Lib.hid hq
  have HD := Lib.hid hd
  have HT0 := Lib.hid hT0
  clear hA0 hb0 hW' hq hd
  go_enter Try.func38, Try.ntmps38
  go_upto_region 1 with fail
  rw [← hW, ← hT0]
  clear hW hT0
  go_wp2_with fail
  refine (parts_any kind _).mono ?_
  rintro e w1 ⟨Ap, np, cp, p, b, hp, hbk, rfl, hrp, hb1⟩
  have hA1 := HA.out.up hb1
  have HRP := Lib.hid hrp
  have HB1 := Lib.hid (Up.trans HB.out hb1)
  have hlp : p.length = np := by have := hrp.len; simpa [iv18] using this
  have hnp : np ≤ 2 := by rw [← hlp, hp.out]; exact partsM_len kind
  have HLP := Lib.hid hlp
  clear t0 hb1 hrp hlp
  go_upto_region 3 with (refine wpList_loadBlk rfl (.tmp 1) rfl rfl (by kernel_rfl) tellT_agg hA1 ?_; simp only [Act.put, List.setIfInBounds_toArray, List.set_cons_succ, List.set_cons_zero])
  have hg0 : WrT (w1.alloc (.cells #[.int .i64 kind, .int .i64 tag, .int .i64 code, .int .i64 msize, .int .i64 iounit, .int .i64 count, .string (st name), .bool qdir, .int .i64 qver, .int .i64 qpath, .slice Aq nq cq, .slice Ad nd cd, .bool sdir, .int .i64 sver, .int .i64 spath, .int .i64 smode, .int .i64 ssize, .string (st sname), .slice none 0 0, .bool b] 89)) w1.heap.size ⟨kind, tag, code, msize, iounit, count, name, ⟨qdir, qver, qpath⟩, qids, data, ⟨sdir, sver, spath⟩, smode, ssize, sname⟩ [] b := by
    have hbl : Below w1.heap.size w1 (w1.alloc (.cells #[.int .i64 kind, .int .i64 tag, .int .i64 code, .int .i64 msize, .int .i64 iounit, .int .i64 count, .string (st name), .bool qdir, .int .i64 qver, .int .i64 qpath, .slice Aq nq cq, .slice Ad nd cd, .bool sdir, .int .i64 sver, .int .i64 spath, .int .i64 smode, .int .i64 ssize, .string (st sname), .slice none 0 0, .bool b] 89)) := (Below.refl _ _).alloc (Nat.le_refl _) _
    exact ⟨Aq, nq, cq, Ad, nd, cd, ⟨none, 0, 0, Blk.new w1 89 [.int .i64 kind, .int .i64 tag, .int .i64 code, .int .i64 msize, .int .i64 iounit, .int .i64 count, .string (st name), .bool qdir, .int .i64 qver, .int .i64 qpath, .slice Aq nq cq, .slice Ad nd cd, .bool sdir, .int .i64 sver, .int .i64 spath, .int .i64 smode, .int .i64 ssize, .string (st sname), .slice none 0 0, .bool b], OwB.nil _ _, rfl⟩, ((HQ.out.up HB1.out).below hbl), ((HD.out.up HB1.out).below hbl), hnd, hnq⟩
  have hA2 := hA1.alloc (.cells #[.int .i64 kind, .int .i64 tag, .int .i64 code, .int .i64 msize, .int .i64 iounit, .int .i64 count, .string (st name), .bool qdir, .int .i64 qver, .int .i64 qpath, .slice Aq nq cq, .slice Ad nd cd, .bool sdir, .int .i64 sver, .int .i64 spath, .int .i64 smode, .int .i64 ssize, .string (st sname), .slice none 0 0, .bool b] 89)
  have hb2 := HB1.out.alloc HB1.out.size (.cells #[.int .i64 kind, .int .i64 tag, .int .i64 code, .int .i64 msize, .int .i64 iounit, .int .i64 count, .string (st name), .bool qdir, .int .i64 qver, .int .i64 qpath, .slice Aq nq cq, .slice Ad nd cd, .bool sdir, .int .i64 sver, .int .i64 spath, .int .i64 smode, .int .i64 ssize, .string (st sname), .slice none 0 0, .bool b] 89)
  have hrp2 := HRP.out.below ((Below.refl _ _).alloc (Nat.le_refl _) (.cells #[.int .i64 kind, .int .i64 tag, .int .i64 code, .int .i64 msize, .int .i64 iounit, .int .i64 count, .string (st name), .bool qdir, .int .i64 qver, .int .i64 qpath, .slice Aq nq cq, .slice Ad nd cd, .bool sdir, .int .i64 sver, .int .i64 spath, .int .i64 smode, .int .i64 ssize, .string (st sname), .slice none 0 0, .bool b] 89))
  have hTg : T0 < w1.heap.size := hA1.lt
  have hgw : w.heap.size ≤ w1.heap.size := HB1.out.size
  generalize w1.alloc (.cells #[.int .i64 kind, .int .i64 tag, .int .i64 code, .int .i64 msize, .int .i64 iounit, .int .i64 count, .string (st name), .bool qdir, .int .i64 qver, .int .i64 qpath, .slice Aq nq cq, .slice Ad nd cd, .bool sdir, .int .i64 sver, .int .i64 spath, .int .i64 smode, .int .i64 ssize, .string (st sname), .slice none 0 0, .bool b] 89) = W2 at hg0 hA2 hb2 hrp2 ⊢
  generalize w1.heap.size = g at hg0 hrp2 hTg hgw ⊢
  have t1 := hA2.cell 1 _ rfl
  have HG := Lib.hid hg0
  have HA2 := Lib.hid hA2
  have HB2 := Lib.hid hb2
  have HR2 := Lib.hid hrp2
  clear hA1 hg0 hA2 hb2 hrp2 HA
  go_wp2_with fail
  obtain ⟨Bq, bq, dq, Bd, bd, dd, hwr, hqr, hdr, hnb⟩ := HG.out
  refine (wBound_any g _ [] b tag 65535 _ hwr).mono ?_
  rintro e w3 ⟨rfl, l3, b3, hl3, hb3, hw3, hk3⟩
  obtain rfl := hl3.out
  have hg3 : WrT w3 g ⟨kind, tag, code, msize, iounit, count, name, ⟨qdir, qver, qpath⟩, qids, data, ⟨sdir, sver, spath⟩, smode, ssize, sname⟩ [] b3 := ⟨Bq, bq, dq, Bd, bd, dd, hw3, hqr.below (hk3.is (Nat.le_refl g) (Nat.le_of_lt HG.out.lt)), hdr.below (hk3.is (Nat.le_refl g) (Nat.le_of_lt HG.out.lt)), hnb⟩
  have hnT : ¬ Is g T0 := fun e => by have e' : T0 = g := e; omega
  have HA3 := Lib.hid (HA2.out.keeps hk3 hnT)
  have HB3 := Lib.hid (HB2.out.trans (hk3.is hgw (Nat.le_of_lt HG.out.lt)))
  have HR3 := Lib.hid (HR2.out.below (hk3.is (Nat.le_refl g) (Nat.le_of_lt HG.out.lt)))
  have HG3 := Lib.hid hg3
  have hs0 : lay0 ⟨kind, tag, code, msize, iounit, count, name, ⟨qdir, qver, qpath⟩, qids, data, ⟨sdir, sver, spath⟩, smode, ssize, sname⟩ = (⟨kind, tag, code, msize, iounit, count, name, ⟨qdir, qver, qpath⟩, qids, data, ⟨sdir, sver, spath⟩, smode, ssize, sname⟩, [], b3) := by unfold lay0; rw [hb3.out, hbk.out]
  have HS0 := Lib.hid hs0
  have hpn := fun j => fold_name (p.take j) (⟨kind, tag, code, msize, iounit, count, name, ⟨qdir, qver, qpath⟩, qids, data, ⟨sdir, sver, spath⟩, smode, ssize, sname⟩, [], b3)
  have HPN := Lib.hid hpn
  clear t1 hk3 hw3 hwr hqr hdr hl3 hg3 hs0 hpn
  go_wp2
  go_loopw [25] (fun i wr => LayJ g p (⟨kind, tag, code, msize, iounit, count, name, ⟨qdir, qver, qpath⟩, qids, data, ⟨sdir, sver, spath⟩, smode, ssize, sname⟩, [], b3) w3 i wr) (fun i _ => np - (intOf i).toNat)
  case atStart => exact ⟨0, _, _, _, by omega, rfl, rfl, HG3.out, Keeps.refl _ _⟩
  case round =>
    obtain ⟨j, t, l, ok, hj, rfl, hst, hwt, hkw⟩ := hrel
    have hjn : j ≤ np := by rw [← HLP.out]; exact hj
    have hkb := hkw.is (Nat.le_refl g) (Nat.le_of_lt HG3.out.lt)
    by_cases hlt : j < np
    · have j0 : (0 : Int) ≤ j := by omega
      have j1 : (j : Int) < np := by omega
      have hjp : j < p.length := by rw [HLP.out]; exact hlt
      obtain ⟨bp, op, up, hAp, hbp, hup, hcp⟩ := (HR3.out.below hkb).at_ hlt
      obtain ⟨k, hkj⟩ : ∃ k, p[j]? = some k := ⟨_, List.getElem?_eq_getElem hjp⟩
      have hup' : up = .int .i64 k := by
        unfold iv18 at hup
        rw [List.getElem?_map, hkj] at hup
        exact (Option.some.inj hup).symm
      subst hup'
      subst hAp
      have hsm := parts_small kind j k (by rw [← hp.out]; exact hkj) ⟨kind, tag, code, msize, iounit, count, name, ⟨qdir, qver, qpath⟩, qids, data, ⟨sdir, sver, spath⟩, smode, ssize, sname⟩ b3
      rw [← hp.out] at hsm
      have hll : l.length ≤ 700000 := by
        have h1 := hsm.2
        rw [← hst.out] at h1
        exact h1
      have hnn := HPN.out j
      rw [← hst.out] at hnn
      have hk08 := hsm.1
      have HSTEP : Hid (stepT (t, l, ok) k = (p.take (j + 1)).foldl stepT (⟨kind, tag, code, msize, iounit, count, name, ⟨qdir, qver, qpath⟩, qids, data, ⟨sdir, sver, spath⟩, smode, ssize, sname⟩, [], b3)) := Lib.hid (by
        rw [List.take_add_one, hkj]
        simp [← hst.out])
      have HLL := Lib.hid hll
      have HNN := Lib.hid hnn
      have HK8 := Lib.hid hk08
      have HWT := Lib.hid hwt
      have HKW := Lib.hid hkw
      clear hup hkj hsm hll hnn hk08 hwt hkw hkb hbp
      go_wp2_with fail
      refine (wPart_any k HK8.out g t l ok _ HWT.out HLL.out (Nat.le_trans HNN.out.1 hnl) (Nat.le_trans HNN.out.2 hsl)).mono ?_
      rintro e w4 ⟨rfl, t4, l4, ok4, ht4, hl4, hok4, hw4, hk4⟩
      have HW4 := Lib.hid hw4
      have HK4 := Lib.hid (HKW.out.trans hk4)
      clear hw4 hk4 hcp
      go_wp2
      go_roundw
      case rel => exact ⟨j + 1, t4, l4, ok4, by rw [HLP.out]; omega, by go_num, Lib.hid (by rw [← HSTEP.out, ht4.out, hl4.out, hok4.out]; rfl), HW4.out, HK4.out⟩
      case measure => simp [intOf]; omega
    · obtain rfl : j = np := by omega
      have j1 : ¬ (j : Int) < j := by omega
      have hfin : (t, l, ok) = layS ⟨kind, tag, code, msize, iounit, count, name, ⟨qdir, qver, qpath⟩, qids, data, ⟨sdir, sver, spath⟩, smode, ssize, sname⟩ := by
        unfold layS
        rw [HS0.out, hst.out, List.take_of_length_le (by rw [HLP.out]; exact Nat.le_refl _), hp.out]
      have hB : l = layB ⟨kind, tag, code, msize, iounit, count, name, ⟨qdir, qver, qpath⟩, qids, data, ⟨sdir, sver, spath⟩, smode, ssize, sname⟩ := by unfold layB; rw [← hfin]
      have hO : (ok && sameT t (bareT kind tag)) = layOk ⟨kind, tag, code, msize, iounit, count, name, ⟨qdir, qver, qpath⟩, qids, data, ⟨sdir, sver, spath⟩, smode, ssize, sname⟩ := by unfold layOk; rw [← hfin]
      have HBB := Lib.hid hB
      have HOO := Lib.hid hO
      have HBW := Lib.hid (HB3.out.trans (hkw.is hgw (Nat.le_of_lt HG3.out.lt)))
      have hA4 := HA3.out.keeps hkw hnT
      obtain ⟨kind1, tag1, code1, msize1, iounit1, count1, name1, ⟨qdir1, qver1, qpath1⟩, qids1, data1, ⟨sdir1, sver1, spath1⟩, smode1, ssize1, sname1⟩ := t
      obtain ⟨Aq1, nq1, cq1, Ad1, nd1, cd1, ⟨Ab, nb, cb, hwB, hwO, hwx⟩, hq1, hd1, hnd1⟩ := hwt
      have a18 := cell_abv (G := NoG) (w := wr.drew) (hwB.cell 18 _ (wr_at18 hwx)) id
      have a19 := cell_abv (G := NoG) (w := wr.drew) (hwB.cell 19 _ (wr_at19 hwx)) id
      have b0 := cell_abv (G := NoG) (w := wr.drew) (hA4.cell 0 _ rfl) id
      have b1 := cell_abv (G := NoG) (w := wr.drew) (hA4.cell 1 _ rfl) id
      have hcells : ∀ W, Keeps NoG wr.drew W → ∀ k v, ([.int .i64 kind1, .int .i64 tag1, .int .i64 code1, .int .i64 msize1, .int .i64 iounit1, .int .i64 count1, .string (st name1), .bool qdir1, .int .i64 qver1, .int .i64 qpath1, .slice Aq1 nq1 cq1, .slice Ad1 nd1 cd1, .bool sdir1, .int .i64 sver1, .int .i64 spath1, .int .i64 smode1, .int .i64 ssize1, .string (st sname1)] : List Value)[k]? = some v → W.cell? ⟨g, 0 + k, none⟩ = some v := by
        intro W hW k v hk
        rw [Nat.zero_add]
        exact hW.cell (w := wr.drew) (hwB.cell k v (wr_at hwx hk)) id
      have hgl : g < wr.heap.size := hwB.lt
      have HQ1 := Lib.hid ((hq1.more (Nat.le_of_lt hgl)).below ((Below.refl _ _).drew))
      have HD1 := Lib.hid ((hd1.more (Nat.le_of_lt hgl)).drew)
      have HO1 := Lib.hid ((hwO.lower (base' := w.heap.size) (by omega)).drew)
      have HCC := Lib.hid hcells
      have HBW' := Lib.hid HBW.out.drew
      clear hst hkb hkw hA4 hwB hwO hq1 hd1 hcells hfin hB hO
      rcases ok with _ | _
      · go_wp2
        refine wp_region_tq NoG (.t 0 (.t 1 (.t 2 (.t 3 (.t 4 (.t 5 (.t 6 (.t 7 (.t 8 (.t 9 (.t 10 (.t 11 (.t 13 (.t 14 (.t 15 (.t 16 (.q 12 (.q 17 (.s 18 (.t 19 (.t 20 (.t 21 .nil)))))))))))))))))))))) (by kernel_rfl) (by kernel_rfl) ?_
        repeat (refine tq_take (by simp only [List.getElem?_toArray, List.getElem?_cons_succ, List.getElem?_cons_zero]; exact rfl) ?_; go_big_quiet_step (fail); refine wpQuiet_nil ?_)
        refine tq_skip (d := some 45) (by simp only [List.getElem?_toArray, List.getElem?_cons_succ, List.getElem?_cons_zero]; exact rfl) rfl rfl ?_
        simp only [Act.put, List.setIfInBounds_toArray, List.set_cons_succ, List.set_cons_zero]
        repeat (refine tq_take (by simp only [List.getElem?_toArray, List.getElem?_cons_succ, List.getElem?_cons_zero]; exact rfl) ?_; go_big_quiet_step (fail); refine wpQuiet_nil ?_)
        refine tq_skip (d := some 50) (by simp only [List.getElem?_toArray, List.getElem?_cons_succ, List.getElem?_cons_zero]; exact rfl) rfl rfl ?_
        simp only [Act.put, List.setIfInBounds_toArray, List.set_cons_succ, List.set_cons_zero]
        repeat (refine tq_take (by simp only [List.getElem?_toArray, List.getElem?_cons_succ, List.getElem?_cons_zero]; exact rfl) ?_; go_big_quiet_step (fail); refine wpQuiet_nil ?_)
        refine tq_solo (by simp only [List.getElem?_toArray, List.getElem?_cons_succ, List.getElem?_cons_zero]; exact rfl) ?_
        go_wp2
        refine Solo.mk (Keeps.refl _ _) ?_
        repeat (refine tq_take (by simp only [List.getElem?_toArray, List.getElem?_cons_succ, List.getElem?_cons_zero]; exact rfl) ?_; go_big_quiet_step (fail); refine wpQuiet_nil ?_)
        refine tq_end ?_
        go_wp2
        go_ret2
        exact ⟨Ab, nb, cb, l, false, HBB, Lib.hid (by rw [← HOO.out]; rfl), rfl, HO1.out, HBW'.out⟩
      · go_wp2
        refine wp_region_tq NoG (.t 0 (.t 1 (.t 2 (.t 3 (.t 4 (.t 5 (.t 6 (.t 7 (.t 8 (.t 9 (.t 10 (.t 11 (.t 13 (.t 14 (.t 15 (.t 16 (.q 12 (.q 17 (.s 18 (.t 19 (.t 20 (.t 21 .nil)))))))))))))))))))))) (by kernel_rfl) (by kernel_rfl) ?_
        repeat (refine tq_take (by simp only [List.getElem?_toArray, List.getElem?_cons_succ, List.getElem?_cons_zero]; exact rfl) ?_; go_big_quiet_step (fail); refine wpQuiet_nil ?_)
        refine tq_valK (d := some 45) (by simp only [List.getElem?_toArray, List.getElem?_cons_succ, List.getElem?_cons_zero]; exact rfl) rfl rfl (.agg #[.int .i64 kind1, .int .i64 tag1, .int .i64 code1, .int .i64 msize1, .int .i64 iounit1, .int .i64 count1, .string (st name1), .bool qdir1, .int .i64 qver1, .int .i64 qpath1, .slice Aq1 nq1 cq1, .slice Ad1 nd1 cd1, .bool sdir1, .int .i64 sver1, .int .i64 spath1, .int .i64 smode1, .int .i64 ssize1, .string (st sname1)]) (fun W hW => run_load_op (.tmp 44) rfl rfl (run_loadMid (xs := [.int .i64 kind1, .int .i64 tag1, .int .i64 code1, .int .i64 msize1, .int .i64 iounit1, .int .i64 count1, .string (st name1), .bool qdir1, .int .i64 qver1, .int .i64 qpath1, .slice Aq1 nq1 cq1, .slice Ad1 nd1 cd1, .bool sdir1, .int .i64 sver1, .int .i64 spath1, .int .i64 smode1, .int .i64 ssize1, .string (st sname1)]) (HCC.out W hW) (by kernel_rfl) tellT_agg)) ?_
        simp only [Act.put, List.setIfInBounds_toArray, List.set_cons_succ, List.set_cons_zero]
        refine tq_val (d := some 50) (by simp only [List.getElem?_toArray, List.getElem?_cons_succ, List.getElem?_cons_zero]; exact rfl) rfl rfl (.agg #[.int .i64 kind, .int .i64 tag, .int .i64 0, .int .i64 0, .int .i64 0, .int .i64 0, .string ByteArray.empty, .bool false, .int .i64 0, .int .i64 0, .slice none 0 0, .slice none 0 0, .bool false, .int .i64 0, .int .i64 0, .int .i64 0, .int .i64 0, .string ByteArray.empty]) (fun W => by go_simp; rfl) ?_
        simp only [Act.put, List.setIfInBounds_toArray, List.set_cons_succ, List.set_cons_zero]
        refine tq_solo (by simp only [List.getElem?_toArray, List.getElem?_cons_succ, List.getElem?_cons_zero]; exact rfl) ?_
        go_wp2_with fail
        refine (tellSame_flat kind1 tag1 code1 msize1 iounit1 count1 name1 qdir1 qver1 qpath1 Aq1 nq1 cq1 Ad1 nd1 cd1 sdir1 sver1 spath1 smode1 ssize1 sname1 kind tag 0 0 0 0 [] false 0 0 none 0 0 none 0 0 false 0 0 0 0 [] _ qids1 [] HQ1.out RdR.nil hnd1.2 data1 [] HD1.out RdB.nil).mono ?_
        rintro e w7 ⟨rfl, hb7⟩
        have HB7 := Lib.hid hb7
        go_wp2
        refine Solo.up hb7 ?_
        clear hb7
        repeat (refine tq_take (by simp only [List.getElem?_toArray, List.getElem?_cons_succ, List.getElem?_cons_zero]; exact rfl) ?_; go_big_quiet_step (fail); refine wpQuiet_nil ?_)
        refine tq_end ?_
        go_wp2
        go_ret2
        exact ⟨Ab, nb, cb, l, _, HBB, Lib.hid (by rw [← HOO.out]; simp [sameT, bareT, qidZ]), rfl, HO1.out.up HB7.out, HBW'.out.trans (HB7.out.mono HBW'.out.size)⟩
/-- How long the body may be. -/
theorem txtB_len (s : List UInt8) : (txtB s).length ≤ 257 := by
  unfold txtB
  split
  · rw [List.length_append, le_length]; omega
  · simp
theorem qidsB_len (qs : List QidV) : (qidsB qs).length ≤ 106 := by
  unfold qidsB
  split
  · rw [List.length_append, le_length, flat_len18]; omega
  · simp
theorem statB_len (q : QidV) (m s : Int) (n : List UInt8) : (statB q m s n).length ≤ 282 := by
  have := txtB_len n
  simp only [statB, List.length_append, le_length, qidB_len]; omega
theorem layB_len (t : TellV) (hd : t.data.length ≤ 1000000) : (layB t).length ≤ 1000100 := by
  have h := partsM_mem t.kind
  have h1 := txtB_len t.name
  have h2 := qidsB_len t.qids
  have h3 := statB_len t.sqid t.smode t.ssize t.sname
  unfold layB layS lay0
  generalize partsM t.kind = p at h
  simp only [List.mem_cons, List.not_mem_nil, or_false] at h
  rcases h with rfl | rfl | rfl | rfl | rfl | rfl | rfl | rfl | rfl <;> simp [stepT, partB, partT, le_length, qidB_len] <;> omega
set_option maxRecDepth 20000 in
set_option maxHeartbeats 4000000 in
theorem tMay_any (kind tag code msize iounit count : Int) (name : List UInt8) (qdir : Bool) (qver qpath : Int) (qids : List QidV) (data : List UInt8) (sdir : Bool) (sver spath smode ssize : Int) (sname : List UInt8) (Aq : Option Addr) (nq cq : Nat) (Ad : Option Addr) (nd cd : Nat) (w : World) (hq : RdR w w.heap.size 3 Aq nq (qids.map qidC)) (hd : RdB w w.heap.size Ad nd data) (hnq : nq ≤ 1048576) (hnd : nd ≤ 1048576) (hnl : name.length ≤ 1048576) (hsl : sname.length ≤ 1048576) :
    Calls Try.prog 18 #[.agg #[.int .i64 kind, .int .i64 tag, .int .i64 code, .int .i64 msize, .int .i64 iounit, .int .i64 count, .string (st name), .bool qdir, .int .i64 qver, .int .i64 qpath, .slice Aq nq cq, .slice Ad nd cd, .bool sdir, .int .i64 sver, .int .i64 spath, .int .i64 smode, .int .i64 ssize, .string (st sname)]] w fun e w' => ∃ ok, Hid (ok = layOk ⟨kind, tag, code, msize, iounit, count, name, ⟨qdir, qver, qpath⟩, qids, data, ⟨sdir, sver, spath⟩, smode, ssize, sname⟩) ∧ e = .returned (.bool ok) ∧ Below w.heap.size w w' := by
  have hA0 := Blk.new w 29 [.int .i64 kind, .int .i64 tag, .int .i64 code, .int .i64 msize, .int .i64 iounit, .int .i64 count, .string (st name), .bool qdir, .int .i64 qver, .int .i64 qpath, .slice Aq nq cq, .slice Ad nd cd, .bool sdir, .int .i64 sver, .int .i64 spath, .int .i64 smode, .int .i64 ssize, .string (st sname)]
  have hb0 : Below w.heap.size w (w.alloc (.cells #[.int .i64 kind, .int .i64 tag, .int .i64 code, .int .i64 msize, .int .i64 iounit, .int .i64 count, .string (st name), .bool qdir, .int .i64 qver, .int .i64 qpath, .slice Aq nq cq, .slice Ad nd cd, .bool sdir, .int .i64 sver, .int .i64 spath, .int .i64 smode, .int .i64 ssize, .string (st sname)] 29)) := (Below.refl _ _).alloc (Nat.le_refl _) _
  obtain ⟨W, hW⟩ : ∃ W, W = w.alloc (.cells #[.int .i64 kind, .int .i64 tag, .int .i64 code, .int .i64 msize, .int .i64 iounit, .int .i64 count, .string (st name), .bool qdir, .int .i64 qver, .int .i64 qpath, .slice Aq nq cq, .slice Ad nd cd, .bool sdir, .int .i64 sver, .int .i64 spath, .int .i64 smode, .int .i64 ssize, .string (st sname)] 29) := ⟨_, rfl⟩
  have hW' : W = w.alloc (.cells [.int .i64 kind, .int .i64 tag, .int .i64 code, .int .i64 msize, .int .i64 iounit, .int .i64 count, .string (st name), .bool qdir, .int .i64 qver, .int .i64 qpath, .slice Aq nq cq, .slice Ad nd cd, .bool sdir, .int .i64 sver, .int .i64 spath, .int .i64 smode, .int .i64 ssize, .string (st sname)].toArray 29) := hW
  rw [← hW'] at hA0
  rw [← hW] at hb0
  go_enter Try.func18, Try.ntmps18
  go_upto_region 1 with fail
  rw [← hW]
  clear hW hW'
  go_wp2_with (refine wpList_loadBlk rfl (.tmp 1) rfl rfl (by kernel_rfl) tellT_agg hA0 ?_; simp only [Act.put, List.setIfInBounds_toArray, List.set_cons_succ, List.set_cons_zero])
  refine (lay_any kind tag code msize iounit count name qdir qver qpath qids data sdir sver spath smode ssize sname Aq nq cq Ad nd cd _ (hq.up hb0) (hd.up hb0) hnq hnd hnl hsl).mono ?_
  rintro e w1 ⟨A, n, c, l, ok, hl, hok, rfl, hown, hb1⟩
  have HB := Lib.hid (Up.trans hb0 hb1)
  clear hA0 hb0 hb1 hq hd hown
  go_wp2
  go_ret
  exact ⟨ok, hok, rfl, HB.out⟩
def WriteT (t : TellV) (w : World) (e : Ending) (w' : World) : Prop :=
  ∃ (A : Option Addr) (n c : Nat) (l : List UInt8) (er : Int), Hid (l = if layOk t then packL (n8 t.kind) (n16 t.tag) (layB t) else []) ∧ Hid (er = if layOk t then 0 else 1) ∧ e = .returned (.tuple #[.slice A n c, .int .i64 er]) ∧ OwB w' w.heap.size A n c l ∧ Below w.heap.size w w'
set_option maxRecDepth 20000 in
set_option maxHeartbeats 4000000 in
theorem tWrite_any (kind tag code msize iounit count : Int) (name : List UInt8) (qdir : Bool) (qver qpath : Int) (qids : List QidV) (data : List UInt8) (sdir : Bool) (sver spath smode ssize : Int) (sname : List UInt8) (Aq : Option Addr) (nq cq : Nat) (Ad : Option Addr) (nd cd : Nat) (w : World) (hq : RdR w w.heap.size 3 Aq nq (qids.map qidC)) (hd : RdB w w.heap.size Ad nd data) (hnq : nq ≤ 1048576) (hnd : nd ≤ 1048576) (hnl : name.length ≤ 1048576) (hsl : sname.length ≤ 1048576) (hnd2 : nd ≤ 1000000) :
    Calls Try.prog 17 #[.agg #[.int .i64 kind, .int .i64 tag, .int .i64 code, .int .i64 msize, .int .i64 iounit, .int .i64 count, .string (st name), .bool qdir, .int .i64 qver, .int .i64 qpath, .slice Aq nq cq, .slice Ad nd cd, .bool sdir, .int .i64 sver, .int .i64 spath, .int .i64 smode, .int .i64 ssize, .string (st sname)]] w (WriteT ⟨kind, tag, code, msize, iounit, count, name, ⟨qdir, qver, qpath⟩, qids, data, ⟨sdir, sver, spath⟩, smode, ssize, sname⟩ w) := by
  have hA0 := Blk.new w 29 [.int .i64 kind, .int .i64 tag, .int .i64 code, .int .i64 msize, .int .i64 iounit, .int .i64 count, .string (st name), .bool qdir, .int .i64 qver, .int .i64 qpath, .slice Aq nq cq, .slice Ad nd cd, .bool sdir, .int .i64 sver, .int .i64 spath, .int .i64 smode, .int .i64 ssize, .string (st sname)]
  have hb0 : Below w.heap.size w (w.alloc (.cells #[.int .i64 kind, .int .i64 tag, .int .i64 code, .int .i64 msize, .int .i64 iounit, .int .i64 count, .string (st name), .bool qdir, .int .i64 qver, .int .i64 qpath, .slice Aq nq cq, .slice Ad nd cd, .bool sdir, .int .i64 sver, .int .i64 spath, .int .i64 smode, .int .i64 ssize, .string (st sname)] 29)) := (Below.refl _ _).alloc (Nat.le_refl _) _
  obtain ⟨W, hW⟩ : ∃ W, W = w.alloc (.cells #[.int .i64 kind, .int .i64 tag, .int .i64 code, .int .i64 msize, .int .i64 iounit, .int .i64 count, .string (st name), .bool qdir, .int .i64 qver, .int .i64 qpath, .slice Aq nq cq, .slice Ad nd cd, .bool sdir, .int .i64 sver, .int .i64 spath, .int .i64 smode, .int .i64 ssize, .string (st sname)] 29) := ⟨_, rfl⟩
  have hW' : W = w.alloc (.cells [.int .i64 kind, .int .i64 tag, .int .i64 code, .int .i64 msize, .int .i64 iounit, .int .i64 count, .string (st name), .bool qdir, .int .i64 qver, .int .i64 qpath, .slice Aq nq cq, .slice Ad nd cd, .bool sdir, .int .i64 sver, .int .i64 spath, .int .i64 smode, .int .i64 ssize, .string (st sname)].toArray 29) := hW
  rw [← hW'] at hA0
  rw [← hW] at hb0
  obtain ⟨T0, hT0⟩ : ∃ T, T = w.heap.size := ⟨_, rfl⟩
  rw [← hT0] at hA0
  have hbl := layB_len ⟨kind, tag, code, msize, iounit, count, name, ⟨qdir, qver, qpath⟩, qids, data, ⟨sdir, sver, spath⟩, smode, ssize, sname⟩ (by have := hd.len; simp only; omega)
  have HBL := Lib.hid hbl
  have hk8 := wrap8 kind
  have hk16 := wrap16 tag
  have hm8 := n8_le kind
  have hm16 := n16_le tag
  obtain ⟨k8, hk8e⟩ : ∃ x, x = n8 kind := ⟨_, rfl⟩
  obtain ⟨k16, hk16e⟩ : ∃ x, x = n16 tag := ⟨_, rfl⟩
  rw [← hk8e] at hk8 hm8
  rw [← hk16e] at hk16 hm16
  have HK8 := Lib.hid hk8e
  have HK16 := Lib.hid hk16e
  clear hk8e hk16e hbl
  go_enter Try.func17, Try.ntmps17
  go_upto_region 1 with fail
  rw [← hW, ← hT0]
  clear hW hW' hT0
  go_wp2_with (refine wpList_loadBlk rfl (.tmp 1) rfl rfl (by kernel_rfl) tellT_agg hA0 ?_; simp only [Act.put, List.setIfInBounds_toArray, List.set_cons_succ, List.set_cons_zero])
  refine (lay_any kind tag code msize iounit count name qdir qver qpath qids data sdir sver spath smode ssize sname Aq nq cq Ad nd cd _ (hq.up hb0) (hd.up hb0) hnq hnd hnl hsl).mono ?_
  rintro e w1 ⟨A, n, c, l, ok, hl, hok, rfl, hown, hb1⟩
  have hA1 := hA0.up hb1
  have t0 := hA1.cell 0 _ rfl
  have t1 := hA1.cell 1 _ rfl
  have HB := Lib.hid (Up.trans hb0 hb1)
  have HO := Lib.hid (hown.lower hb0.size)
  have hln : l.length ≤ 1000100 := by rw [hl.out]; exact HBL.out
  have hnn : n ≤ 1000100 := by rw [← hown.len]; exact hln
  clear hA0 hA1 hb0 hb1 hq hd hown hln
  rcases ok with _ | _
  · clear t0 t1
    go_wp2
    go_ret2
    exact ⟨none, 0, 0, [], 1, Lib.hid (by rw [← hok.out]; rfl), Lib.hid (by rw [← hok.out]; rfl), rfl, OwB.nil _ _, HB.out⟩
  · go_wp2_with fail
    refine (pack_any k8 k16 A n c l _ HO.out.rd (by omega) hm8 hm16).mono ?_
    rintro e w2 ⟨A2, n2, c2, l2, hl2, rfl, hown2, hb2⟩
    have HO2 := Lib.hid (hown2.lower HB.out.size)
    have HB2 := Lib.hid (Up.trans HB.out hb2)
    clear hown2 hb2 t0 t1
    go_wp2
    go_ret2
    exact ⟨A2, n2, c2, l2, 0, Lib.hid (by rw [← hok.out, hl2.out, hl.out, HK8.out, HK16.out]; rfl), Lib.hid (by rw [← hok.out]; rfl), rfl, HO2.out, HB2.out⟩
theorem tError_any (tag code : Int) (w : World) :
    Calls Try.prog 22 #[.int .i64 tag, .int .i64 code] w fun e w' => e = .returned (.agg #[.int .i64 107, .int .i64 tag, .int .i64 code, .int .i64 0, .int .i64 0, .int .i64 0, .string ByteArray.empty, .bool false, .int .i64 0, .int .i64 0, .slice none 0 0, .slice none 0 0, .bool false, .int .i64 0, .int .i64 0, .int .i64 0, .int .i64 0, .string ByteArray.empty]) ∧ Below w.heap.size w w' := by
  have hA0 := Blk.new w 29 [.int .i64 0, .int .i64 0, .int .i64 0, .int .i64 0, .int .i64 0, .int .i64 0, .string ByteArray.empty, .bool false, .int .i64 0, .int .i64 0, .slice none 0 0, .slice none 0 0, .bool false, .int .i64 0, .int .i64 0, .int .i64 0, .int .i64 0, .string ByteArray.empty]
  have hb0 : Below w.heap.size w (w.alloc (.cells #[.int .i64 0, .int .i64 0, .int .i64 0, .int .i64 0, .int .i64 0, .int .i64 0, .string ByteArray.empty, .bool false, .int .i64 0, .int .i64 0, .slice none 0 0, .slice none 0 0, .bool false, .int .i64 0, .int .i64 0, .int .i64 0, .int .i64 0, .string ByteArray.empty] 29)) := (Below.refl _ _).alloc (Nat.le_refl _) _
  obtain ⟨W, hW⟩ : ∃ W, W = w.alloc (.cells #[.int .i64 0, .int .i64 0, .int .i64 0, .int .i64 0, .int .i64 0, .int .i64 0, .string ByteArray.empty, .bool false, .int .i64 0, .int .i64 0, .slice none 0 0, .slice none 0 0, .bool false, .int .i64 0, .int .i64 0, .int .i64 0, .int .i64 0, .string ByteArray.empty] 29) := ⟨_, rfl⟩
  have hW' : W = w.alloc (.cells [.int .i64 0, .int .i64 0, .int .i64 0, .int .i64 0, .int .i64 0, .int .i64 0, .string ByteArray.empty, .bool false, .int .i64 0, .int .i64 0, .slice none 0 0, .slice none 0 0, .bool false, .int .i64 0, .int .i64 0, .int .i64 0, .int .i64 0, .string ByteArray.empty].toArray 29) := hW
  rw [← hW'] at hA0
  rw [← hW] at hb0
  go_enter Try.func22, Try.ntmps22
  go_upto_region 1 with fail
  have hW2 : W = w.alloc (.cells #[.int .i64 0, .int .i64 0, .int .i64 0, .int .i64 0, .int .i64 0, .int .i64 0, .string ⟨#[]⟩, .bool false, .int .i64 0, .int .i64 0, .slice none 0 0, .slice none 0 0, .bool false, .int .i64 0, .int .i64 0, .int .i64 0, .int .i64 0, .string ⟨#[]⟩] 29) := hW
  rw [← hW2]
  clear hW hW' hW2
  have hX := hA0.setRow [.int .i64 107, .int .i64 tag, .int .i64 code, .int .i64 0, .int .i64 0, .int .i64 0, .string ByteArray.empty, .bool false, .int .i64 0, .int .i64 0, .slice none 0 0, .slice none 0 0, .bool false, .int .i64 0, .int .i64 0, .int .i64 0, .int .i64 0, .string ByteArray.empty]
  go_wp2_with (refine wpList_storeBlk rfl (.tmp 4) (.tmp 7) rfl rfl [.int .i64 107, .int .i64 tag, .int .i64 code, .int .i64 0, .int .i64 0, .int .i64 0, .string ByteArray.empty, .bool false, .int .i64 0, .int .i64 0, .slice none 0 0, .slice none 0 0, .bool false, .int .i64 0, .int .i64 0, .int .i64 0, .int .i64 0, .string ByteArray.empty] rfl rfl (by kernel_rfl) hA0 rfl (by simp [Value.oneCell']) ?_)
  exact bodyPost_ret (v := .agg #[.int .i64 107, .int .i64 tag, .int .i64 code, .int .i64 0, .int .i64 0, .int .i64 0, .string ByteArray.empty, .bool false, .int .i64 0, .int .i64 0, .slice none 0 0, .slice none 0 0, .bool false, .int .i64 0, .int .i64 0, .int .i64 0, .int .i64 0, .string ByteArray.empty]) (results_cellBlk Try.results22 rfl hX (by kernel_rfl) tellT_agg) rfl ⟨rfl, below_setRow hb0 (Nat.le_refl _) _⟩

theorem okM_107 : ∀ tag code : Int, layOk ⟨107, tag, code, 0, 0, 0, [], qidZ, [], [], qidZ, 0, 0, []⟩ = (inB tag 65535 && inB code 65535) := by
  intro tag code
  have h1 : partsM 107 = [3] := rfl
  have h2 : (107 : Int) ∈ kindsW := by decide
  simp [layOk, layS, lay0, stepT, partT, partOk, h1, h2, sameT, bareT, sameQs]
theorem layB_107 : ∀ tag code : Int, layB ⟨107, tag, code, 0, 0, 0, [], qidZ, [], [], qidZ, 0, 0, []⟩ = le 2 (n16 code) := by
  intro tag code
  have h1 : partsM 107 = [3] := rfl
  simp [layB, layS, lay0, stepT, partB, h1]
set_option maxRecDepth 20000 in
theorem lives18_any (w : World) : Calls Try.prog 14 #[] w fun e w' => e = .returned (.bool true) ∧ Below w.heap.size w w' := by
  go_enter Try.func14, Try.ntmps14
  go_wp2_with fail
  refine (tError_any 1 2 _).mono ?_
  rintro e w1 ⟨rfl, hb1⟩
  go_wp2_with fail
  refine (tWrite_any 107 1 2 0 0 0 [] false 0 0 [] [] false 0 0 0 0 [] none 0 0 none 0 0 w1 RdR.nil RdB.nil (by omega) (by omega) (by simp) (by simp) (by omega)).mono ?_
  rintro e w2 ⟨A, n, c, l, er, hl, her, rfl, hown, hb2⟩
  have hok : layOk ⟨107, 1, 2, 0, 0, 0, [], ⟨false, 0, 0⟩, [], [], ⟨false, 0, 0⟩, 0, 0, []⟩ = true := by
    have := okM_107 1 2
    exact this
  have hbb : layB ⟨107, 1, 2, 0, 0, 0, [], ⟨false, 0, 0⟩, [], [], ⟨false, 0, 0⟩, 0, 0, []⟩ = [2, 0] := by
    have := layB_107 1 2
    exact this
  have he : er = 0 := by rw [her.out, if_pos hok]
  have hls : l = [9, 0, 0, 0, 107, 1, 0, 2, 0] := by rw [hl.out, if_pos hok, hbb]; rfl
  subst he
  subst hls
  have hcv := str_of (c := c) hown.rd (Below.refl _ _)
  have HB := Lib.hid (Up.trans hb1 hb2)
  clear hl her hok hbb hown hb1 hb2
  go_wp2
  go_ret
  exact ⟨rfl, HB.out⟩
end Go.Proofs.Ytoplkglnjgllnaa
