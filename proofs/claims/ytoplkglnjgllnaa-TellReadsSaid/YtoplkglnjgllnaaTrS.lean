/-
  Layer 18's helper Own.
  Layer 18's helper Good.
-/
import Derived.Test.YtoplkglnjgllnaaTrD1
import Derived.Test.YtoplkglnjgllnaaTrD2
import Derived.Test.YtoplkglnjgllnaaTrD3
import Derived.Test.YtoplkglnjgllnaaTrD4
import Derived.Test.YtoplkglnjgllnaaTrB
import Derived.Test.YtoplkglnjgllnaaTrA
import Derived.Deep.CutBlock
namespace Go.Proofs.Ytoplkglnjgllnaa
open Go.RowKit
set_option linter.unusedVariables false
set_option linter.unusedSimpArgs false

theorem hasM_none (kind : Int) (h : kind ∉ kindsW) (c : UInt8) : hasM kind c = false := by
  have h1 : kindsW.findIdx (· == kind) = kindsW.length := by
    rw [List.findIdx_eq_length]
    intro x hx
    simp only [beq_eq_false_iff_ne, ne_eq]
    rintro rfl
    exact h hx
  have h2 : fieldsM kind = [] := by unfold fieldsM; rw [h1]; rfl
  unfold hasM
  rw [h2]; rfl
theorem own18_any (kind : Int) (tag code msize iounit count : Int) (name : List UInt8) (qdir : Bool) (qver qpath : Int) (qids : List QidV) (data : List UInt8) (sdir : Bool) (sver spath smode ssize : Int) (sname : List UInt8) (Aq : Option Addr) (nq cq : Nat) (Ad : Option Addr) (nd cd : Nat) (w : World) :
    Calls Try.prog 31 #[.agg #[.int .i64 kind, .int .i64 tag, .int .i64 code, .int .i64 msize, .int .i64 iounit, .int .i64 count, .string (st name), .bool qdir, .int .i64 qver, .int .i64 qpath, .slice Aq nq cq, .slice Ad nd cd, .bool sdir, .int .i64 sver, .int .i64 spath, .int .i64 smode, .int .i64 ssize, .string (st sname)]] w (OwnTPost ⟨kind, tag, code, msize, iounit, count, name, ⟨qdir, qver, qpath⟩, qids, data, ⟨sdir, sver, spath⟩, smode, ssize, sname⟩ Aq nq cq Ad nd cd w) := by
  by_cases h : kind ∈ kindsW
  · simp only [kindsW, List.mem_cons, List.not_mem_nil, or_false] at h
    rcases h with rfl | rfl | rfl | rfl | rfl | rfl | rfl | rfl | rfl | rfl | rfl | rfl | rfl
    · exact own18_101 tag code msize iounit count name qdir qver qpath qids data sdir sver spath smode ssize sname Aq nq cq Ad nd cd w
    · exact own18_105 tag code msize iounit count name qdir qver qpath qids data sdir sver spath smode ssize sname Aq nq cq Ad nd cd w
    · exact own18_107 tag code msize iounit count name qdir qver qpath qids data sdir sver spath smode ssize sname Aq nq cq Ad nd cd w
    · exact own18_109 tag code msize iounit count name qdir qver qpath qids data sdir sver spath smode ssize sname Aq nq cq Ad nd cd w
    · exact own18_111 tag code msize iounit count name qdir qver qpath qids data sdir sver spath smode ssize sname Aq nq cq Ad nd cd w
    · exact own18_113 tag code msize iounit count name qdir qver qpath qids data sdir sver spath smode ssize sname Aq nq cq Ad nd cd w
    · exact own18_115 tag code msize iounit count name qdir qver qpath qids data sdir sver spath smode ssize sname Aq nq cq Ad nd cd w
    · exact own18_117 tag code msize iounit count name qdir qver qpath qids data sdir sver spath smode ssize sname Aq nq cq Ad nd cd w
    · exact own18_119 tag code msize iounit count name qdir qver qpath qids data sdir sver spath smode ssize sname Aq nq cq Ad nd cd w
    · exact own18_121 tag code msize iounit count name qdir qver qpath qids data sdir sver spath smode ssize sname Aq nq cq Ad nd cd w
    · exact own18_123 tag code msize iounit count name qdir qver qpath qids data sdir sver spath smode ssize sname Aq nq cq Ad nd cd w
    · exact own18_125 tag code msize iounit count name qdir qver qpath qids data sdir sver spath smode ssize sname Aq nq cq Ad nd cd w
    · exact own18_127 tag code msize iounit count name qdir qver qpath qids data sdir sver spath smode ssize sname Aq nq cq Ad nd cd w
  · exact own18_none kind (hasM_none kind h) tag code msize iounit count name qdir qver qpath qids data sdir sver spath smode ssize sname Aq nq cq Ad nd cd w

theorem qidsElemS : Elem Try.prog 24 23 (.agg #[.bool false, .int .i64 0, .int .i64 0]) 3 24 := elem_of Try.underlying24 (by kernel_rfl) rfl (by omega)
/-- A reply made of any, before what is laid alone. -/
def goodU18 (t : TellV) : TellV :=
  { kind := kindB t.kind, tag := up0 t.tag % 65536, code := up0 t.code % 65536, msize := up0 t.msize % 4294967296, iounit := up0 t.iounit % 4294967296, count := up0 t.count % 4294967296, name := t.name.take 40, qid := goodQ t.qid, qids := (t.qids.take 8).map goodQ, data := t.data.take 30, sqid := goodQ t.sqid, smode := up0 t.smode % 4294967296, ssize := up0 t.ssize % 4611686018427387905, sname := t.sname.take 40 }
def goodT (t : TellV) : TellV := ownT (goodU18 t)
def I64 (n : Int) : Prop := -9223372036854775808 ≤ n ∧ n ≤ 9223372036854775807
/-- What is known of a reply that was handed in. -/
structure TellOk (w : World) (B : Nat) (t : TellV) (Aq : Option Addr) (nq cq : Nat) (Ad : Option Addr) (nd cd : Nat) : Prop where
  bkind : I64 t.kind
  btag : I64 t.tag
  bcode : I64 t.code
  bmsize : I64 t.msize
  biounit : I64 t.iounit
  bcount : I64 t.count
  bqid : QidIn t.qid
  bsqid : QidIn t.sqid
  bsmode : I64 t.smode
  bssize : I64 t.ssize
  name : t.name.length ≤ 9223372036854775807
  sname : t.sname.length ≤ 9223372036854775807
  qids : RdR w B 3 Aq nq (t.qids.map qidC)
  each : ∀ q ∈ t.qids, QidIn q
  nq_le : nq ≤ cq
  cq_le : cq ≤ maxLen
  data : RdB w B Ad nd t.data
  nd_le : nd ≤ cd
  cd_le : cd ≤ maxLen
theorem TellOk.up {w w' : World} {B : Nat} {t : TellV} {Aq : Option Addr} {nq cq : Nat} {Ad : Option Addr} {nd cd : Nat} (h : TellOk w B t Aq nq cq Ad nd cd) (k : Below B w w') : TellOk w' B t Aq nq cq Ad nd cd :=
  { h with qids := h.qids.below k, data := h.data.below k }
def GoodTPost (t : TellV) (w : World) (e : Ending) (w' : World) : Prop :=
  ∃ x Aq nq cq Ad nd cd, Hid (x = goodT t) ∧ e = .returned (.agg (tellC x Aq nq cq Ad nd cd).toArray) ∧ OwR w' w.heap.size 23 3 Aq nq cq (x.qids.map qidC) ∧ OwB w' w.heap.size Ad nd cd x.data ∧ Below w.heap.size w w'
/-- The loop over the qids. -/
def GqRel (gX gA : Nat) (qids : List QidV) (C : Value → List Value) (aC : List Value) (wc : World) (i : Value) (wr : World) : Prop :=
  ∃ (j c : Nat) (A : Option Addr) (ls : List QidV), j ≤ qids.length ∧ j ≤ 8 ∧ i = .int .i64 j ∧ Hid (ls = (qids.take j).map goodQ) ∧
    Blk wr gX 29 (C (.slice A j c)) ∧ Blk wr gA 29 aC ∧ OwR wr (gX + 1) 23 3 A j c (ls.map qidC) ∧ Keeps (From gX) wc wr
/-- Behind the literal. -/
def GlRel (v0 v1 v2 v3 v4 v5 g1 g2 : Int) (qdir : Bool) (W : World) (x : Value) (wx : World) : Prop :=
  ∃ gX : Nat, x = .pointer (some ⟨gX, 0, none⟩) ∧ W.heap.size ≤ gX ∧ Blk wx gX 29 [.int .i64 v0, .int .i64 v1, .int .i64 v2, .int .i64 v3, .int .i64 v4, .int .i64 v5, .string ByteArray.empty, .bool qdir, .int .i64 g1, .int .i64 g2, .slice none 0 0, .slice none 0 0, .bool false, .int .i64 0, .int .i64 0, .int .i64 0, .int .i64 0, .string ByteArray.empty] ∧ Below W.heap.size W wx
set_option maxRecDepth 100000 in
set_option maxHeartbeats 16000000 in
theorem goodT_any (kind tag code msize iounit count : Int) (name : List UInt8) (qdir : Bool) (qver qpath : Int) (qids : List QidV) (data : List UInt8) (sdir : Bool) (sver spath smode ssize : Int) (sname : List UInt8) (Aq : Option Addr) (nq cq : Nat) (Ad : Option Addr) (nd cd : Nat) (w : World)
    (hok : TellOk w w.heap.size ⟨kind, tag, code, msize, iounit, count, name, ⟨qdir, qver, qpath⟩, qids, data, ⟨sdir, sver, spath⟩, smode, ssize, sname⟩ Aq nq cq Ad nd cd) :
    Calls Try.prog 10 #[.agg #[.int .i64 kind, .int .i64 tag, .int .i64 code, .int .i64 msize, .int .i64 iounit, .int .i64 count, .string (st name), .bool qdir, .int .i64 qver, .int .i64 qpath, .slice Aq nq cq, .slice Ad nd cd, .bool sdir, .int .i64 sver, .int .i64 spath, .int .i64 smode, .int .i64 ssize, .string (st sname)]] w (GoodTPost ⟨kind, tag, code, msize, iounit, count, name, ⟨qdir, qver, qpath⟩, qids, data, ⟨sdir, sver, spath⟩, smode, ssize, sname⟩ w) := by
  obtain ⟨v0, hv0⟩ : ∃ v, Hid (v = kindB kind) := ⟨_, Lib.hid rfl⟩
  obtain ⟨v1, hv1⟩ : ∃ v, Hid (v = up0 tag % 65536) := ⟨_, Lib.hid rfl⟩
  obtain ⟨v2, hv2⟩ : ∃ v, Hid (v = up0 code % 65536) := ⟨_, Lib.hid rfl⟩
  obtain ⟨v3, hv3⟩ : ∃ v, Hid (v = up0 msize % 4294967296) := ⟨_, Lib.hid rfl⟩
  obtain ⟨v4, hv4⟩ : ∃ v, Hid (v = up0 iounit % 4294967296) := ⟨_, Lib.hid rfl⟩
  obtain ⟨v5, hv5⟩ : ∃ v, Hid (v = up0 count % 4294967296) := ⟨_, Lib.hid rfl⟩
  obtain ⟨v6, hv6⟩ : ∃ v, Hid (v = up0 smode % 4294967296) := ⟨_, Lib.hid rfl⟩
  obtain ⟨v7, hv7⟩ : ∃ v, Hid (v = up0 ssize % 4611686018427387905) := ⟨_, Lib.hid rfl⟩
  obtain ⟨g1, hg1⟩ : ∃ v, Hid (v = up0 qver % 4294967296) := ⟨_, Lib.hid rfl⟩
  obtain ⟨g2, hg2⟩ : ∃ v, Hid (v = up0 qpath % 4611686018427387905) := ⟨_, Lib.hid rfl⟩
  obtain ⟨h1, hh1⟩ : ∃ v, Hid (v = up0 sver % 4294967296) := ⟨_, Lib.hid rfl⟩
  obtain ⟨h2, hh2⟩ : ∃ v, Hid (v = up0 spath % 4611686018427387905) := ⟨_, Lib.hid rfl⟩
  obtain ⟨nm, hnm⟩ : ∃ v, Hid (v = name.take 40) := ⟨_, Lib.hid rfl⟩
  obtain ⟨sm, hsm⟩ : ∃ v, Hid (v = sname.take 40) := ⟨_, Lib.hid rfl⟩
  have HOK := Lib.hid hok
  clear hok
  have hA0 := Blk.new w 29 [.int .i64 kind, .int .i64 tag, .int .i64 code, .int .i64 msize, .int .i64 iounit, .int .i64 count, .string (st name), .bool qdir, .int .i64 qver, .int .i64 qpath, .slice Aq nq cq, .slice Ad nd cd, .bool sdir, .int .i64 sver, .int .i64 spath, .int .i64 smode, .int .i64 ssize, .string (st sname)]
  have hZ0 := Blk.new (w.alloc (.cells #[.int .i64 kind, .int .i64 tag, .int .i64 code, .int .i64 msize, .int .i64 iounit, .int .i64 count, .string (st name), .bool qdir, .int .i64 qver, .int .i64 qpath, .slice Aq nq cq, .slice Ad nd cd, .bool sdir, .int .i64 sver, .int .i64 spath, .int .i64 smode, .int .i64 ssize, .string (st sname)] 29)) 29 [.int .i64 0, .int .i64 0, .int .i64 0, .int .i64 0, .int .i64 0, .int .i64 0, .string ByteArray.empty, .bool false, .int .i64 0, .int .i64 0, .slice none 0 0, .slice none 0 0, .bool false, .int .i64 0, .int .i64 0, .int .i64 0, .int .i64 0, .string ByteArray.empty]
  obtain ⟨W2, hW2⟩ : ∃ x, x = (w.alloc (.cells #[.int .i64 kind, .int .i64 tag, .int .i64 code, .int .i64 msize, .int .i64 iounit, .int .i64 count, .string (st name), .bool qdir, .int .i64 qver, .int .i64 qpath, .slice Aq nq cq, .slice Ad nd cd, .bool sdir, .int .i64 sver, .int .i64 spath, .int .i64 smode, .int .i64 ssize, .string (st sname)] 29)).alloc (.cells #[.int .i64 0, .int .i64 0, .int .i64 0, .int .i64 0, .int .i64 0, .int .i64 0, .string ByteArray.empty, .bool false, .int .i64 0, .int .i64 0, .slice none 0 0, .slice none 0 0, .bool false, .int .i64 0, .int .i64 0, .int .i64 0, .int .i64 0, .string ByteArray.empty] 29) := ⟨_, rfl⟩
  have hs : W2.heap.size = w.heap.size + 2 := by rw [hW2]; simp
  have hA2 : Blk W2 w.heap.size 29 [.int .i64 kind, .int .i64 tag, .int .i64 code, .int .i64 msize, .int .i64 iounit, .int .i64 count, .string (st name), .bool qdir, .int .i64 qver, .int .i64 qpath, .slice Aq nq cq, .slice Ad nd cd, .bool sdir, .int .i64 sver, .int .i64 spath, .int .i64 smode, .int .i64 ssize, .string (st sname)] := by rw [hW2]; exact hA0.alloc _
  have hZ2 : Blk W2 (w.heap.size + 1) 29 [.int .i64 0, .int .i64 0, .int .i64 0, .int .i64 0, .int .i64 0, .int .i64 0, .string ByteArray.empty, .bool false, .int .i64 0, .int .i64 0, .slice none 0 0, .slice none 0 0, .bool false, .int .i64 0, .int .i64 0, .int .i64 0, .int .i64 0, .string ByteArray.empty] := by rw [hW2]; simpa using hZ0
  have hb2 : Below w.heap.size w W2 := by rw [hW2]; exact ((Below.refl _ _).alloc (Nat.le_refl _) _).alloc (by simp) _
  have hW3 : W2 = (w.alloc (.cells #[.int .i64 kind, .int .i64 tag, .int .i64 code, .int .i64 msize, .int .i64 iounit, .int .i64 count, .string (st name), .bool qdir, .int .i64 qver, .int .i64 qpath, .slice Aq nq cq, .slice Ad nd cd, .bool sdir, .int .i64 sver, .int .i64 spath, .int .i64 smode, .int .i64 ssize, .string (st sname)] 29)).alloc (.cells #[.int .i64 0, .int .i64 0, .int .i64 0, .int .i64 0, .int .i64 0, .int .i64 0, .string ⟨#[]⟩, .bool false, .int .i64 0, .int .i64 0, .slice none 0 0, .slice none 0 0, .bool false, .int .i64 0, .int .i64 0, .int .i64 0, .int .i64 0, .string ⟨#[]⟩] 29) := hW2
  obtain ⟨gZ, hgZ⟩ : ∃ x, x = w.heap.size + 1 := ⟨_, rfl⟩
  rw [← hgZ] at hZ2
  have gA_lt : w.heap.size < gZ := by omega
  have gZ_lt : gZ < W2.heap.size := by omega
  have HA := Lib.hid hA2
  have HZ := Lib.hid hZ2
  have HB2 := Lib.hid hb2
  have GZ := Lib.hid hgZ
  clear hA0 hZ0 hA2 hZ2 hb2 hW2 hgZ hs
  go_enter Try.func10, Try.ntmps10
  go_upto_region 1 with fail
  rw [← hW3, ← GZ.out]
  clear hW3
  go_cut [3] from 5 (fun x wx => GlRel v0 v1 v2 v3 v4 v5 g1 g2 qdir W2 x wx)
  case first =>
    have hA := HA.out.drew
    have hnot : ¬ From W2.heap.size w.heap.size := fun h => by have h' : W2.heap.size ≤ w.heap.size := h; omega
    refine wp_region_tq (From W2.heap.size) (.t 0 (.t 1 (.t 3 (.t 4 (.t 6 (.t 7 (.t 9 (.t 10 (.t 12 (.t 13 (.t 15 (.t 16 (.t 18 (.t 19 (.b 2 (.q 5 (.q 8 (.q 11 (.q 14 (.q 17 (.b 20 (.q 21 (.s 22 (.s 23 .nil))) 22 (.s 20 (.q 21 (.s 23 .nil))))))))) 22 (.s 2 (.q 5 (.q 8 (.q 11 (.q 14 (.q 17 (.s 20 (.q 21 (.s 23 .nil)))))))))))))))))))))))) (by kernel_rfl) (by kernel_rfl) ?_
    have ka0 := cell_abv (G := From W2.heap.size) (hA.cell 0 _ rfl) hnot
    have ka1 := cell_abv (G := From W2.heap.size) (hA.cell 1 _ rfl) hnot
    have ka2 := cell_abv (G := From W2.heap.size) (hA.cell 2 _ rfl) hnot
    have ka3 := cell_abv (G := From W2.heap.size) (hA.cell 3 _ rfl) hnot
    have ka4 := cell_abv (G := From W2.heap.size) (hA.cell 4 _ rfl) hnot
    have ka5 := cell_abv (G := From W2.heap.size) (hA.cell 5 _ rfl) hnot
    have ka7 := cell_abv (G := From W2.heap.size) (hA.cell 7 _ rfl) hnot
    have ka8 := cell_abv (G := From W2.heap.size) (hA.cell 8 _ rfl) hnot
    have ka9 := cell_abv (G := From W2.heap.size) (hA.cell 9 _ rfl) hnot
    repeat (refine tq_take (by simp only [List.getElem?_toArray, List.getElem?_cons_succ, List.getElem?_cons_zero]; exact rfl) ?_; go_big_quiet_step (fail); refine wpQuiet_nil ?_)
    refine tq_both (by simp only [List.getElem?_toArray, List.getElem?_cons_succ, List.getElem?_cons_zero]; exact rfl) (by simp only [List.getElem?_toArray, List.getElem?_cons_succ, List.getElem?_cons_zero]; exact rfl) ?_ ?_
    · go_wp2_with fail
      refine (tKind_any kind _ HOK.out.bkind.1 HOK.out.bkind.2).mono ?_
      rintro e W3 ⟨rfl, hb3⟩
      rw [← hv0.out]
      go_wp2
      refine Solo.up hb3 ?_
      have hsz3 : W2.heap.size ≤ W3.heap.size := hb3.size
      clear ka0 ka1 ka2 ka3 ka4 ka5
      refine tq_call (d := some 10) (by simp only [List.getElem?_toArray, List.getElem?_cons_succ, List.getElem?_cons_zero]; exact rfl) rfl rfl 20 #[.int .i64 tag, .int .i64 65536] (.int .i64 v1) (fun W => by go_simp) (fun W _ => by have := tAround_det tag 65536 W HOK.out.btag.1 HOK.out.btag.2 (by omega) (by omega); rw [hv1.out]; exact this) ?_
      simp only [Act.put, List.setIfInBounds_toArray, List.set_cons_succ, List.set_cons_zero]
      refine tq_call (d := some 13) (by simp only [List.getElem?_toArray, List.getElem?_cons_succ, List.getElem?_cons_zero]; exact rfl) rfl rfl 20 #[.int .i64 code, .int .i64 65536] (.int .i64 v2) (fun W => by go_simp) (fun W _ => by have := tAround_det code 65536 W HOK.out.bcode.1 HOK.out.bcode.2 (by omega) (by omega); rw [hv2.out]; exact this) ?_
      simp only [Act.put, List.setIfInBounds_toArray, List.set_cons_succ, List.set_cons_zero]
      refine tq_call (d := some 16) (by simp only [List.getElem?_toArray, List.getElem?_cons_succ, List.getElem?_cons_zero]; exact rfl) rfl rfl 27 #[.int .i64 msize] (.int .i64 v3) (fun W => by go_simp) (fun W _ => by have := tLow_det msize W HOK.out.bmsize; rw [hv3.out]; exact this) ?_
      simp only [Act.put, List.setIfInBounds_toArray, List.set_cons_succ, List.set_cons_zero]
      refine tq_call (d := some 19) (by simp only [List.getElem?_toArray, List.getElem?_cons_succ, List.getElem?_cons_zero]; exact rfl) rfl rfl 27 #[.int .i64 iounit] (.int .i64 v4) (fun W => by go_simp) (fun W _ => by have := tLow_det iounit W HOK.out.biounit; rw [hv4.out]; exact this) ?_
      simp only [Act.put, List.setIfInBounds_toArray, List.set_cons_succ, List.set_cons_zero]
      refine tq_call (d := some 22) (by simp only [List.getElem?_toArray, List.getElem?_cons_succ, List.getElem?_cons_zero]; exact rfl) rfl rfl 27 #[.int .i64 count] (.int .i64 v5) (fun W => by go_simp) (fun W _ => by have := tLow_det count W HOK.out.bcount; rw [hv5.out]; exact this) ?_
      simp only [Act.put, List.setIfInBounds_toArray, List.set_cons_succ, List.set_cons_zero]
      refine tq_both (by simp only [List.getElem?_toArray, List.getElem?_cons_succ, List.getElem?_cons_zero]; exact rfl) (by simp only [List.getElem?_toArray, List.getElem?_cons_succ, List.getElem?_cons_zero]; exact rfl) ?_ ?_
      · go_wp2_with fail
        refine (goodQ_any ⟨qdir, qver, qpath⟩ _ HOK.out.bqid).mono ?_
        rintro e W4 ⟨rfl, hb4⟩
        simp only [goodQ]
        rw [← hg1.out, ← hg2.out]
        go_wp2
        refine Solo.up hb4 ?_
        have hsz4 : W3.heap.size ≤ W4.heap.size := hb4.size
        refine tq_val (d := some 26) (by simp only [List.getElem?_toArray, List.getElem?_cons_succ, List.getElem?_cons_zero]; exact rfl) rfl rfl (.agg #[.int .i64 v0, .int .i64 v1, .int .i64 v2, .int .i64 v3, .int .i64 v4, .int .i64 v5, .string ⟨#[]⟩, .bool qdir, .int .i64 g1, .int .i64 g2, .slice none 0 0, .slice none 0 0, .bool false, .int .i64 0, .int .i64 0, .int .i64 0, .int .i64 0, .string ⟨#[]⟩]) (fun W => by go_simp) ?_
        simp only [Act.put, List.setIfInBounds_toArray, List.set_cons_succ, List.set_cons_zero]
        refine tq_solo (by simp only [List.getElem?_toArray, List.getElem?_cons_succ, List.getElem?_cons_zero]; exact rfl) ?_
        have hBz := Blk.new W4 29 [.int .i64 0, .int .i64 0, .int .i64 0, .int .i64 0, .int .i64 0, .int .i64 0, .string ByteArray.empty, .bool false, .int .i64 0, .int .i64 0, .slice none 0 0, .slice none 0 0, .bool false, .int .i64 0, .int .i64 0, .int .i64 0, .int .i64 0, .string ByteArray.empty]
        go_wp2
        refine Solo.up ((Below.refl _ _).alloc (Nat.le_refl _) _) ?_
        refine tq_solo (by simp only [List.getElem?_toArray, List.getElem?_cons_succ, List.getElem?_cons_zero]; exact rfl) ?_
        go_wp2_with (refine wpList_storeBlk rfl (.tmp 3) (.tmp 26) rfl rfl [.int .i64 v0, .int .i64 v1, .int .i64 v2, .int .i64 v3, .int .i64 v4, .int .i64 v5, .string ByteArray.empty, .bool qdir, .int .i64 g1, .int .i64 g2, .slice none 0 0, .slice none 0 0, .bool false, .int .i64 0, .int .i64 0, .int .i64 0, .int .i64 0, .string ByteArray.empty] rfl rfl (by kernel_rfl) hBz rfl (by simp [Value.oneCell']) ?_)
        refine Solo.mk ((keeps_setRow _ _).mono fun k hk e => by have e' : k = W4.heap.size := e; show W2.heap.size ≤ k; omega) ?_
        refine tq_end ?_
        go_wp2
        go_meet
        exact ⟨W4.heap.size, rfl, by omega, hBz.setRow _, below_setRow ((Up.trans (Up.trans (Below.refl _ _).drew hb3) hb4).alloc (by omega) _) (by omega) _⟩
      · have hBz := Blk.new W3 29 [.int .i64 0, .int .i64 0, .int .i64 0, .int .i64 0, .int .i64 0, .int .i64 0, .string ByteArray.empty, .bool false, .int .i64 0, .int .i64 0, .slice none 0 0, .slice none 0 0, .bool false, .int .i64 0, .int .i64 0, .int .i64 0, .int .i64 0, .string ByteArray.empty]
        go_wp2
        refine Solo.up ((Below.refl _ _).alloc (Nat.le_refl _) _) ?_
        refine tq_solo (by simp only [List.getElem?_toArray, List.getElem?_cons_succ, List.getElem?_cons_zero]; exact rfl) ?_
        go_wp2_with fail
        refine (goodQ_any ⟨qdir, qver, qpath⟩ _ HOK.out.bqid).mono ?_
        rintro e W4 ⟨rfl, hb4⟩
        simp only [goodQ]
        rw [← hg1.out, ← hg2.out]
        go_wp2
        refine Solo.up hb4 ?_
        have hBz' := hBz.up hb4
        refine tq_val (d := some 26) (by simp only [List.getElem?_toArray, List.getElem?_cons_succ, List.getElem?_cons_zero]; exact rfl) rfl rfl (.agg #[.int .i64 v0, .int .i64 v1, .int .i64 v2, .int .i64 v3, .int .i64 v4, .int .i64 v5, .string ⟨#[]⟩, .bool qdir, .int .i64 g1, .int .i64 g2, .slice none 0 0, .slice none 0 0, .bool false, .int .i64 0, .int .i64 0, .int .i64 0, .int .i64 0, .string ⟨#[]⟩]) (fun W => by go_simp) ?_
        simp only [Act.put, List.setIfInBounds_toArray, List.set_cons_succ, List.set_cons_zero]
        refine tq_solo (by simp only [List.getElem?_toArray, List.getElem?_cons_succ, List.getElem?_cons_zero]; exact rfl) ?_
        go_wp2_with (refine wpList_storeBlk rfl (.tmp 3) (.tmp 26) rfl rfl [.int .i64 v0, .int .i64 v1, .int .i64 v2, .int .i64 v3, .int .i64 v4, .int .i64 v5, .string ByteArray.empty, .bool qdir, .int .i64 g1, .int .i64 g2, .slice none 0 0, .slice none 0 0, .bool false, .int .i64 0, .int .i64 0, .int .i64 0, .int .i64 0, .string ByteArray.empty] rfl rfl (by kernel_rfl) hBz' rfl (by simp [Value.oneCell']) ?_)
        refine Solo.mk ((keeps_setRow _ _).mono fun k hk e => by have e' : k = W3.heap.size := e; show W2.heap.size ≤ k; omega) ?_
        refine tq_end ?_
        go_wp2
        go_meet
        exact ⟨W3.heap.size, rfl, hsz3, hBz'.setRow _, below_setRow (Up.trans ((Up.trans (Below.refl _ _).drew hb3).alloc hsz3 _) hb4) hsz3 _⟩
    · have hBz := Blk.new W2.drew 29 [.int .i64 0, .int .i64 0, .int .i64 0, .int .i64 0, .int .i64 0, .int .i64 0, .string ByteArray.empty, .bool false, .int .i64 0, .int .i64 0, .slice none 0 0, .slice none 0 0, .bool false, .int .i64 0, .int .i64 0, .int .i64 0, .int .i64 0, .string ByteArray.empty]
      go_wp2
      refine Solo.up ((Below.refl _ _).alloc (Nat.le_refl _) _) ?_
      refine tq_solo (by simp only [List.getElem?_toArray, List.getElem?_cons_succ, List.getElem?_cons_zero]; exact rfl) ?_
      go_wp2_with fail
      refine (tKind_any kind _ HOK.out.bkind.1 HOK.out.bkind.2).mono ?_
      rintro e W3 ⟨rfl, hb3⟩
      rw [← hv0.out]
      go_wp2
      refine Solo.up hb3 ?_
      clear ka0 ka1 ka2 ka3 ka4 ka5
      refine tq_call (d := some 10) (by simp only [List.getElem?_toArray, List.getElem?_cons_succ, List.getElem?_cons_zero]; exact rfl) rfl rfl 20 #[.int .i64 tag, .int .i64 65536] (.int .i64 v1) (fun W => by go_simp) (fun W _ => by have := tAround_det tag 65536 W HOK.out.btag.1 HOK.out.btag.2 (by omega) (by omega); rw [hv1.out]; exact this) ?_
      simp only [Act.put, List.setIfInBounds_toArray, List.set_cons_succ, List.set_cons_zero]
      refine tq_call (d := some 13) (by simp only [List.getElem?_toArray, List.getElem?_cons_succ, List.getElem?_cons_zero]; exact rfl) rfl rfl 20 #[.int .i64 code, .int .i64 65536] (.int .i64 v2) (fun W => by go_simp) (fun W _ => by have := tAround_det code 65536 W HOK.out.bcode.1 HOK.out.bcode.2 (by omega) (by omega); rw [hv2.out]; exact this) ?_
      simp only [Act.put, List.setIfInBounds_toArray, List.set_cons_succ, List.set_cons_zero]
      refine tq_call (d := some 16) (by simp only [List.getElem?_toArray, List.getElem?_cons_succ, List.getElem?_cons_zero]; exact rfl) rfl rfl 27 #[.int .i64 msize] (.int .i64 v3) (fun W => by go_simp) (fun W _ => by have := tLow_det msize W HOK.out.bmsize; rw [hv3.out]; exact this) ?_
      simp only [Act.put, List.setIfInBounds_toArray, List.set_cons_succ, List.set_cons_zero]
      refine tq_call (d := some 19) (by simp only [List.getElem?_toArray, List.getElem?_cons_succ, List.getElem?_cons_zero]; exact rfl) rfl rfl 27 #[.int .i64 iounit] (.int .i64 v4) (fun W => by go_simp) (fun W _ => by have := tLow_det iounit W HOK.out.biounit; rw [hv4.out]; exact this) ?_
      simp only [Act.put, List.setIfInBounds_toArray, List.set_cons_succ, List.set_cons_zero]
      refine tq_call (d := some 22) (by simp only [List.getElem?_toArray, List.getElem?_cons_succ, List.getElem?_cons_zero]; exact rfl) rfl rfl 27 #[.int .i64 count] (.int .i64 v5) (fun W => by go_simp) (fun W _ => by have := tLow_det count W HOK.out.bcount; rw [hv5.out]; exact this) ?_
      simp only [Act.put, List.setIfInBounds_toArray, List.set_cons_succ, List.set_cons_zero]
      refine tq_solo (by simp only [List.getElem?_toArray, List.getElem?_cons_succ, List.getElem?_cons_zero]; exact rfl) ?_
      go_wp2_with fail
      refine (goodQ_any ⟨qdir, qver, qpath⟩ _ HOK.out.bqid).mono ?_
      rintro e W4 ⟨rfl, hb4⟩
      simp only [goodQ]
      rw [← hg1.out, ← hg2.out]
      go_wp2
      refine Solo.up hb4 ?_
      have hBz' := (hBz.up hb3).up hb4
      refine tq_val (d := some 26) (by simp only [List.getElem?_toArray, List.getElem?_cons_succ, List.getElem?_cons_zero]; exact rfl) rfl rfl (.agg #[.int .i64 v0, .int .i64 v1, .int .i64 v2, .int .i64 v3, .int .i64 v4, .int .i64 v5, .string ⟨#[]⟩, .bool qdir, .int .i64 g1, .int .i64 g2, .slice none 0 0, .slice none 0 0, .bool false, .int .i64 0, .int .i64 0, .int .i64 0, .int .i64 0, .string ⟨#[]⟩]) (fun W => by go_simp) ?_
      simp only [Act.put, List.setIfInBounds_toArray, List.set_cons_succ, List.set_cons_zero]
      refine tq_solo (by simp only [List.getElem?_toArray, List.getElem?_cons_succ, List.getElem?_cons_zero]; exact rfl) ?_
      go_wp2_with (refine wpList_storeBlk rfl (.tmp 3) (.tmp 26) rfl rfl [.int .i64 v0, .int .i64 v1, .int .i64 v2, .int .i64 v3, .int .i64 v4, .int .i64 v5, .string ByteArray.empty, .bool qdir, .int .i64 g1, .int .i64 g2, .slice none 0 0, .slice none 0 0, .bool false, .int .i64 0, .int .i64 0, .int .i64 0, .int .i64 0, .string ByteArray.empty] rfl rfl (by kernel_rfl) hBz' rfl (by simp [Value.oneCell']) ?_)
      refine Solo.mk ((keeps_setRow _ _).mono fun k hk e => by have e' : k = W2.heap.size := e; show W2.heap.size ≤ k; omega) ?_
      refine tq_end ?_
      go_wp2
      go_meet
      exact ⟨W2.heap.size, rfl, Nat.le_refl _, hBz'.setRow _, below_setRow (Up.trans (Up.trans ((Below.refl _ _).drew.alloc (Nat.le_refl _) _) hb3) hb4) (Nat.le_refl _) _⟩
  case rest =>
    obtain ⟨gX, rfl, hgX, hX, hbX⟩ := hcut
    have HA := Lib.hid (HA.out.up hbX)
    have HZ := Lib.hid (HZ.out.up hbX)
    have HBc := Lib.hid (HB2.out.trans (hbX.mono (by omega)))
    have HX := Lib.hid hX
    have gA_ne : w.heap.size ≠ gX := by omega
    have gZ_ne : gZ ≠ gX := by omega
    have nA : ¬ From gX w.heap.size := fun h => by have h' : gX ≤ w.heap.size := h; omega
    have nZ : ¬ From gX gZ := fun h => by have h' : gX ≤ gZ := h; omega
    have hgXs := hX.lt
    have hgXs' : gX < wc.heap.size := hgXs
    clear hX hbX hgXs'
    have ka := HA.out.cell 6 _ rfl
    go_wp2_with fail
    refine (show Calls Try.prog 29 #[.string (st name), .int .i64 40] wc fun e w' => e = .returned (.string (st nm)) ∧ wc = w' by rw [hnm.out]; exact tShort_any name 40 _ HOK.out.name (by omega)).mono ?_
    rintro e w' ⟨rfl, rfl⟩
    have ku := HX.out.cell 6 _ rfl
    have kf := HX.out.free 6
    have hX' := HX.out.set 6 (.string (st nm))
    have hA' := HA.out.other (p := ⟨gX, 6, none⟩) gA_ne.symm (.string (st nm))
    have hZ' := HZ.out.other (p := ⟨gX, 6, none⟩) gZ_ne.symm (.string (st nm))
    have hB' := HBc.out.setCell (p := ⟨gX, 6, none⟩) (by show w.heap.size ≤ gX; omega) (.string (st nm))
    have hsz' : gX < (wc.setCell ⟨gX, 6, none⟩ (.string (st nm))).heap.size := hX'.lt
    clear HX HA HZ HBc
    go_upto_region 3 with fail
    generalize wc.setCell ⟨gX, 6, none⟩ (.string (st nm)) = wg at hX' hA' hZ' hB' hsz'
    have HZc := Lib.hid hZ'
    have HBg := Lib.hid hB'
    clear ku kf ka hZ' hB'
    have hlq : qids.length = nq := by have := HOK.out.qids.len; simpa using this
    have HLQ := Lib.hid hlq
    clear hlq
    go_wp2
    go_loopw [4] (fun i wr => GqRel gX w.heap.size qids (fun s => [.int .i64 v0, .int .i64 v1, .int .i64 v2, .int .i64 v3, .int .i64 v4, .int .i64 v5, .string (st nm), .bool qdir, .int .i64 g1, .int .i64 g2, s, .slice none 0 0, .bool false, .int .i64 0, .int .i64 0, .int .i64 0, .int .i64 0, .string ByteArray.empty]) [.int .i64 kind, .int .i64 tag, .int .i64 code, .int .i64 msize, .int .i64 iounit, .int .i64 count, .string (st name), .bool qdir, .int .i64 qver, .int .i64 qpath, .slice Aq nq cq, .slice Ad nd cd, .bool sdir, .int .i64 sver, .int .i64 spath, .int .i64 smode, .int .i64 ssize, .string (st sname)] wg i wr) (fun i _ => 8 - (intOf i).toNat)
    case atStart => exact ⟨0, 0, none, [], by omega, by omega, rfl, Lib.hid rfl, hX', hA', OwR.nil _ _ _ _, Keeps.refl _ _⟩
    case round =>
      obtain ⟨j, c, A, ls, hj, hj8, rfl, hls, hXr, hAr, hOr, hKr⟩ := hrel
      have hXr : Blk wr gX 29 [.int .i64 v0, .int .i64 v1, .int .i64 v2, .int .i64 v3, .int .i64 v4, .int .i64 v5, .string (st nm), .bool qdir, .int .i64 g1, .int .i64 g2, .slice A j c, .slice none 0 0, .bool false, .int .i64 0, .int .i64 0, .int .i64 0, .int .i64 0, .string ByteArray.empty] := hXr
      have ka := hAr.cell 10 _ rfl
      have hbr : Below w.heap.size w wr := HBg.out.trans (hKr.under HBg.out.size (fun k hk e => by have e' : gX ≤ k := e; omega))
      by_cases hlt : j < nq ∧ j < 8
      · obtain ⟨hlt1, hlt8⟩ := hlt
        have j0 : (0 : Int) ≤ j := by omega
        have j1 : (j : Int) < nq := by omega
        have j8 : (j : Int) < 8 := by omega
        obtain ⟨b, off', r1, hAn, hbl, hr1, _, hc⟩ := (HOK.out.qids.below hbr).at_ hlt1
        subst hAn
        have hjl : j < qids.length := by rw [HLQ.out]; exact hlt1
        obtain ⟨x, hx⟩ : ∃ x, qids[j]? = some x := ⟨_, List.getElem?_eq_getElem hjl⟩
        have hxin : QidIn x := HOK.out.each x (List.mem_of_getElem? hx)
        rw [List.getElem?_map, hx] at hr1
        obtain rfl : r1 = qidC x := (Option.some.inj hr1).symm
        have HT := Lib.hid (show (qids.take (j + 1)).map goodQ = (qids.take j).map goodQ ++ [goodQ x] by rw [List.take_add_one, hx]; simp)
        obtain ⟨xd, xv, xp⟩ := x
        obtain ⟨y1, hy1⟩ : ∃ y, Hid (y = up0 xv % 4294967296) := ⟨_, Lib.hid rfl⟩
        obtain ⟨y2, hy2⟩ : ∃ y, Hid (y = up0 xp % 4611686018427387905) := ⟨_, Lib.hid rfl⟩
        have nb : ¬ From gX b := fun h => by have h' : gX ≤ b := h; omega
        have kN0 : ∀ p : Abv (From gX) wr.drew, p.val.cell? ⟨b, off' + j * 3, none⟩ = some (.bool xd) := cell_abv (w := wr.drew) (hc 0 _ rfl) nb
        have kN1 : ∀ p : Abv (From gX) wr.drew, p.val.cell? ⟨b, off' + j * 3 + 1, none⟩ = some (.int .i64 xv) := cell_abv (w := wr.drew) (hc 1 _ rfl) nb
        have kN2 : ∀ p : Abv (From gX) wr.drew, p.val.cell? ⟨b, off' + j * 3 + 2, none⟩ = some (.int .i64 xp) := cell_abv (w := wr.drew) (hc 2 _ rfl) nb
        have kA := cell_abv (G := From gX) (w := wr.drew) (hAr.drew.cell 10 _ rfl) nA
        have HXr := Lib.hid hXr.drew
        have HAr := Lib.hid hAr.drew
        have HOr := Lib.hid (show OwR wr.drew (gX + 1) 23 3 A j c (ls.map qidC) from hOr.drew)
        have HKr := Lib.hid hKr.drew
        have HXIN := Lib.hid hxin
        have hgXr : gX < wr.heap.size := hXr.lt
        clear hr1 hx hc hXr hAr hOr hKr hbr hxin
        go_wp2
        refine wp_region_tq (From gX) (.t 0 (.t 2 (.t 3 (.t 4 (.t 5 (.t 6 (.b 1 (.s 7 (.s 8 (.s 9 (.t 10 (.s 11 .nil))))) 7 (.b 1 (.s 8 (.s 9 (.t 10 (.s 11 .nil)))) 8 (.s 1 (.s 9 (.t 10 (.s 11 .nil)))))))))))) (by kernel_rfl) (by kernel_rfl) ?_
        repeat (refine tq_take (by simp only [List.getElem?_toArray, List.getElem?_cons_succ, List.getElem?_cons_zero]; exact rfl) ?_; go_big_quiet_step (fail); refine wpQuiet_nil ?_)
        refine tq_both (by simp only [List.getElem?_toArray, List.getElem?_cons_succ, List.getElem?_cons_zero]; exact rfl) (by simp only [List.getElem?_toArray, List.getElem?_cons_succ, List.getElem?_cons_zero]; exact rfl) ?_ ?_
        · have kx := HXr.out.cell 10 _ rfl
          go_wp2
          refine Solo.up (Below.refl _ _) ?_
          clear kx
          refine tq_solo (by simp only [List.getElem?_toArray, List.getElem?_cons_succ, List.getElem?_cons_zero]; exact rfl) ?_
          go_wp2_with fail
          refine (goodQ_any ⟨xd, xv, xp⟩ _ HXIN.out).mono ?_
          rintro e w2 ⟨rfl, hb7⟩
          simp only [goodQ]
          rw [← hy1.out, ← hy2.out]
          have hX2 := HXr.out.up hb7
          have hA2 := HAr.out.up hb7
          have hO2 := HOr.out.up hb7
          have hK2 := HKr.out.trans (Keeps.of_below hb7)
          have hs2 : gX < w2.heap.size := hX2.lt
          have Hsrc := Lib.hid (Src.oneR (P := Try.prog) w2 24 23 Try.underlying24 [.bool xd, .int .i64 y1, .int .i64 y2] rfl (by simp [Value.oneCell']) #[.bool xd, .int .i64 y1, .int .i64 y2] rfl 23)
          go_wp2
          refine Solo.up hb7 ?_
          refine tq_solo (by simp only [List.getElem?_toArray, List.getElem?_cons_succ, List.getElem?_cons_zero]; exact rfl) ?_
          have hga : gX + 1 ≤ (w2.alloc (.cells #[.bool xd, .int .i64 y1, .int .i64 y2] 23)).heap.size := by simp; omega
          go_wp2
          refine Solo.up ((Below.refl _ _).alloc (Nat.le_refl _) _) ?_
          refine tq_solo (by simp only [List.getElem?_toArray, List.getElem?_cons_succ, List.getElem?_cons_zero]; exact rfl) ?_
          go_wp2_with (at_builtin; go_must (refine wpList_appendR qidsElemS rfl (.tmp 43) (.tmp 50) 24 rfl (gX + 1) A j c (ls.map qidC) rfl (hO2.alloc _) _ rfl [.bool xd, .int .i64 y1, .int .i64 y2] rfl Hsrc.out (by omega) (by omega) hga ?_); intro A3 n3 c3 l3 w3 hl3 hn3 hown3 hb3 hg3)
          refine Solo.mk (keeps_below hb3 fun k hk => by have hk' : ¬ gX ≤ k := hk; omega) ?_
          obtain rfl : n3 = j + 1 := hn3.out
          obtain rfl : l3 = (ls ++ [(⟨xd, y1, y2⟩ : QidV)]).map qidC := by rw [hl3.out, List.map_append]; rfl
          repeat (refine tq_take (by simp only [List.getElem?_toArray, List.getElem?_cons_succ, List.getElem?_cons_zero]; exact rfl) ?_; go_big_quiet_step (fail); refine wpQuiet_nil ?_)
          have hX3 := (hX2.alloc (.cells #[.bool xd, .int .i64 y1, .int .i64 y2] 23)).below hb3 (by omega)
          have hA3 := (hA2.alloc (.cells #[.bool xd, .int .i64 y1, .int .i64 y2] 23)).below hb3 (by omega)
          have hK3 := (hK2.alloc (.cells #[.bool xd, .int .i64 y1, .int .i64 y2] 23)).trans (keeps_below hb3 fun k hk => by have hk' : ¬ gX ≤ k := hk; omega)
          have ku := hX3.cell 10 _ rfl
          have kf := hX3.free 10
          have hX4 := hX3.set 10 (.slice A3 (j + 1) c3)
          have hA4 := hA3.other (p := ⟨gX, 10, none⟩) gA_ne.symm (.slice A3 (j + 1) c3)
          have hK4 := hK3.setCell (p := ⟨gX, 10, none⟩) (.inl (Nat.le_refl _)) (.slice A3 (j + 1) c3)
          have hO4 : OwR (w3.setCell ⟨gX, 10, none⟩ (.slice A3 (j + 1) c3)) (gX + 1) 23 3 A3 (j + 1) c3 ((ls ++ [(⟨xd, y1, y2⟩ : QidV)]).map qidC) := OwR.keeps hown3 ((Keeps.refl (Is gX) w3).setCell (p := ⟨gX, 10, none⟩) (.inl rfl) _) (fun k hk e => by have e' : k = gX := e; omega)
          refine tq_solo (by simp only [List.getElem?_toArray, List.getElem?_cons_succ, List.getElem?_cons_zero]; exact rfl) ?_
          go_wp2
          refine Solo.mk ((Keeps.refl (From gX) w3).setCell (p := ⟨gX, 10, none⟩) (.inl (Nat.le_refl _)) _) ?_
          refine tq_end ?_
          go_wp2
          go_roundw
          case rel => exact ⟨j + 1, c3, A3, ls ++ [⟨xd, y1, y2⟩], by omega, by omega, by go_num, Lib.hid (by rw [HT.out, ← hls.out, hy1.out, hy2.out]; rfl), hX4, hA4, hO4, hK4⟩
          case measure => simp [intOf]; omega
        · go_wp2_with fail
          refine (goodQ_any ⟨xd, xv, xp⟩ _ HXIN.out).mono ?_
          rintro e w2 ⟨rfl, hb7⟩
          simp only [goodQ]
          rw [← hy1.out, ← hy2.out]
          have hX2 := HXr.out.up hb7
          have hA2 := HAr.out.up hb7
          have hO2 := HOr.out.up hb7
          have hK2 := HKr.out.trans (Keeps.of_below hb7)
          have hs2 : gX < w2.heap.size := hX2.lt
          have Hsrc := Lib.hid (Src.oneR (P := Try.prog) w2 24 23 Try.underlying24 [.bool xd, .int .i64 y1, .int .i64 y2] rfl (by simp [Value.oneCell']) #[.bool xd, .int .i64 y1, .int .i64 y2] rfl 23)
          go_wp2
          refine Solo.up hb7 ?_
          refine tq_both (by simp only [List.getElem?_toArray, List.getElem?_cons_succ, List.getElem?_cons_zero]; exact rfl) (by simp only [List.getElem?_toArray, List.getElem?_cons_succ, List.getElem?_cons_zero]; exact rfl) ?_ ?_
          · have kx := hX2.cell 10 _ rfl
            go_wp2
            refine Solo.up (Below.refl _ _) ?_
            clear kx
            refine tq_solo (by simp only [List.getElem?_toArray, List.getElem?_cons_succ, List.getElem?_cons_zero]; exact rfl) ?_
            have hga : gX + 1 ≤ (w2.alloc (.cells #[.bool xd, .int .i64 y1, .int .i64 y2] 23)).heap.size := by simp; omega
            go_wp2
            refine Solo.up ((Below.refl _ _).alloc (Nat.le_refl _) _) ?_
            refine tq_solo (by simp only [List.getElem?_toArray, List.getElem?_cons_succ, List.getElem?_cons_zero]; exact rfl) ?_
            go_wp2_with (at_builtin; go_must (refine wpList_appendR qidsElemS rfl (.tmp 43) (.tmp 50) 24 rfl (gX + 1) A j c (ls.map qidC) rfl (hO2.alloc _) _ rfl [.bool xd, .int .i64 y1, .int .i64 y2] rfl Hsrc.out (by omega) (by omega) hga ?_); intro A3 n3 c3 l3 w3 hl3 hn3 hown3 hb3 hg3)
            refine Solo.mk (keeps_below hb3 fun k hk => by have hk' : ¬ gX ≤ k := hk; omega) ?_
            obtain rfl : n3 = j + 1 := hn3.out
            obtain rfl : l3 = (ls ++ [(⟨xd, y1, y2⟩ : QidV)]).map qidC := by rw [hl3.out, List.map_append]; rfl
            repeat (refine tq_take (by simp only [List.getElem?_toArray, List.getElem?_cons_succ, List.getElem?_cons_zero]; exact rfl) ?_; go_big_quiet_step (fail); refine wpQuiet_nil ?_)
            have hX3 := (hX2.alloc (.cells #[.bool xd, .int .i64 y1, .int .i64 y2] 23)).below hb3 (by omega)
            have hA3 := (hA2.alloc (.cells #[.bool xd, .int .i64 y1, .int .i64 y2] 23)).below hb3 (by omega)
            have hK3 := (hK2.alloc (.cells #[.bool xd, .int .i64 y1, .int .i64 y2] 23)).trans (keeps_below hb3 fun k hk => by have hk' : ¬ gX ≤ k := hk; omega)
            have ku := hX3.cell 10 _ rfl
            have kf := hX3.free 10
            have hX4 := hX3.set 10 (.slice A3 (j + 1) c3)
            have hA4 := hA3.other (p := ⟨gX, 10, none⟩) gA_ne.symm (.slice A3 (j + 1) c3)
            have hK4 := hK3.setCell (p := ⟨gX, 10, none⟩) (.inl (Nat.le_refl _)) (.slice A3 (j + 1) c3)
            have hO4 : OwR (w3.setCell ⟨gX, 10, none⟩ (.slice A3 (j + 1) c3)) (gX + 1) 23 3 A3 (j + 1) c3 ((ls ++ [(⟨xd, y1, y2⟩ : QidV)]).map qidC) := OwR.keeps hown3 ((Keeps.refl (Is gX) w3).setCell (p := ⟨gX, 10, none⟩) (.inl rfl) _) (fun k hk e => by have e' : k = gX := e; omega)
            refine tq_solo (by simp only [List.getElem?_toArray, List.getElem?_cons_succ, List.getElem?_cons_zero]; exact rfl) ?_
            go_wp2
            refine Solo.mk ((Keeps.refl (From gX) w3).setCell (p := ⟨gX, 10, none⟩) (.inl (Nat.le_refl _)) _) ?_
            refine tq_end ?_
            go_wp2
            go_roundw
            case rel => exact ⟨j + 1, c3, A3, ls ++ [⟨xd, y1, y2⟩], by omega, by omega, by go_num, Lib.hid (by rw [HT.out, ← hls.out, hy1.out, hy2.out]; rfl), hX4, hA4, hO4, hK4⟩
            case measure => simp [intOf]; omega
          · have hga : gX + 1 ≤ (w2.alloc (.cells #[.bool xd, .int .i64 y1, .int .i64 y2] 23)).heap.size := by simp; omega
            go_wp2
            refine Solo.up ((Below.refl _ _).alloc (Nat.le_refl _) _) ?_
            refine tq_solo (by simp only [List.getElem?_toArray, List.getElem?_cons_succ, List.getElem?_cons_zero]; exact rfl) ?_
            have kx := (hX2.alloc (.cells #[.bool xd, .int .i64 y1, .int .i64 y2] 23)).cell 10 _ rfl
            go_wp2
            refine Solo.up (Below.refl _ _) ?_
            clear kx
            refine tq_solo (by simp only [List.getElem?_toArray, List.getElem?_cons_succ, List.getElem?_cons_zero]; exact rfl) ?_
            go_wp2_with (at_builtin; go_must (refine wpList_appendR qidsElemS rfl (.tmp 43) (.tmp 50) 24 rfl (gX + 1) A j c (ls.map qidC) rfl (hO2.alloc _) _ rfl [.bool xd, .int .i64 y1, .int .i64 y2] rfl Hsrc.out (by omega) (by omega) hga ?_); intro A3 n3 c3 l3 w3 hl3 hn3 hown3 hb3 hg3)
            refine Solo.mk (keeps_below hb3 fun k hk => by have hk' : ¬ gX ≤ k := hk; omega) ?_
            obtain rfl : n3 = j + 1 := hn3.out
            obtain rfl : l3 = (ls ++ [(⟨xd, y1, y2⟩ : QidV)]).map qidC := by rw [hl3.out, List.map_append]; rfl
            repeat (refine tq_take (by simp only [List.getElem?_toArray, List.getElem?_cons_succ, List.getElem?_cons_zero]; exact rfl) ?_; go_big_quiet_step (fail); refine wpQuiet_nil ?_)
            have hX3 := (hX2.alloc (.cells #[.bool xd, .int .i64 y1, .int .i64 y2] 23)).below hb3 (by omega)
            have hA3 := (hA2.alloc (.cells #[.bool xd, .int .i64 y1, .int .i64 y2] 23)).below hb3 (by omega)
            have hK3 := (hK2.alloc (.cells #[.bool xd, .int .i64 y1, .int .i64 y2] 23)).trans (keeps_below hb3 fun k hk => by have hk' : ¬ gX ≤ k := hk; omega)
            have ku := hX3.cell 10 _ rfl
            have kf := hX3.free 10
            have hX4 := hX3.set 10 (.slice A3 (j + 1) c3)
            have hA4 := hA3.other (p := ⟨gX, 10, none⟩) gA_ne.symm (.slice A3 (j + 1) c3)
            have hK4 := hK3.setCell (p := ⟨gX, 10, none⟩) (.inl (Nat.le_refl _)) (.slice A3 (j + 1) c3)
            have hO4 : OwR (w3.setCell ⟨gX, 10, none⟩ (.slice A3 (j + 1) c3)) (gX + 1) 23 3 A3 (j + 1) c3 ((ls ++ [(⟨xd, y1, y2⟩ : QidV)]).map qidC) := OwR.keeps hown3 ((Keeps.refl (Is gX) w3).setCell (p := ⟨gX, 10, none⟩) (.inl rfl) _) (fun k hk e => by have e' : k = gX := e; omega)
            refine tq_solo (by simp only [List.getElem?_toArray, List.getElem?_cons_succ, List.getElem?_cons_zero]; exact rfl) ?_
            go_wp2
            refine Solo.mk ((Keeps.refl (From gX) w3).setCell (p := ⟨gX, 10, none⟩) (.inl (Nat.le_refl _)) _) ?_
            refine tq_end ?_
            go_wp2
            go_roundw
            case rel => exact ⟨j + 1, c3, A3, ls ++ [⟨xd, y1, y2⟩], by omega, by omega, by go_num, Lib.hid (by rw [HT.out, ← hls.out, hy1.out, hy2.out]; rfl), hX4, hA4, hO4, hK4⟩
            case measure => simp [intOf]; omega
      · have hstop : (decide ((j : Int) < nq) = false ∧ decide (j < nq) = false) ∨ (j < nq ∧ decide ((j : Int) < 8) = false ∧ decide (j < 8) = false) := by
          rcases Nat.lt_or_ge j nq with h | h
          · right; exact ⟨h, by simp; omega, by simp; omega⟩
          · left; exact ⟨by simp; omega, by simp; omega⟩
        clear hlt
        have hls8 : Hid (ls = (qids.take 8).map goodQ) := by
          refine Lib.hid ?_
          rw [hls.out]
          have hnl2 := HLQ.out
          rcases hstop with ⟨_, s2⟩ | ⟨_, _, s3⟩
          · have : nq ≤ j := by simpa using s2
            rw [List.take_of_length_le (by omega), List.take_of_length_le (by omega)]
          · have : 8 ≤ j := by simpa using s3
            rw [show j = 8 by omega]
        have hZr := HZc.out.keeps hKr nZ
        have kd := hAr.cell 11 _ rfl
        have HXr := Lib.hid hXr
        have HAr := Lib.hid hAr
        have HZr := Lib.hid hZr
        have HOr := Lib.hid hOr
        have Hbr := Lib.hid hbr
        have hgXr : gX < wr.heap.size := hXr.lt
        clear hXr hAr hZr hOr hbr hKr
        rcases hstop with ⟨s1, s2⟩ | ⟨s1, s2, s3⟩
        all_goals
          go_wp2_with fail
          refine (few_any Ad nd cd data 30 _ (HOK.out.data.up Hbr.out) HOK.out.nd_le HOK.out.cd_le (by omega)).mono ?_
          rintro e wh ⟨Af, nf, cf, lf, hlf, rfl, hownf, hbf⟩
          have hX := HXr.out.up hbf
          have hA := HAr.out.up hbf
          have hZ := HZr.out.up hbf
          have hO := HOr.out.up hbf
          have ku := hX.cell 11 _ rfl
          have kf := hX.free 11
          have hX' := hX.set 11 (.slice Af nf cf)
          have hA' := hA.other (p := ⟨gX, 11, none⟩) gA_ne.symm (.slice Af nf cf)
          have hZ' := hZ.other (p := ⟨gX, 11, none⟩) gZ_ne.symm (.slice Af nf cf)
          have hK13 : Keeps (Is gX) wh (wh.setCell ⟨gX, 11, none⟩ (.slice Af nf cf)) := (Keeps.refl (Is gX) wh).setCell (p := ⟨gX, 11, none⟩) (.inl rfl) _
          have hO' : OwR (wh.setCell ⟨gX, 11, none⟩ (.slice Af nf cf)) (gX + 1) 23 3 A j c (ls.map qidC) := OwR.keeps hO hK13 (fun k hk e => by have e' : k = gX := e; omega)
          have hF' : OwB (wh.setCell ⟨gX, 11, none⟩ (.slice Af nf cf)) (gX + 1) Af nf cf lf := Own.keeps (Own.lower hownf (by omega)) hK13 (fun k hk e => by have e' : k = gX := e; omega)
          have hB' : Below w.heap.size w (wh.setCell ⟨gX, 11, none⟩ (.slice Af nf cf)) := (Hbr.out.trans (hbf.mono Hbr.out.size)).trans (hK13.is (by omega) (by have := hbf.size; omega))
          clear hX hA hZ hO hownf hbf hK13
          go_upto_region 8 with fail
          generalize wh.setCell ⟨gX, 11, none⟩ (.slice Af nf cf) = wj at hX' hA' hZ' hO' hF' hB'
          have hgj : gX < wj.heap.size := hX'.lt
          have HXj := Lib.hid hX'.drew
          have HZj := Lib.hid hZ'.drew
          have HOj := Lib.hid (show OwR wj.drew (gX + 1) 23 3 A j c (ls.map qidC) from hO'.drew)
          have HFj := Lib.hid hF'.drew
          have HBj := Lib.hid hB'.drew
          refine wp_region_tq (From gX) (.t 0 (.t 1 (.t 2 (.t 4 (.t 5 (.t 6 (.t 8 (.t 9 (.t 10 (.t 12 (.t 13 (.t 14 (.s 3 (.q 7 (.q 11 (.q 15 (.q 16 (.t 17 (.s 18 .nil))))))))))))))))))) (by kernel_rfl) (by kernel_rfl) ?_
          have m12 := cell_abv (G := From gX) (w := wj.drew) (hA'.drew.cell 12 _ rfl) nA
          have m13 := cell_abv (G := From gX) (w := wj.drew) (hA'.drew.cell 13 _ rfl) nA
          have m14 := cell_abv (G := From gX) (w := wj.drew) (hA'.drew.cell 14 _ rfl) nA
          have m15 := cell_abv (G := From gX) (w := wj.drew) (hA'.drew.cell 15 _ rfl) nA
          have m16 := cell_abv (G := From gX) (w := wj.drew) (hA'.drew.cell 16 _ rfl) nA
          have m17 := cell_abv (G := From gX) (w := wj.drew) (hA'.drew.cell 17 _ rfl) nA
          clear hX' hA' hZ' hO' hF' hB' ku kf kd ka
          repeat (refine tq_take (by simp only [List.getElem?_toArray, List.getElem?_cons_succ, List.getElem?_cons_zero]; exact rfl) ?_; go_big_quiet_step (fail); refine wpQuiet_nil ?_)
          refine tq_solo (by simp only [List.getElem?_toArray, List.getElem?_cons_succ, List.getElem?_cons_zero]; exact rfl) ?_
          go_wp2_with fail
          refine (goodQ_any ⟨sdir, sver, spath⟩ _ HOK.out.bsqid).mono ?_
          rintro e wk ⟨rfl, hbk⟩
          simp only [goodQ]
          rw [← hh1.out, ← hh2.out]
          have HXk := Lib.hid (HXj.out.up hbk)
          have HZk := Lib.hid (HZj.out.up hbk)
          have HOk := Lib.hid (HOj.out.up hbk)
          have HFk := Lib.hid (HFj.out.up hbk)
          have HBk := Lib.hid (HBj.out.trans (hbk.mono HBj.out.size))
          have hgk : gX < wk.heap.size := HXk.out.lt
          go_wp2
          refine Solo.up hbk ?_
          clear hbk m12 m13 m14 m15 m16 m17
          refine tq_call (d := some 64) (by simp only [List.getElem?_toArray, List.getElem?_cons_succ, List.getElem?_cons_zero]; exact rfl) rfl rfl 27 #[.int .i64 smode] (.int .i64 v6) (fun W => by go_simp) (fun W _ => by have := tLow_det smode W HOK.out.bsmode; rw [hv6.out]; exact this) ?_
          simp only [Act.put, List.setIfInBounds_toArray, List.set_cons_succ, List.set_cons_zero]
          refine tq_call (d := some 68) (by simp only [List.getElem?_toArray, List.getElem?_cons_succ, List.getElem?_cons_zero]; exact rfl) rfl rfl 30 #[.int .i64 ssize] (.int .i64 v7) (fun W => by go_simp) (fun W _ => by have := tHigh_det ssize W HOK.out.bssize; rw [hv7.out]; exact this) ?_
          simp only [Act.put, List.setIfInBounds_toArray, List.set_cons_succ, List.set_cons_zero]
          refine tq_call (d := some 72) (by simp only [List.getElem?_toArray, List.getElem?_cons_succ, List.getElem?_cons_zero]; exact rfl) rfl rfl 29 #[.string (st sname), .int .i64 40] (.string (st sm)) (fun W => by go_simp) (fun W _ => by rw [hsm.out]; exact tShort_any sname 40 W HOK.out.sname (by omega)) ?_
          simp only [Act.put, List.setIfInBounds_toArray, List.set_cons_succ, List.set_cons_zero]
          refine tq_val (d := some 73) (by simp only [List.getElem?_toArray, List.getElem?_cons_succ, List.getElem?_cons_zero]; exact rfl) rfl rfl (.agg #[.bool sdir, .int .i64 h1, .int .i64 h2, .int .i64 v6, .int .i64 v7, .string (st sm)]) (fun W => by go_simp) ?_
          simp only [Act.put, List.setIfInBounds_toArray, List.set_cons_succ, List.set_cons_zero]
          repeat (refine tq_take (by simp only [List.getElem?_toArray, List.getElem?_cons_succ, List.getElem?_cons_zero]; exact rfl) ?_; go_big_quiet_step (fail); refine wpQuiet_nil ?_)
          refine tq_solo (by simp only [List.getElem?_toArray, List.getElem?_cons_succ, List.getElem?_cons_zero]; exact rfl) ?_
          have hXl := HXk.out.setRow [.int .i64 v0, .int .i64 v1, .int .i64 v2, .int .i64 v3, .int .i64 v4, .int .i64 v5, .string (st nm), .bool qdir, .int .i64 g1, .int .i64 g2, .slice A j c, .slice Af nf cf, .bool sdir, .int .i64 h1, .int .i64 h2, .int .i64 v6, .int .i64 v7, .string (st sm)]
          have hKs := keeps_setRow wk (g := gX) #[.int .i64 v0, .int .i64 v1, .int .i64 v2, .int .i64 v3, .int .i64 v4, .int .i64 v5, .string (st nm), .bool qdir, .int .i64 g1, .int .i64 g2, .slice A j c, .slice Af nf cf, .bool sdir, .int .i64 h1, .int .i64 h2, .int .i64 v6, .int .i64 v7, .string (st sm)]
          have HXl := Lib.hid hXl
          have HZl := Lib.hid (HZk.out.keeps hKs (fun e => gZ_ne (by have e' : gZ = gX := e; exact e')))
          have HOl := Lib.hid (HOk.out.keeps hKs (fun k hk e => by have e' : k = gX := e; omega))
          have HFl := Lib.hid (show OwB (wk.setRow gX #[.int .i64 v0, .int .i64 v1, .int .i64 v2, .int .i64 v3, .int .i64 v4, .int .i64 v5, .string (st nm), .bool qdir, .int .i64 g1, .int .i64 g2, .slice A j c, .slice Af nf cf, .bool sdir, .int .i64 h1, .int .i64 h2, .int .i64 v6, .int .i64 v7, .string (st sm)]) (gX + 1) Af nf cf lf from Own.keeps HFk.out hKs (fun k hk e => by have e' : k = gX := e; omega))
          have HBl := Lib.hid (HBk.out.trans (hKs.is (by omega) (by omega)))
          have HXk2 := HXk.out
          go_wp2_with (refine wpList_storeMid8 rfl (.tmp 74) (.tmp 73) rfl rfl [.bool sdir, .int .i64 h1, .int .i64 h2, .int .i64 v6, .int .i64 v7, .string (st sm)] [.int .i64 v0, .int .i64 v1, .int .i64 v2, .int .i64 v3, .int .i64 v4, .int .i64 v5, .string (st nm), .bool qdir, .int .i64 g1, .int .i64 g2, .slice A j c, .slice Af nf cf, .bool sdir, .int .i64 h1, .int .i64 h2, .int .i64 v6, .int .i64 v7, .string (st sm)] rfl rfl (by kernel_rfl) HXk2 (by simp) (by simp [Value.oneCell']) rfl ?_)
          refine Solo.mk (hKs.mono fun k hk e => by have e' : k = gX := e; show gX ≤ k; omega) ?_
          refine tq_end ?_
          clear hXl hKs HXk2
          generalize wk.setRow gX #[.int .i64 v0, .int .i64 v1, .int .i64 v2, .int .i64 v3, .int .i64 v4, .int .i64 v5, .string (st nm), .bool qdir, .int .i64 g1, .int .i64 g2, .slice A j c, .slice Af nf cf, .bool sdir, .int .i64 h1, .int .i64 h2, .int .i64 v6, .int .i64 v7, .string (st sm)] = wl at HXl HZl HOl HFl HBl ⊢
          have hXl := HXl.out
          go_wp2_with (refine wpList_loadBlk rfl (.tmp 3) rfl rfl (by kernel_rfl) tellT_agg hXl ?_; simp only [Act.put, List.setIfInBounds_toArray, List.set_cons_succ, List.set_cons_zero])
          refine (own18_any v0 v1 v2 v3 v4 v5 nm qdir g1 g2 ls lf sdir h1 h2 v6 v7 sm A j c Af nf cf _).mono ?_
          rintro e wi ⟨q, Aq', nq', cq', Ad', nd', cd', hq, rfl, hQs, hDs, hbi⟩
          obtain ⟨q0, q1, q2, q3, q4, q5, qn, ⟨r0, r1, r2⟩, qqs, qd, ⟨s0, s4, s5⟩, q6, q7, qm⟩ := q
          have hON : OwR wi (gX + 1) 23 3 Aq' nq' cq' (qqs.map qidC) := by
            have hkn : qqs = if hasM v0 108 then ls else [] := congrArg TellV.qids hq.out
            rcases hQs.out with ⟨h, rfl, rfl, rfl⟩ | ⟨h, rfl, rfl, rfl⟩
            · have hkn' : hasM v0 108 = true := h
              rw [hkn, if_pos hkn']; exact HOl.out.up hbi
            · have hkn' : hasM v0 108 = false := h
              rw [hkn, hkn']; exact OwR.nil _ _ _ _
          have hOD : OwB wi (gX + 1) Ad' nd' cd' qd := by
            have hkn : qd = if hasM v0 100 then lf else [] := congrArg TellV.data hq.out
            rcases hDs.out with ⟨h, rfl, rfl, rfl⟩ | ⟨h, rfl, rfl, rfl⟩
            · have hkn' : hasM v0 100 = true := h
              rw [hkn, if_pos hkn']; exact HFl.out.up hbi
            · have hkn' : hasM v0 100 = false := h
              rw [hkn, hkn']; exact OwB.nil _ _
          have hZi := HZl.out.up hbi
          have HBi := Lib.hid (HBl.out.trans (hbi.mono HBl.out.size))
          have HON := Lib.hid hON
          have HOD := Lib.hid hOD
          clear hON hOD hQs hDs hbi hXl
          simp only [tellC]
          go_wp2_with (refine wpList_storeBlk rfl (.tmp 2) (.tmp 76) rfl rfl [.int .i64 q0, .int .i64 q1, .int .i64 q2, .int .i64 q3, .int .i64 q4, .int .i64 q5, .string (st qn), .bool r0, .int .i64 r1, .int .i64 r2, .slice Aq' nq' cq', .slice Ad' nd' cd', .bool s0, .int .i64 s4, .int .i64 s5, .int .i64 q6, .int .i64 q7, .string (st qm)] rfl rfl (by kernel_rfl) hZi rfl (by simp [Value.oneCell']) ?_)
          have hF := hZi.setRow [.int .i64 q0, .int .i64 q1, .int .i64 q2, .int .i64 q3, .int .i64 q4, .int .i64 q5, .string (st qn), .bool r0, .int .i64 r1, .int .i64 r2, .slice Aq' nq' cq', .slice Ad' nd' cd', .bool s0, .int .i64 s4, .int .i64 s5, .int .i64 q6, .int .i64 q7, .string (st qm)]
          exact bodyPost_ret (v := .agg #[.int .i64 q0, .int .i64 q1, .int .i64 q2, .int .i64 q3, .int .i64 q4, .int .i64 q5, .string (st qn), .bool r0, .int .i64 r1, .int .i64 r2, .slice Aq' nq' cq', .slice Ad' nd' cd', .bool s0, .int .i64 s4, .int .i64 s5, .int .i64 q6, .int .i64 q7, .string (st qm)]) (results_cellBlk Try.results10 rfl hF (by kernel_rfl) tellT_agg) rfl ⟨⟨q0, q1, q2, q3, q4, q5, qn, ⟨r0, r1, r2⟩, qqs, qd, ⟨s0, s4, s5⟩, q6, q7, qm⟩, Aq', nq', cq', Ad', nd', cd', Lib.hid (hq.out.trans (by rw [hv0.out, hv1.out, hv2.out, hv3.out, hv4.out, hv5.out, hv6.out, hv7.out, hg1.out, hg2.out, hh1.out, hh2.out, hnm.out, hsm.out, hls8.out, hlf.out]; rfl)), rfl,
            OwR.lower (OwR.keeps HON.out (keeps_setRow (g := gZ) _ _) (fun k hk e => by have e' : k = gZ := e; omega)) (by omega), Own.lower (Own.keeps HOD.out (keeps_setRow (g := gZ) _ _) (fun k hk e => by have e' : k = gZ := e; omega)) (by omega), below_setRow HBi.out (by omega) _⟩
end Go.Proofs.Ytoplkglnjgllnaa
