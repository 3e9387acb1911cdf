/-
  The reference's bytes of a reply: number, Qid, field.
  The reference's bytes of a reply; its numbers' bounds.
  ref18.May: helpers.
-/
import Derived.Test.YtoplkglnjgllnaaTrB
import Derived.Test.YtoplkglnjgllnaaTrM
import Derived.Test.YtoplkglnjgllnaaTrT
namespace Go.Proofs.Ytoplkglnjgllnaa
open Go.RowKit
set_option linter.unusedVariables false
set_option linter.unusedSimpArgs false

theorem OwB.one (w : World) (base : Nat) (x : UInt8) (v : Value) (hv : v = .int .u8 (x.toNat : Int)) (hb : base ≤ w.heap.size) : OwB (w.alloc (.cells #[v] 5)) base (some ⟨w.heap.size, 0, none⟩) 1 1 [x] :=
  ⟨by simp [bv], .inr ⟨w.heap.size, 1, #[v], (0, 0), rfl, hb, heap_alloc_new w _, .inl (Nat.le_refl _), Nat.le_refl _, by unfold maxLen; omega, by simp, by simp [bv, hv]⟩⟩
theorem le1_0 : le 1 (bitQ false) = [0] := by decide
theorem le1_1 : le 1 (bitQ true) = [128] := by decide
theorem le_64_32 (n : Int) : le 4 (n64 n) = le 4 (n32 n) := by
  have h : n32 n = n64 n % 4294967296 := by unfold n32 n64; omega
  rw [h, le_mod 4 _ _ (by decide)]
theorem le_64_16 (n : Int) : le 2 (n64 n) = le 2 (n16 n) := by
  have h : n16 n = n64 n % 65536 := by unfold n16 n64; omega
  rw [h, le_mod 2 _ _ (by decide)]
theorem tNumber_any (n : Int) (size : Nat) (w : World) (hs : size ≤ 8) :
    Calls Try.prog 57 #[.int .i64 n, .int .i64 size] w (LayPost w (le size (n64 n))) := by
  have h1 := wrap64 n
  have hm := n64_le n
  have h2 : n % 18446744073709551616 = ((n64 n : Nat) : Int) := by unfold n64; omega
  obtain ⟨m, hmm⟩ : ∃ m, m = n64 n := ⟨_, rfl⟩
  rw [← hmm] at h1 h2 hm ⊢
  have HM := Lib.hid hmm
  clear hmm
  go_enter Try.func57, Try.ntmps57
  go_wp2_with fail
  refine (number_any m size _ hm hs).mono ?_
  rintro e w1 ⟨A1, n1, c1, l1, hl1, rfl, hown1, hb1⟩
  go_wp2
  go_ret
  exact ⟨A1, n1, c1, l1, hl1, rfl, hown1, hb1⟩
set_option maxRecDepth 20000 in
set_option maxHeartbeats 2000000 in
theorem tQidB_any (q : QidV) (w : World) :
    Calls Try.prog 59 #[.agg #[.bool q.dir, .int .i64 q.ver, .int .i64 q.path]] w (LayPost w (qidB q)) := by
  obtain ⟨dir, ver, path⟩ := q
  have hQ0 := Blk.new w 23 [.bool dir, .int .i64 ver, .int .i64 path]
  obtain ⟨W, hW⟩ : ∃ W, W = w.alloc (.cells #[.bool dir, .int .i64 ver, .int .i64 path] 23) := ⟨_, rfl⟩
  have hW' : W = w.alloc (.cells [.bool dir, .int .i64 ver, .int .i64 path].toArray 23) := hW
  rw [← hW'] at hQ0
  have hb0 : Below w.heap.size w W := by rw [hW]; exact (Below.refl _ _).alloc (Nat.le_refl _) _
  obtain ⟨Q, hQ⟩ : ∃ Q, Q = w.heap.size := ⟨_, rfl⟩
  rw [← hQ] at hQ0
  have HQ := Lib.hid hQ0
  have HB := Lib.hid hb0
  have hsz : w.heap.size ≤ W.heap.size := hb0.size
  clear hQ0 hb0 hW'
  go_enter Try.func59, Try.ntmps59
  go_upto_region 1 with fail
  rw [← hW, ← hQ]
  clear hW hQ
  have q0 := (HQ.out.alloc (.cells #[.int .u8 0] 5)).cell 0 _ rfl
  rcases dir with _ | _
  · go_upto_region 4 with fail
    have hown0 : OwB (W.alloc (.cells #[.int .u8 0] 5)) W.heap.size (some ⟨W.heap.size, 0, none⟩) 1 1 [0] := OwB.one W W.heap.size 0 (.int .u8 0) rfl (Nat.le_refl _)
    have hb1 : Below W.heap.size W (W.alloc (.cells #[.int .u8 0] 5)) := (Below.refl _ _).alloc (Nat.le_refl _) _
    generalize W.alloc (.cells #[.int .u8 0] 5) = W1 at hown0 hb1 ⊢
    obtain ⟨A0, hA0⟩ : ∃ A0, A0 = some (⟨W.heap.size, 0, none⟩ : Addr) := ⟨_, rfl⟩
    rw [← hA0] at hown0 ⊢
    clear hA0
    have HO0 := Lib.hid hown0
    have HB0 := Lib.hid hb1
    have q1 := (HQ.out.up hb1).cell 1 _ rfl
    clear hown0 hb1 q0
    go_wp2_with fail
    refine (tNumber_any ver 4 _ (by omega)).mono ?_
    rintro e w1c ⟨B1, m1, d1, k1, hk1, rfl, hok1, hbk1⟩
    have HM1 := Lib.hid (show m1 = 4 by rw [← hok1.len, hk1.out]; rw [le_length])
    have hp1 := HO0.out.up hbk1
    have HBc1 := Lib.hid (Up.trans HB0.out hbk1)
    have hsrc1 := Lib.hid (hok1.rd.src (P := Try.prog) (c := d1) 25 5 Try.underlying25)
    have hsz1 : W.heap.size ≤ w1c.heap.size := HBc1.out.size
    have HL1 := Lib.hid hk1
    clear hok1 hbk1
    go_wp2_with (at_builtin; go_must (refine wpList_appendB bytesElem rfl (.tmp 8) (.tmp 11) 25 rfl W.heap.size A0 1 1 [0] rfl hp1 _ rfl m1 k1 hsrc1.out (by have := HM1.out; omega) hsz1 ?_); intro A1 n1 c1 l1 w1 hl1 hn1 hown1 hb1 hg1; have q2 := (HQ.out.up (HBc1.out.trans hb1)).cell 2 _ rfl)
    have HO1 := Lib.hid hown1
    have HB1 := Lib.hid (HBc1.out.trans hb1)
    have HN1 := Lib.hid (show n1 ≤ 90000 by have := hn1.out; have := HM1.out; omega)
    clear hown1 hb1 hg1 hsrc1 hp1
    refine (tNumber_any path 8 _ (by omega)).mono ?_
    rintro e w2c ⟨B2, m2, d2, k2, hk2, rfl, hok2, hbk2⟩
    have HM2 := Lib.hid (show m2 = 8 by rw [← hok2.len, hk2.out]; rw [le_length])
    have hp2 := HO1.out.up hbk2
    have HBc2 := Lib.hid (Up.trans HB1.out hbk2)
    have hsrc2 := Lib.hid (hok2.rd.src (P := Try.prog) (c := d2) 25 5 Try.underlying25)
    have hsz2 : W.heap.size ≤ w2c.heap.size := HBc2.out.size
    have HL2 := Lib.hid hk2
    clear hok2 hbk2
    go_wp2_with (at_builtin; go_must (refine wpList_appendB bytesElem rfl (.tmp 13) (.tmp 16) 25 rfl W.heap.size A1 n1 c1 l1 rfl hp2 _ rfl m2 k2 hsrc2.out (by have := HM2.out; have := HN1.out; omega) hsz2 ?_); intro A2 n2 c2 l2 w2 hl2 hn2 hown2 hb2 hg2)
    have HO2 := Lib.hid hown2
    have HB2 := Lib.hid (HBc2.out.trans hb2)
    have HN2 := Lib.hid (show n2 ≤ 160000 by have := hn2.out; have := HM2.out; have := HN1.out; omega)
    clear hown2 hb2 hg2 hsrc2 hp2
    go_ret
    refine ⟨A2, n2, c2, l2, ?_, rfl, OwB.lower HO2.out hsz, HB.out.trans (HB2.out.mono hsz)⟩
    show _ = _
    rw [hl2.out, HL2.out, hl1.out, HL1.out, le_64_32, qidB]
    simp only [le1_0]
  · go_upto_region 4 with fail
    have hown0 : OwB ((W.alloc (.cells #[.int .u8 0] 5)).alloc (.cells #[.int .u8 128] 5)) W.heap.size (some ⟨W.heap.size + 1, 0, none⟩) 1 1 [128] := by simpa using OwB.one (W.alloc (.cells #[.int .u8 0] 5)) W.heap.size 128 (.int .u8 128) rfl (by simp)
    have hb1 : Below W.heap.size W ((W.alloc (.cells #[.int .u8 0] 5)).alloc (.cells #[.int .u8 128] 5)) := ((Below.refl _ _).alloc (Nat.le_refl _) _).alloc (by simp) _
    generalize (W.alloc (.cells #[.int .u8 0] 5)).alloc (.cells #[.int .u8 128] 5) = W1 at hown0 hb1 ⊢
    obtain ⟨A0, hA0⟩ : ∃ A0, A0 = some (⟨W.heap.size + 1, 0, none⟩ : Addr) := ⟨_, rfl⟩
    rw [← hA0] at hown0 ⊢
    clear hA0
    have HO0 := Lib.hid hown0
    have HB0 := Lib.hid hb1
    have q1 := (HQ.out.up hb1).cell 1 _ rfl
    clear hown0 hb1 q0
    go_wp2_with fail
    refine (tNumber_any ver 4 _ (by omega)).mono ?_
    rintro e w1c ⟨B1, m1, d1, k1, hk1, rfl, hok1, hbk1⟩
    have HM1 := Lib.hid (show m1 = 4 by rw [← hok1.len, hk1.out]; rw [le_length])
    have hp1 := HO0.out.up hbk1
    have HBc1 := Lib.hid (Up.trans HB0.out hbk1)
    have hsrc1 := Lib.hid (hok1.rd.src (P := Try.prog) (c := d1) 25 5 Try.underlying25)
    have hsz1 : W.heap.size ≤ w1c.heap.size := HBc1.out.size
    have HL1 := Lib.hid hk1
    clear hok1 hbk1
    go_wp2_with (at_builtin; go_must (refine wpList_appendB bytesElem rfl (.tmp 8) (.tmp 11) 25 rfl W.heap.size A0 1 1 [128] rfl hp1 _ rfl m1 k1 hsrc1.out (by have := HM1.out; omega) hsz1 ?_); intro A1 n1 c1 l1 w1 hl1 hn1 hown1 hb1 hg1; have q2 := (HQ.out.up (HBc1.out.trans hb1)).cell 2 _ rfl)
    have HO1 := Lib.hid hown1
    have HB1 := Lib.hid (HBc1.out.trans hb1)
    have HN1 := Lib.hid (show n1 ≤ 90000 by have := hn1.out; have := HM1.out; omega)
    clear hown1 hb1 hg1 hsrc1 hp1
    refine (tNumber_any path 8 _ (by omega)).mono ?_
    rintro e w2c ⟨B2, m2, d2, k2, hk2, rfl, hok2, hbk2⟩
    have HM2 := Lib.hid (show m2 = 8 by rw [← hok2.len, hk2.out]; rw [le_length])
    have hp2 := HO1.out.up hbk2
    have HBc2 := Lib.hid (Up.trans HB1.out hbk2)
    have hsrc2 := Lib.hid (hok2.rd.src (P := Try.prog) (c := d2) 25 5 Try.underlying25)
    have hsz2 : W.heap.size ≤ w2c.heap.size := HBc2.out.size
    have HL2 := Lib.hid hk2
    clear hok2 hbk2
    go_wp2_with (at_builtin; go_must (refine wpList_appendB bytesElem rfl (.tmp 13) (.tmp 16) 25 rfl W.heap.size A1 n1 c1 l1 rfl hp2 _ rfl m2 k2 hsrc2.out (by have := HM2.out; have := HN1.out; omega) hsz2 ?_); intro A2 n2 c2 l2 w2 hl2 hn2 hown2 hb2 hg2)
    have HO2 := Lib.hid hown2
    have HB2 := Lib.hid (HBc2.out.trans hb2)
    have HN2 := Lib.hid (show n2 ≤ 160000 by have := hn2.out; have := HM2.out; have := HN1.out; omega)
    clear hown2 hb2 hg2 hsrc2 hp2
    go_ret
    refine ⟨A2, n2, c2, l2, ?_, rfl, OwB.lower HO2.out hsz, HB.out.trans (HB2.out.mono hsz)⟩
    show _ = _
    rw [hl2.out, HL2.out, hl1.out, HL1.out, le_64_32, qidB]
    simp only [le1_1]
/-- A field's bytes. -/
def fieldB (t : TellV) (f : UInt8) : List UInt8 :=
  if f = 122 then le 4 (n32 t.msize) else if f = 110 then le 2 t.name.length ++ t.name else if f = 113 then qidB t.qid else if f = 101 then le 2 (n16 t.code) else if f = 105 then le 4 (n32 t.iounit) else if f = 100 then le 4 t.data.length ++ t.data else if f = 99 then le 4 (n32 t.count) else if f = 115 then qidB t.sqid ++ le 4 (n32 t.smode) ++ le 8 (n64 t.ssize) ++ (le 2 t.sname.length ++ t.sname) else if f = 108 then le 2 t.qids.length ++ t.qids.flatMap qidB else []
set_option maxRecDepth 20000 in
set_option maxHeartbeats 4000000 in
theorem field_122 (kind tag code msize iounit count : Int) (name : List UInt8) (qdir : Bool) (qver qpath : Int) (qids : List QidV) (data : List UInt8) (sdir : Bool) (sver spath smode ssize : Int) (sname : List UInt8) (Aq : Option Addr) (nq cq : Nat) (Ad : Option Addr) (nd cd : Nat) (w : World) (hq : RdR w w.heap.size 3 Aq nq (qids.map qidC)) (hd : RdB w w.heap.size Ad nd data) (hnq : nq ≤ 1000) (hnd : nd ≤ 1000000) (hnl : name.length ≤ 65535) (hsl : sname.length ≤ 65535) :
    Calls Try.prog 40 #[.agg #[.int .i64 kind, .int .i64 tag, .int .i64 code, .int .i64 msize, .int .i64 iounit, .int .i64 count, .string (st name), .bool qdir, .int .i64 qver, .int .i64 qpath, .slice Aq nq cq, .slice Ad nd cd, .bool sdir, .int .i64 sver, .int .i64 spath, .int .i64 smode, .int .i64 ssize, .string (st sname)], .int .u8 122] w (LayPost w (fieldB ⟨kind, tag, code, msize, iounit, count, name, ⟨qdir, qver, qpath⟩, qids, data, ⟨sdir, sver, spath⟩, smode, ssize, sname⟩ 122)) := by
  have hA0 := Blk.new w 29 [.int .i64 kind, .int .i64 tag, .int .i64 code, .int .i64 msize, .int .i64 iounit, .int .i64 count, .string (st name), .bool qdir, .int .i64 qver, .int .i64 qpath, .slice Aq nq cq, .slice Ad nd cd, .bool sdir, .int .i64 sver, .int .i64 spath, .int .i64 smode, .int .i64 ssize, .string (st sname)]
  obtain ⟨W, hW⟩ : ∃ W, W = w.alloc (.cells #[.int .i64 kind, .int .i64 tag, .int .i64 code, .int .i64 msize, .int .i64 iounit, .int .i64 count, .string (st name), .bool qdir, .int .i64 qver, .int .i64 qpath, .slice Aq nq cq, .slice Ad nd cd, .bool sdir, .int .i64 sver, .int .i64 spath, .int .i64 smode, .int .i64 ssize, .string (st sname)] 29) := ⟨_, rfl⟩
  have hW' : W = w.alloc (.cells [.int .i64 kind, .int .i64 tag, .int .i64 code, .int .i64 msize, .int .i64 iounit, .int .i64 count, .string (st name), .bool qdir, .int .i64 qver, .int .i64 qpath, .slice Aq nq cq, .slice Ad nd cd, .bool sdir, .int .i64 sver, .int .i64 spath, .int .i64 smode, .int .i64 ssize, .string (st sname)].toArray 29) := hW
  rw [← hW'] at hA0
  have hb0 : Below w.heap.size w W := by rw [hW]; exact (Below.refl _ _).alloc (Nat.le_refl _) _
  obtain ⟨Q, hQ⟩ : ∃ Q, Q = w.heap.size := ⟨_, rfl⟩
  rw [← hQ] at hA0
  have HQ := Lib.hid hA0
  have HB := Lib.hid hb0
  have HRQ := Lib.hid (hq.up hb0)
  have HRD := Lib.hid (hd.up hb0)
  have hsz : w.heap.size ≤ W.heap.size := hb0.size
  clear hA0 hb0 hW' hq hd
  have q3 := HQ.out.cell 3 _ rfl
  go_enter Try.func40, Try.ntmps40
  go_upto_region 1 with fail
  rw [← hW, ← hQ]
  clear hW hQ
  go_wp2_with fail
  refine (tNumber_any msize 4 _ (by omega)).mono ?_
  rintro e w1 ⟨B, m, d, k, hk, rfl, hok, hbk⟩
  have HO := Lib.hid (hok.lower hsz)
  have HBk := Lib.hid (HB.out.trans (hbk.mono hsz))
  clear hok hbk q3
  go_wp2
  go_ret
  exact ⟨B, m, d, k, Lib.hid (by rw [hk.out, le_64_32]; rfl), rfl, HO.out, HBk.out⟩
set_option maxRecDepth 20000 in
set_option maxHeartbeats 4000000 in
theorem field_110 (kind tag code msize iounit count : Int) (name : List UInt8) (qdir : Bool) (qver qpath : Int) (qids : List QidV) (data : List UInt8) (sdir : Bool) (sver spath smode ssize : Int) (sname : List UInt8) (Aq : Option Addr) (nq cq : Nat) (Ad : Option Addr) (nd cd : Nat) (w : World) (hq : RdR w w.heap.size 3 Aq nq (qids.map qidC)) (hd : RdB w w.heap.size Ad nd data) (hnq : nq ≤ 1000) (hnd : nd ≤ 1000000) (hnl : name.length ≤ 65535) (hsl : sname.length ≤ 65535) :
    Calls Try.prog 40 #[.agg #[.int .i64 kind, .int .i64 tag, .int .i64 code, .int .i64 msize, .int .i64 iounit, .int .i64 count, .string (st name), .bool qdir, .int .i64 qver, .int .i64 qpath, .slice Aq nq cq, .slice Ad nd cd, .bool sdir, .int .i64 sver, .int .i64 spath, .int .i64 smode, .int .i64 ssize, .string (st sname)], .int .u8 110] w (LayPost w (fieldB ⟨kind, tag, code, msize, iounit, count, name, ⟨qdir, qver, qpath⟩, qids, data, ⟨sdir, sver, spath⟩, smode, ssize, sname⟩ 110)) := by
  have hA0 := Blk.new w 29 [.int .i64 kind, .int .i64 tag, .int .i64 code, .int .i64 msize, .int .i64 iounit, .int .i64 count, .string (st name), .bool qdir, .int .i64 qver, .int .i64 qpath, .slice Aq nq cq, .slice Ad nd cd, .bool sdir, .int .i64 sver, .int .i64 spath, .int .i64 smode, .int .i64 ssize, .string (st sname)]
  obtain ⟨W, hW⟩ : ∃ W, W = w.alloc (.cells #[.int .i64 kind, .int .i64 tag, .int .i64 code, .int .i64 msize, .int .i64 iounit, .int .i64 count, .string (st name), .bool qdir, .int .i64 qver, .int .i64 qpath, .slice Aq nq cq, .slice Ad nd cd, .bool sdir, .int .i64 sver, .int .i64 spath, .int .i64 smode, .int .i64 ssize, .string (st sname)] 29) := ⟨_, rfl⟩
  have hW' : W = w.alloc (.cells [.int .i64 kind, .int .i64 tag, .int .i64 code, .int .i64 msize, .int .i64 iounit, .int .i64 count, .string (st name), .bool qdir, .int .i64 qver, .int .i64 qpath, .slice Aq nq cq, .slice Ad nd cd, .bool sdir, .int .i64 sver, .int .i64 spath, .int .i64 smode, .int .i64 ssize, .string (st sname)].toArray 29) := hW
  rw [← hW'] at hA0
  have hb0 : Below w.heap.size w W := by rw [hW]; exact (Below.refl _ _).alloc (Nat.le_refl _) _
  obtain ⟨Q, hQ⟩ : ∃ Q, Q = w.heap.size := ⟨_, rfl⟩
  rw [← hQ] at hA0
  have HQ := Lib.hid hA0
  have HB := Lib.hid hb0
  have HRQ := Lib.hid (hq.up hb0)
  have HRD := Lib.hid (hd.up hb0)
  have hsz : w.heap.size ≤ W.heap.size := hb0.size
  clear hA0 hb0 hW' hq hd
  have q6 := HQ.out.cell 6 _ rfl
  go_enter Try.func40, Try.ntmps40
  go_upto_region 1 with fail
  rw [← hW, ← hQ]
  clear hW hQ
  go_wp2_with fail
  refine (refText_any name _ hnl).mono ?_
  rintro e w1 ⟨B, m, d, k, hk, rfl, hok, hbk⟩
  have HO := Lib.hid (hok.lower hsz)
  have HBk := Lib.hid (HB.out.trans (hbk.mono hsz))
  clear hok hbk q6
  go_wp2
  go_ret
  exact ⟨B, m, d, k, Lib.hid (by rw [hk.out]; rfl), rfl, HO.out, HBk.out⟩
set_option maxRecDepth 20000 in
set_option maxHeartbeats 4000000 in
theorem field_113 (kind tag code msize iounit count : Int) (name : List UInt8) (qdir : Bool) (qver qpath : Int) (qids : List QidV) (data : List UInt8) (sdir : Bool) (sver spath smode ssize : Int) (sname : List UInt8) (Aq : Option Addr) (nq cq : Nat) (Ad : Option Addr) (nd cd : Nat) (w : World) (hq : RdR w w.heap.size 3 Aq nq (qids.map qidC)) (hd : RdB w w.heap.size Ad nd data) (hnq : nq ≤ 1000) (hnd : nd ≤ 1000000) (hnl : name.length ≤ 65535) (hsl : sname.length ≤ 65535) :
    Calls Try.prog 40 #[.agg #[.int .i64 kind, .int .i64 tag, .int .i64 code, .int .i64 msize, .int .i64 iounit, .int .i64 count, .string (st name), .bool qdir, .int .i64 qver, .int .i64 qpath, .slice Aq nq cq, .slice Ad nd cd, .bool sdir, .int .i64 sver, .int .i64 spath, .int .i64 smode, .int .i64 ssize, .string (st sname)], .int .u8 113] w (LayPost w (fieldB ⟨kind, tag, code, msize, iounit, count, name, ⟨qdir, qver, qpath⟩, qids, data, ⟨sdir, sver, spath⟩, smode, ssize, sname⟩ 113)) := by
  have hA0 := Blk.new w 29 [.int .i64 kind, .int .i64 tag, .int .i64 code, .int .i64 msize, .int .i64 iounit, .int .i64 count, .string (st name), .bool qdir, .int .i64 qver, .int .i64 qpath, .slice Aq nq cq, .slice Ad nd cd, .bool sdir, .int .i64 sver, .int .i64 spath, .int .i64 smode, .int .i64 ssize, .string (st sname)]
  obtain ⟨W, hW⟩ : ∃ W, W = w.alloc (.cells #[.int .i64 kind, .int .i64 tag, .int .i64 code, .int .i64 msize, .int .i64 iounit, .int .i64 count, .string (st name), .bool qdir, .int .i64 qver, .int .i64 qpath, .slice Aq nq cq, .slice Ad nd cd, .bool sdir, .int .i64 sver, .int .i64 spath, .int .i64 smode, .int .i64 ssize, .string (st sname)] 29) := ⟨_, rfl⟩
  have hW' : W = w.alloc (.cells [.int .i64 kind, .int .i64 tag, .int .i64 code, .int .i64 msize, .int .i64 iounit, .int .i64 count, .string (st name), .bool qdir, .int .i64 qver, .int .i64 qpath, .slice Aq nq cq, .slice Ad nd cd, .bool sdir, .int .i64 sver, .int .i64 spath, .int .i64 smode, .int .i64 ssize, .string (st sname)].toArray 29) := hW
  rw [← hW'] at hA0
  have hb0 : Below w.heap.size w W := by rw [hW]; exact (Below.refl _ _).alloc (Nat.le_refl _) _
  obtain ⟨Q, hQ⟩ : ∃ Q, Q = w.heap.size := ⟨_, rfl⟩
  rw [← hQ] at hA0
  have HQ := Lib.hid hA0
  have HB := Lib.hid hb0
  have HRQ := Lib.hid (hq.up hb0)
  have HRD := Lib.hid (hd.up hb0)
  have hsz : w.heap.size ≤ W.heap.size := hb0.size
  clear hA0 hb0 hW' hq hd
  have q7 := HQ.out.cell 7 _ rfl
  have q8 := HQ.out.cell 8 _ rfl
  have q9 := HQ.out.cell 9 _ rfl
  go_enter Try.func40, Try.ntmps40
  go_upto_region 1 with fail
  rw [← hW, ← hQ]
  clear hW hQ
  go_wp2_with fail
  refine (tQidB_any ⟨qdir, qver, qpath⟩ _).mono ?_
  rintro e w1 ⟨B, m, d, k, hk, rfl, hok, hbk⟩
  have HO := Lib.hid (hok.lower hsz)
  have HBk := Lib.hid (HB.out.trans (hbk.mono hsz))
  clear hok hbk q7 q8 q9
  go_wp2
  go_ret
  exact ⟨B, m, d, k, Lib.hid (by rw [hk.out]; rfl), rfl, HO.out, HBk.out⟩
set_option maxRecDepth 20000 in
set_option maxHeartbeats 4000000 in
theorem field_101 (kind tag code msize iounit count : Int) (name : List UInt8) (qdir : Bool) (qver qpath : Int) (qids : List QidV) (data : List UInt8) (sdir : Bool) (sver spath smode ssize : Int) (sname : List UInt8) (Aq : Option Addr) (nq cq : Nat) (Ad : Option Addr) (nd cd : Nat) (w : World) (hq : RdR w w.heap.size 3 Aq nq (qids.map qidC)) (hd : RdB w w.heap.size Ad nd data) (hnq : nq ≤ 1000) (hnd : nd ≤ 1000000) (hnl : name.length ≤ 65535) (hsl : sname.length ≤ 65535) :
    Calls Try.prog 40 #[.agg #[.int .i64 kind, .int .i64 tag, .int .i64 code, .int .i64 msize, .int .i64 iounit, .int .i64 count, .string (st name), .bool qdir, .int .i64 qver, .int .i64 qpath, .slice Aq nq cq, .slice Ad nd cd, .bool sdir, .int .i64 sver, .int .i64 spath, .int .i64 smode, .int .i64 ssize, .string (st sname)], .int .u8 101] w (LayPost w (fieldB ⟨kind, tag, code, msize, iounit, count, name, ⟨qdir, qver, qpath⟩, qids, data, ⟨sdir, sver, spath⟩, smode, ssize, sname⟩ 101)) := by
  have hA0 := Blk.new w 29 [.int .i64 kind, .int .i64 tag, .int .i64 code, .int .i64 msize, .int .i64 iounit, .int .i64 count, .string (st name), .bool qdir, .int .i64 qver, .int .i64 qpath, .slice Aq nq cq, .slice Ad nd cd, .bool sdir, .int .i64 sver, .int .i64 spath, .int .i64 smode, .int .i64 ssize, .string (st sname)]
  obtain ⟨W, hW⟩ : ∃ W, W = w.alloc (.cells #[.int .i64 kind, .int .i64 tag, .int .i64 code, .int .i64 msize, .int .i64 iounit, .int .i64 count, .string (st name), .bool qdir, .int .i64 qver, .int .i64 qpath, .slice Aq nq cq, .slice Ad nd cd, .bool sdir, .int .i64 sver, .int .i64 spath, .int .i64 smode, .int .i64 ssize, .string (st sname)] 29) := ⟨_, rfl⟩
  have hW' : W = w.alloc (.cells [.int .i64 kind, .int .i64 tag, .int .i64 code, .int .i64 msize, .int .i64 iounit, .int .i64 count, .string (st name), .bool qdir, .int .i64 qver, .int .i64 qpath, .slice Aq nq cq, .slice Ad nd cd, .bool sdir, .int .i64 sver, .int .i64 spath, .int .i64 smode, .int .i64 ssize, .string (st sname)].toArray 29) := hW
  rw [← hW'] at hA0
  have hb0 : Below w.heap.size w W := by rw [hW]; exact (Below.refl _ _).alloc (Nat.le_refl _) _
  obtain ⟨Q, hQ⟩ : ∃ Q, Q = w.heap.size := ⟨_, rfl⟩
  rw [← hQ] at hA0
  have HQ := Lib.hid hA0
  have HB := Lib.hid hb0
  have HRQ := Lib.hid (hq.up hb0)
  have HRD := Lib.hid (hd.up hb0)
  have hsz : w.heap.size ≤ W.heap.size := hb0.size
  clear hA0 hb0 hW' hq hd
  have q2 := HQ.out.cell 2 _ rfl
  go_enter Try.func40, Try.ntmps40
  go_upto_region 1 with fail
  rw [← hW, ← hQ]
  clear hW hQ
  go_wp2_with fail
  refine (tNumber_any code 2 _ (by omega)).mono ?_
  rintro e w1 ⟨B, m, d, k, hk, rfl, hok, hbk⟩
  have HO := Lib.hid (hok.lower hsz)
  have HBk := Lib.hid (HB.out.trans (hbk.mono hsz))
  clear hok hbk q2
  go_wp2
  go_ret
  exact ⟨B, m, d, k, Lib.hid (by rw [hk.out, le_64_16]; rfl), rfl, HO.out, HBk.out⟩
set_option maxRecDepth 20000 in
set_option maxHeartbeats 4000000 in
theorem field_105 (kind tag code msize iounit count : Int) (name : List UInt8) (qdir : Bool) (qver qpath : Int) (qids : List QidV) (data : List UInt8) (sdir : Bool) (sver spath smode ssize : Int) (sname : List UInt8) (Aq : Option Addr) (nq cq : Nat) (Ad : Option Addr) (nd cd : Nat) (w : World) (hq : RdR w w.heap.size 3 Aq nq (qids.map qidC)) (hd : RdB w w.heap.size Ad nd data) (hnq : nq ≤ 1000) (hnd : nd ≤ 1000000) (hnl : name.length ≤ 65535) (hsl : sname.length ≤ 65535) :
    Calls Try.prog 40 #[.agg #[.int .i64 kind, .int .i64 tag, .int .i64 code, .int .i64 msize, .int .i64 iounit, .int .i64 count, .string (st name), .bool qdir, .int .i64 qver, .int .i64 qpath, .slice Aq nq cq, .slice Ad nd cd, .bool sdir, .int .i64 sver, .int .i64 spath, .int .i64 smode, .int .i64 ssize, .string (st sname)], .int .u8 105] w (LayPost w (fieldB ⟨kind, tag, code, msize, iounit, count, name, ⟨qdir, qver, qpath⟩, qids, data, ⟨sdir, sver, spath⟩, smode, ssize, sname⟩ 105)) := by
  have hA0 := Blk.new w 29 [.int .i64 kind, .int .i64 tag, .int .i64 code, .int .i64 msize, .int .i64 iounit, .int .i64 count, .string (st name), .bool qdir, .int .i64 qver, .int .i64 qpath, .slice Aq nq cq, .slice Ad nd cd, .bool sdir, .int .i64 sver, .int .i64 spath, .int .i64 smode, .int .i64 ssize, .string (st sname)]
  obtain ⟨W, hW⟩ : ∃ W, W = w.alloc (.cells #[.int .i64 kind, .int .i64 tag, .int .i64 code, .int .i64 msize, .int .i64 iounit, .int .i64 count, .string (st name), .bool qdir, .int .i64 qver, .int .i64 qpath, .slice Aq nq cq, .slice Ad nd cd, .bool sdir, .int .i64 sver, .int .i64 spath, .int .i64 smode, .int .i64 ssize, .string (st sname)] 29) := ⟨_, rfl⟩
  have hW' : W = w.alloc (.cells [.int .i64 kind, .int .i64 tag, .int .i64 code, .int .i64 msize, .int .i64 iounit, .int .i64 count, .string (st name), .bool qdir, .int .i64 qver, .int .i64 qpath, .slice Aq nq cq, .slice Ad nd cd, .bool sdir, .int .i64 sver, .int .i64 spath, .int .i64 smode, .int .i64 ssize, .string (st sname)].toArray 29) := hW
  rw [← hW'] at hA0
  have hb0 : Below w.heap.size w W := by rw [hW]; exact (Below.refl _ _).alloc (Nat.le_refl _) _
  obtain ⟨Q, hQ⟩ : ∃ Q, Q = w.heap.size := ⟨_, rfl⟩
  rw [← hQ] at hA0
  have HQ := Lib.hid hA0
  have HB := Lib.hid hb0
  have HRQ := Lib.hid (hq.up hb0)
  have HRD := Lib.hid (hd.up hb0)
  have hsz : w.heap.size ≤ W.heap.size := hb0.size
  clear hA0 hb0 hW' hq hd
  have q4 := HQ.out.cell 4 _ rfl
  go_enter Try.func40, Try.ntmps40
  go_upto_region 1 with fail
  rw [← hW, ← hQ]
  clear hW hQ
  go_wp2_with fail
  refine (tNumber_any iounit 4 _ (by omega)).mono ?_
  rintro e w1 ⟨B, m, d, k, hk, rfl, hok, hbk⟩
  have HO := Lib.hid (hok.lower hsz)
  have HBk := Lib.hid (HB.out.trans (hbk.mono hsz))
  clear hok hbk q4
  go_wp2
  go_ret
  exact ⟨B, m, d, k, Lib.hid (by rw [hk.out, le_64_32]; rfl), rfl, HO.out, HBk.out⟩
set_option maxRecDepth 20000 in
set_option maxHeartbeats 4000000 in
theorem field_100 (kind tag code msize iounit count : Int) (name : List UInt8) (qdir : Bool) (qver qpath : Int) (qids : List QidV) (data : List UInt8) (sdir : Bool) (sver spath smode ssize : Int) (sname : List UInt8) (Aq : Option Addr) (nq cq : Nat) (Ad : Option Addr) (nd cd : Nat) (w : World) (hq : RdR w w.heap.size 3 Aq nq (qids.map qidC)) (hd : RdB w w.heap.size Ad nd data) (hnq : nq ≤ 1000) (hnd : nd ≤ 1000000) (hnl : name.length ≤ 65535) (hsl : sname.length ≤ 65535) :
    Calls Try.prog 40 #[.agg #[.int .i64 kind, .int .i64 tag, .int .i64 code, .int .i64 msize, .int .i64 iounit, .int .i64 count, .string (st name), .bool qdir, .int .i64 qver, .int .i64 qpath, .slice Aq nq cq, .slice Ad nd cd, .bool sdir, .int .i64 sver, .int .i64 spath, .int .i64 smode, .int .i64 ssize, .string (st sname)], .int .u8 100] w (LayPost w (fieldB ⟨kind, tag, code, msize, iounit, count, name, ⟨qdir, qver, qpath⟩, qids, data, ⟨sdir, sver, spath⟩, smode, ssize, sname⟩ 100)) := by
  have hA0 := Blk.new w 29 [.int .i64 kind, .int .i64 tag, .int .i64 code, .int .i64 msize, .int .i64 iounit, .int .i64 count, .string (st name), .bool qdir, .int .i64 qver, .int .i64 qpath, .slice Aq nq cq, .slice Ad nd cd, .bool sdir, .int .i64 sver, .int .i64 spath, .int .i64 smode, .int .i64 ssize, .string (st sname)]
  obtain ⟨W, hW⟩ : ∃ W, W = w.alloc (.cells #[.int .i64 kind, .int .i64 tag, .int .i64 code, .int .i64 msize, .int .i64 iounit, .int .i64 count, .string (st name), .bool qdir, .int .i64 qver, .int .i64 qpath, .slice Aq nq cq, .slice Ad nd cd, .bool sdir, .int .i64 sver, .int .i64 spath, .int .i64 smode, .int .i64 ssize, .string (st sname)] 29) := ⟨_, rfl⟩
  have hW' : W = w.alloc (.cells [.int .i64 kind, .int .i64 tag, .int .i64 code, .int .i64 msize, .int .i64 iounit, .int .i64 count, .string (st name), .bool qdir, .int .i64 qver, .int .i64 qpath, .slice Aq nq cq, .slice Ad nd cd, .bool sdir, .int .i64 sver, .int .i64 spath, .int .i64 smode, .int .i64 ssize, .string (st sname)].toArray 29) := hW
  rw [← hW'] at hA0
  have hb0 : Below w.heap.size w W := by rw [hW]; exact (Below.refl _ _).alloc (Nat.le_refl _) _
  obtain ⟨Q, hQ⟩ : ∃ Q, Q = w.heap.size := ⟨_, rfl⟩
  rw [← hQ] at hA0
  have HQ := Lib.hid hA0
  have HB := Lib.hid hb0
  have HRQ := Lib.hid (hq.up hb0)
  have HRD := Lib.hid (hd.up hb0)
  have hsz : w.heap.size ≤ W.heap.size := hb0.size
  clear hA0 hb0 hW' hq hd
  have q11 := HQ.out.cell 11 _ rfl
  go_enter Try.func40, Try.ntmps40
  go_upto_region 1 with fail
  rw [← hW, ← hQ]
  clear hW hQ
  go_wp2_with fail
  refine (refData_any Ad nd cd data _ HRD.out (by omega)).mono ?_
  rintro e w1 ⟨B, m, d, k, hk, rfl, hok, hbk⟩
  have HO := Lib.hid (hok.lower hsz)
  have HBk := Lib.hid (HB.out.trans (hbk.mono hsz))
  clear hok hbk q11
  go_wp2
  go_ret
  exact ⟨B, m, d, k, Lib.hid (by rw [hk.out, ← HRD.out.len]; rfl), rfl, HO.out, HBk.out⟩
set_option maxRecDepth 20000 in
set_option maxHeartbeats 4000000 in
theorem field_99 (kind tag code msize iounit count : Int) (name : List UInt8) (qdir : Bool) (qver qpath : Int) (qids : List QidV) (data : List UInt8) (sdir : Bool) (sver spath smode ssize : Int) (sname : List UInt8) (Aq : Option Addr) (nq cq : Nat) (Ad : Option Addr) (nd cd : Nat) (w : World) (hq : RdR w w.heap.size 3 Aq nq (qids.map qidC)) (hd : RdB w w.heap.size Ad nd data) (hnq : nq ≤ 1000) (hnd : nd ≤ 1000000) (hnl : name.length ≤ 65535) (hsl : sname.length ≤ 65535) :
    Calls Try.prog 40 #[.agg #[.int .i64 kind, .int .i64 tag, .int .i64 code, .int .i64 msize, .int .i64 iounit, .int .i64 count, .string (st name), .bool qdir, .int .i64 qver, .int .i64 qpath, .slice Aq nq cq, .slice Ad nd cd, .bool sdir, .int .i64 sver, .int .i64 spath, .int .i64 smode, .int .i64 ssize, .string (st sname)], .int .u8 99] w (LayPost w (fieldB ⟨kind, tag, code, msize, iounit, count, name, ⟨qdir, qver, qpath⟩, qids, data, ⟨sdir, sver, spath⟩, smode, ssize, sname⟩ 99)) := by
  have hA0 := Blk.new w 29 [.int .i64 kind, .int .i64 tag, .int .i64 code, .int .i64 msize, .int .i64 iounit, .int .i64 count, .string (st name), .bool qdir, .int .i64 qver, .int .i64 qpath, .slice Aq nq cq, .slice Ad nd cd, .bool sdir, .int .i64 sver, .int .i64 spath, .int .i64 smode, .int .i64 ssize, .string (st sname)]
  obtain ⟨W, hW⟩ : ∃ W, W = w.alloc (.cells #[.int .i64 kind, .int .i64 tag, .int .i64 code, .int .i64 msize, .int .i64 iounit, .int .i64 count, .string (st name), .bool qdir, .int .i64 qver, .int .i64 qpath, .slice Aq nq cq, .slice Ad nd cd, .bool sdir, .int .i64 sver, .int .i64 spath, .int .i64 smode, .int .i64 ssize, .string (st sname)] 29) := ⟨_, rfl⟩
  have hW' : W = w.alloc (.cells [.int .i64 kind, .int .i64 tag, .int .i64 code, .int .i64 msize, .int .i64 iounit, .int .i64 count, .string (st name), .bool qdir, .int .i64 qver, .int .i64 qpath, .slice Aq nq cq, .slice Ad nd cd, .bool sdir, .int .i64 sver, .int .i64 spath, .int .i64 smode, .int .i64 ssize, .string (st sname)].toArray 29) := hW
  rw [← hW'] at hA0
  have hb0 : Below w.heap.size w W := by rw [hW]; exact (Below.refl _ _).alloc (Nat.le_refl _) _
  obtain ⟨Q, hQ⟩ : ∃ Q, Q = w.heap.size := ⟨_, rfl⟩
  rw [← hQ] at hA0
  have HQ := Lib.hid hA0
  have HB := Lib.hid hb0
  have HRQ := Lib.hid (hq.up hb0)
  have HRD := Lib.hid (hd.up hb0)
  have hsz : w.heap.size ≤ W.heap.size := hb0.size
  clear hA0 hb0 hW' hq hd
  have q5 := HQ.out.cell 5 _ rfl
  go_enter Try.func40, Try.ntmps40
  go_upto_region 1 with fail
  rw [← hW, ← hQ]
  clear hW hQ
  go_wp2_with fail
  refine (tNumber_any count 4 _ (by omega)).mono ?_
  rintro e w1 ⟨B, m, d, k, hk, rfl, hok, hbk⟩
  have HO := Lib.hid (hok.lower hsz)
  have HBk := Lib.hid (HB.out.trans (hbk.mono hsz))
  clear hok hbk q5
  go_wp2
  go_ret
  exact ⟨B, m, d, k, Lib.hid (by rw [hk.out, le_64_32]; rfl), rfl, HO.out, HBk.out⟩
set_option maxRecDepth 20000 in
set_option maxHeartbeats 4000000 in
theorem field_45 (kind tag code msize iounit count : Int) (name : List UInt8) (qdir : Bool) (qver qpath : Int) (qids : List QidV) (data : List UInt8) (sdir : Bool) (sver spath smode ssize : Int) (sname : List UInt8) (Aq : Option Addr) (nq cq : Nat) (Ad : Option Addr) (nd cd : Nat) (w : World) (hq : RdR w w.heap.size 3 Aq nq (qids.map qidC)) (hd : RdB w w.heap.size Ad nd data) (hnq : nq ≤ 1000) (hnd : nd ≤ 1000000) (hnl : name.length ≤ 65535) (hsl : sname.length ≤ 65535) :
    Calls Try.prog 40 #[.agg #[.int .i64 kind, .int .i64 tag, .int .i64 code, .int .i64 msize, .int .i64 iounit, .int .i64 count, .string (st name), .bool qdir, .int .i64 qver, .int .i64 qpath, .slice Aq nq cq, .slice Ad nd cd, .bool sdir, .int .i64 sver, .int .i64 spath, .int .i64 smode, .int .i64 ssize, .string (st sname)], .int .u8 45] w (LayPost w (fieldB ⟨kind, tag, code, msize, iounit, count, name, ⟨qdir, qver, qpath⟩, qids, data, ⟨sdir, sver, spath⟩, smode, ssize, sname⟩ 45)) := by
  have hA0 := Blk.new w 29 [.int .i64 kind, .int .i64 tag, .int .i64 code, .int .i64 msize, .int .i64 iounit, .int .i64 count, .string (st name), .bool qdir, .int .i64 qver, .int .i64 qpath, .slice Aq nq cq, .slice Ad nd cd, .bool sdir, .int .i64 sver, .int .i64 spath, .int .i64 smode, .int .i64 ssize, .string (st sname)]
  obtain ⟨W, hW⟩ : ∃ W, W = w.alloc (.cells #[.int .i64 kind, .int .i64 tag, .int .i64 code, .int .i64 msize, .int .i64 iounit, .int .i64 count, .string (st name), .bool qdir, .int .i64 qver, .int .i64 qpath, .slice Aq nq cq, .slice Ad nd cd, .bool sdir, .int .i64 sver, .int .i64 spath, .int .i64 smode, .int .i64 ssize, .string (st sname)] 29) := ⟨_, rfl⟩
  have hW' : W = w.alloc (.cells [.int .i64 kind, .int .i64 tag, .int .i64 code, .int .i64 msize, .int .i64 iounit, .int .i64 count, .string (st name), .bool qdir, .int .i64 qver, .int .i64 qpath, .slice Aq nq cq, .slice Ad nd cd, .bool sdir, .int .i64 sver, .int .i64 spath, .int .i64 smode, .int .i64 ssize, .string (st sname)].toArray 29) := hW
  rw [← hW'] at hA0
  have hb0 : Below w.heap.size w W := by rw [hW]; exact (Below.refl _ _).alloc (Nat.le_refl _) _
  obtain ⟨Q, hQ⟩ : ∃ Q, Q = w.heap.size := ⟨_, rfl⟩
  rw [← hQ] at hA0
  have HQ := Lib.hid hA0
  have HB := Lib.hid hb0
  have HRQ := Lib.hid (hq.up hb0)
  have HRD := Lib.hid (hd.up hb0)
  have hsz : w.heap.size ≤ W.heap.size := hb0.size
  clear hA0 hb0 hW' hq hd
  go_enter Try.func40, Try.ntmps40
  go_upto_region 1 with fail
  rw [← hW, ← hQ]
  clear hW hQ
  go_wp2
  go_ret
  exact ⟨none, 0, 0, [], rfl, rfl, OwB.nil _ _, HB.out⟩
set_option maxRecDepth 20000 in
set_option maxHeartbeats 4000000 in
theorem field_115 (kind tag code msize iounit count : Int) (name : List UInt8) (qdir : Bool) (qver qpath : Int) (qids : List QidV) (data : List UInt8) (sdir : Bool) (sver spath smode ssize : Int) (sname : List UInt8) (Aq : Option Addr) (nq cq : Nat) (Ad : Option Addr) (nd cd : Nat) (w : World) (hq : RdR w w.heap.size 3 Aq nq (qids.map qidC)) (hd : RdB w w.heap.size Ad nd data) (hnq : nq ≤ 1000) (hnd : nd ≤ 1000000) (hnl : name.length ≤ 65535) (hsl : sname.length ≤ 65535) :
    Calls Try.prog 40 #[.agg #[.int .i64 kind, .int .i64 tag, .int .i64 code, .int .i64 msize, .int .i64 iounit, .int .i64 count, .string (st name), .bool qdir, .int .i64 qver, .int .i64 qpath, .slice Aq nq cq, .slice Ad nd cd, .bool sdir, .int .i64 sver, .int .i64 spath, .int .i64 smode, .int .i64 ssize, .string (st sname)], .int .u8 115] w (LayPost w (fieldB ⟨kind, tag, code, msize, iounit, count, name, ⟨qdir, qver, qpath⟩, qids, data, ⟨sdir, sver, spath⟩, smode, ssize, sname⟩ 115)) := by
  have hA0 := Blk.new w 29 [.int .i64 kind, .int .i64 tag, .int .i64 code, .int .i64 msize, .int .i64 iounit, .int .i64 count, .string (st name), .bool qdir, .int .i64 qver, .int .i64 qpath, .slice Aq nq cq, .slice Ad nd cd, .bool sdir, .int .i64 sver, .int .i64 spath, .int .i64 smode, .int .i64 ssize, .string (st sname)]
  obtain ⟨W, hW⟩ : ∃ W, W = w.alloc (.cells #[.int .i64 kind, .int .i64 tag, .int .i64 code, .int .i64 msize, .int .i64 iounit, .int .i64 count, .string (st name), .bool qdir, .int .i64 qver, .int .i64 qpath, .slice Aq nq cq, .slice Ad nd cd, .bool sdir, .int .i64 sver, .int .i64 spath, .int .i64 smode, .int .i64 ssize, .string (st sname)] 29) := ⟨_, rfl⟩
  have hW' : W = w.alloc (.cells [.int .i64 kind, .int .i64 tag, .int .i64 code, .int .i64 msize, .int .i64 iounit, .int .i64 count, .string (st name), .bool qdir, .int .i64 qver, .int .i64 qpath, .slice Aq nq cq, .slice Ad nd cd, .bool sdir, .int .i64 sver, .int .i64 spath, .int .i64 smode, .int .i64 ssize, .string (st sname)].toArray 29) := hW
  rw [← hW'] at hA0
  have hb0 : Below w.heap.size w W := by rw [hW]; exact (Below.refl _ _).alloc (Nat.le_refl _) _
  obtain ⟨Q, hQ⟩ : ∃ Q, Q = w.heap.size := ⟨_, rfl⟩
  rw [← hQ] at hA0
  have HQ := Lib.hid hA0
  have HB := Lib.hid hb0
  have HRQ := Lib.hid (hq.up hb0)
  have HRD := Lib.hid (hd.up hb0)
  have hsz : w.heap.size ≤ W.heap.size := hb0.size
  clear hA0 hb0 hW' hq hd
  have q12 := HQ.out.cell 12 _ rfl
  have q13 := HQ.out.cell 13 _ rfl
  have q14 := HQ.out.cell 14 _ rfl
  go_enter Try.func40, Try.ntmps40
  go_upto_region 1 with fail
  rw [← hW, ← hQ]
  clear hW hQ
  go_wp2_with fail
  refine (tQidB_any ⟨sdir, sver, spath⟩ _).mono ?_
  rintro e w0 ⟨A0, n0, c0, l0, hl0, rfl, hown0, hb0⟩
  have HN0 := Lib.hid (show n0 ≤ 100 by rw [← hown0.len, hl0.out, qidB_len]; omega)
  have HO0 := Lib.hid hown0
  have HB0 := Lib.hid hb0
  have p15 := (HQ.out.up hb0).cell 15 _ rfl
  clear hown0 hb0 q12 q13 q14
  go_wp2_with fail
  refine (tNumber_any smode 4 _ (by omega)).mono ?_
  rintro e w1c ⟨B1, m1, d1, k1, hk1, rfl, hok1, hbk1⟩
  have HM1 := Lib.hid (show m1 = 4 by rw [← hok1.len, hk1.out]; rw [le_length])
  have hp1 := HO0.out.up hbk1
  have HBc1 := Lib.hid (Up.trans HB0.out hbk1)
  have hsrc1 := Lib.hid (hok1.rd.src (P := Try.prog) (c := d1) 25 5 Try.underlying25)
  have hsz1 : W.heap.size ≤ w1c.heap.size := HBc1.out.size
  have HL1 := Lib.hid hk1
  clear hok1 hbk1
  go_wp2_with (at_builtin; go_must (refine wpList_appendB bytesElem rfl (.tmp 50) (.tmp 54) 25 rfl W.heap.size A0 n0 c0 l0 rfl hp1 _ rfl m1 k1 hsrc1.out (by have := HM1.out; have := HN0.out; omega) hsz1 ?_); intro A1 n1 c1 l1 w1 hl1 hn1 hown1 hb1 hg1; have p16 := (HQ.out.up (HBc1.out.trans hb1)).cell 16 _ rfl)
  have HO1 := Lib.hid hown1
  have HB1 := Lib.hid (HBc1.out.trans hb1)
  have HN1 := Lib.hid (show n1 ≤ 90000 by have := hn1.out; have := HM1.out; have := HN0.out; omega)
  clear hown1 hb1 hg1 hsrc1 hp1
  refine (tNumber_any ssize 8 _ (by omega)).mono ?_
  rintro e w2c ⟨B2, m2, d2, k2, hk2, rfl, hok2, hbk2⟩
  have HM2 := Lib.hid (show m2 = 8 by rw [← hok2.len, hk2.out]; rw [le_length])
  have hp2 := HO1.out.up hbk2
  have HBc2 := Lib.hid (Up.trans HB1.out hbk2)
  have hsrc2 := Lib.hid (hok2.rd.src (P := Try.prog) (c := d2) 25 5 Try.underlying25)
  have hsz2 : W.heap.size ≤ w2c.heap.size := HBc2.out.size
  have HL2 := Lib.hid hk2
  clear hok2 hbk2
  go_wp2_with (at_builtin; go_must (refine wpList_appendB bytesElem rfl (.tmp 56) (.tmp 60) 25 rfl W.heap.size A1 n1 c1 l1 rfl hp2 _ rfl m2 k2 hsrc2.out (by have := HM2.out; have := HN1.out; omega) hsz2 ?_); intro A2 n2 c2 l2 w2 hl2 hn2 hown2 hb2 hg2; have p17 := (HQ.out.up (HBc2.out.trans hb2)).cell 17 _ rfl)
  have HO2 := Lib.hid hown2
  have HB2 := Lib.hid (HBc2.out.trans hb2)
  have HN2 := Lib.hid (show n2 ≤ 160000 by have := hn2.out; have := HM2.out; have := HN1.out; omega)
  clear hown2 hb2 hg2 hsrc2 hp2
  refine (refText_any sname _ hsl).mono ?_
  rintro e w3c ⟨B3, m3, d3, k3, hk3, rfl, hok3, hbk3⟩
  have HM3 := Lib.hid (show m3 = 2 + sname.length by rw [← hok3.len, hk3.out]; rw [List.length_append, le_length])
  have hp3 := HO2.out.up hbk3
  have HBc3 := Lib.hid (Up.trans HB2.out hbk3)
  have hsrc3 := Lib.hid (hok3.rd.src (P := Try.prog) (c := d3) 25 5 Try.underlying25)
  have hsz3 : W.heap.size ≤ w3c.heap.size := HBc3.out.size
  have HL3 := Lib.hid hk3
  clear hok3 hbk3
  go_wp2_with (at_builtin; go_must (refine wpList_appendB bytesElem rfl (.tmp 62) (.tmp 66) 25 rfl W.heap.size A2 n2 c2 l2 rfl hp3 _ rfl m3 k3 hsrc3.out (by have := HM3.out; have := HN2.out; omega) hsz3 ?_); intro A3 n3 c3 l3 w3 hl3 hn3 hown3 hb3 hg3)
  have HO3 := Lib.hid hown3
  have HB3 := Lib.hid (HBc3.out.trans hb3)
  have HN3 := Lib.hid (show n3 ≤ 230000 by have := hn3.out; have := HM3.out; have := HN2.out; omega)
  clear hown3 hb3 hg3 hsrc3 hp3
  go_ret
  refine ⟨A3, n3, c3, l3, ?_, rfl, OwB.lower HO3.out hsz, HB.out.trans (HB3.out.mono hsz)⟩
  show _ = _
  rw [hl3.out, HL3.out, hl2.out, HL2.out, hl1.out, HL1.out, hl0.out, le_64_32]
  rfl
def FqRel (W : World) (nq : Nat) (qids : List QidV) (v i : Value) (wr : World) : Prop :=
  ∃ (j n0 c0 : Nat) (A0 : Option Addr) (l0 : List UInt8), j ≤ nq ∧ i = .int .i64 j ∧ v = .slice A0 n0 c0 ∧ Hid (l0 = le 2 nq ++ (qids.take j).flatMap qidB) ∧ OwB wr W.heap.size A0 n0 c0 l0 ∧ Below W.heap.size W wr
set_option maxRecDepth 20000 in
set_option maxHeartbeats 4000000 in
theorem field_108 (kind tag code msize iounit count : Int) (name : List UInt8) (qdir : Bool) (qver qpath : Int) (qids : List QidV) (data : List UInt8) (sdir : Bool) (sver spath smode ssize : Int) (sname : List UInt8) (Aq : Option Addr) (nq cq : Nat) (Ad : Option Addr) (nd cd : Nat) (w : World) (hq : RdR w w.heap.size 3 Aq nq (qids.map qidC)) (hd : RdB w w.heap.size Ad nd data) (hnq : nq ≤ 1000) (hnd : nd ≤ 1000000) (hnl : name.length ≤ 65535) (hsl : sname.length ≤ 65535) :
    Calls Try.prog 40 #[.agg #[.int .i64 kind, .int .i64 tag, .int .i64 code, .int .i64 msize, .int .i64 iounit, .int .i64 count, .string (st name), .bool qdir, .int .i64 qver, .int .i64 qpath, .slice Aq nq cq, .slice Ad nd cd, .bool sdir, .int .i64 sver, .int .i64 spath, .int .i64 smode, .int .i64 ssize, .string (st sname)], .int .u8 108] w (LayPost w (fieldB ⟨kind, tag, code, msize, iounit, count, name, ⟨qdir, qver, qpath⟩, qids, data, ⟨sdir, sver, spath⟩, smode, ssize, sname⟩ 108)) := by
  have hA0 := Blk.new w 29 [.int .i64 kind, .int .i64 tag, .int .i64 code, .int .i64 msize, .int .i64 iounit, .int .i64 count, .string (st name), .bool qdir, .int .i64 qver, .int .i64 qpath, .slice Aq nq cq, .slice Ad nd cd, .bool sdir, .int .i64 sver, .int .i64 spath, .int .i64 smode, .int .i64 ssize, .string (st sname)]
  obtain ⟨W, hW⟩ : ∃ W, W = w.alloc (.cells #[.int .i64 kind, .int .i64 tag, .int .i64 code, .int .i64 msize, .int .i64 iounit, .int .i64 count, .string (st name), .bool qdir, .int .i64 qver, .int .i64 qpath, .slice Aq nq cq, .slice Ad nd cd, .bool sdir, .int .i64 sver, .int .i64 spath, .int .i64 smode, .int .i64 ssize, .string (st sname)] 29) := ⟨_, rfl⟩
  have hW' : W = w.alloc (.cells [.int .i64 kind, .int .i64 tag, .int .i64 code, .int .i64 msize, .int .i64 iounit, .int .i64 count, .string (st name), .bool qdir, .int .i64 qver, .int .i64 qpath, .slice Aq nq cq, .slice Ad nd cd, .bool sdir, .int .i64 sver, .int .i64 spath, .int .i64 smode, .int .i64 ssize, .string (st sname)].toArray 29) := hW
  rw [← hW'] at hA0
  have hb0 : Below w.heap.size w W := by rw [hW]; exact (Below.refl _ _).alloc (Nat.le_refl _) _
  obtain ⟨Q, hQ⟩ : ∃ Q, Q = w.heap.size := ⟨_, rfl⟩
  rw [← hQ] at hA0
  have HQ := Lib.hid hA0
  have HB := Lib.hid hb0
  have HRQ := Lib.hid (hq.up hb0)
  have HRD := Lib.hid (hd.up hb0)
  have hsz : w.heap.size ≤ W.heap.size := hb0.size
  clear hA0 hb0 hW' hq hd
  have q10 := HQ.out.cell 10 _ rfl
  have hlq : qids.length = nq := by have := HRQ.out.len; simpa using this
  have HLQ := Lib.hid hlq
  clear hlq
  go_enter Try.func40, Try.ntmps40
  go_upto_region 1 with fail
  rw [← hW, ← hQ]
  clear hW hQ
  go_wp2_with fail
  refine (tNumber_any nq 2 _ (by omega)).mono ?_
  rintro e w0 ⟨A0, n0, c0, l0, hl0, rfl, hown0, hb0⟩
  have HO0 := Lib.hid hown0
  have HB0 := Lib.hid hb0
  have HL0 := Lib.hid (show l0 = le 2 nq by rw [hl0.out, le_64_16]; congr 1; unfold n16; omega)
  clear hown0 hb0 q10 hl0
  go_wp2
  go_loopw [6, 7] (fun v i wr => FqRel W nq qids v i wr) (fun _ i _ => nq - (intOf i).toNat)
  case atStart => exact ⟨0, n0, c0, A0, l0, by omega, rfl, rfl, Lib.hid (by rw [HL0.out]; simp), HO0.out, HB0.out⟩
  case round =>
    obtain ⟨j, n0, c0, A0, l0, hj, rfl, rfl, hl, ho, hb⟩ := hrel
    have HO0 := Lib.hid ho
    have HB0 := Lib.hid hb
    have q10 := (HQ.out.up hb).cell 10 _ rfl
    by_cases hlt : j < nq
    · have j0 : (0 : Int) ≤ j := by omega
      have j1 : (j : Int) < nq := by omega
      obtain ⟨b1, o1, r1, hA1, hbb, hr1, _, hc1⟩ := (HRQ.out.below hb).at_ hlt
      have hjl : j < qids.length := by rw [HLQ.out]; exact hlt
      obtain ⟨x, hx⟩ : ∃ x, qids[j]? = some x := ⟨_, List.getElem?_eq_getElem hjl⟩
      rw [List.getElem?_map, hx] at hr1
      obtain rfl : r1 = qidC x := (Option.some.inj hr1).symm
      have HTK := Lib.hid (show qids.take (j + 1) = qids.take j ++ [x] by rw [List.take_add_one, hx]; rfl)
      obtain ⟨xd, xv, xp⟩ := x
      subst hA1
      have d0 := hc1 0 _ rfl
      have d1 := hc1 1 _ rfl
      have d2 := hc1 2 _ rfl
      simp only [Nat.add_zero] at d0
      have HN0 := Lib.hid (show n0 ≤ 2 + 13 * 1000 by
        rw [← ho.len, hl.out, List.length_append, le_length, flat_len18, List.length_take]; omega)
      clear ho hb hr1 hx hc1 hbb
      go_wp2_with fail
      refine (tQidB_any ⟨xd, xv, xp⟩ _).mono ?_
      rintro e w1c ⟨B1, m1, d1, k1, hk1, rfl, hok1, hbk1⟩
      have HM1 := Lib.hid (show m1 = 13 by rw [← hok1.len, hk1.out]; exact qidB_len _)
      have hp1 := HO0.out.up hbk1
      have HBc1 := Lib.hid (Up.trans HB0.out hbk1)
      have hsrc1 := Lib.hid (hok1.rd.src (P := Try.prog) (c := d1) 25 5 Try.underlying25)
      have hsz1 : W.heap.size ≤ w1c.heap.size := HBc1.out.size
      have HL1 := Lib.hid hk1
      clear hok1 hbk1
      go_wp2_with (at_builtin; go_must (refine wpList_appendB bytesElem rfl (.tmp 81) (.tmp 87) 25 rfl W.heap.size A0 n0 c0 l0 rfl hp1 _ rfl m1 k1 hsrc1.out (by have := HM1.out; have := HN0.out; omega) hsz1 ?_); intro A1 n1 c1 l1 w1 hl1 hn1 hown1 hb1 hg1)
      have HO1 := Lib.hid hown1
      have HB1 := Lib.hid (HBc1.out.trans hb1)
      have HN1 := Lib.hid (show n1 ≤ 90000 by have := hn1.out; have := HM1.out; have := HN0.out; omega)
      clear hown1 hb1 hg1 hsrc1 hp1
      go_roundw
      case rel => exact ⟨j + 1, n1, c1, A1, l1, by omega, by go_num, by go_num, Lib.hid (by rw [hl1.out, HL1.out, hl.out, HTK.out]; simp [List.append_assoc]), HO1.out, HB1.out⟩
      case measure => simp [intOf]; omega
    · obtain rfl : j = nq := by omega
      have j1 : ¬ (j : Int) < j := by omega
      clear ho hb
      go_wp2
      go_ret
      refine ⟨A0, n0, c0, l0, ?_, rfl, OwB.lower HO0.out hsz, HB.out.trans (HB0.out.mono hsz)⟩
      show _ = _
      rw [hl.out, List.take_of_length_le (by rw [HLQ.out]; exact Nat.le_refl _), ← HLQ.out]
      rfl

theorem inB_def (n m : Int) : inB n m = true ↔ 0 ≤ n ∧ n ≤ m := by simp [inB]
theorem tWord_any (n : Int) (w : World) : Calls Try.prog 36 #[.int .i64 n] w fun e w' => e = .returned (.bool (inB n 4294967295)) ∧ w = w' := by
  by_cases h0 : 0 ≤ n
  · by_cases h1 : n ≤ 4294967295
    · have hr : inB n 4294967295 = true := by rw [inB_def]; exact ⟨h0, h1⟩
      have HR := Lib.hid hr
      clear hr
      go_enter Try.func36, Try.ntmps36
      go_wp2
      go_ret
      exact ⟨by rw [HR.out]; rfl, rfl⟩
    · have hr : inB n 4294967295 = false := by rw [← Bool.not_eq_true, inB_def]; rintro ⟨_, h⟩; exact h1 h
      have HR := Lib.hid hr
      clear hr
      go_enter Try.func36, Try.ntmps36
      go_wp2
      go_ret
      exact ⟨by rw [HR.out]; rfl, rfl⟩
  · have hr : inB n 4294967295 = false := by rw [← Bool.not_eq_true, inB_def]; rintro ⟨h, _⟩; exact h0 h
    have HR := Lib.hid hr
    clear hr
    go_enter Try.func36, Try.ntmps36
    go_wp2
    go_ret
    exact ⟨by rw [HR.out]; rfl, rfl⟩
theorem tLong_any (n : Int) (w : World) : Calls Try.prog 37 #[.int .i64 n] w fun e w' => e = .returned (.bool (inB n 4611686018427387904)) ∧ w = w' := by
  by_cases h0 : 0 ≤ n
  · by_cases h1 : n ≤ 4611686018427387904
    · have hr : inB n 4611686018427387904 = true := by rw [inB_def]; exact ⟨h0, h1⟩
      have HR := Lib.hid hr
      clear hr
      go_enter Try.func37, Try.ntmps37
      go_wp2
      go_ret
      exact ⟨by rw [HR.out]; rfl, rfl⟩
    · have hr : inB n 4611686018427387904 = false := by rw [← Bool.not_eq_true, inB_def]; rintro ⟨_, h⟩; exact h1 h
      have HR := Lib.hid hr
      clear hr
      go_enter Try.func37, Try.ntmps37
      go_wp2
      go_ret
      exact ⟨by rw [HR.out]; rfl, rfl⟩
  · have hr : inB n 4611686018427387904 = false := by rw [← Bool.not_eq_true, inB_def]; rintro ⟨h, _⟩; exact h0 h
    have HR := Lib.hid hr
    clear hr
    go_enter Try.func37, Try.ntmps37
    go_wp2
    go_ret
    exact ⟨by rw [HR.out]; rfl, rfl⟩
theorem tQidOk_any (q : QidV) (w : World) : Calls Try.prog 35 #[.agg #[.bool q.dir, .int .i64 q.ver, .int .i64 q.path]] w fun e w' => e = .returned (.bool (qidOk q)) ∧ Below w.heap.size w w' := by
  obtain ⟨dir, ver, path⟩ := q
  have hQ0 := Blk.new w 23 [.bool dir, .int .i64 ver, .int .i64 path]
  obtain ⟨W, hW⟩ : ∃ W, W = w.alloc (.cells #[.bool dir, .int .i64 ver, .int .i64 path] 23) := ⟨_, rfl⟩
  have hW' : W = w.alloc (.cells [.bool dir, .int .i64 ver, .int .i64 path].toArray 23) := hW
  rw [← hW'] at hQ0
  have hb0 : Below w.heap.size w W := by rw [hW]; exact (Below.refl _ _).alloc (Nat.le_refl _) _
  have q1 := hQ0.cell 1 _ rfl
  have q2 := hQ0.cell 2 _ rfl
  have HB := Lib.hid hb0
  have HR : Hid (qidOk ⟨dir, ver, path⟩ = (inB ver 4294967295 && inB path 4611686018427387904)) := rfl
  clear hQ0 hb0 hW'
  go_enter Try.func35, Try.ntmps35
  go_upto_region 1 with fail
  rw [← hW]
  clear hW
  go_wp2_with fail
  refine (tWord_any ver _).mono ?_
  rintro e w1 ⟨rfl, rfl⟩
  rcases hv : inB ver 4294967295 with _ | _
  · have HV := Lib.hid hv
    clear hv
    go_wp2
    go_ret
    exact ⟨by rw [HR.out, HV.out]; rfl, HB.out⟩
  · have HV := Lib.hid hv
    clear hv
    go_wp2_with fail
    refine (tLong_any path _).mono ?_
    rintro e w2 ⟨rfl, rfl⟩
    obtain ⟨b, hb⟩ : ∃ b, b = inB path 4611686018427387904 := ⟨_, rfl⟩
    rw [← hb]
    have HBB := Lib.hid hb
    clear hb
    go_wp2
    go_ret
    exact ⟨by rw [HR.out, HV.out, ← HBB.out]; rfl, HB.out⟩
def FieldCh : List UInt8 := [122, 110, 113, 101, 105, 100, 99, 45, 115, 108]
theorem fields_ch (k : Int) : ∀ f ∈ fieldsM k, f ∈ FieldCh := by
  unfold fieldsM
  have : ∀ l ∈ fieldsW, ∀ f ∈ l, f ∈ FieldCh := by decide
  cases h : fieldsW[kindsW.findIdx (· == k)]? with
  | none => simp
  | some l => exact this l (List.mem_of_getElem? h)
/-- What a reply that is laid must be like. -/
structure Lays (w : World) (x : TellV) (Aq : Option Addr) (nq cq : Nat) (Ad : Option Addr) (nd cd : Nat) : Prop where
  rd : TellRd w x Aq nq cq Ad nd cd
  name : x.name.length ≤ 255
  sname : x.sname.length ≤ 255
theorem field_any (f : UInt8) (hf : f ∈ FieldCh) (x : TellV) (Aq : Option Addr) (nq cq : Nat) (Ad : Option Addr) (nd cd : Nat) (w : World) (h : Lays w x Aq nq cq Ad nd cd) :
    Calls Try.prog 40 #[.agg (tellC x Aq nq cq Ad nd cd).toArray, .int .u8 (f.toNat : Int)] w (LayPost w (fieldB x f)) := by
  have h1 := h.rd.nq_le
  have h2 := h.rd.nd_le
  have h3 := h.name
  have h4 := h.sname
  simp only [FieldCh, List.mem_cons, List.not_mem_nil, or_false] at hf
  rcases hf with rfl | rfl | rfl | rfl | rfl | rfl | rfl | rfl | rfl | rfl
  · exact field_122 x.kind x.tag x.code x.msize x.iounit x.count x.name x.qid.dir x.qid.ver x.qid.path x.qids x.data x.sqid.dir x.sqid.ver x.sqid.path x.smode x.ssize x.sname Aq nq cq Ad nd cd w h.rd.q h.rd.d (by omega) (by omega) (by omega) (by omega)
  · exact field_110 x.kind x.tag x.code x.msize x.iounit x.count x.name x.qid.dir x.qid.ver x.qid.path x.qids x.data x.sqid.dir x.sqid.ver x.sqid.path x.smode x.ssize x.sname Aq nq cq Ad nd cd w h.rd.q h.rd.d (by omega) (by omega) (by omega) (by omega)
  · exact field_113 x.kind x.tag x.code x.msize x.iounit x.count x.name x.qid.dir x.qid.ver x.qid.path x.qids x.data x.sqid.dir x.sqid.ver x.sqid.path x.smode x.ssize x.sname Aq nq cq Ad nd cd w h.rd.q h.rd.d (by omega) (by omega) (by omega) (by omega)
  · exact field_101 x.kind x.tag x.code x.msize x.iounit x.count x.name x.qid.dir x.qid.ver x.qid.path x.qids x.data x.sqid.dir x.sqid.ver x.sqid.path x.smode x.ssize x.sname Aq nq cq Ad nd cd w h.rd.q h.rd.d (by omega) (by omega) (by omega) (by omega)
  · exact field_105 x.kind x.tag x.code x.msize x.iounit x.count x.name x.qid.dir x.qid.ver x.qid.path x.qids x.data x.sqid.dir x.sqid.ver x.sqid.path x.smode x.ssize x.sname Aq nq cq Ad nd cd w h.rd.q h.rd.d (by omega) (by omega) (by omega) (by omega)
  · exact field_100 x.kind x.tag x.code x.msize x.iounit x.count x.name x.qid.dir x.qid.ver x.qid.path x.qids x.data x.sqid.dir x.sqid.ver x.sqid.path x.smode x.ssize x.sname Aq nq cq Ad nd cd w h.rd.q h.rd.d (by omega) (by omega) (by omega) (by omega)
  · exact field_99 x.kind x.tag x.code x.msize x.iounit x.count x.name x.qid.dir x.qid.ver x.qid.path x.qids x.data x.sqid.dir x.sqid.ver x.sqid.path x.smode x.ssize x.sname Aq nq cq Ad nd cd w h.rd.q h.rd.d (by omega) (by omega) (by omega) (by omega)
  · exact field_45 x.kind x.tag x.code x.msize x.iounit x.count x.name x.qid.dir x.qid.ver x.qid.path x.qids x.data x.sqid.dir x.sqid.ver x.sqid.path x.smode x.ssize x.sname Aq nq cq Ad nd cd w h.rd.q h.rd.d (by omega) (by omega) (by omega) (by omega)
  · exact field_115 x.kind x.tag x.code x.msize x.iounit x.count x.name x.qid.dir x.qid.ver x.qid.path x.qids x.data x.sqid.dir x.sqid.ver x.sqid.path x.smode x.ssize x.sname Aq nq cq Ad nd cd w h.rd.q h.rd.d (by omega) (by omega) (by omega) (by omega)
  · exact field_108 x.kind x.tag x.code x.msize x.iounit x.count x.name x.qid.dir x.qid.ver x.qid.path x.qids x.data x.sqid.dir x.sqid.ver x.sqid.path x.smode x.ssize x.sname Aq nq cq Ad nd cd w h.rd.q h.rd.d (by omega) (by omega) (by omega) (by omega)
theorem fieldB_len (x : TellV) (f : UInt8) (h1 : x.name.length ≤ 255) (h2 : x.sname.length ≤ 255) (h3 : x.qids.length ≤ 1000) (h4 : x.data.length ≤ 1000) : (fieldB x f).length ≤ 14000 := by
  unfold fieldB
  repeat' split
  all_goals (try simp only [List.length_append, le_length, qidB_len, flat_len18, List.length_nil]); omega
/-- The loop over the fields. -/
def ByRel (W : World) (L : List UInt8) (x : TellV) (v i : Value) (wr : World) : Prop :=
  ∃ (j n0 c0 : Nat) (A0 : Option Addr) (l0 : List UInt8), j ≤ L.length ∧ i = .int .i64 j ∧ v = .slice A0 n0 c0 ∧ Hid (l0 = (L.take j).flatMap (fieldB x)) ∧ Hid (n0 ≤ 14000 * j) ∧ OwB wr W.heap.size A0 n0 c0 l0 ∧ Below W.heap.size W wr
set_option maxRecDepth 20000 in
set_option maxHeartbeats 4000000 in
theorem tBytes_any (x : TellV) (kn tn : Nat) (hkn : x.kind = kn) (htn : x.tag = tn) (hk : kn ≤ 255) (ht : tn ≤ 65535) (Aq : Option Addr) (nq cq : Nat) (Ad : Option Addr) (nd cd : Nat) (w : World) (h : Lays w x Aq nq cq Ad nd cd) :
    Calls Try.prog 19 #[.agg (tellC x Aq nq cq Ad nd cd).toArray] w (LayPost w (packL kn tn ((fieldsM x.kind).flatMap (fieldB x)))) := by
  have hA0 := Blk.new w 29 (tellC x Aq nq cq Ad nd cd)
  obtain ⟨W, hW⟩ : ∃ W, W = w.alloc (.cells (tellC x Aq nq cq Ad nd cd).toArray 29) := ⟨_, rfl⟩
  rw [← hW] at hA0
  have hb0 : Below w.heap.size w W := by rw [hW]; exact (Below.refl _ _).alloc (Nat.le_refl _) _
  obtain ⟨Q, hQ⟩ : ∃ Q, Q = w.heap.size := ⟨_, rfl⟩
  rw [← hQ] at hA0
  have hQlt : Q < W.heap.size := hA0.lt
  have h3 : x.qids.length ≤ 1000 := by have h1 := h.rd.q.len; have := h.rd.nq_le; simp only [List.length_map] at h1; omega
  have h4 : x.data.length ≤ 1000 := by have h1 := h.rd.d.len; have := h.rd.nd_le; omega
  have hfl : ∀ f, (fieldB x f).length ≤ 14000 := fun f => fieldB_len x f h.name h.sname h3 h4
  have HFL := Lib.hid hfl
  have HQ := Lib.hid hA0
  have HB := Lib.hid hb0
  have HL := Lib.hid (show Lays W x Aq nq cq Ad nd cd from ⟨h.rd.up hb0, h.name, h.sname⟩)
  have hsz : w.heap.size ≤ W.heap.size := hb0.size
  have q0 : W.cell? ⟨Q, 0, none⟩ = some (.int .i64 kn) := by rw [hA0.cell 0 (.int .i64 x.kind) rfl, hkn]
  have hl4 := fieldsM_len x.kind
  have hch := fields_ch x.kind
  obtain ⟨L, hL⟩ : ∃ L, L = fieldsM x.kind := ⟨_, rfl⟩
  have HLL := Lib.hid hL
  rw [← hL] at hl4 hch ⊢
  have HCH := Lib.hid hch
  have HKN := Lib.hid hkn
  have HTN := Lib.hid htn
  clear hA0 hb0 h hfl h3 h4 hch hL hkn htn
  go_enter Try.func19, Try.ntmps19
  go_upto_region 1 with fail
  rw [← hW, ← hQ]
  clear hW hQ
  go_wp2_with fail
  refine (tFields_any kn _).mono ?_
  rintro e w1 ⟨rfl, hb1⟩
  rw [← HKN.out, ← HLL.out]
  have hls : (st L).size = L.length := st_size L
  have HB1 := Lib.hid hb1
  have HL1 := Lib.hid (show Lays w1 x Aq nq cq Ad nd cd from ⟨HL.out.rd.up hb1, HL.out.name, HL.out.sname⟩)
  clear hb1 q0
  go_wp2
  go_loopw [4, 5] (fun v i wr => ByRel W L x v i wr) (fun _ i _ => L.length - (intOf i).toNat)
  case atStart => exact ⟨0, 0, 0, none, [], by omega, rfl, rfl, rfl, Lib.hid (by omega), OwB.nil _ _, HB1.out⟩
  case round =>
    obtain ⟨j, n0, c0, A0, l0, hj, rfl, rfl, hl, hn0, ho, hb⟩ := hrel
    have HO := Lib.hid ho
    have HBj := Lib.hid hb
    by_cases hlt : j < L.length
    · have j0 : (0 : Int) ≤ j := by omega
      have j1 : (j : Int) < L.length := by omega
      obtain ⟨y, hx, hym, htk⟩ : ∃ y : UInt8, (∀ h : j < (st L).size, (st L)[j]'h = y) ∧ y ∈ L ∧ L.take (j + 1) = L.take j ++ [y] :=
        ⟨L[j], fun h => rfl, List.getElem_mem hlt, by rw [List.take_add_one, List.getElem?_eq_getElem hlt]; rfl⟩
      have HLy := Lib.hid (show Lays wr.drew x Aq nq cq Ad nd cd from ⟨(HL.out.rd.up hb).drew, HL.out.name, HL.out.sname⟩)
      have HTK := Lib.hid htk
      have HYM := Lib.hid hym
      have hq := (HQ.out.up hb).drew
      have hcells : ∀ W', Keeps (From W.heap.size) wr.drew W' → ∀ k v, (tellC x Aq nq cq Ad nd cd)[k]? = some v → W'.cell? ⟨Q, 0 + k, none⟩ = some v := fun W' hW k v hk => by rw [Nat.zero_add]; exact (hq.keeps hW (fun e => by have e' : W.heap.size ≤ Q := e; omega)).cell k v hk
      have HO := Lib.hid HO.out.drew
      have HBj := Lib.hid HBj.out.drew
      clear ho hb htk hym
      go_wp2
      refine wp_region_tq (From W.heap.size) (.t 0 (.t 2 (.t 3 (.t 4 (.q 1 (.s 5 (.s 6 (.t 7 .nil)))))))) (by kernel_rfl) (by kernel_rfl) ?_
      repeat (refine tq_take (by simp only [List.getElem?_toArray, List.getElem?_cons_succ, List.getElem?_cons_zero]; exact rfl) ?_; go_big_quiet_step (fail); refine wpQuiet_nil ?_)
      refine tq_valK (d := some 16) (by simp only [List.getElem?_toArray, List.getElem?_cons_succ, List.getElem?_cons_zero]; exact rfl) rfl rfl (.agg (tellC x Aq nq cq Ad nd cd).toArray) (fun W hW => run_load_op (.tmp 1) rfl rfl (run_loadMid (xs := tellC x Aq nq cq Ad nd cd) (hcells W hW) (by kernel_rfl) tellT_agg)) ?_
      simp only [Act.put, List.setIfInBounds_toArray, List.set_cons_succ, List.set_cons_zero]
      clear hcells hq
      refine tq_solo (by simp only [List.getElem?_toArray, List.getElem?_cons_succ, List.getElem?_cons_zero]; exact rfl) ?_
      go_wp2_with fail
      refine (field_any y (HCH.out y HYM.out) x Aq nq cq Ad nd cd _ HLy.out).mono ?_
      rintro e w2 ⟨B1, m1, d1, k1, hk1, rfl, hok1, hbk1⟩
      have HM1 := Lib.hid (show m1 ≤ 14000 by rw [← hok1.len, hk1.out]; exact HFL.out y)
      have hp1 := HO.out.up hbk1
      have HBc1 := Lib.hid (Up.trans HBj.out hbk1)
      have hsrc1 := Lib.hid (hok1.rd.src (P := Try.prog) (c := d1) 25 5 Try.underlying25)
      have hsz1 : W.heap.size ≤ w2.heap.size := HBc1.out.size
      go_wp2
      refine Solo.up hbk1 ?_
      clear hok1 hbk1
      refine tq_solo (by simp only [List.getElem?_toArray, List.getElem?_cons_succ, List.getElem?_cons_zero]; exact rfl) ?_
      go_wp2_with (at_builtin; go_must (refine wpList_appendB bytesElem rfl (.tmp 15) (.tmp 20) 25 rfl W.heap.size A0 n0 c0 l0 rfl hp1 _ rfl m1 k1 hsrc1.out (by have := HM1.out; have := hn0.out; omega) hsz1 ?_); intro A1 n1 c1 l1 w3 hl1 hn1 hown1 hb1 hg1)
      refine Solo.mk (keeps_below hb1 fun k hk => by have hk' : ¬ W.heap.size ≤ k := hk; omega) ?_
      have HO3 := Lib.hid hown1
      have HB3 := Lib.hid (HBc1.out.trans hb1)
      have HN3 := Lib.hid (show n1 ≤ 14000 * (j + 1) by have := hn1.out; have := HM1.out; have := hn0.out; omega)
      clear hown1 hb1 hg1 hsrc1 hp1
      repeat (refine tq_take (by simp only [List.getElem?_toArray, List.getElem?_cons_succ, List.getElem?_cons_zero]; exact rfl) ?_; go_big_quiet_step (fail); refine wpQuiet_nil ?_)
      refine tq_end ?_
      go_wp2
      go_roundw
      case rel => exact ⟨j + 1, n1, c1, A1, l1, by omega, by go_num, rfl, Lib.hid (by rw [hl1.out, hk1.out, hl.out, HTK.out]; simp), HN3, HO3.out, HB3.out⟩
      case measure => simp [intOf]; omega
    · obtain rfl : j = L.length := by omega
      have j1 : ¬ (L.length : Int) < L.length := by omega
      have q0 : wr.cell? ⟨Q, 0, none⟩ = some (.int .i64 kn) := by rw [(HQ.out.up hb).cell 0 (.int .i64 x.kind) rfl, HKN.out]
      have q1 : wr.cell? ⟨Q, 1, none⟩ = some (.int .i64 tn) := by rw [(HQ.out.up hb).cell 1 (.int .i64 x.tag) rfl, HTN.out]
      have HRD := Lib.hid ho.rd
      clear ho hb
      go_wp2_with fail
      refine (refPack_any kn tn A0 n0 c0 l0 _ HRD.out (by have := hn0.out; omega) hk ht).mono ?_
      rintro e w2 ⟨B1, m1, d1, k1, hk1, rfl, hok1, hbk1⟩
      have HO2 := Lib.hid (hok1.lower (Nat.le_trans hsz HBj.out.size))
      have HB2 := Lib.hid (HB.out.trans ((Up.trans HBj.out hbk1).mono hsz))
      clear hok1 hbk1
      go_wp2
      go_ret
      exact ⟨B1, m1, d1, k1, Lib.hid (by rw [hk1.out, hl.out, List.take_of_length_le (Nat.le_refl _)]), rfl, HO2.out, HB2.out⟩

theorem tellC_ones (t : TellV) (Aq : Option Addr) (nq cq : Nat) (Ad : Option Addr) (nd cd : Nat) : ∀ v ∈ tellC t Aq nq cq Ad nd cd, v.oneCell' = true := by simp [tellC, Value.oneCell']
theorem st_ne {l : List UInt8} (h : l ≠ []) : ¬ st l = ⟨#[]⟩ := by
  intro e
  apply h
  have h1 : (st l).size = 0 := by rw [e]; rfl
  rw [st_size] at h1
  exact List.eq_nil_of_length_eq_zero h1
def MayJ (W : World) (n : Nat) (qids : List QidV) (i : Value) (wr : World) : Prop := ∃ j : Nat, j ≤ n ∧ i = .int .i64 j ∧ Hid ((qids.take j).all qidOk = true) ∧ Below W.heap.size W wr
theorem own_rd {w : World} {t x : TellV} {Aq Aq' : Option Addr} {nq cq nq' cq' : Nat} {Ad Ad' : Option Addr} {nd cd nd' cd' : Nat} (hx : x = ownT t) (hq : (hasM t.kind 108 = true ∧ Aq' = Aq ∧ nq' = nq ∧ cq' = cq) ∨ (hasM t.kind 108 = false ∧ Aq' = none ∧ nq' = 0 ∧ cq' = 0)) (hd : (hasM t.kind 100 = true ∧ Ad' = Ad ∧ nd' = nd ∧ cd' = cd) ∨ (hasM t.kind 100 = false ∧ Ad' = none ∧ nd' = 0 ∧ cd' = 0)) (h : TellRd w t Aq nq cq Ad nd cd) : TellRd w x Aq' nq' cq' Ad' nd' cd' := by
  subst hx
  have h1 := h.nq_le
  have h2 := h.nd_le
  refine ⟨?_, ?_, ?_, ?_, ?_, ?_⟩
  · rcases hq with ⟨e, rfl, rfl, rfl⟩ | ⟨e, rfl, rfl, rfl⟩
    · have : (ownT t).qids = t.qids := by simp [ownT, e]
      rw [this]; exact h.q
    · have : (ownT t).qids = [] := by simp [ownT, e]
      rw [this]; exact RdR.nil
  · rcases hd with ⟨e, rfl, rfl, rfl⟩ | ⟨e, rfl, rfl, rfl⟩
    · have : (ownT t).data = t.data := by simp [ownT, e]
      rw [this]; exact h.d
    · have : (ownT t).data = [] := by simp [ownT, e]
      rw [this]; exact RdB.nil
  · rcases hq with ⟨e, rfl, rfl, rfl⟩ | ⟨e, rfl, rfl, rfl⟩ <;> omega
  · rcases hd with ⟨e, rfl, rfl, rfl⟩ | ⟨e, rfl, rfl, rfl⟩ <;> omega
  · by_cases e : hasM t.kind 122 = true
    · have : (ownT t).name = t.name := by simp [ownT, e]
      rw [this]; exact h.name
    · have : (ownT t).name = [] := by simp [ownT, e]
      rw [this]; exact Nat.zero_le _
  · by_cases e : hasM t.kind 115 = true
    · have : (ownT t).sname = t.sname := by simp [ownT, e]
      rw [this]; exact h.sname
    · have : (ownT t).sname = [] := by simp [ownT, e]
      rw [this]; exact Nat.zero_le _
end Go.Proofs.Ytoplkglnjgllnaa
